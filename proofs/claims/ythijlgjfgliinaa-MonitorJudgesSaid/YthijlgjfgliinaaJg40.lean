/- Part 40 of the proof of what MonJudges says. -/
import Derived.Test.YthijlgjfgliinaaJg39
section
/- The judge: behind (27): places in the trace, by what they send. -/
set_option linter.all false
namespace Go.Proofs.Ythijlgjfgliinaa
open Go.RowKit
open Go.W
variable [Env]
theorem Try.info3 : (Try.prog.info? 3).map (fun i => (i.zero, i.size, i.bytes)) = some (some (.int .i64 0), 1, 8) := by kernel_rfl
theorem check102 (em : Bool) (d : Nat) (a b c e : Int) (w : World) : (Instr.checkKey em (d + 3) 102 (.agg #[.int .u64 a, .int .i64 b, .int .i64 c, .int .u32 e])).run Try.prog w = .ok () w := by
  unfold Instr.checkKey
  simp [go_sem, check_int, check30]
theorem KL102 : KL Try.prog 102 Place.key := by
  refine KL.of_eq (d := _) Try.underlying102 (fun a b => rfl) (fun a b w => ?_) (fun em a w => check102 em 9997 a.1 a.2 a.3 a.4 w) (fun a => by simp [Instr.sameBits])
  obtain ⟨a1, a2, a3, a4⟩ := a
  obtain ⟨b1, b2, b3, b4⟩ := b
  simp [Op.equal, Op.maxDepth, go_sem]
  by_cases h : a1 = b1 <;> by_cases h2 : a2 = b2 <;> by_cases h3 : a3 = b3 <;> by_cases h4 : a4 = b4 <;> simp [h, h2, h3, h4, eq_comm]
/-- Rows of places, by what they are places of. -/
abbrev IV := Row × List Nat
abbrev ival (p : IV) : Value := p.1.val p.2.length
abbrev placesO (g : GMap Place IV) : Obj := g.obj Place.key ival
def ixCell (j : Nat) : List Value := [.int .i64 (j : Nat)]
theorem entry_ix {L M : Units} (r : Nat) (g : GMap Place IV) (k : Place) (p : IV) (hp : (g.get k).getD (Row.nil, []) = p) [h : Has L r (placesO g)] [Lay L r (placesO (g.touch k (Row.nil, []))) M] (x : St L) :
    (Instr.mapEntry 100 (.map (some r)) (.agg #[.int .u64 k.epoch, .int .i64 k.rep, .int .i64 k.frm, .int .u32 k.seq])).run Try.prog x.w = .ok (.tuple #[p.1.val p.2.length, .int .i64 (g.stamp k)]) (x.lay r (placesO (g.touch k (Row.nil, [])))).w := by
  have := run_mapEntry_g (P := Try.prog) KL102 (T := 100) (et := 103) (ev := ival) Try.underlying100 (Row.nil, []) (fun w => by simp [go_sem, ival, Row.val, Row.nil]) g (St.heap (h := h) x) k
  rw [hp] at this
  exact this
theorem put_ix {L M : Units} (r : Nat) (g : GMap Place IV) (k : Place) (r' : Row) (ms : List Nat) (n : Nat) (hn : ms.length = n) [h : Has L r (placesO (g.touch k (Row.nil, [])))] [Lay L r (placesO (g.put k (r', ms))) M] (x : St L) :
    (Instr.entryStore 100 (.map (some r)) (.int .i64 (g.stamp k)) (r'.val n)).run Try.prog x.w = .ok () (x.lay r (placesO (g.put k (r', ms)))).w := by
  subst hn
  exact run_entryStore_g (P := Try.prog) (ev := ival) g k (Row.nil, []) (r', ms) (St.heap (h := h) x)
theorem look_ix {L : Units} (r : Nat) (g : GMap Place IV) (k : Place) (p : IV) (hp : (g.get k).getD (Row.nil, []) = p) [h : Has L r (placesO g)] (x : St L) :
    (Instr.lookup 100 (.map (some r)) (.agg #[.int .u64 k.epoch, .int .i64 k.rep, .int .i64 k.frm, .int .u32 k.seq]) false).run Try.prog x.w = .ok (p.1.val p.2.length) x.w := by
  have := run_lookup_g (P := Try.prog) KL102 (T := 100) (et := 103) (z := .slice none 0 0) (ev := ival) Try.underlying100 (fun w => by simp [go_sem]) g (St.heap (h := h) x) k false
  rw [this, ← hp]
  cases g.get k <;> rfl
def MR {κ γ : Type} (T : TypeId) (g : GMap κ (Row × γ)) : Blocks := g.l.flatMap fun e => e.2.1.1.u T
theorem MR_focus {κ γ : Type} [DecidableEq κ] [Inhabited γ] (T : TypeId) (z : γ) (tov : Row × γ → Value) {g : GMap κ (Row × γ)} {k : κ} {p : Row × γ} (h : (g.get k).getD (Row.nil, z) = p) : ∃ X : Blocks, (MR T g).Perm (p.1.u T ++ X) ∧ ∀ q, (MR T (g.put k q)).Perm (q.1.u T ++ X) := by
  cases hh : has_ g.l k with
  | false =>
    have hn : g.get k = none := by
      cases hg : g.get k with
      | none => rfl
      | some b => have := GMap.has_of_get hg; rw [hh] at this; cases this
    rw [hn] at h
    subst h
    refine ⟨MR T g, by simp [Row.u, Row.nil], fun q => ?_⟩
    have e1 : (g.put k q).l = g.l ++ [(k, q, g.clk)] := by unfold GMap.put; rw [dif_neg (by simp [hh])]
    unfold MR
    rw [e1, List.flatMap_append]
    simp only [List.flatMap_cons, List.flatMap_nil, List.append_nil]
    exact List.perm_append_comm
  | true =>
    obtain ⟨l1, e, l2, h1, h2, h3, h4⟩ := ixF_split (ev := tov) g.l 0 hh
    have hg : g.get k = some e.2.1 := by
      have : l1.find? (fun e => decide (e.1 = k)) = none := by
        rw [List.find?_eq_none]
        intro e' he'
        simp only [decide_eq_true_eq]
        intro h
        have : has_ l1 k = true := has_iff.2 (List.mem_map.2 ⟨e', he', h⟩)
        rw [h3] at this; cases this
      simp [GMap.get, h1, List.find?_append, this, h2]
    rw [hg] at h
    simp only [Option.getD_some] at h
    subst h
    refine ⟨(l1.flatMap fun e => e.2.1.1.u T) ++ (l2.flatMap fun e => e.2.1.1.u T), ?_, fun q => ?_⟩
    · unfold MR
      rw [h1, List.flatMap_append, List.flatMap_cons, ← List.append_assoc, ← List.append_assoc]
      exact List.Perm.append_right _ List.perm_append_comm
    · obtain ⟨p1, p2⟩ := GMap.put_split q h1 h2 h3
      unfold MR
      rw [p1, List.flatMap_append, List.flatMap_cons, ← List.append_assoc, ← List.append_assoc]
      exact List.Perm.append_right _ List.perm_append_comm
/-- The places in the trace of what is sent to a place. -/
def isSend (e : Ev) (p : Place) : Bool := e.kind == 1 && (e.proc == e.m.frm && decide (e.place = p))
def plOf (evs : List Ev) (k : Nat) (p : Place) : List Nat := (List.range k).filter fun j => match evs[j]? with | some e => isSend e p | none => false
theorem plOf_succ {evs : List Ev} {k : Nat} {e : Ev} (he : evs[k]? = some e) (p : Place) : plOf evs (k + 1) p = plOf evs k p ++ (if isSend e p then [k] else []) := by
  unfold plOf
  rw [List.range_succ, List.filter_append]
  congr 1
  simp only [List.filter_cons, List.filter_nil, he]
theorem plOf_lt {evs : List Ev} {k : Nat} {p : Place} {j : Nat} (h : j ∈ plOf evs k p) : j < k := by
  unfold plOf at h
  have := (List.mem_filter.1 h).1
  simpa using this
theorem plOf_len (evs : List Ev) (k : Nat) (p : Place) : (plOf evs k p).length ≤ k := by
  unfold plOf
  refine Nat.le_trans (List.length_filter_le _ _) ?_
  simp
theorem sentOf_pl {evs : List Ev} {ds : List (List Int)} (hd : ∀ (i : Nat) (e : Ev), evs[i]? = some e → ∃ d : List Int, ds[i]? = some d) (p : Place) : ∀ k, k ≤ evs.length → sentOf ((absL evs ds).take k) p = (plOf evs k p).filterMap fun j => ((absL evs ds)[j]?).map (·.m)
  | 0, _ => by simp [sentOf, plOf]
  | k + 1, hk => by
    obtain ⟨e, he⟩ : ∃ e, evs[k]? = some e := ⟨evs[k]'(by omega), List.getElem?_eq_getElem _⟩
    obtain ⟨d, hdk⟩ := hd k e he
    have hat := absL_at he hdk
    rw [List.take_add_one, hat, Option.toList_some, sentOf_snoc, sentOf_pl hd p k (by omega), plOf_succ he, List.filterMap_append]
    congr 1
    by_cases h : isSend e p = true
    · rw [if_pos h]
      unfold isSend at h
      simp only [Bool.and_eq_true, beq_iff_eq, decide_eq_true_eq] at h
      rw [if_pos (show (e.abs d).kind = 1 ∧ (e.abs d).proc = (e.abs d).m.frm ∧ (e.abs d).place = p from h)]
      simp [hat]
    · rw [if_neg h]
      unfold isSend at h
      simp only [Bool.and_eq_true, beq_iff_eq, decide_eq_true_eq] at h
      rw [if_neg (show ¬ ((e.abs d).kind = 1 ∧ (e.abs d).proc = (e.abs d).m.frm ∧ (e.abs d).place = p) from h)]
      simp
end Go.Proofs.Ythijlgjfgliinaa
end
