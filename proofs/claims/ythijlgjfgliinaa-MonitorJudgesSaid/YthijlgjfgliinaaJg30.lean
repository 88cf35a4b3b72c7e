/- Part 30 of the proof of what MonJudges says. -/
import Derived.Test.YthijlgjfgliinaaJg29
section
/- The judge: upper (43): an event of views. -/
set_option linter.all false
namespace Go.Proofs.Ythijlgjfgliinaa
open Go.RowKit
open Go.W
variable [Env]
/-- The call hands back nothing, and this holds of what is known. -/
def Done (K : Units → Prop) (en : Ending) (M : Units) : Prop := en = .returned (.tuple #[]) ∧ K M
attribute [local irreducible] opsC wpC quietC LoopC DrawC CutC LoadC StoreC ReadC UpdC RunC CallC QCallC EndC thenC inBlockC
set_option maxRecDepth 100000
set_option synthInstance.maxHeartbeats 400000
section
variable {F : Blocks} {t bb eb eo : Nat} {evs : List Ev} {ns : List (List Nm)} {L T : Units} {K : Units → Prop}
set_option maxHeartbeats 8000000 in
theorem upper_mine (hE : EvIn F eb eo evs ns) (i : Nat) (e : Ev) (he : evs[i]? = some e) (hk : 8 ≤ e.kind ∧ e.kind ≤ 12) (sp : Option Nat)
    (h : Does Try.prog 58 #[.pointer (some ⟨t, 0, none⟩), .pointer (some ⟨eb, eo + i * 19, none⟩), .pointer (sp.map fun b => ⟨b, 0, none⟩)] L (Done K)) [hF : Unit_ L F T] :
    Does Try.prog 43 #[.pointer (some ⟨t, 0, none⟩), .int .i64 (i : Nat), .pointer (some ⟨eb, eo + i * 19, none⟩), .pointer (sp.map fun b => ⟨b, 0, none⟩)] L (Done K) := by
  obtain ⟨⟨earr, eT, efr, hEm, hrow⟩, hnames⟩ := hE
  haveI hEB : ∀ {L R : Units} [Unit_ L F R], Has L eb (.cells earr eT efr) := fun {L R} h => ⟨h.ok.mem_iff.2 (by simp [hEm])⟩
  have hec : (evs.map Ev.cells)[i]? = some e.cells := by simp [he]
  refine does_of_wpC (args := [.pointer (some ⟨t, 0, none⟩), .int .i64 (i : Nat), .pointer (some ⟨eb, eo + i * 19, none⟩), .pointer (sp.map fun b => ⟨b, 0, none⟩)]) Try.func43 rfl (by kernel_rfl) ?_
  have h7 : (e.kind == 7) = false := by simp; omega
  have hkk : e.kind = 11 ∨ e.kind = 8 ∨ e.kind = 9 ∨ e.kind = 10 ∨ e.kind = 12 := by omega
  rcases hkk with hk | hk | hk | hk | hk
  · have h11 : (e.kind == 11) = true := by simp [hk]
    cases sp
    all_goals
      repeat (first | (refine r_load (by rfl) ?_; refine LoadC.rowCell (b := eb) (q := 0) hrow hec rfl (by rfl) ?_) | (refine r_fun (by rfl) (by rfl) ?_; refine CallC.does (g := 58) h ?_; rintro _ N ⟨rfl, hN⟩; dsimp only) | refine c_seq ?_ | refine c_reg ?_ | refine r_nil ?_ | refine e_n ?_ | refine CutC.go ?_ | refine r_field (by rfl) (by rfl) ?_ | refine r_val (by rfl) ?_ | refine c_yes (by rfl) (by first | with_reducible assumption | decide) ?_ | refine c_no (by rfl) (by first | with_reducible assumption | decide) ?_ | refine c_skip ?_ | refine c_block ?_ | refine b_n ?_ | refine EndC.mk rfl ?_)
      exact ⟨rfl, hN⟩
  · have h11 : (e.kind == 11) = false := by simp [hk]
    have h8 : (e.kind == 8) = true := by simp [hk]
    cases sp
    all_goals
      repeat (first | (refine r_load (by rfl) ?_; refine LoadC.rowCell (b := eb) (q := 0) hrow hec rfl (by rfl) ?_) | (refine r_fun (by rfl) (by rfl) ?_; refine CallC.does (g := 58) h ?_; rintro _ N ⟨rfl, hN⟩; dsimp only) | refine c_seq ?_ | refine c_reg ?_ | refine r_nil ?_ | refine e_n ?_ | refine CutC.go ?_ | refine r_field (by rfl) (by rfl) ?_ | refine r_val (by rfl) ?_ | refine c_yes (by rfl) (by first | with_reducible assumption | decide) ?_ | refine c_no (by rfl) (by first | with_reducible assumption | decide) ?_ | refine c_skip ?_ | refine c_block ?_ | refine b_n ?_ | refine EndC.mk rfl ?_)
      exact ⟨rfl, hN⟩
  · have h11 : (e.kind == 11) = false := by simp [hk]
    have h8 : (e.kind == 8) = false := by simp [hk]
    have h9 : (e.kind == 9) = true := by simp [hk]
    cases sp
    all_goals
      repeat (first | (refine r_load (by rfl) ?_; refine LoadC.rowCell (b := eb) (q := 0) hrow hec rfl (by rfl) ?_) | (refine r_fun (by rfl) (by rfl) ?_; refine CallC.does (g := 58) h ?_; rintro _ N ⟨rfl, hN⟩; dsimp only) | refine c_seq ?_ | refine c_reg ?_ | refine r_nil ?_ | refine e_n ?_ | refine CutC.go ?_ | refine r_field (by rfl) (by rfl) ?_ | refine r_val (by rfl) ?_ | refine c_yes (by rfl) (by first | with_reducible assumption | decide) ?_ | refine c_no (by rfl) (by first | with_reducible assumption | decide) ?_ | refine c_skip ?_ | refine c_block ?_ | refine b_n ?_ | refine EndC.mk rfl ?_)
      exact ⟨rfl, hN⟩
  · have h11 : (e.kind == 11) = false := by simp [hk]
    have h8 : (e.kind == 8) = false := by simp [hk]
    have h9 : (e.kind == 9) = false := by simp [hk]
    have h10 : (e.kind == 10) = true := by simp [hk]
    cases sp
    all_goals
      repeat (first | (refine r_load (by rfl) ?_; refine LoadC.rowCell (b := eb) (q := 0) hrow hec rfl (by rfl) ?_) | (refine r_fun (by rfl) (by rfl) ?_; refine CallC.does (g := 58) h ?_; rintro _ N ⟨rfl, hN⟩; dsimp only) | refine c_seq ?_ | refine c_reg ?_ | refine r_nil ?_ | refine e_n ?_ | refine CutC.go ?_ | refine r_field (by rfl) (by rfl) ?_ | refine r_val (by rfl) ?_ | refine c_yes (by rfl) (by first | with_reducible assumption | decide) ?_ | refine c_no (by rfl) (by first | with_reducible assumption | decide) ?_ | refine c_skip ?_ | refine c_block ?_ | refine b_n ?_ | refine EndC.mk rfl ?_)
      exact ⟨rfl, hN⟩
  · have h11 : (e.kind == 11) = false := by simp [hk]
    have h8 : (e.kind == 8) = false := by simp [hk]
    have h9 : (e.kind == 9) = false := by simp [hk]
    have h10 : (e.kind == 10) = false := by simp [hk]
    have h12 : (e.kind == 12) = true := by simp [hk]
    cases sp
    all_goals
      repeat (first | (refine r_load (by rfl) ?_; refine LoadC.rowCell (b := eb) (q := 0) hrow hec rfl (by rfl) ?_) | (refine r_fun (by rfl) (by rfl) ?_; refine CallC.does (g := 58) h ?_; rintro _ N ⟨rfl, hN⟩; dsimp only) | refine c_seq ?_ | refine c_reg ?_ | refine r_nil ?_ | refine e_n ?_ | refine CutC.go ?_ | refine r_field (by rfl) (by rfl) ?_ | refine r_val (by rfl) ?_ | refine c_yes (by rfl) (by first | with_reducible assumption | decide) ?_ | refine c_no (by rfl) (by first | with_reducible assumption | decide) ?_ | refine c_block ?_ | refine b_n ?_ | refine EndC.mk rfl ?_)
      exact ⟨rfl, hN⟩
set_option maxHeartbeats 8000000 in
theorem upper_other (hE : EvIn F eb eo evs ns) (i : Nat) (e : Ev) (he : evs[i]? = some e) (hk : e.kind < 7 ∨ 12 < e.kind) (sp : Option Nat) [hF : Unit_ L F T] :
    Does Try.prog 43 #[.pointer (some ⟨t, 0, none⟩), .int .i64 (i : Nat), .pointer (some ⟨eb, eo + i * 19, none⟩), .pointer (sp.map fun b => ⟨b, 0, none⟩)] L (Gives L (.tuple #[])) := by
  obtain ⟨⟨earr, eT, efr, hEm, hrow⟩, hnames⟩ := hE
  haveI hEB : ∀ {L R : Units} [Unit_ L F R], Has L eb (.cells earr eT efr) := fun {L R} h => ⟨h.ok.mem_iff.2 (by simp [hEm])⟩
  have hec : (evs.map Ev.cells)[i]? = some e.cells := by simp [he]
  refine does_of_wpC (args := [.pointer (some ⟨t, 0, none⟩), .int .i64 (i : Nat), .pointer (some ⟨eb, eo + i * 19, none⟩), .pointer (sp.map fun b => ⟨b, 0, none⟩)]) Try.func43 rfl (by kernel_rfl) ?_
  have h7 : (e.kind == 7) = false := by simp; omega
  have h11 : (e.kind == 11) = false := by simp; omega
  have h8 : (e.kind == 8) = false := by simp; omega
  have h9 : (e.kind == 9) = false := by simp; omega
  have h10 : (e.kind == 10) = false := by simp; omega
  have h12 : (e.kind == 12) = false := by simp; omega
  cases sp
  all_goals
    repeat (first | (refine r_load (by rfl) ?_; refine LoadC.rowCell (b := eb) (q := 0) hrow hec rfl (by rfl) ?_) | refine c_seq ?_ | refine c_reg ?_ | refine r_nil ?_ | refine e_n ?_ | refine CutC.go ?_ | refine r_field (by rfl) (by rfl) ?_ | refine r_val (by rfl) ?_ | refine c_no (by rfl) (by first | with_reducible assumption | decide) ?_ | refine c_skip ?_ | refine c_block ?_ | refine b_n ?_ | refine EndC.mk rfl ?_)
    exact Gives.mk rfl (Incl.refl _)
end
end Go.Proofs.Ythijlgjfgliinaa
end
section
/- The judge: regular (41): what comes last; a list of checks noted. -/
set_option linter.all false
namespace Go.Proofs.Ythijlgjfgliinaa
open Go.RowKit
open Go.W
variable [Env]
theorem Try.info98 : (Try.prog.info? 98).map (fun i => (i.zero, i.size, i.bytes)) = some (some (.pointer none), 1, 8) := by kernel_rfl
theorem look_jnow {L : Units} (r : Nat) (g : GMap Int Nat) (v : Option Nat) (k : Int) (hv : g.get k = v) [h : Has L r (g.obj ikey pval)] (x : St L) : (Instr.lookup 95 (.map (some r)) (.int .i64 k) false).run Try.prog x.w = .ok (.pointer (v.map (⟨·, 0, none⟩))) x.w := by
  have := run_lookup_g (P := Try.prog) KL3 (T := 95) (et := 98) (z := .pointer none) Try.underlying95 (fun w => by simp [go_sem]) g (St.heap (h := h) x) k false
  rw [this, hv]
  cases v <;> rfl
theorem upd_jnow {L M : Units} (r : Nat) (g : GMap Int Nat) (a : Int) (v : Nat) [h : Has L r (g.obj ikey pval)] [Lay L r ((g.put a v).obj ikey pval) M] (x : St L) : (Instr.mapUpdate 95 (.map (some r)) (.int .i64 a) (.pointer (some ⟨v, 0, none⟩))).run Try.prog x.w = .ok () (x.lay r ((g.put a v).obj ikey pval)).w :=
  run_mapUpdate_g (P := Try.prog) KL3 (T := 95) (et := 98) Try.underlying95 g (St.heap (h := h) x) a v
/-- Checks are noted. -/
def GMap.bads (g : GMap Int Bool) (l : List Ck) : GMap Int Bool := l.foldl (fun g c => GMap.bad g c.1 c.2) g
theorem GMap.bads_app (g : GMap Int Bool) (l m : List Ck) : GMap.bads g (l ++ m) = GMap.bads (GMap.bads g l) m := by unfold GMap.bads; rw [List.foldl_append]
theorem GMap.bads_cons (g : GMap Int Bool) (c : Ck) (l : List Ck) : GMap.bads g (c :: l) = GMap.bads (GMap.bad g c.1 c.2) l := rfl
theorem GMap.bads_get (l : List Ck) (g : GMap Int Bool) (r : Int) : ((GMap.bads g l).get r).getD false = (((g.get r).getD false) || decide (((r, true) : Ck) ∈ l)) := by
  induction l generalizing g with
  | nil => simp [GMap.bads]
  | cons c l ih =>
    rw [GMap.bads_cons, ih, GMap.bad_get]
    obtain ⟨q, b⟩ := c
    simp only
    cases hb : (((g.get r).getD false)) with
    | true => simp
    | false =>
      simp only [Bool.false_or]
      by_cases h : r = q
      · subst h
        cases b
        · simp
        · simp
      · have : (r == q) = false := by simpa using h
        rw [this, Bool.false_and, Bool.false_or]
        congr 1
        simp only [List.mem_cons, Prod.mk.injEq, eq_iff_iff]
        constructor
        · exact .inr
        · rintro (⟨h', _⟩ | h')
          · exact absurd h' h
          · exact h'
/-- The judge's stays, as they lie. -/
def JU (eb eo : Nat) (l : List JSt) : Blocks := l.flatMap (JSt.u eb eo)
def jptr (s : JSt) : List Value := [.pointer (some ⟨s.blk, 0, none⟩)]
def JSt.fresh (blk : Nat) (e : Ev) (bf : Option Nat) : JSt := ⟨blk, e.proc, e.epoch, e.rep, e.members, Row.nil, [], none, none, none, 0, none, Row.nil, [], false, bf⟩
theorem flat_focus {α : Type} (u : α → Blocks) {l : List α} {i : Nat} {s : α} (h : l[i]? = some s) : ∃ X : Blocks, (l.flatMap u).Perm (u s ++ X) ∧ ∀ s', ((l.set i s').flatMap u).Perm (u s' ++ X) := by
  induction l generalizing i with
  | nil => simp at h
  | cons a l ih =>
    cases i with
    | zero =>
      simp only [List.getElem?_cons_zero, Option.some.injEq] at h
      subst h
      exact ⟨l.flatMap u, List.Perm.refl _, fun s' => List.Perm.refl _⟩
    | succ i =>
      simp only [List.getElem?_cons_succ] at h
      obtain ⟨X, h1, h2⟩ := ih h
      refine ⟨u a ++ X, ?_, fun s' => ?_⟩
      · show (u a ++ l.flatMap u).Perm _
        refine (List.Perm.append_left _ h1).trans ?_
        rw [← List.append_assoc, ← List.append_assoc]
        exact List.Perm.append_right _ List.perm_append_comm
      · show (u a ++ (l.set i s').flatMap u).Perm _
        refine (List.Perm.append_left _ (h2 s')).trans ?_
        rw [← List.append_assoc, ← List.append_assoc]
        exact List.Perm.append_right _ List.perm_append_comm
theorem mem_JU {eb eo : Nat} {l : List JSt} {s : JSt} (h : s ∈ l) {p : Nat × Obj} (hp : p ∈ s.u eb eo) : p ∈ JU eb eo l := List.mem_flatMap.2 ⟨s, h, hp⟩
theorem JSt.u_split (eb eo : Nat) (s : JSt) (L : Units) : Eqv (s.u eb eo :: L) ([(s.blk, s.obj eb eo)] :: s.gr.u 111 :: s.ur.u 34 :: L) := by
  unfold Eqv JSt.u
  simp
abbrev ptrs1 (sb : Nat) : List (List Value) := [[.pointer (some ⟨sb, 0, none⟩)]]
noncomputable def regTail : Code := match Try.f41.body with
  | some (.seq _ (.seq _ (.seq _ (.seq _ c)))) => c
  | _ => .skip
attribute [local irreducible] opsC wpC quietC LoopC DrawC CutC LoadC StoreC ReadC UpdC RunC CallC QCallC EndC thenC inBlockC
set_option maxRecDepth 100000
set_option synthInstance.maxHeartbeats 400000
set_option maxHeartbeats 8000000 in
theorem reg_tail {F : Blocks} {t bb nb eb eo sb : Nat} {lv : Value} {nm : Int} {nw : GMap Int Nat} {evs : List Ev} {ns : List (List Nm)} {U T : Units} {R : Ending → Units → Prop} (hE : EvIn F eb eo evs ns) (i : Nat) (e : Ev) (he : evs[i]? = some e)
    (stR : Row) (els : List (List Value)) (n : Nat) (sa : Option Addr) (sc : Nat) (hsv : stR.val n = .slice sa n sc) (hst : RowOk stR 1 els) (hl : els.length = n) (hn : n ≤ 1000) [hF : Unit_ U F T]
    (hR : ∀ (r' : Row) (M : Units), RowOk r' 1 (els ++ [[.pointer (some ⟨sb, 0, none⟩)]]) → Incl M ([(t, traceO lv (r'.val (n + 1)) bb nm)] :: r'.u 98 :: [(nb, (nw.put e.proc sb).obj ikey pval)] :: U) → R (.returned (.tuple #[])) M) (f0 : Nat → Value) :
    wpC Try.prog regTail (bodyC Try.f41 R) (Fr.over f0 [(0, .pointer (some ⟨t, 0, none⟩)), (1, .pointer (some ⟨eb, eo + i * 19, none⟩)), (3, .map (some nb)), (8, .pointer (some ⟨sb, 0, none⟩))]) ([(t, traceO lv (.slice sa n sc) bb nm)] :: stR.u 98 :: [(nb, nw.obj ikey pval)] :: U) := by
  obtain ⟨⟨earr, eT, efr, hEm, hrow⟩, hnames⟩ := hE
  haveI hEB : ∀ {L R : Units} [Unit_ L F R], Has L eb (.cells earr eT efr) := fun {L R} h => ⟨h.ok.mem_iff.2 (by simp [hEm])⟩
  have hec : (evs.map Ev.cells)[i]? = some e.cells := by simp [he]
  repeat (first | (refine r_load (by rfl) ?_; refine LoadC.rowCell (b := eb) (q := 1) hrow hec rfl (by rfl) ?_) | (refine r_upd (by rfl) (by rfl) (by rfl) ?_; refine UpdC.of (fun x => ⟨_, upd_jnow nb nw _ sb x⟩) ?_) | (refine r_app (by rfl) (by rfl) ?_; refine RunC.appS (P := Try.prog) (e := 98) (s := 1) (bytes := 8) (z := .pointer none) stR els (ptrs1 sb) _ hsv (by rfl) Try.info98 rfl hl hst (by intro c hc; simp only [List.mem_singleton] at hc; subst hc; rfl) (SlIn.one57 _ _ 98) (by intro u hu; simp at hu; subst hu; rfl) (by omega) (by omega) (fun r' a' c' hok' hv' hs' => ?_)) | refine c_seq ?_ | refine c_reg ?_ | refine r_nil ?_ | refine e_n ?_ | refine CutC.go ?_ | refine r_field0 (by rfl) (by rfl) ?_ | refine r_field (by rfl) (by rfl) ?_ | refine r_val (by rfl) ?_ | (refine r_load (by rfl) ?_; refine LoadC.one (by rfl) (by rfl) ?_) | (refine r_store (by rfl) (by rfl) ?_; refine StoreC.all (by rfl) (by rfl) (by rfl) (by rfl) (by rfl) ?_) | refine EndC.mk rfl ?_ | refine r_slice (by rfl) (by rfl) (fun _ => ?_))
  refine hR r' _ hok' ?_
  rw [hv']
  exact Incl.of
end Go.Proofs.Ythijlgjfgliinaa
end
