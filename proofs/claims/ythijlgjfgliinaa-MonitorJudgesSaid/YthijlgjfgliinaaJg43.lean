/- Part 43 of the proof of what MonJudges says. -/
import Derived.Test.YthijlgjfgliinaaJg42
section
/- The judge: once (28), whole. -/
set_option linter.all false
namespace Go.Proofs.Ythijlgjfgliinaa
open Go.RowKit
open Go.W
variable [Env]
theorem check106 (em : Bool) (d : Nat) (f a b c e : Int) (w : World) : (Instr.checkKey em (d + 4) 106 (.agg #[.int .i64 f, .int .u64 a, .int .i64 b, .int .i64 c, .int .u32 e])).run Try.prog w = .ok () w := by
  unfold Instr.checkKey
  simp [go_sem, check_int, check102]
theorem KL106 : KL Try.prog 106 Had.key := by
  refine KL.of_eq (d := _) Try.underlying106 (fun a b => rfl) (fun a b w => ?_) (fun em a w => check106 em 9996 a.1 a.2.1 a.2.2 a.2.3 a.2.4 w) (fun a => by simp [Instr.sameBits])
  obtain ⟨a0, a1, a2, a3, a4⟩ := a
  obtain ⟨b0, b1, b2, b3, b4⟩ := b
  simp [Op.equal, Op.maxDepth, go_sem]
  by_cases h0 : a0 = b0 <;> by_cases h : a1 = b1 <;> by_cases h2 : a2 = b2 <;> by_cases h3 : a3 = b3 <;> by_cases h4 : a4 = b4 <;> simp [h0, h, h2, h3, h4, eq_comm]
theorem look_who {L : Units} (r : Nat) (g : GMap Had Bool) (k : Had) (v : Bool) (hv : (g.get k).getD false = v) [h : Has L r (g.obj Had.key bval)] (x : St L) :
    (Instr.lookup 104 (.map (some r)) (.agg #[.int .i64 k.proc, .int .u64 k.place.epoch, .int .i64 k.place.rep, .int .i64 k.place.frm, .int .u32 k.place.seq]) false).run Try.prog x.w = .ok (.bool v) x.w := by
  have := run_lookup_g (P := Try.prog) KL106 (T := 104) (et := 4) (z := .bool false) (ev := bval) Try.underlying104 (fun w => by simp [go_sem]) g (St.heap (h := h) x) k false
  rw [this, ← hv]
  cases g.get k <;> rfl
theorem upd_who {L M : Units} (r : Nat) (g : GMap Had Bool) (k : Had) [h : Has L r (g.obj Had.key bval)] [Lay L r ((g.put k true).obj Had.key bval) M] (x : St L) :
    (Instr.mapUpdate 104 (.map (some r)) (.agg #[.int .i64 k.proc, .int .u64 k.place.epoch, .int .i64 k.place.rep, .int .i64 k.place.frm, .int .u32 k.place.seq]) (.bool true)).run Try.prog x.w = .ok () (x.lay r ((g.put k true).obj Had.key bval)).w :=
  run_mapUpdate_g (P := Try.prog) KL106 (T := 104) (et := 4) Try.underlying104 g (St.heap (h := h) x) k true
def Ev.had1 (e : Ev) : Had := ⟨e.proc, e.place⟩
theorem seenIn_snoc (l : List AEv) (e : AEv) (h : Had) : seenIn (l ++ [e]) h = (seenIn l h || (e.kind == 2 && decide (e.had = h))) := by
  unfold seenIn; rw [List.any_append]; simp
attribute [local irreducible] opsC wpC quietC LoopC DrawC CutC LoadC StoreC ReadC UpdC RunC CallC QCallC EndC thenC inBlockC
set_option maxRecDepth 100000
set_option synthInstance.maxHeartbeats 400000
section
variable {F : Blocks} {evs : List Ev} {ds : List (List Int)} {T : Units} {t bb eb eo : Nat} {nm : Int} {g : GMap Int Bool}
set_option maxHeartbeats 16000000 in
theorem once_some {b o c n : Nat} {arr : Array Value} {eT : TypeId} {fr : Nat × Nat} (hm : (b, Obj.cells arr eT fr) ∈ F) (hrow : Go.RowAt arr o 19 (evs.map Ev.cells)) (hn : evs.length = n) (hn5 : n ≤ 500)
    (hdeps : ∀ (i : Nat) (e : Ev), evs[i]? = some e → ∃ d : List Int, ds[i]? = some d)
    (stays : List JSt) (stR : Row) (m : Nat) (hst : RowOk stR 1 (stays.map jptr)) (hl : stays.length = m) (hm1 : m ≤ 1000)
    (hs : ∀ s ∈ stays, RowOk s.gr 8 (s.gots.map JGot.cells) ∧ s.gots.length ≤ 1000 ∧ ∀ j ∈ s.gots, j.g.ok F) :
    Does Try.prog 28 #[.pointer (some ⟨t, 0, none⟩)] (OnL t bb eb eo (.slice (some ⟨b, o, none⟩) n c) (stR.val m) nm g stR stays F T)
      (Gives (OnL t bb eb eo (.slice (some ⟨b, o, none⟩) n c) (stR.val m) nm (GMap.bads g (eachCk onceAt [] (absL evs ds) ++ ordJ stays)) stR stays F T) (.tuple #[])) := by
  haveI hEB : ∀ {L R : Units} [Unit_ L F R], Has L b (.cells arr eT fr) := fun {L R} h => ⟨h.ok.mem_iff.2 (by simp [hm])⟩
  obtain ⟨sa, sc, hsv, hsl⟩ := stR.val_slice hst 98
  rw [List.length_map, hl] at hsv hsl
  rw [hsv]
  refine does_of_wpC (args := [.pointer (some ⟨t, 0, none⟩)]) Try.func28 rfl (by kernel_rfl) ?_
  repeat (first | refine c_seq ?_ | refine c_reg ?_)
  refine r_map Had.key bval (fun wb => ?_)
  repeat (first | refine c_seq ?_ | refine c_reg ?_ | refine r_nil ?_ | refine e_n ?_ | refine CutC.go ?_ | refine r_field0 (by rfl) (by rfl) ?_ | refine r_lenS (by rfl) (by rfl) ?_ | refine r_val (by rfl) ?_ | (refine r_load (by rfl) ?_; refine LoadC.one (by rfl) (by rfl) ?_) | refine c_block ?_ | refine c_loop ?_)
  refine LoopC.inv (γ := Nat × GMap Had Bool × GMap Int Bool) (fun p => p.1 ≤ n ∧ (∀ h, (p.2.1.get h).getD false = seenIn ((absL evs ds).take p.1) h) ∧ p.2.2 = GMap.bads g (eachCk onceAt [] ((absL evs ds).take p.1))) (fun p => [(0, .pointer (some ⟨t, 0, none⟩)), (2, .map (some wb)), (17, .slice (some ⟨b, o, none⟩) n c), (18, .int .i64 n), (19, .int .i64 (p.1 : Nat))])
    (fun p => [(wb, p.2.1.obj Had.key bval)] :: OnL t bb eb eo (.slice (some ⟨b, o, none⟩) n c) (.slice sa m sc) nm p.2.2 stR stays F T) (fun p => n - p.1)
    (MeetC.mk (0, GMap.empty Had Bool, g) ⟨by omega, fun h => by rw [GMap.get_empty]; rfl, rfl⟩ ⟨rfl, rfl, rfl, rfl, rfl, rfl⟩ (Incl.refl _)) ?_
  rintro ⟨k, sn, g1⟩ ⟨hk, hP, hg1⟩ f0
  simp only at hk hP hg1 ⊢
  by_cases hlt : k < n
  · have hd1 : decide ((k : Int) < (n : Int)) = true := by simp; omega
    obtain ⟨e, he⟩ : ∃ e, evs[k]? = some e := ⟨evs[k]'(by omega), List.getElem?_eq_getElem _⟩
    obtain ⟨d, hdk⟩ := hdeps k e he
    have hec : (evs.map Ev.cells)[k]? = some e.cells := by simp [he]
    have hat := absL_at he hdk
    have htk : (absL evs ds).take (k + 1) = (absL evs ds).take k ++ [e.abs d] := by rw [List.take_add_one, hat]; rfl
    have hstep : GMap.bads g (eachCk onceAt [] ((absL evs ds).take (k + 1))) = GMap.bads g1 (onceAt ((absL evs ds).take k) (e.abs d)) := by rw [htk, once_snoc, GMap.bads_app, hg1]
    by_cases k2 : e.kind = 2
    · have hb2 : (e.kind == 2) = true := by simp [k2]
      obtain ⟨v, hv⟩ : ∃ v, seenIn ((absL evs ds).take k) e.had1 = v := ⟨_, rfl⟩
      have hsv2 := (hP e.had1).trans hv
      have h2 : ∀ {L : Units} [Has L wb (sn.obj Had.key bval)] (x : St L), (Instr.lookup 104 (.map (some wb)) (.agg #[.int .i64 e.proc, .int .u64 e.epoch, .int .i64 e.rep, .int .i64 e.m.frm, .int .u32 e.m.seq]) false).run Try.prog x.w = .ok (.bool v) x.w := fun x => look_who wb sn e.had1 v hsv2 x
      have h3 : ∀ {L M : Units} [Has L wb (sn.obj Had.key bval)] [Lay L wb ((sn.put e.had1 true).obj Had.key bval) M] (x : St L), (Instr.mapUpdate 104 (.map (some wb)) (.agg #[.int .i64 e.proc, .int .u64 e.epoch, .int .i64 e.rep, .int .i64 e.m.frm, .int .u32 e.m.seq]) (.bool true)).run Try.prog x.w = .ok () (x.lay wb ((sn.put e.had1 true).obj Had.key bval)).w := fun x => upd_who wb sn e.had1 x
      have hon : onceAt ((absL evs ds).take k) (e.abs d) = [(3, v)] := by
        unfold onceAt
        rw [if_pos (show (e.abs d).kind = 2 from k2), ← hv]
        rfl
      repeat (first | (refine r_index (b := b) (by rfl) (by rfl) (by rfl) hlt ?_) | (refine r_load (by rfl) ?_; refine LoadC.row (b := b) hrow hec rfl (by rfl) ?_) | (refine r_look (by rfl) (by rfl) ?_; refine ReadC.of (fun x => h2 x) ?_) | (refine r_upd (by rfl) (by rfl) (by rfl) ?_; refine UpdC.of (fun x => ⟨_, h3 x⟩) ?_) | (refine r_fun (by rfl) (by rfl) ?_; refine CallC.gives (g := 45) (breaks45 (t := t) (bb := bb) (lv := .slice (some ⟨b, o, none⟩) n c) (sv := .slice sa m sc) (nm := nm) (g := g1) 3 _) ?_) | refine c_seq ?_ | refine c_reg ?_ | refine r_nil ?_ | refine e_n ?_ | refine CutC.go ?_ | refine r_field0 (by rfl) (by rfl) ?_ | refine r_field (by rfl) (by rfl) ?_ | refine r_val (by rfl) ?_ | (refine r_load (by rfl) ?_; refine LoadC.one (by rfl) (by rfl) ?_) | (refine r_store (by rfl) (by rfl) ?_; refine StoreC.all (by rfl) (by rfl) (by rfl) (by rfl) (by rfl) ?_) | refine c_yes (by rfl) (by first | with_reducible assumption | decide) ?_ | refine c_skip ?_ | refine c_block ?_ | refine b_n ?_ | refine r_alloc (by rfl) (by rfl) (fun _ => ?_) | refine r_build (by rfl) (by rfl) ?_ | (refine r_load (by rfl) ?_; refine LoadC.agg (by rfl) (by rfl) ?_))
      refine MeetC.mk (k + 1, sn.put e.had1 true, GMap.bad g1 3 v) ⟨⟨by simp only; omega, ?_, by rw [hstep, hon]; rfl⟩, by simp only; omega⟩ ⟨rfl, rfl, rfl, rfl, i64_succ (by omega), rfl⟩ Incl.of
      intro h
      rw [GMap.get_put, htk, seenIn_snoc]
      by_cases hh : h = e.had1
      · subst hh
        rw [if_pos rfl]
        have h1 : (e.abs d).kind == 2 := hb2
        have h2 : decide ((e.abs d).had = e.had1) = true := decide_eq_true rfl
        rw [h2]
        simp [h1]
      · rw [if_neg hh, hP]
        have h2 : decide ((e.abs d).had = h) = false := decide_eq_false (fun h' => hh h'.symm)
        rw [h2]
        simp
    · have hb2 : (e.kind == 2) = false := by simp [k2]
      have hon : onceAt ((absL evs ds).take k) (e.abs d) = [] := by
        unfold onceAt
        rw [if_neg (show ¬ (e.abs d).kind = 2 from k2)]
      repeat (first | (refine r_index (b := b) (by rfl) (by rfl) (by rfl) hlt ?_) | (refine r_load (by rfl) ?_; refine LoadC.row (b := b) hrow hec rfl (by rfl) ?_) | refine c_seq ?_ | refine c_reg ?_ | refine r_nil ?_ | refine e_n ?_ | refine CutC.go ?_ | refine r_field0 (by rfl) (by rfl) ?_ | refine r_val (by rfl) ?_ | (refine r_load (by rfl) ?_; refine LoadC.one (by rfl) (by rfl) ?_) | (refine r_store (by rfl) (by rfl) ?_; refine StoreC.all (by rfl) (by rfl) (by rfl) (by rfl) (by rfl) ?_) | refine c_yes (by rfl) (by first | with_reducible assumption | decide) ?_ | refine c_no (by rfl) (by first | with_reducible assumption | decide) ?_ | refine c_skip ?_ | refine c_block ?_ | refine b_n ?_ | refine r_alloc (by rfl) (by rfl) (fun _ => ?_))
      refine MeetC.mk (k + 1, sn, g1) ⟨⟨by simp only; omega, ?_, by rw [hstep, hon]; rfl⟩, by simp only; omega⟩ ⟨rfl, rfl, rfl, rfl, i64_succ (by omega), rfl⟩ Incl.of
      intro h
      rw [hP, htk, seenIn_snoc]
      have : ((e.abs d).kind == 2) = false := hb2
      rw [this]
      simp
  · have hd1 : decide ((k : Int) < (n : Int)) = false := by simp; omega
    have hkn : k = n := by omega
    subst hkn
    have hall : (absL evs ds).take k = absL evs ds := by
      refine List.take_of_length_le ?_
      unfold absL
      rw [List.length_zipWith]; omega
    rw [hall] at hg1
    have key := fun f1 => once_tail (t := t) (bb := bb) (eb := eb) (eo := eo) (lval := .slice (some ⟨b, o, none⟩) k c) (nm := nm) (g := g1) (T := T) (F := F) (R := Gives (OnL t bb eb eo (.slice (some ⟨b, o, none⟩) k c) (.slice sa m sc) nm (GMap.bads g (eachCk onceAt [] (absL evs ds) ++ ordJ stays)) stR stays F T) (.tuple #[])) stays stR m sa sc hsv hst hl hm1 hs
      (fun M hM => ⟨rfl, by rw [GMap.bads_app, ← hg1]; exact hM⟩) f1
    repeat (first | refine c_seq ?_ | refine c_reg ?_ | refine r_nil ?_ | refine e_n ?_ | refine r_val (by rfl) ?_)
    refine CutC.go ?_
    repeat (first | refine c_seq ?_ | refine e_n ?_ | refine c_no (by rfl) (by first | with_reducible assumption | decide) ?_ | refine c_exit ?_ | refine e_x ?_ | refine b_x1 ?_)
    exact CutC.weak (Incl.skip (Incl.refl _)) (CutC.over [(0, .pointer (some ⟨t, 0, none⟩))] ⟨rfl, rfl⟩ key)
end
end Go.Proofs.Ythijlgjfgliinaa
end
section
/- The judge: together (29): rules; what two stays differ in. -/
set_option linter.all false
namespace Go
variable [Env]
namespace W
section
variable {P : Program} {ops : Array Oper} {Q : Exit → Fr → Units → Prop} {rest : List Oper} {L : Units} {d : Tmp} {p : Op} {ty : TypeId} {pos : String} {af : Array Edge} {l : List (Nat × Value)} {base : Nat → Value} {df : List Deferred}
theorem any_yield {f : Fr} (i : Nat) {o : Oper} {v : Value} {fuel : Nat} {listed : Array Bool} (hp : PanicFree Q) (hi : ops[i]? = some o) (hc : (Region.noSelect ops && Region.free .any ops listed i && (Region.ready .any ops listed).contains i) = true)
    (hy : ∀ (n : Nat) (a : Act), Like n a f → Yields P ops o v a) (k : anyC P ops Q fuel (listed.setIfInBounds i true) (f.put o.dst v) L) : anyC P ops Q (fuel + 1) listed f L := by
  simp only [Bool.and_eq_true] at hc
  intro n hok a hl x
  have hio : o.okD n = true := List.all_eq_true.1 hok o (by
    have := Array.mem_of_getElem? hi
    simpa using this)
  refine wpAny_take hi hc.1.1 hc.1.2 hc.2 ?_ (hy n a hl) (k n hok _ (hl.put (Oper.okD_lt hio) v) x)
  rintro ch a' w ⟨f', M, h1, h2, h3⟩
  have hd : a'.defers = f'.defers := by
    have e : (a'.put o.dst v).defers = a'.defers := by cases o.dst <;> rfl
    rw [← e]
    exact h1.defers
  have hs : a'.tmps.size = n := by
    have := h1.size
    cases hh : o.dst <;> simpa [Act.put, hh] using this
  exact ⟨⟨[], fun t => a'.tmps.getD t undef, a'.defers⟩, M, ⟨hs, fun t => rfl, rfl⟩, h2, hp ch f' _ M hd.symm h3⟩
/-- A guarded operation whose guard holds, of a value in whatever world. -/
theorem any_valG {i j : Nat} {wt c : Bool} {v : Value} {fuel : Nat} {listed : Array Bool} (hp : PanicFree Q) (hi : ops[i]? = some ⟨some d, p, ty, pos, af, some (j, wt)⟩) (hc : (Region.noSelect ops && Region.free .any ops listed i && (Region.ready .any ops listed).contains i) = true)
    (hy : Fr.yielded ⟨l, base, df⟩ ops j = some c) (hw : c = wt) (hv : ∀ w, (execOp (Fr.ev ⟨l, base, df⟩) ⟨some d, p, ty, pos, af, none⟩).run P w = .ok (.value v) w)
    (k : anyC P ops Q fuel (listed.setIfInBounds i true) ⟨(d, v) :: l, base, df⟩ L) : anyC P ops Q (fuel + 1) listed ⟨l, base, df⟩ L :=
  any_yield i hp hi hc (fun n a hl => .inl ⟨by
    subst hw
    unfold Region.wanted
    simp only
    rw [hl.yielded, hy]
    simp, fun w => by rw [hl.eval]; exact hv w⟩) k
/-- A guarded operation whose guard does not hold. -/
theorem any_skipG {i j : Nat} {wt c : Bool} {fuel : Nat} {listed : Array Bool} (hp : PanicFree Q) (hi : ops[i]? = some ⟨some d, p, ty, pos, af, some (j, wt)⟩) (hc : (Region.noSelect ops && Region.free .any ops listed i && (Region.ready .any ops listed).contains i) = true)
    (hy : Fr.yielded ⟨l, base, df⟩ ops j = some c) (hw : c = !wt)
    (k : anyC P ops Q fuel (listed.setIfInBounds i true) ⟨(d, undef) :: l, base, df⟩ L) : anyC P ops Q (fuel + 1) listed ⟨l, base, df⟩ L :=
  any_yield i hp hi hc (fun n a hl => .inr ⟨by
    subst hw
    unfold Region.wanted
    simp only
    rw [hl.yielded, hy]
    cases wt <;> rfl, rfl⟩) k
theorem run_upto {ev : Operand → Value} {o : Oper} {T : TypeId} {xo io : Operand} {b off n c k : Nat} {s : Nat} (ho : o.op = .slice T xo none (some io) none) (hx : ev xo = .slice (some ⟨b, off, none⟩) n c) (hi : ev io = .int .i64 (k : Nat))
    (hs : elemSz P T = some s) (hk : k ≤ c) (w : World) : (execOp ev o).run P w = .ok (.value (.slice (some ⟨b, off, none⟩) k c)) w := by
  obtain ⟨e, i, hu, hi1, hs⟩ := elemSz_eq hs
  have he : P.elem T = e := by simp [Program.elem, hu]
  have h1 := run_slice_h (P := P) (w := w) T (some ⟨b, off, none⟩) n c (by rw [he]; exact hu) .i64 (k : Int) (by omega) (by omega)
  have h2 := run_sliceAt_slice (P := P) (w := w) T (.slice (some ⟨b, off, none⟩) n c) none (some (.int .i64 (k : Nat))) none (by rw [he]; exact hu)
  rw [h1] at h2
  have h3 : (Instr.sliceAt T (.slice (some ⟨b, off, none⟩) n c) none (some (.int .i64 (k : Nat))) none).run P w = .ok (.slice (some ⟨b, off, none⟩) k c) w := by
    rw [h2]
    simp [sizeOf, typeInfo, he, hi1, hs, Sem.run_bind, program, Sem.run, Result.andThen, sliced, Addr.add_none]
  unfold execOp
  simp only [ho, hx, Option.map_some, Option.map_none, hi]
  simp [Sem.run_bind, h3, Result.andThen]
theorem r_upto {T : TypeId} {xo io : Operand} {b off n c k : Nat} {s : Nat} (hx : (⟨l, base, df⟩ : Fr).ev xo = .slice (some ⟨b, off, none⟩) n c) (hi : (⟨l, base, df⟩ : Fr).ev io = .int .i64 (k : Nat)) (hs : elemSz P T = some s) (hk : k ≤ c)
    (h : opsC P ops Q rest ⟨(d, .slice (some ⟨b, off, none⟩) k c) :: l, base, df⟩ L) : opsC P ops Q (⟨some d, .slice T xo none (some io) none, ty, pos, af, none⟩ :: rest) ⟨l, base, df⟩ L :=
  opsC_none rfl (opC_run rfl (run_upto rfl hx hi hs hk) h)
end
end W
end Go
end
