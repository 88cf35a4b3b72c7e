/- Part 24 of the proof of what MonJudges says. -/
import Derived.Test.YthijlgjfgliinaaJg23
section
/- The judge: an event of an incarnation (mine, 58), of a stay: what is wrong. -/
set_option linter.all false
namespace Go.Proofs.Ythijlgjfgliinaa
open Go.RowKit
open Go.W
variable [Env]
abbrev mO (pr ep rp me gv tv nxv : Value) (eb eo : Nat) (vw : Option Nat) (va : Int) (rd : Option Nat) (uv : Value) (out : Bool) (bfv : Value) : Obj := .cells #[pr, ep, rp, me, gv, tv, nxv, evp eb eo vw, .int .i64 va, evp eb eo rd, uv, .bool out, bfv] 109
noncomputable def mineTail : Code := match Try.f58.body with
  | some (.seq _ c) => c
  | _ => .skip
noncomputable def mineRest : Code := match mineTail with
  | .seq _ c => c
  | _ => .skip
abbrev MiL (t bb : Nat) (lv sv : Value) (nm : Int) (sb : Nat) (o : Obj) (ur : Blocks) (F : Blocks) (T : Units) : Units := [(t, traceO lv sv bb nm)] :: [(sb, o)] :: ur :: F :: T
attribute [local irreducible] opsC wpC quietC LoopC DrawC CutC LoadC StoreC ReadC UpdC RunC CallC QCallC EndC thenC inBlockC
set_option maxRecDepth 100000
set_option synthInstance.maxHeartbeats 400000
section
variable {F : Blocks} {t bb eb eo sb : Nat} {earr : Array Value} {eT : TypeId} {efr : Nat × Nat} {lv sv uv gv tv nxv bfv pr ep rp me : Value} {nm va : Int} {evs : List Ev} {rd : Option Nat} {out : Bool} {ur : Blocks} {T : Units} {R : Ending → Units → Prop}
set_option maxHeartbeats 8000000 in
theorem mine_noview (hE : (eb, Obj.cells earr eT efr) ∈ F) (hrow : Go.RowAt earr eo 19 (evs.map Ev.cells)) (i : Nat) (e : Ev) (he : evs[i]? = some e) 
    (hR : R (.returned (.tuple #[])) (MiL t bb lv sv (wrongNm nm 3 true) sb (mO pr ep rp me gv tv nxv eb eo (none) va rd uv out bfv) ur F T)) (f0 : Nat → Value) :
    wpC Try.prog mineTail (bodyC Try.f58 R) (Fr.over f0 [(0, .pointer (some ⟨t, 0, none⟩)), (1, .pointer (some ⟨eb, eo + i * 19, none⟩)), (2, .pointer (some ⟨sb, 0, none⟩))]) (MiL t bb lv sv nm sb (mO pr ep rp me gv tv nxv eb eo (none) va rd uv out bfv) ur F T) := by
  haveI hEB : ∀ {L R : Units} [Unit_ L F R], Has L eb (.cells earr eT efr) := fun {L R} h => ⟨h.ok.mem_iff.2 (by simp [hE])⟩
  have hec : (evs.map Ev.cells)[i]? = some e.cells := by simp [he]
  repeat (first | refine c_seq ?_ | refine c_draw ?_)
  simp only [List.append_eq, List.cons_append, List.nil_append]
  refine d_tail 67 (by kernel_rfl) ?_
  simp only [List.take_succ_cons, List.take_zero, List.drop_succ_cons, List.drop_zero]
  repeat (first | (refine r_fun (by rfl) (by rfl) ?_; refine CallC.gives (g := 65) (wrong65 (t := t) (bb := bb) (lv := lv) (sv := sv) (nm := nm) 3 _) ?_) | (refine q_nil ?_) | refine c_seq ?_ | refine c_reg ?_ | refine r_nil ?_ | refine e_n ?_ | refine CutC.go ?_ | refine r_val (by rfl) ?_ | refine c_yes (by rfl) (by first | with_reducible assumption | decide) ?_ | refine c_ret ?_ | refine e_r ?_ | refine EndC.mk rfl ?_ | refine q_field0 (by rfl) (by rfl) ?_ | refine q_val (by rfl) ?_ | (refine q_load (by rfl) ?_; refine LoadC.one (by rfl) (by rfl) ?_) | refine q_gF (by rfl) (by first | with_reducible assumption | decide) ?_ | refine q_gnF (by rfl) (by first | with_reducible assumption | decide) ?_)
  exact hR
set_option maxHeartbeats 8000000 in
theorem mine_out (hE : (eb, Obj.cells earr eT efr) ∈ F) (hrow : Go.RowAt earr eo 19 (evs.map Ev.cells)) (i : Nat) (e : Ev) (he : evs[i]? = some e) (v : Nat)
    (hR : R (.returned (.tuple #[])) (MiL t bb lv sv (wrongNm nm 3 true) sb (mO pr ep rp me gv tv nxv eb eo (some v) va rd uv true bfv) ur F T)) (f0 : Nat → Value) :
    wpC Try.prog mineTail (bodyC Try.f58 R) (Fr.over f0 [(0, .pointer (some ⟨t, 0, none⟩)), (1, .pointer (some ⟨eb, eo + i * 19, none⟩)), (2, .pointer (some ⟨sb, 0, none⟩))]) (MiL t bb lv sv nm sb (mO pr ep rp me gv tv nxv eb eo (some v) va rd uv true bfv) ur F T) := by
  haveI hEB : ∀ {L R : Units} [Unit_ L F R], Has L eb (.cells earr eT efr) := fun {L R} h => ⟨h.ok.mem_iff.2 (by simp [hE])⟩
  have hec : (evs.map Ev.cells)[i]? = some e.cells := by simp [he]
  repeat (first | refine c_seq ?_ | refine c_draw ?_)
  simp only [List.append_eq, List.cons_append, List.nil_append]
  refine d_tail 67 (by kernel_rfl) ?_
  simp only [List.take_succ_cons, List.take_zero, List.drop_succ_cons, List.drop_zero]
  repeat (first | (refine r_fun (by rfl) (by rfl) ?_; refine CallC.gives (g := 65) (wrong65 (t := t) (bb := bb) (lv := lv) (sv := sv) (nm := nm) 3 _) ?_) | (refine q_nil ?_) | refine c_seq ?_ | refine c_reg ?_ | refine r_nil ?_ | refine e_n ?_ | refine CutC.go ?_ | refine r_val (by rfl) ?_ | refine c_yes (by rfl) (by first | with_reducible assumption | decide) ?_ | refine c_ret ?_ | refine e_r ?_ | refine EndC.mk rfl ?_ | refine q_field0 (by rfl) (by rfl) ?_ | refine q_val (by rfl) ?_ | (refine q_load (by rfl) ?_; refine LoadC.one (by rfl) (by rfl) ?_) | refine q_gF (by rfl) (by first | with_reducible assumption | decide) ?_ | refine q_gnF (by rfl) (by first | with_reducible assumption | decide) ?_)
  exact hR
set_option maxHeartbeats 8000000 in
theorem mine_nn (hE : (eb, Obj.cells earr eT efr) ∈ F) (hrow : Go.RowAt earr eo 19 (evs.map Ev.cells)) (i : Nat) (e : Ev) (he : evs[i]? = some e) (v : Nat) (hn1 : e.nn ≠ 1)
    (hR : R (.returned (.tuple #[])) (MiL t bb lv sv (wrongNm nm 3 true) sb (mO pr ep rp me gv tv nxv eb eo (some v) va rd uv false bfv) ur F T)) (f0 : Nat → Value) :
    wpC Try.prog mineTail (bodyC Try.f58 R) (Fr.over f0 [(0, .pointer (some ⟨t, 0, none⟩)), (1, .pointer (some ⟨eb, eo + i * 19, none⟩)), (2, .pointer (some ⟨sb, 0, none⟩))]) (MiL t bb lv sv nm sb (mO pr ep rp me gv tv nxv eb eo (some v) va rd uv false bfv) ur F T) := by
  haveI hEB : ∀ {L R : Units} [Unit_ L F R], Has L eb (.cells earr eT efr) := fun {L R} h => ⟨h.ok.mem_iff.2 (by simp [hE])⟩
  have hec : (evs.map Ev.cells)[i]? = some e.cells := by simp [he]
  have hnb : ((e.nn : Int) != 1) = true := by simp; omega
  repeat (first | refine c_seq ?_ | refine c_draw ?_)
  simp only [List.append_eq, List.cons_append, List.nil_append]
  refine d_tail 67 (by kernel_rfl) ?_
  simp only [List.take_succ_cons, List.take_zero, List.drop_succ_cons, List.drop_zero]
  repeat (first | (refine q_load (by rfl) ?_; refine LoadC.rowCell (b := eb) (q := 17) hrow hec rfl (by rfl) ?_) | (refine r_fun (by rfl) (by rfl) ?_; refine CallC.gives (g := 65) (wrong65 (t := t) (bb := bb) (lv := lv) (sv := sv) (nm := nm) 3 _) ?_) | (refine q_nil ?_) | refine c_seq ?_ | refine c_reg ?_ | refine r_nil ?_ | refine e_n ?_ | refine CutC.go ?_ | refine r_val (by rfl) ?_ | refine c_yes (by rfl) (by first | with_reducible assumption | decide) ?_ | refine c_ret ?_ | refine e_r ?_ | refine EndC.mk rfl ?_ | refine q_field0 (by rfl) (by rfl) ?_ | refine q_field (by rfl) (by rfl) ?_ | refine q_lenS (by rfl) (by rfl) ?_ | refine q_val (by rfl) ?_ | (refine q_load (by rfl) ?_; refine LoadC.one (by rfl) (by rfl) ?_) | refine q_gF (by rfl) (by first | with_reducible assumption | decide) ?_ | refine q_gnF (by rfl) (by first | with_reducible assumption | decide) ?_ | refine q_pickT (by rfl) (by first | with_reducible assumption | decide) (by rfl) ?_)
  exact hR
end
end Go.Proofs.Ythijlgjfgliinaa
end
