/- Part 21 of the proof of what MonJudges says. -/
import Derived.Test.YthijlgjfgliinaaJg20
section
/- The judge: an event that stands in a stay: a way on (EvTrans). -/
set_option linter.all false
namespace Go.Proofs.Ythijlgjfgliinaa
open Go.RowKit
open Go.W
variable [Env]
attribute [local irreducible] opsC wpC quietC LoopC DrawC CutC LoadC StoreC ReadC UpdC RunC CallC QCallC EndC thenC inBlockC
set_option maxRecDepth 100000
set_option synthInstance.maxHeartbeats 400000
set_option maxHeartbeats 4000000 in
theorem inner_trans {F : Blocks} {t bb eb eo : Nat} {earr : Array Value} {eT : TypeId} {efr : Nat × Nat} {lv sv gv uv : Value} {nm : Int} {g : GMap Int Bool} {evs : List Ev} (hE : (eb, Obj.cells earr eT efr) ∈ F) (hrow : Go.RowAt earr eo 19 (evs.map Ev.cells)) (s : JSt) (i : Nat) (e : Ev) (he : evs[i]? = some e) (hk : e.kind = 4) (ho : confEq s.epoch s.rep e.epoch e.rep = true) (tr : Option Nat) {T : Units} :
    Does Try.prog 42 #[.pointer (some ⟨t, 0, none⟩), .int .i64 (i : Nat), .pointer (some ⟨eb, eo + i * 19, none⟩), .bool true, .pointer (some ⟨s.blk, 0, none⟩)] (InL t bb lv sv nm g eb eo s gv uv tr F T) (Gives (InL t bb lv sv nm (GMap.bad g 1 tr.isSome) eb eo s gv uv (some i) F T) (.tuple #[])) := by
  haveI hEB : ∀ {L R : Units} [Unit_ L F R], Has L eb (.cells earr eT efr) := fun {L R} h => ⟨h.ok.mem_iff.2 (by simp [hE])⟩
  have hec : (evs.map Ev.cells)[i]? = some e.cells := by simp [he]
  have hn : (!confEq s.epoch s.rep e.epoch e.rep) = false := by rw [ho]; rfl
  have hk1 : (e.kind == 1) = false := by simp [hk]
  have hk2 : (e.kind == 2) = false := by simp [hk]
  have hk3 : (e.kind == 3) = false := by simp [hk]
  have hk4 : (e.kind == 4) = true := by simp [hk]
  cases tr
  all_goals
    refine does_of_wpC (args := [.pointer (some ⟨t, 0, none⟩), .int .i64 (i : Nat), .pointer (some ⟨eb, eo + i * 19, none⟩), .bool true, .pointer (some ⟨s.blk, 0, none⟩)]) Try.func42 rfl (by kernel_rfl) ?_
    repeat (first | refine c_seq ?_ | refine c_draw ?_)
    refine d_tail 16 (by kernel_rfl) ?_
    simp only [List.take_succ_cons, List.take_zero, List.drop_succ_cons, List.drop_zero]
    repeat (first | (refine q_load (by rfl) ?_; refine LoadC.rowPart (b := eb) (q := 2) (n := 2) hrow hec rfl rfl (by rfl) ?_) | (refine q_eq (by rfl) (by rfl) (by kernel_rfl) (fun x => neq30 x.w _ _ _ _) ?_) | (refine r_load (by rfl) ?_; refine LoadC.rowCell (b := eb) (q := 0) hrow hec rfl (by rfl) ?_) | (refine r_fun (by rfl) (by rfl) ?_; refine CallC.gives (g := 45) (breaks45 (t := t) (bb := bb) (lv := lv) (sv := sv) (nm := nm) (g := g) 1 _) ?_) | (refine q_nil ?_) | refine c_seq ?_ | refine c_reg ?_ | refine r_nil ?_ | refine e_n ?_ | refine CutC.go ?_ | refine r_field0 (by rfl) (by rfl) ?_ | refine r_field (by rfl) (by rfl) ?_ | refine r_val (by rfl) ?_ | (refine r_load (by rfl) ?_; refine LoadC.one (by rfl) (by rfl) ?_) | (refine r_store (by rfl) (by rfl) ?_; refine StoreC.all (by rfl) (by rfl) (by rfl) (by rfl) (by rfl) ?_) | refine c_yes (by rfl) (by first | with_reducible assumption | decide) ?_ | refine c_no (by rfl) (by first | with_reducible assumption | decide) ?_ | refine c_skip ?_ | refine c_block ?_ | refine b_n ?_ | refine EndC.mk rfl ?_ | refine q_field0 (by rfl) (by rfl) ?_ | refine q_field (by rfl) (by rfl) ?_ | refine q_val (by rfl) ?_ | refine q_gF (by rfl) (by first | with_reducible assumption | decide) ?_ | (refine q_load (by rfl) ?_; refine LoadC.agg (by rfl) (by rfl) ?_))
    first | exact Gives.mk rfl (incl_swap _ _ _) | exact Gives.mk rfl (Incl.refl _) | exact Gives.mk rfl Incl.of
end Go.Proofs.Ythijlgjfgliinaa
end
section
/- The judge: wrong (65): the least rule of Views that is broken. -/
set_option linter.all false
namespace Go.Proofs.Ythijlgjfgliinaa
open Go.RowKit
open Go.W
variable [Env]
/-- What `wrong` leaves in `named`. -/
def wrongNm (nm r : Int) (c : Bool) : Int := bif c && (nm == 0 || decide (r < nm)) then r else nm
attribute [local irreducible] opsC wpC quietC LoopC DrawC CutC LoadC StoreC ReadC UpdC RunC CallC QCallC EndC thenC inBlockC
set_option maxRecDepth 100000
set_option synthInstance.maxHeartbeats 400000
set_option maxHeartbeats 4000000 in
theorem wrong65 {t bb : Nat} {lv sv : Value} {nm : Int} (r : Int) (c : Bool) {L R : Units} [hp : Pick L t (traceO lv sv bb nm) R] :
    Does Try.prog 65 #[.pointer (some ⟨t, 0, none⟩), .int .i64 r, .bool c] L (Gives ([(t, traceO lv sv bb (wrongNm nm r c))] :: R) (.tuple #[])) := by
  refine Does.incl (M := [(t, traceO lv sv bb nm)] :: R) (Incl.eqv hp.ok) ?_
  cases c
  · refine does_of_wpC (args := [.pointer (some ⟨t, 0, none⟩), .int .i64 r, .bool false]) Try.func65 rfl (by kernel_rfl) ?_
    repeat (first | refine c_seq ?_ | refine c_reg ?_ | refine r_nil ?_ | refine e_n ?_ | refine CutC.go ?_ | refine r_val (by rfl) ?_ | refine r_gnT (by rfl) (by first | with_reducible assumption | decide) ?_ | refine r_go (by rfl) ?_ | refine c_no (by rfl) (by first | with_reducible assumption | decide) ?_ | refine c_skip ?_ | refine EndC.mk rfl ?_)
    exact Gives.mk rfl (Incl.refl _)
  · cases hz : nm == 0
    · cases hl : decide (r < nm)
      · have hw : wrongNm nm r true = nm := by simp [wrongNm, hz, hl]
        rw [hw]
        refine does_of_wpC (args := [.pointer (some ⟨t, 0, none⟩), .int .i64 r, .bool true]) Try.func65 rfl (by kernel_rfl) ?_
        repeat (first | refine c_seq ?_ | refine c_reg ?_ | refine r_nil ?_ | refine e_n ?_ | refine CutC.go ?_ | refine r_field0 (by rfl) (by rfl) ?_ | refine r_val (by rfl) ?_ | (refine r_load (by rfl) ?_; refine LoadC.one (by rfl) (by rfl) ?_) | refine r_gT (by rfl) (by first | with_reducible assumption | decide) ?_ | refine r_gF (by rfl) (by first | with_reducible assumption | decide) ?_ | refine r_pickF (by rfl) (by first | with_reducible assumption | decide) (by rfl) ?_ | refine c_no (by rfl) (by first | with_reducible assumption | decide) ?_ | refine c_skip ?_ | refine EndC.mk rfl ?_)
        exact Gives.mk rfl (Incl.refl _)
      · have hw : wrongNm nm r true = r := by simp [wrongNm, hz, hl]
        rw [hw]
        refine does_of_wpC (args := [.pointer (some ⟨t, 0, none⟩), .int .i64 r, .bool true]) Try.func65 rfl (by kernel_rfl) ?_
        repeat (first | refine c_seq ?_ | refine c_reg ?_ | refine r_nil ?_ | refine e_n ?_ | refine CutC.go ?_ | refine r_field0 (by rfl) (by rfl) ?_ | refine r_val (by rfl) ?_ | (refine r_load (by rfl) ?_; refine LoadC.one (by rfl) (by rfl) ?_) | (refine r_store (by rfl) (by rfl) ?_; refine StoreC.all (by rfl) (by rfl) (by rfl) (by rfl) (by rfl) ?_) | refine r_gT (by rfl) (by first | with_reducible assumption | decide) ?_ | refine r_gF (by rfl) (by first | with_reducible assumption | decide) ?_ | refine r_pickF (by rfl) (by first | with_reducible assumption | decide) (by rfl) ?_ | refine c_yes (by rfl) (by first | with_reducible assumption | decide) ?_ | refine EndC.mk rfl ?_)
        exact Gives.mk rfl (Incl.refl _)
    · have hw : wrongNm nm r true = r := by simp [wrongNm, hz]
      rw [hw]
      refine does_of_wpC (args := [.pointer (some ⟨t, 0, none⟩), .int .i64 r, .bool true]) Try.func65 rfl (by kernel_rfl) ?_
      repeat (first | refine c_seq ?_ | refine c_reg ?_ | refine r_nil ?_ | refine e_n ?_ | refine CutC.go ?_ | refine r_field0 (by rfl) (by rfl) ?_ | refine r_val (by rfl) ?_ | (refine r_load (by rfl) ?_; refine LoadC.one (by rfl) (by rfl) ?_) | (refine r_store (by rfl) (by rfl) ?_; refine StoreC.all (by rfl) (by rfl) (by rfl) (by rfl) (by rfl) ?_) | refine r_gT (by rfl) (by first | with_reducible assumption | decide) ?_ | refine r_gnF (by rfl) (by first | with_reducible assumption | decide) ?_ | refine r_pickT (by rfl) (by first | with_reducible assumption | decide) (by rfl) ?_ | refine c_yes (by rfl) (by first | with_reducible assumption | decide) ?_ | refine EndC.mk rfl ?_)
      exact Gives.mk rfl (Incl.refl _)
end Go.Proofs.Ythijlgjfgliinaa
end
section
/- The judge: upper (43) at a view (EvView): what a stay's view is. -/
set_option linter.all false
namespace Go.Proofs.Ythijlgjfgliinaa
open Go.RowKit
open Go.W
variable [Env]
/-- The stay, from the view at place i on. -/
def JSt.view (s : JSt) (i : Nat) : JSt := { s with vw := some i, va := i, rd := none, out := false }
attribute [local irreducible] opsC wpC quietC LoopC DrawC CutC LoadC StoreC ReadC UpdC RunC CallC QCallC EndC thenC inBlockC
set_option maxRecDepth 100000
set_option synthInstance.maxHeartbeats 400000
set_option maxHeartbeats 4000000 in
theorem upper_none {F : Blocks} {t eb eo : Nat} {earr : Array Value} {eT : TypeId} {efr : Nat × Nat} {evs : List Ev} (hE : (eb, Obj.cells earr eT efr) ∈ F) (hrow : Go.RowAt earr eo 19 (evs.map Ev.cells)) (i : Nat) (e : Ev) (he : evs[i]? = some e) (hk : e.kind = 7) {T : Units} :
    Does Try.prog 43 #[.pointer (some ⟨t, 0, none⟩), .int .i64 (i : Nat), .pointer (some ⟨eb, eo + i * 19, none⟩), .pointer none] (F :: T) (Gives (F :: T) (.tuple #[])) := by
  haveI hEB : ∀ {L R : Units} [Unit_ L F R], Has L eb (.cells earr eT efr) := fun {L R} h => ⟨h.ok.mem_iff.2 (by simp [hE])⟩
  have hec : (evs.map Ev.cells)[i]? = some e.cells := by simp [he]
  have hk7 : (e.kind == 7) = true := by simp [hk]
  refine does_of_wpC (args := [.pointer (some ⟨t, 0, none⟩), .int .i64 (i : Nat), .pointer (some ⟨eb, eo + i * 19, none⟩), .pointer none]) Try.func43 rfl (by kernel_rfl) ?_
  repeat (first | (refine r_load (by rfl) ?_; refine LoadC.rowCell (b := eb) (q := 0) hrow hec rfl (by rfl) ?_) | refine c_seq ?_ | refine c_reg ?_ | refine r_nil ?_ | refine e_n ?_ | refine CutC.go ?_ | refine r_field (by rfl) (by rfl) ?_ | refine r_val (by rfl) ?_ | refine c_yes (by rfl) (by first | with_reducible assumption | decide) ?_ | refine c_no (by rfl) (by first | with_reducible assumption | decide) ?_ | refine c_skip ?_ | refine c_block ?_ | refine b_n ?_ | refine EndC.mk rfl ?_)
  exact Gives.mk rfl (Incl.refl _)
set_option maxHeartbeats 4000000 in
theorem upper_view {F : Blocks} {t eb eo : Nat} {earr : Array Value} {eT : TypeId} {efr : Nat × Nat} {gv uv tv : Value} {evs : List Ev} (hE : (eb, Obj.cells earr eT efr) ∈ F) (hrow : Go.RowAt earr eo 19 (evs.map Ev.cells)) (s : JSt) (i : Nat) (e : Ev) (he : evs[i]? = some e) (hk : e.kind = 7) {T : Units} :
    Does Try.prog 43 #[.pointer (some ⟨t, 0, none⟩), .int .i64 (i : Nat), .pointer (some ⟨eb, eo + i * 19, none⟩), .pointer (some ⟨s.blk, 0, none⟩)] ([(s.blk, jstO eb eo s gv uv tv)] :: F :: T) (Gives ([(s.blk, jstO eb eo (s.view i) gv uv tv)] :: F :: T) (.tuple #[])) := by
  haveI hEB : ∀ {L R : Units} [Unit_ L F R], Has L eb (.cells earr eT efr) := fun {L R} h => ⟨h.ok.mem_iff.2 (by simp [hE])⟩
  have hec : (evs.map Ev.cells)[i]? = some e.cells := by simp [he]
  have hk7 : (e.kind == 7) = true := by simp [hk]
  refine does_of_wpC (args := [.pointer (some ⟨t, 0, none⟩), .int .i64 (i : Nat), .pointer (some ⟨eb, eo + i * 19, none⟩), .pointer (some ⟨s.blk, 0, none⟩)]) Try.func43 rfl (by kernel_rfl) ?_
  repeat (first | (refine r_load (by rfl) ?_; refine LoadC.rowCell (b := eb) (q := 0) hrow hec rfl (by rfl) ?_) | refine c_seq ?_ | refine c_reg ?_ | refine r_nil ?_ | refine e_n ?_ | refine CutC.go ?_ | refine r_field0 (by rfl) (by rfl) ?_ | refine r_field (by rfl) (by rfl) ?_ | refine r_val (by rfl) ?_ | (refine r_store (by rfl) (by rfl) ?_; refine StoreC.all (by rfl) (by rfl) (by rfl) (by rfl) (by rfl) ?_) | refine c_yes (by rfl) (by first | with_reducible assumption | decide) ?_ | refine c_block ?_ | refine b_n ?_ | refine EndC.mk rfl ?_)
  exact Gives.mk rfl (Incl.refl _)
end Go.Proofs.Ythijlgjfgliinaa
end
