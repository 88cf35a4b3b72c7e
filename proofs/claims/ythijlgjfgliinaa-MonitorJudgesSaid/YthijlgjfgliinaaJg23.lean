/- Part 23 of the proof of what MonJudges says. -/
import Derived.Test.YthijlgjfgliinaaJg22
section
/- The judge: names; is one among them? -/
set_option linter.all false
namespace Go.Proofs.Ythijlgjfgliinaa
open Go.RowKit
open Go.W
variable [Env]
abbrev Nm := Int × Int
def Nm.cells (n : Nm) : List Value := [.int .i64 n.1, .int .u32 n.2]
@[go_sem high] theorem eq132 (w : World) (a b c d : Int) : (binOp .eql 132 (.agg #[.int .i64 a, .int .u32 b]) (.agg #[.int .i64 c, .int .u32 d])).run Try.prog w = .ok (.bool (confEq a b c d)) w := by
  simp [go_sem, confEq]
  by_cases h : a = c <;> by_cases h2 : b = d <;> simp [h, h2]
/-- Two views. -/
structure Vw where
  num : Int
  epoch : Int
  rep : Int
  mem : Int
deriving DecidableEq
abbrev Vw.val (v : Vw) : Value := .agg #[.int .u64 v.num, .int .u64 v.epoch, .int .i64 v.rep, .int .u64 v.mem]
def Ev.vw (e : Ev) : Vw := ⟨e.vnum, e.vepoch, e.vrep, e.vmem⟩
theorem neq36 (w : World) (a b c d a' b' c' d' : Int) : (binOp .neq 36 (.agg #[.int .u64 a, .int .u64 b, .int .i64 c, .int .u64 d]) (.agg #[.int .u64 a', .int .u64 b', .int .i64 c', .int .u64 d'])).run Try.prog w = .ok (.bool (!decide ((⟨a, b, c, d⟩ : Vw) = ⟨a', b', c', d'⟩))) w := by
  simp [go_sem]
  by_cases h : a = a' <;> by_cases h2 : b = b' <;> by_cases h3 : c = c' <;> by_cases h4 : d = d' <;> simp [h, h2, h3, h4]
def hasN (l : List Nm) (x : Nm) : Bool := l.any fun j => confEq x.1 x.2 j.1 j.2
attribute [local irreducible] opsC wpC quietC LoopC DrawC CutC LoadC StoreC ReadC UpdC RunC CallC QCallC EndC thenC inBlockC
set_option maxRecDepth 100000
set_option synthInstance.maxHeartbeats 400000
set_option maxHeartbeats 4000000 in
theorem index68 {U : Blocks} (x : Nm) (a : Option Addr) (n c : Nat) (gs : List Nm) (hs : SlIn U a n 2 (gs.map Nm.cells)) (hn : n ≤ 140737488355328) {L R2 : Units} [hU : Unit_ L U R2] :
    Does Try.prog 68 #[.slice a n c, .agg #[.int .i64 x.1, .int .u32 x.2]] L (fun en M => ∃ z : Int, (decide (z ≥ 0) = hasN gs x) ∧ Gives L (.int .i64 z) en M) := by
  have hl : gs.length = n := by have := hs.1; simpa using this
  refine does_of_wpC (args := [.slice a n c, .agg #[.int .i64 x.1, .int .u32 x.2]]) Try.func68 rfl (by kernel_rfl) ?_
  repeat (first | refine c_seq ?_ | refine c_reg ?_ | refine r_nil ?_ | refine e_n ?_ | refine CutC.go ?_ | refine r_lenS (by rfl) (by rfl) ?_ | refine r_val (by rfl) ?_ | refine c_block ?_ | refine r_box (by rfl) (by rfl) (fun _ => ?_) | refine c_loop ?_)
  rename_i xb
  refine LoopC.inv (γ := Nat) (fun k => k ≤ n ∧ hasN gs x = hasN (gs.drop k) x) (fun k => [(0, .slice a n c), (3, .pointer (some ⟨xb, 0, none⟩)), (7, .int .i64 n), (8, .int .i64 (k : Nat))]) (fun _ => [(xb, .cells #[.int .i64 x.1, .int .u32 x.2] 132)] :: L) (fun k => n - k)
    (MeetC.mk 0 ⟨by omega, rfl⟩ ⟨rfl, rfl, rfl, rfl, rfl⟩ (Incl.refl _)) ?_
  rintro k ⟨hk, hh⟩ f0
  by_cases hlt : k < n
  · have hd1 : decide ((k : Int) < (n : Int)) = true := by simp; omega
    obtain ⟨j, hj⟩ : ∃ j, gs[k]? = some j := ⟨gs[k]'(by omega), List.getElem?_eq_getElem _⟩
    rcases hs.2 with h0 | ⟨b, o, arr, T, fr, rfl, hm, hrow⟩
    · omega
    haveI hS : ∀ {L R : Units} [Unit_ L U R], Has L b (.cells arr T fr) := fun {L R} h => ⟨h.ok.mem_iff.2 (by simp [hm])⟩
    have hjc : (gs.map Nm.cells)[k]? = some j.cells := by simp [hj]
    have hdr : gs.drop k = j :: gs.drop (k + 1) := by
      obtain ⟨h2, h3⟩ := List.getElem?_eq_some_iff.1 hj
      rw [List.drop_eq_getElem_cons h2, h3]
    have hst : hasN (gs.drop k) x = (confEq x.1 x.2 j.1 j.2 || hasN (gs.drop (k + 1)) x) := by rw [hdr]; rfl
    cases he : confEq x.1 x.2 j.1 j.2
    all_goals
      rw [he] at hst
      repeat (first | refine c_seq ?_ | refine c_reg ?_ | refine r_nil ?_ | refine e_n ?_ | refine CutC.go ?_ | refine r_val (by rfl) ?_ | refine c_yes (by rfl) (by first | with_reducible assumption | decide) ?_ | refine c_skip ?_ | refine c_block ?_ | refine c_draw ?_)
      refine d_tail 5 (by kernel_rfl) ?_
      simp only [List.take_succ_cons, List.take_zero, List.drop_succ_cons, List.drop_zero]
      repeat (first | (refine q_index (by rfl) (by rfl) (by rfl) hlt ?_) | (refine q_load (by rfl) ?_; refine LoadC.row (b := b) hrow hjc rfl (by rfl) ?_) | (refine r_eq (by rfl) (by rfl) (by kernel_rfl) (fun x => eq132 x.w _ _ _ _) ?_) | (refine q_nil ?_) | refine c_seq ?_ | refine c_reg ?_ | refine r_nil ?_ | refine e_n ?_ | refine CutC.go ?_ | refine r_val (by rfl) ?_ | refine c_yes (by rfl) (by first | with_reducible assumption | decide) ?_ | refine c_no (by rfl) (by first | with_reducible assumption | decide) ?_ | refine c_skip ?_ | refine c_ret ?_ | refine e_r ?_ | refine b_n ?_ | refine b_r ?_ | refine EndC.mk rfl ?_ | refine q_val (by rfl) ?_ | (refine q_load (by rfl) ?_; refine LoadC.agg (by rfl) (by rfl) ?_))
    · exact MeetC.mk (k + 1) ⟨⟨by omega, by rw [hh, hst]; rfl⟩, by omega⟩ ⟨rfl, rfl, rfl, i64_succ (by omega), rfl⟩ Incl.of
    · exact ⟨(k : Int), by rw [hh, hst]; simp, Gives.mk rfl Incl.of⟩
  · have hd1 : decide ((k : Int) < (n : Int)) = false := by simp; omega
    have hkn : gs.drop k = [] := by rw [List.drop_eq_nil_iff]; omega
    repeat (first | refine c_seq ?_ | refine c_reg ?_ | refine r_nil ?_ | refine e_n ?_ | refine CutC.go ?_ | refine r_val (by rfl) ?_ | refine c_no (by rfl) (by first | with_reducible assumption | decide) ?_ | refine c_ret ?_ | refine c_exit ?_ | refine e_x ?_ | refine b_x1 ?_ | refine EndC.mk rfl ?_)
    exact ⟨-1, by rw [hh, hkn]; rfl, Gives.mk rfl Incl.of⟩
theorem contains64 {U : Blocks} (x : Nm) (a : Option Addr) (n c : Nat) (gs : List Nm) (hs : SlIn U a n 2 (gs.map Nm.cells)) (hn : n ≤ 140737488355328) {L R2 : Units} [hU : Unit_ L U R2] :
    Does Try.prog 64 #[.slice a n c, .agg #[.int .i64 x.1, .int .u32 x.2]] L (Gives L (.bool (hasN gs x))) := by
  refine does_of_wpC (args := [.slice a n c, .agg #[.int .i64 x.1, .int .u32 x.2]]) Try.func64 rfl (by kernel_rfl) ?_
  repeat (first | (refine r_fun (by rfl) (by rfl) ?_; refine CallC.ex (g := 68) (index68 (U := U) x a n c gs hs hn) (Incl.refl _) (fun z hz => ?_)) | refine c_seq ?_ | refine c_reg ?_ | refine r_nil ?_ | refine e_n ?_ | refine CutC.go ?_ | refine r_val (by rfl) ?_ | refine c_ret ?_ | refine EndC.mk rfl ?_ | refine r_box (by rfl) (by rfl) (fun _ => ?_) | (refine r_load (by rfl) ?_; refine LoadC.agg (by rfl) (by rfl) ?_))
  exact Gives.mk (congrArg Value.bool hz) Incl.of
end Go.Proofs.Ythijlgjfgliinaa
end
