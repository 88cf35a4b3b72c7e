/- Closed facts: which struct types are compared field by field. -/
import Derived.Test.YthijlgjfgliinaaProg
import Derived.Test.YthijlgjfgliinaaMap
import Derived.LaidEqlPtr
set_option linter.all false
namespace Go.Proofs.Ythijlgjfgliinaa
open Go.RowKit
variable [Env]
set_option maxRecDepth 100000
@[go_sem] theorem Try.stood30 : Try.prog.stoodInHeld 30 = false := by kernel_rfl
@[go_sem] theorem Try.guard30 : Try.prog.eqGuardType Try.prog.depth 30 = false := by kernel_rfl
@[go_sem] theorem Try.stood69 : Try.prog.stoodInHeld 69 = false := by kernel_rfl
@[go_sem] theorem Try.guard69 : Try.prog.eqGuardType Try.prog.depth 69 = false := by kernel_rfl
@[go_sem] theorem Try.stood71 : Try.prog.stoodInHeld 71 = false := by kernel_rfl
@[go_sem] theorem Try.guard71 : Try.prog.eqGuardType Try.prog.depth 71 = false := by kernel_rfl
@[go_sem] theorem Try.stood121 : Try.prog.stoodInHeld 121 = false := by kernel_rfl
@[go_sem] theorem Try.guard121 : Try.prog.eqGuardType Try.prog.depth 121 = false := by kernel_rfl
/-- Are two configurations the same? -/
def confEq (a b c d : Int) : Bool := a == c && b == d
theorem confEq_iff {a b c d : Int} : confEq a b c d = true ↔ a = c ∧ b = d := by simp [confEq]
theorem confEq_false {a b c d : Int} : confEq a b c d = false ↔ ¬ (a = c ∧ b = d) := by rw [← confEq_iff]; simp
@[go_sem high] theorem eq30 (w : World) (a b c d : Int) : (binOp .eql 30 (.agg #[.int .u64 a, .int .i64 b]) (.agg #[.int .u64 c, .int .i64 d])).run Try.prog w = .ok (.bool (confEq a b c d)) w := by
  simp [go_sem, confEq]
  by_cases h : a = c <;> by_cases h2 : b = d <;> simp [h, h2]
@[go_sem high] theorem neq30 (w : World) (a b c d : Int) : (binOp .neq 30 (.agg #[.int .u64 a, .int .i64 b]) (.agg #[.int .u64 c, .int .i64 d])).run Try.prog w = .ok (.bool (!confEq a b c d)) w := by
  simp [go_sem, confEq]
  by_cases h : a = c <;> by_cases h2 : b = d <;> simp [h, h2]
@[go_sem high] theorem neq121 (w : World) (a b c d a' b' c' d' : Int) : (binOp .neq 121 (.agg #[.int .u64 a, .int .i64 b, .int .u64 c, .int .i64 d]) (.agg #[.int .u64 a', .int .i64 b', .int .u64 c', .int .i64 d'])).run Try.prog w = .ok (.bool (!(confEq a b a' b' && confEq c d c' d'))) w := by
  simp [go_sem, confEq]
  by_cases h : a = a' <;> by_cases h2 : b = b' <;> by_cases h3 : c = c' <;> by_cases h4 : d = d' <;> simp [h, h2, h3, h4]

/-- A message's place: its configuration, its sender, its number. -/
structure Place where
  epoch : Int
  rep : Int
  frm : Int
  seq : Int
deriving DecidableEq
/-- A message that a process had. -/
structure Had where
  proc : Int
  place : Place
deriving DecidableEq
abbrev Place.key (p : Place) : Value := .agg #[.int .u64 p.epoch, .int .i64 p.rep, .int .i64 p.frm, .int .u32 p.seq]
abbrev Had.key (p : Had) : Value := .agg #[.int .i64 p.proc, .int .u64 p.place.epoch, .int .i64 p.place.rep, .int .i64 p.place.frm, .int .u32 p.place.seq]
abbrev confKey (p : Int × Int) : Value := .agg #[.int .u64 p.1, .int .i64 p.2]
theorem KL3 : KL Try.prog 3 (fun p : Int => Value.int .i64 p) := KL.of_int Try.underlying3
theorem check_int (em : Bool) (d : Nat) (t : TypeId) (k k' : IntKind) (a : Int) (w : World) (h : Try.prog.underlying t = some (.int k')) : (Instr.checkKey em (d + 1) t (.int k a)).run Try.prog w = .ok () w := by
  unfold Instr.checkKey
  simp [run_underlying h]
theorem check30 (em : Bool) (d : Nat) (a b : Int) (w : World) : (Instr.checkKey em (d + 2) 30 (.agg #[.int .u64 a, .int .i64 b])).run Try.prog w = .ok () w := by
  unfold Instr.checkKey
  simp [go_sem, check_int]
theorem KL30 : KL Try.prog 30 confKey := by
  refine KL.of_eq (d := _) Try.underlying30 (fun a b => rfl) (fun a b w => ?_) (fun em a w => check30 em 9998 a.1 a.2 w) (fun a => by simp [Instr.sameBits])
  obtain ⟨a1, a2⟩ := a
  obtain ⟨b1, b2⟩ := b
  simp [Op.equal, Op.maxDepth, go_sem]
  by_cases h : a1 = b1 <;> by_cases h2 : a2 = b2 <;> simp [h, h2, eq_comm]
theorem check69 (em : Bool) (d : Nat) (a b c e : Int) (w : World) : (Instr.checkKey em (d + 3) 69 (.agg #[.int .u64 a, .int .i64 b, .int .i64 c, .int .u32 e])).run Try.prog w = .ok () w := by
  unfold Instr.checkKey
  simp [go_sem, check_int, check30]
theorem KL69 : KL Try.prog 69 Place.key := by
  refine KL.of_eq (d := _) Try.underlying69 (fun a b => rfl) (fun a b w => ?_) (fun em a w => check69 em 9997 a.1 a.2 a.3 a.4 w) (fun a => by simp [Instr.sameBits])
  obtain ⟨a1, a2, a3, a4⟩ := a
  obtain ⟨b1, b2, b3, b4⟩ := b
  simp [Op.equal, Op.maxDepth, go_sem]
  by_cases h : a1 = b1 <;> by_cases h2 : a2 = b2 <;> by_cases h3 : a3 = b3 <;> by_cases h4 : a4 = b4 <;> simp [h, h2, h3, h4, eq_comm]
theorem check71 (em : Bool) (d : Nat) (f a b c e : Int) (w : World) : (Instr.checkKey em (d + 4) 71 (.agg #[.int .i64 f, .int .u64 a, .int .i64 b, .int .i64 c, .int .u32 e])).run Try.prog w = .ok () w := by
  unfold Instr.checkKey
  simp [go_sem, check_int, check69]
theorem KL71 : KL Try.prog 71 Had.key := by
  refine KL.of_eq (d := _) Try.underlying71 (fun a b => rfl) (fun a b w => ?_) (fun em a w => check71 em 9996 a.1 a.2.1 a.2.2 a.2.3 a.2.4 w) (fun a => by simp [Instr.sameBits])
  obtain ⟨a0, a1, a2, a3, a4⟩ := a
  obtain ⟨b0, b1, b2, b3, b4⟩ := b
  simp [Op.equal, Op.maxDepth, go_sem]
  by_cases h0 : a0 = b0 <;> by_cases h : a1 = b1 <;> by_cases h2 : a2 = b2 <;> by_cases h3 : a3 = b3 <;> by_cases h4 : a4 = b4 <;> simp [h0, h, h2, h3, h4, eq_comm]
/-- Are two places one? -/
def sameP (a b : Nat) : Bool := decide (a = b)
theorem ptr57 {L : Units} (x : St L) (a b : Nat) {c d : Array Value} {T U : TypeId} [Has L a (.cells c T)] [Has L b (.cells d U)] :
    (binOp .eql 57 (.pointer (some ⟨a, 0, none⟩)) (.pointer (some ⟨b, 0, none⟩))).run Try.prog x.w = .ok (.bool (sameP a b)) x.w := by
  have hi : ∃ i, Try.prog.info? 66 = some i ∧ i.size = 9 := ⟨_, rfl, rfl⟩
  obtain ⟨i, hi, hs⟩ := hi
  by_cases h : a = b
  · subst h
    rw [run_eql_ptr_same x.w _ Try.underlying57 hi]
    simp [sameP]
  · rw [run_eql_ptr_other x.w (ca := c) (cb := d) (ta := T) (tb := U) Try.underlying57 hi (by omega) (by intro e; cases e; exact h rfl) x.heap x.heap]
    simp [sameP, h]
attribute [go_sem high] ptr57
end Go.Proofs.Ythijlgjfgliinaa
