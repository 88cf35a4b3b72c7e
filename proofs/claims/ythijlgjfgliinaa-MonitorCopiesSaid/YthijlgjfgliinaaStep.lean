/- Operations that make memory: the new block behind a name of its own. -/
import Derived.Test.YthijlgjfgliinaaMap
set_option linter.all false
namespace Go
variable [Env]
section
variable {P : Program} {ops : Array Oper} {Q : Exit → Act → World → Prop} {rest : List Oper} {a : Act} {L : Units} {x : St L} {d : Option Tmp} {ty : TypeId} {pos : String} {af : Array Edge}

theorem wpList_new_st {o : Oper} {v : Nat → Value} {ob : Obj} (hg : o.guard = none) (hrun : ∀ w, (execOp a.eval o).run P w = .ok (.value (v w.heap.size)) (w.alloc ob))
    (h : ∀ (nb : Nat) (y : St ([(nb, ob)] :: L)), wpList P ops Q rest (a.put o.dst (v nb)) y.w) : wpList P ops Q (o :: rest) a x.w :=
  wpList_plain hg fun K hK => by
    unfold Oper.wp
    rw [hrun]
    exact hK _ _ (h _ (x.alloc ob))
theorem wpList_box_st {T : TypeId} {v : Operand} {cs : Array Value} (hv : (a.eval v).cells = cs)
    (h : ∀ (nb : Nat) (y : St ([(nb, .cells cs T)] :: L)), wpList P ops Q rest (a.put d (.pointer (some ⟨nb, 0, none⟩))) y.w) :
    wpList P ops Q ({ dst := d, op := .box T v, type := ty, pos := pos, after := af, guard := none } :: rest) a x.w :=
  wpList_new_st (v := fun nb => .pointer (some ⟨nb, 0, none⟩)) rfl (fun w => by simp [execOp, Instr.box, newVar, newRow, hv]) h
theorem wpList_alloc_st {T : TypeId} {z : Value} {cs : Array Value} (hz : (P.info? T).bind (·.zero) = some z) (hc : z.cells = cs)
    (h : ∀ (nb : Nat) (y : St ([(nb, .cells cs T)] :: L)), wpList P ops Q rest (a.put d (.pointer (some ⟨nb, 0, none⟩))) y.w) :
    wpList P ops Q ({ dst := d, op := .alloc T, type := ty, pos := pos, after := af, guard := none } :: rest) a x.w :=
  wpList_new_st (v := fun nb => .pointer (some ⟨nb, 0, none⟩)) rfl (fun w => by
    cases hi : P.info? T with
    | none => simp [hi] at hz
    | some i =>
      simp only [hi, Option.bind_some] at hz
      simp [execOp, Instr.alloc, zeroValue, typeInfo, hi, hz, newVar, newRow, hc]) h
theorem wpList_makeMap_st {κ β : Type} {T : TypeId} (ek : κ → Value) (ev : β → Value)
    (h : ∀ (nb : Nat) (y : St ([(nb, (GMap.empty κ β).obj ek ev)] :: L)), wpList P ops Q rest (a.put d (.map (some nb))) y.w) :
    wpList P ops Q ({ dst := d, op := .makeMap T none, type := ty, pos := pos, after := af, guard := none } :: rest) a x.w :=
  wpList_new_st (v := fun nb => .map (some nb)) (ob := (GMap.empty κ β).obj ek ev) rfl (fun w => by simp [execOp, Instr.makeMap, GMap.empty, GMap.obj]) h
theorem wpList_buildSlice_st {T E : TypeId} {n : Nat} {parts : Array (Nat × Operand)} {cs : Array Value}
    (hv : ∀ w, (Instr.buildSlice T n (parts.map fun (i, x) => (i, a.eval x))).run P w = .ok (.slice (some ⟨w.heap.size, 0, none⟩) n n) (w.alloc (.cells cs E)))
    (h : ∀ (nb : Nat) (y : St ([(nb, .cells cs E)] :: L)), wpList P ops Q rest (a.put d (.slice (some ⟨nb, 0, none⟩) n n)) y.w) :
    wpList P ops Q ({ dst := d, op := .buildSlice T n parts, type := ty, pos := pos, after := af, guard := none } :: rest) a x.w :=
  wpList_new_st (v := fun nb => .slice (some ⟨nb, 0, none⟩) n n) rfl (fun w => by simp [execOp, hv]) h
end
end Go
