/- Part 5 of the proof of what MonJudges says. -/
import Derived.Test.YthijlgjfgliinaaJg02
import Derived.Test.YthijlgjfgliinaaJg01
import Derived.Test.YthijlgjfgliinaaJg04
section
/- The steps' rules; regions that draw their order. -/
set_option linter.all false
namespace Go
variable [Env]
section
variable {P : Program}
/-! ### Types, as they are asked -/
def nonAgg (P : Program) (t : TypeId) : Bool := match P.underlying t, P.info? t with
  | some (.struct _), _ => false
  | some (.array _ _), _ => false
  | some _, some i => i.size == 1
  | _, _ => false
def aggSize (P : Program) (t : TypeId) : Option Nat := match P.underlying t with
  | some (.struct _) => (P.info? t).map (·.size)
  | some (.array _ _) => (P.info? t).map (·.size)
  | _ => none
theorem run_isAgg_no {t : TypeId} (h : nonAgg P t = true) (w : World) : (isAgg t).run P w = .ok false w ∧ ∃ i, P.info? t = some i ∧ i.size = 1 := by
  unfold nonAgg at h
  cases hu : P.underlying t with
  | none => simp [hu] at h
  | some d =>
    cases hi : P.info? t with
    | none => rw [hu, hi] at h; cases d <;> simp at h
    | some i =>
      rw [hu, hi] at h
      refine ⟨?_, i, rfl, ?_⟩
      · unfold isAgg
        cases d <;> first | (simp at h; done) | simp [run_underlying hu]
      · cases d <;> first | (simp at h; done) | simpa using h
theorem run_isAgg_yes {t : TypeId} {n : Nat} (h : aggSize P t = some n) (w : World) : (isAgg t).run P w = .ok true w ∧ ∃ i, P.info? t = some i ∧ i.size = n := by
  unfold aggSize at h
  cases hu : P.underlying t with
  | none => simp [hu] at h
  | some d =>
    rw [hu] at h
    have hm : (P.info? t).map (·.size) = some n ∧ (isAgg t).run P w = .ok true w := by
      cases d <;> first | (simp at h; done) | exact ⟨h, by simp [isAgg, run_underlying hu]⟩
    obtain ⟨i, hi, hs⟩ := Option.map_eq_some_iff.1 hm.1
    exact ⟨hm.2, i, hi, hs⟩

namespace W
def forceL (g : Value → Option Value) : List Value → Option (List Value)
  | [] => some []
  | v :: l => match g v, forceL g l with
    | some u, some r => some (u :: r)
    | _, _ => none
/-- The same value, laid open. -/
def forceV : Nat → Value → Option Value
  | 0, v => some v
  | n + 1, v => match v with
    | .bool b => some (.bool b)
    | .int k i => some (.int k i)
    | .float k i => some (.float k i)
    | .complex k a b => some (.complex k a b)
    | .string s => some (.string s)
    | .pointer none => some (.pointer none)
    | .pointer (some ⟨b, o, none⟩) => some (.pointer (some ⟨b, o, none⟩))
    | .pointer (some ⟨b, o, some s⟩) => some (.pointer (some ⟨b, o, some s⟩))
    | .slice a l c => some (.slice a l c)
    | .map r => some (.map r)
    | .chan r => some (.chan r)
    | .func fn a b => some (.func fn a b)
    | .nilFunc => some .nilFunc
    | .iface t v => match forceV n v with
      | some u => some (.iface t u)
      | none => none
    | .nilIface => some .nilIface
    | .agg cs => match forceL (forceV n) cs.toList with
      | some l => some (.agg l.toArray)
      | none => none
    | .tuple cs => match forceL (forceV n) cs.toList with
      | some l => some (.tuple l.toArray)
      | none => none
theorem forceL_eq {g : Value → Option Value} (hg : ∀ v u, g v = some u → u = v) : ∀ (l r : List Value), forceL g l = some r → r = l
  | [], r, h => by simp only [forceL, Option.some.injEq] at h; exact h.symm
  | v :: l, r, h => by
    simp only [forceL] at h
    split at h
    · rename_i u s h1 h2
      simp only [Option.some.injEq] at h
      rw [← h, hg _ _ h1, forceL_eq hg _ _ h2]
    · cases h
theorem forceV_eq : ∀ (n : Nat) (v u : Value), forceV n v = some u → u = v
  | 0, v, u, h => by simp only [forceV, Option.some.injEq] at h; exact h.symm
  | n + 1, v, u, h => by
    unfold forceV at h
    split at h <;> first
      | (simp only [Option.some.injEq] at h; exact h.symm)
      | (split at h
         · rename_i l hl
           simp only [Option.some.injEq] at h
           subst h
           first
             | (rw [forceV_eq n _ _ hl])
             | (rw [forceL_eq (forceV_eq n) _ _ hl])
         · cases h)
/-- A cell of a list, laid open. -/
def cellL : List Value → Nat → Option Value
  | [], _ => none
  | v :: _, 0 => forceV 3 v
  | _ :: r, n + 1 => cellL r n
theorem cellL_eq : ∀ {l : List Value} {n : Nat} {v : Value}, cellL l n = some v → l[n]? = some v
  | [], _, _, h => by simp [cellL] at h
  | u :: _, 0, v, h => by
    simp only [cellL] at h
    rw [forceV_eq _ _ _ h]
    rfl
  | _ :: r, n + 1, v, h => by
    simp only [cellL] at h
    simpa using cellL_eq h
/-- Cells from a place on, laid open. -/
def cellsL : List Value → Nat → Nat → Option (List Value)
  | _, _, 0 => some []
  | [], _, _ + 1 => none
  | _ :: r, o + 1, n + 1 => cellsL r o (n + 1)
  | v :: r, 0, n + 1 => match forceV 3 v, cellsL r 0 n with
    | some u, some s => some (u :: s)
    | _, _ => none
theorem cellsL_eq : ∀ {l : List Value} {o n : Nat} {vs : List Value}, cellsL l o n = some vs → (l.drop o).take n = vs ∧ vs.length = n
  | l, o, 0, vs, h => by
    have : vs = [] := by cases l <;> simp [cellsL] at h <;> exact h
    subst this; simp
  | [], _, _ + 1, vs, h => by simp [cellsL] at h
  | _ :: r, o + 1, n + 1, vs, h => by
    simp only [cellsL] at h
    simpa using cellsL_eq h
  | v :: r, 0, n + 1, vs, h => by
    simp only [cellsL] at h
    split at h
    · rename_i u s h1 h2
      simp only [Option.some.injEq] at h
      subst h
      have := cellsL_eq h2
      rw [forceV_eq _ _ _ h1]
      simpa using this
    · cases h
/-- Cells are laid into others. -/
def splice : List Value → Nat → List Value → List Value
  | c :: cs, 0, v :: vs => v :: splice cs 0 vs
  | c :: cs, n + 1, vs => c :: splice cs n vs
  | cs, _, _ => cs
theorem splice_get : ∀ (cs : List Value) (n : Nat) (vs : List Value) (i : Nat), (splice cs n vs)[i]? = if n ≤ i ∧ i < n + vs.length ∧ i < cs.length then vs[i - n]? else cs[i]?
  | [], n, vs, i => by cases n <;> cases vs <;> simp [splice]
  | c :: cs, 0, [], i => by simp [splice]
  | c :: cs, 0, v :: vs, i => by
    cases i with
    | zero => simp [splice]
    | succ i =>
      have := splice_get cs 0 vs i
      simp only [splice, List.getElem?_cons_succ, this, Nat.zero_le, Nat.zero_add, true_and, Nat.sub_zero, List.length_cons]
      by_cases h : i < vs.length ∧ i < cs.length
      · rw [if_pos h, if_pos (by omega)]
      · rw [if_neg h, if_neg (by omega)]
  | c :: cs, n + 1, vs, i => by
    cases i with
    | zero => simp [splice]
    | succ i =>
      have := splice_get cs n vs i
      simp only [splice, List.getElem?_cons_succ, this, List.length_cons]
      by_cases h : n ≤ i ∧ i < n + vs.length ∧ i < cs.length
      · rw [if_pos h, if_pos (by omega)]
        congr 1
        omega
      · rw [if_neg h, if_neg (by omega)]
def spliceS : List Value → Nat → List Value → Option (List Value)
  | cs, 0, [] => some cs
  | c :: cs, 0, v :: vs => match spliceS cs 0 vs with
    | some s => some (v :: s)
    | none => none
  | c :: cs, n + 1, vs => match spliceS cs n vs with
    | some s => some (c :: s)
    | none => none
  | [], _, _ => none
theorem spliceS_eq : ∀ {cs : List Value} {n : Nat} {vs r : List Value}, spliceS cs n vs = some r → splice cs n vs = r ∧ n + vs.length ≤ cs.length
  | cs, 0, [], r, h => by cases cs <;> (simp only [spliceS, Option.some.injEq] at h; subst h; simp [splice])
  | c :: cs, 0, v :: vs, r, h => by
    simp only [spliceS] at h
    split at h
    · rename_i s hs
      simp only [Option.some.injEq] at h
      obtain ⟨h1, h2⟩ := spliceS_eq hs
      exact ⟨by simp only [splice, h1, h], by simp at h2 ⊢; omega⟩
    · cases h
  | c :: cs, n + 1, vs, r, h => by
    simp only [spliceS] at h
    split at h
    · rename_i s hs
      simp only [Option.some.injEq] at h
      obtain ⟨h1, h2⟩ := spliceS_eq hs
      exact ⟨by simp only [splice, h1, h], by simp; omega⟩
    · cases h
  | [], n + 1, vs, r, h => by simp [spliceS] at h
  | [], 0, v :: vs, r, h => by simp [spliceS] at h
end W
open W
/-! ### Memory -/
theorem Addr.add_none (b o j : Nat) : (⟨b, o, none⟩ : Addr).add j = ⟨b, o + j, none⟩ := by unfold Addr.add; split <;> simp_all
variable {L M : Units} {b off : Nat} {c : Array Value} {T : TypeId} {fz : Nat × Nat}
theorem St.cellAt [Has L b (.cells c T fz)] (x : St L) (o : Nat) : x.w.cell? ⟨b, o, none⟩ = c[o]? := by
  rw [St.cell, x.heap, cellOf_cells]
theorem LdC.mk {v : Value} {K : Value → Prop} [Has L b (.cells c T fz)] (hv : c[off]? = some v) (h : K v) : LdC ⟨b, off, none⟩ L K :=
  ⟨v, fun x => by rw [St.cellAt]; exact hv, h⟩
theorem LoadC.at {t : TypeId} {v : Value} {K : Value → Prop} [Has L b (.cells c T fz)] (ht : nonAgg P t = true) (hv : c[off]? = some v) (h : K v) : LoadC P t (.pointer (some ⟨b, off, none⟩)) L K :=
  ⟨v, fun x => by
    simp only [Instr.loadAt, Instr.sureAddr, loadVar, Sem.run_bind, Sem.run_pure, Result.andThen_ok, (run_isAgg_no ht x.w).1]
    simp [load, Sem.run, St.cellAt, hv], h⟩
theorem LoadC.one {t : TypeId} {v : Value} {K : Value → Prop} [Has L b (.cells c T fz)] (ht : nonAgg P t = true) (hv : W.cellL c.toList off = some v) (h : K v) : LoadC P t (.pointer (some ⟨b, off, none⟩)) L K :=
  LoadC.at ht (by rw [← Array.getElem?_toList]; exact W.cellL_eq hv) h
theorem LoadC.aggAt {t : TypeId} {n : Nat} {vs : List Value} {K : Value → Prop} [Has L b (.cells c T fz)] (ht : aggSize P t = some n) (hv : (c.toList.drop off).take n = vs) (hn : vs.length = n) (h : K (.agg vs.toArray)) : LoadC P t (.pointer (some ⟨b, off, none⟩)) L K :=
  ⟨_, fun x => by
    obtain ⟨h1, i, hi, hs⟩ := run_isAgg_yes ht x.w
    have hl := run_loadCells_list (P := P) (w := x.w) ⟨b, off, none⟩ vs (fun j v hj => by
      rw [Addr.add_none, St.cellAt]
      rw [← hv, List.getElem?_take] at hj
      split at hj
      · rw [List.getElem?_drop] at hj
        simpa using hj
      · cases hj)
    rw [hn] at hl
    simp only [Instr.loadAt, Instr.sureAddr, loadVar, Sem.run_bind, Sem.run_pure, Result.andThen_ok, h1, if_true, sizeOf, typeInfo, program, Sem.run, hi, hs, hl], h⟩
theorem LoadC.agg {t : TypeId} {n : Nat} {vs : List Value} {K : Value → Prop} [Has L b (.cells c T fz)] (ht : aggSize P t = some n) (hv : W.cellsL c.toList off n = some vs) (h : K (.agg vs.toArray)) : LoadC P t (.pointer (some ⟨b, off, none⟩)) L K :=
  LoadC.aggAt ht (W.cellsL_eq hv).1 (W.cellsL_eq hv).2 h
theorem StoreC.all {t : TypeId} {v : Value} {n : Nat} {vs : List Value} {c' : List Value} {K : Units → Prop} [Has L b (.cells c T (0, 0))] (ht : (P.info? t).map (·.size) = some n) (hv : v.cells.toList = vs) (hn : vs.length = n) (h1 : vs.all Value.oneCell' = true)
    (hc : spliceS c.toList off vs = some c') [hl : Lay L b (.cells c'.toArray T (0, 0)) M] (h : K M) : StoreC P t (.pointer (some ⟨b, off, none⟩)) v L K := by
  obtain ⟨hc, hb⟩ := spliceS_eq hc
  rw [hn] at hb
  subst hc
  refine ⟨M, fun x => ?_, h⟩
  obtain ⟨i, hi, hs⟩ := Option.map_eq_some_iff.1 ht
  have hv : v.cells = vs.toArray := by rw [← hv]
  have hb0 : x.w.heap[b]? = some (.cells c T (0, 0)) := x.heap
  have hst := run_storeCells_at P b off T vs 0 c x.w hb0 (by simpa [hn] using hb) (fun v hv => List.all_eq_true.1 h1 v hv)
  have e : (c.toList.take (off + 0) ++ vs ++ c.toList.drop (off + 0 + vs.length)).toArray = (splice c.toList off vs).toArray := by
    apply Array.ext'
    apply List.ext_getElem?
    intro j
    rw [splice_get]
    simp only [Array.length_toList] at hb ⊢
    rw [Nat.add_zero, List.append_assoc, List.getElem?_append]
    simp only [List.length_take, Array.length_toList]
    split
    · rename_i hj
      rw [if_neg (by omega), List.getElem?_take, if_pos (by omega)]
    · rename_i hj
      rw [List.getElem?_append]
      split
      · rw [if_pos (by omega)]
        congr 1
        omega
      · rw [if_neg (by omega), List.getElem?_drop]
        congr 1
        omega
  rw [e] at hst
  refine ⟨_, ?_, x.ok.lay (H := hl) (heap_setRow hb0) heap_setRow_ne⟩
  have hsz : vs.toArray.size = n := by simpa using hn
  simp only [Instr.storeAt, Instr.sureAddr, storeVar, Sem.run_bind, Sem.run_pure, Result.andThen_ok, sizeOf, typeInfo, program, Sem.run, hi, hs, hv, hsz]
  simp [hst]
theorem GetC.mk {r : Nat} {o : Obj} {K : Obj → Prop} [Has L r o] (ho : ∀ c t f, o ≠ .cells c t f) (h : K o) : GetC r L K := ⟨o, fun x => ⟨x.heap, ho⟩, h⟩
theorem ShC.mk {K : Option (TypeId × Nat) → Prop} [Has L b (.cells c T fz)] (h : K (some (T, c.size))) : ShC b L K := ⟨_, fun x => by unfold World.shape?; rw [x.heap], h⟩
theorem NewC.mk {o : Obj} {K : Nat → Units → Prop} (h : ∀ nb, K nb ([(nb, o)] :: L)) : NewC o L K := h
theorem NewC.as {o : Obj} (o' : Obj) {K : Nat → Units → Prop} (ho : o = o') (h : ∀ nb, K nb ([(nb, o')] :: L)) : NewC o L K := by subst ho; exact h
/-! ### Ways -/
theorem BrC.yes {t : Bool} {A B : Prop} (h : t = true) (h1 : A) : BrC t A B := by subst h; exact h1
theorem BrC.no {t : Bool} {A B : Prop} (h : t = false) (h1 : B) : BrC t A B := by subst h; exact h1
theorem GuardC.tt {c : Bool} {A B : Prop} (h : c = true) (a : A) : GuardC c true A B := by subst h; exact a
theorem GuardC.tf {c : Bool} {A B : Prop} (h : c = false) (k : B) : GuardC c true A B := by subst h; exact k
theorem GuardC.ff {c : Bool} {A B : Prop} (h : c = false) (a : A) : GuardC c false A B := by subst h; exact a
theorem GuardC.ft {c : Bool} {A B : Prop} (h : c = true) (k : B) : GuardC c false A B := by subst h; exact k
/-! ### Calls -/
theorem CallC.ret {g : FuncId} {args : Array Value} {v : Value} {K : Value → Units → Prop} {E : List PanicEntry → Units → Prop} (h : ∀ x : St L, Calls P g args x.w (Ret M v)) (k : K v M) : CallC P g args L K E := by
  intro x
  refine (h x).mono ?_
  rintro e w' ⟨rfl, y, rfl⟩
  exact ⟨M, ⟨y, rfl⟩, k⟩
theorem CallC.does {g : FuncId} {args : Array Value} {R : Ending → Units → Prop} {K : Value → Units → Prop} {E : List PanicEntry → Units → Prop} (h : Does P g args L R) (k : ∀ e N, R e N → match e with | .returned v => K v N | .panicked ch => E ch N | .outgrown => False) : CallC P g args L K E :=
  h.mono k
/-- The call hands back v, and N is known. -/
def Gives (N : Units) (v : Value) (e : Ending) (M : Units) : Prop := e = .returned v ∧ Incl M N
theorem Gives.mk {N M : Units} {v v' : Value} (h : v' = v) (hi : Incl M N) : Gives N v (.returned v') M := ⟨by rw [h], hi⟩
theorem Does.ret {g : FuncId} {args : Array Value} {v : Value} (h : Does P g args L (Gives M v)) (x : St L) : Calls P g args x.w (Ret M v) :=
  (h x).mono (by rintro e w ⟨N, ⟨y, rfl⟩, rfl, hi⟩; exact ⟨rfl, ⟨y.w, hi _ y.ok⟩, rfl⟩)
theorem CallC.gives {g : FuncId} {args : Array Value} {v : Value} {K : Value → Units → Prop} {E : List PanicEntry → Units → Prop} (h : Does P g args L (Gives M v)) (k : K v M) : CallC P g args L K E :=
  CallC.ret h.ret k
theorem Does.of_ret {g : FuncId} {args : Array Value} {v : Value} (h : ∀ x : St L, Calls P g args x.w (Ret M v)) : Does P g args L (Gives M v) :=
  fun x => (h x).mono (by rintro e w ⟨rfl, y, rfl⟩; exact ⟨M, ⟨y, rfl⟩, rfl, Incl.refl _⟩)
end

/-! ### Regions that draw their order -/
section
variable (P : Program)
def semQ {α : Type} : Sem α → Units → (α → Prop) → Prop
  | .pure a, _, K => K a
  | .program k, L, K => semQ (k P) L K
  | .load _ a k, L, K => LdC a L fun v => semQ (k v) L K
  | .shape r k, L, K => ShC r L fun s => semQ (k s) L K
  | .frozen a k, L, K => FzC a L fun s => semQ (k s) L K
  | .getObj r k, L, K => GetC r L fun o => semQ (k o) L K
  | .mark _ k, L, K => semQ k L K
  | _, _, _ => False
def QCallC (g : FuncId) (args : Array Value) (L : Units) (K : Value → Prop) : Prop := ∃ v, (∀ x : St L, Calls P g args x.w fun e w' => e = .returned v ∧ InSt L w') ∧ K v
def qopC (o : Oper) (f : Fr) (L : Units) (K : Value → Prop) : Prop :=
  match o.op with
  | .load t a => LoadC P t (f.ev a) L K
  | .lookup t m k ok => ReadC P (Instr.lookup t (f.ev m) (f.ev k) ok) L K
  | .call { callee := .builtin .append, .. } => False
  | .call { callee := .builtin .delete, .. } => False
  | .call { callee := .builtin .copy, .. } => False
  | .call { callee := .builtin .recover, .. } => False
  | _ => (∃ v, (∀ x : St L, (execOp f.ev o).run P x.w = .ok (.value v) x.w) ∧ K v) ∨ semQ P (execOp f.ev o) L fun nx => match nx with
    | .value v => K v
    | .skip => K undef
    | .enter g args => QCallC P g args L K
    | _ => False
def quietC (ops : Array Oper) (L : Units) (K : Fr → Prop) : List Oper → Fr → Prop
  | [], f => K f
  | o :: rest, f => guardC f ops o.guard (qopC P o f L fun v => quietC ops L K rest (f.put o.dst v)) (quietC ops L K rest (f.put o.dst undef))
end
section
variable {P : Program} {L : Units}
theorem QCallC.ret {g : FuncId} {args : Array Value} {v : Value} {K : Value → Prop} (h : ∀ x : St L, Calls P g args x.w (Ret L v)) (k : K v) : QCallC P g args L K := ⟨v, h, k⟩
theorem QCallC.gives {g : FuncId} {args : Array Value} {v : Value} {K : Value → Prop} (h : Does P g args L (Gives L v)) (k : K v) : QCallC P g args L K := ⟨v, fun x => h.ret x, k⟩
theorem semQ_run {α : Type} (s : Sem α) : ∀ {K : α → Prop}, semQ P s L K → ∃ a, (∀ x : St L, s.run P x.w = .ok a x.w) ∧ K a := by
  induction s with
  | pure a => intro K h; exact ⟨a, fun x => rfl, h⟩
  | program k ih => intro K h; exact ih P h
  | load m a k ih =>
    intro K ⟨v, hv, h⟩
    obtain ⟨u, hu, hk⟩ := ih v h
    exact ⟨u, fun x => by simp only [Sem.run, hv x]; exact hu x, hk⟩
  | shape r k ih =>
    intro K ⟨v, hv, h⟩
    obtain ⟨u, hu, hk⟩ := ih v h
    exact ⟨u, fun x => by simp only [Sem.run, hv x]; exact hu x, hk⟩
  | frozen r k ih =>
    intro K ⟨v, hv, h⟩
    obtain ⟨u, hu, hk⟩ := ih v h
    exact ⟨u, fun x => by simp only [Sem.run, hv x]; exact hu x, hk⟩
  | getObj r k ih =>
    intro K ⟨o, ho, h⟩
    obtain ⟨u, hu, hk⟩ := ih o h
    refine ⟨u, fun x => ?_, hk⟩
    obtain ⟨h1, h2⟩ := ho x
    have e : (Sem.getObj r k).run P x.w = (k o).run P x.w := by
      cases o <;> first | (simp only [Sem.run, h1]; done) | exact absurd rfl (h2 _ _ _)
    rw [e]
    exact hu x
  | mark m k ih =>
    intro K h
    obtain ⟨u, hu, hk⟩ := ih h
    exact ⟨u, fun x => hu x, hk⟩
  | _ => intro K h; exact absurd h id
theorem qopC_quiet {o : Oper} {f : Fr} {K : Value → Prop} {a : Act} {n : Nat} (hl : Like n a f) (h : qopC P o f L K) : ∃ v, (∀ w, InSt L w → o.quietAt P a (InSt L) w v) ∧ K v := by
  have hval : ∀ (s : Sem Next) {v : Value}, execOp f.ev o = s → (∀ x : St L, s.run P x.w = .ok (.value v) x.w) → K v → ∃ v, (∀ w, InSt L w → o.quietAt P a (InSt L) w v) ∧ K v := by
    intro s v hs hr hK
    refine ⟨v, ?_, hK⟩
    rintro w ⟨x, rfl⟩
    unfold Oper.quietAt
    rw [hl.eval, hs, hr x]
    exact ⟨rfl, rfl⟩
  have hsem : semQ P (execOp f.ev o) L (fun nx => match nx with
    | .value v => K v
    | .skip => K undef
    | .enter g args => QCallC P g args L K
    | _ => False) → ∃ v, (∀ w, InSt L w → o.quietAt P a (InSt L) w v) ∧ K v := by
    intro h
    obtain ⟨nx, hr, hk⟩ := semQ_run _ h
    cases nx <;> simp only at hk
    case value v =>
      refine ⟨v, ?_, hk⟩
      rintro w ⟨x, rfl⟩
      unfold Oper.quietAt
      rw [hl.eval, hr x]
      exact ⟨rfl, rfl⟩
    case skip =>
      refine ⟨undef, ?_, hk⟩
      rintro w ⟨x, rfl⟩
      unfold Oper.quietAt
      rw [hl.eval, hr x]
      exact ⟨rfl, rfl⟩
    case enter g args =>
      obtain ⟨v, hv, hk⟩ := hk
      refine ⟨v, ?_, hk⟩
      rintro w ⟨x, rfl⟩
      unfold Oper.quietAt
      rw [hl.eval, hr x]
      exact ⟨rfl, hv x⟩
  unfold qopC at h
  split at h
  · rename_i t ad e
    obtain ⟨v, hv, h⟩ := h
    exact hval _ rfl (fun x => by simp [execOp, e, hv x]) h
  · rename_i t m k ok e
    obtain ⟨v, hv, h⟩ := h
    exact hval _ rfl (fun x => by simp [execOp, e, hv x]) h
  · exact h.elim
  · exact h.elim
  · exact h.elim
  · exact h.elim
  · rcases h with ⟨v, hr, h⟩ | h
    · exact hval _ rfl hr h
    · exact hsem h
theorem quietC_wp {ops : Array Oper} {n : Nat} {K : Fr → Prop} : ∀ {l : List Oper} {f : Fr} {a : Act}, (l.all (Oper.okD n)) = true → Like n a f → quietC P ops L K l f → wpQuiet P ops (InSt L) (fun a' => ∃ f', Like n a' f' ∧ K f') l a
  | [], f, a, _, hl, h => ⟨f, hl, h⟩
  | o :: l, f, a, hok, hl, h => by
    simp only [List.all_cons, Bool.and_eq_true] at hok
    have hyes : qopC P o f L (fun v => quietC P ops L K l (f.put o.dst v)) → Region.wanted o (Go.yielded ops a.tmps) = true → wpQuiet P ops (InSt L) (fun a' => ∃ f', Like n a' f' ∧ K f') (o :: l) a := by
      intro h hw
      unfold wpQuiet
      rw [if_pos hw]
      obtain ⟨v, hv, hk⟩ := qopC_quiet hl h
      exact ⟨v, hv, quietC_wp hok.2 (hl.put (Oper.okD_lt hok.1) v) hk⟩
    have hno : quietC P ops L K l (f.put o.dst undef) → Region.wanted o (Go.yielded ops a.tmps) = false → wpQuiet P ops (InSt L) (fun a' => ∃ f', Like n a' f' ∧ K f') (o :: l) a := by
      intro h hw
      unfold wpQuiet
      rw [if_neg (by simp [hw])]
      exact quietC_wp hok.2 (hl.put (Oper.okD_lt hok.1) undef) h
    simp only [quietC, guardC] at h
    cases hg : o.guard with
    | none =>
      rw [hg] at h
      exact hyes h (by simp [Region.wanted, hg])
    | some p =>
      obtain ⟨j, want⟩ := p
      rw [hg] at h
      simp only at h
      have hy := hl.yielded ops j
      cases hyd : f.yielded ops j with
      | none =>
        rw [hyd] at h
        refine hno h ?_
        simp only [Region.wanted, hg, hy, hyd]
        rfl
      | some c =>
        rw [hyd] at h
        by_cases hc : c = want
        · exact hyes (GuardC.h1 h hc) (by simp [Region.wanted, hg, hy, hyd, hc])
        · exact hno (GuardC.h2 h hc) (by simp [Region.wanted, hg, hy, hyd, hc])
theorem wpQuiet_mono' {ops : Array Oper} {C : World → Prop} {Q Q' : Act → Prop} (hq : ∀ a, Q a → Q' a) : ∀ {l : List Oper} {a : Act}, wpQuiet P ops C Q l a → wpQuiet P ops C Q' l a
  | [], a, h => hq _ h
  | o :: l, a, h => by
    unfold wpQuiet at *
    split
    · rename_i hw
      rw [if_pos hw] at h
      obtain ⟨v, hv, h⟩ := h
      exact ⟨v, hv, wpQuiet_mono' hq h⟩
    · rename_i hw
      rw [if_neg hw] at h
      exact wpQuiet_mono' hq h
/-- All is quiet. -/
theorem DrawC.quiet {id : Nat} {ops : Array Oper} {Q : Exit → Fr → Units → Prop} {f : Fr} (hB : (P.follows .mixedOrders && Region.lexB .any ops) = true) (h : quietC P ops L (fun f' => Q .normal f' L) ops.toList f) : DrawC P id ops Q f L := by
  simp only [Bool.and_eq_true] at hB
  intro n hok a hl x
  refine wp_region_quiet (C := InSt L) hB.1 hB.2 ⟨x.drew, rfl⟩ (wpQuiet_mono' ?_ (quietC_wp hok hl h))
  rintro a' ⟨f', h1, h2⟩ w' hw'
  exact ⟨f', L, h1, hw', h2⟩
/-- The first n0 are quiet, the others stand in a row. -/
theorem DrawC.tail (n0 : Nat) {id : Nat} {ops : Array Oper} {Q : Exit → Fr → Units → Prop} {f : Fr} (hB : (P.follows .mixedOrders && Region.lexTailB .any ops n0) = true)
    (h : quietC P ops L (fun f' => opsC P ops Q (ops.toList.drop n0) f' L) (ops.toList.take n0) f) : DrawC P id ops Q f L := by
  simp only [Bool.and_eq_true] at hB
  intro n hok a hl x
  have hok1 : (ops.toList.take n0).all (Oper.okD n) = true := List.all_eq_true.2 fun o ho => List.all_eq_true.1 hok o (List.mem_of_mem_take ho)
  have hok2 : (ops.toList.drop n0).all (Oper.okD n) = true := List.all_eq_true.2 fun o ho => List.all_eq_true.1 hok o (List.mem_of_mem_drop ho)
  have e : ops = ops.toList.toArray := by simp
  have key : wpQuiet P ops.toList.toArray (InSt L) (fun a' => ∀ w', InSt L w' → wpList P ops.toList.toArray (lift n Q) (ops.toList.drop n0) a' w') (ops.toList.take n0) a := by
    rw [← e]
    refine wpQuiet_mono' ?_ (quietC_wp hok1 hl h)
    rintro a' ⟨f', h1, h2⟩ w' ⟨y, rfl⟩
    exact opsC_wp hok2 h1 h2 y
  have := wp_region_quiet_tail (P := P) (id := id) (Q := lift n Q) (w := x.w) (l := ops.toList) n0 hB.1 (by rw [← e]; exact hB.2) ⟨x.drew, rfl⟩ key
  rwa [← e] at this
end

/-! ### Rules, an operation at a time -/
namespace W
def pureS (P : Program) {α : Type} : Sem α → Option α
  | .pure a => some a
  | .program k => pureS P (k P)
  | _ => none
theorem pureS_semC {P : Program} {α : Type} (s : Sem α) : ∀ {a : α} {K : α → Units → Prop} {E : Value → Units → Prop} {L : Units}, pureS P s = some a → K a L → semC P s K E L := by
  induction s with
  | pure b => intro a K E L h k; simp only [pureS, Option.some.injEq] at h; subst h; exact k
  | program f ih => intro a K E L h k; exact ih P h k
  | _ => intro a K E L h; cases h
theorem pureS_semQ {P : Program} {α : Type} (s : Sem α) : ∀ {a : α} {K : α → Prop} {L : Units}, pureS P s = some a → K a → semQ P s L K := by
  induction s with
  | pure b => intro a K L h k; simp only [pureS, Option.some.injEq] at h; subst h; exact k
  | program f ih => intro a K L h k; exact ih P h k
  | _ => intro a K L h; cases h
/-- Operations with rules of their own. -/
def own (p : Op) : Bool := match p with
  | .load .. => true
  | .store .. => true
  | .lookup .. => true
  | .mapUpdate .. => true
  | .mapEntry .. => true
  | .entryStore .. => true
  | .call { callee := .builtin .append, .. } => true
  | .call { callee := .builtin .delete, .. } => true
  | .call { callee := .builtin .copy, .. } => true
  | .call { callee := .builtin .recover, .. } => true
  | _ => false
/-- The value of an operation that reads no memory. -/
def pureV (P : Program) (o : Oper) (f : Fr) : Option Value :=
  match own o.op, pureS P (execOp f.ev o) with
  | false, some (.value v) => forceV 3 v
  | _, _ => none
section
variable {P : Program} {ops : Array Oper} {Q : Exit → Fr → Units → Prop} {rest : List Oper} {L M : Units} {d : Tmp} {od : Option Tmp} {p : Op} {ty : TypeId} {pos : String} {af : Array Edge} {l : List (Nat × Value)} {base : Nat → Value} {df : List Deferred}
theorem opC_own {o : Oper} {f : Fr} {K : Fr → Units → Prop} {E : List PanicEntry → Units → Prop} (ho : own o.op = false) (h : (∃ v, (∀ x : St L, (execOp f.ev o).run P x.w = .ok (.value v) x.w) ∧ K (f.put o.dst v) L) ∨
    (∃ (v : Nat → Value) (ob : Obj), (∀ x : St L, (execOp f.ev o).run P x.w = .ok (.value (v x.w.heap.size)) (x.w.alloc ob)) ∧ ∀ nb, K (f.put o.dst (v nb)) ([(nb, ob)] :: L)) ∨
    semC P (execOp f.ev o) (nextC P o.dst f K E) (fun v M => E [{ v, recovered := false }] M) L ∨
    (∀ x : St L, ∃ v w', (execOp f.ev o).run P x.w = .ok (.value v) w' ∧ ∃ M, InSt M w' ∧ K (f.put o.dst v) M)) : opC P o f K E L := by
  unfold opC
  split <;> first | exact h | (rename_i e; rw [e] at ho; simp [own] at ho)
theorem qopC_own {o : Oper} {f : Fr} {K : Value → Prop} (ho : own o.op = false) (h : (∃ v, (∀ x : St L, (execOp f.ev o).run P x.w = .ok (.value v) x.w) ∧ K v) ∨ semQ P (execOp f.ev o) L (fun nx => match nx with
    | .value v => K v
    | .skip => K undef
    | .enter g args => QCallC P g args L K
    | _ => False)) : qopC P o f L K := by
  unfold qopC
  split <;> first | exact h | (rename_i e; rw [e] at ho; simp [own] at ho; done)
/-- What is evaluated of operands. -/
def evL (f : Fr) : List Operand → Option (List Value)
  | [] => some []
  | x :: r => match forceV 3 (f.ev x), evL f r with
    | some u, some s => some (u :: s)
    | _, _ => none
theorem evL_eq {f : Fr} : ∀ {xs : List Operand} {vs : List Value}, evL f xs = some vs → xs.map f.ev = vs
  | [], vs, h => by simp only [evL, Option.some.injEq] at h; exact h
  | x :: r, vs, h => by
    simp only [evL] at h
    split at h
    · rename_i u s h1 h2
      simp only [Option.some.injEq] at h
      rw [← h, List.map_cons, evL_eq h2, forceV_eq _ _ _ h1]
    · cases h
def evP (f : Fr) : List (Nat × Operand) → Option (List (Nat × Value))
  | [] => some []
  | x :: r => match forceV 3 (f.ev x.2), evP f r with
    | some u, some s => some ((x.1, u) :: s)
    | _, _ => none
theorem evP_eq {f : Fr} : ∀ {xs : List (Nat × Operand)} {vs : List (Nat × Value)}, evP f xs = some vs → (xs.map fun p => (p.1, f.ev p.2)) = vs
  | [], vs, h => by simp only [evP, Option.some.injEq] at h; exact h
  | x :: r, vs, h => by
    simp only [evP] at h
    split at h
    · rename_i u s h1 h2
      simp only [Option.some.injEq] at h
      rw [← h, List.map_cons, evP_eq h2, forceV_eq _ _ _ h1]
    · cases h
/-- A function that has a text. -/
def textOf (P : Program) (g : FuncId) : Bool := match P.funcs[g]? with
  | some fn => fn.body.isSome && !(fn.name == "runtime.NumGoroutine")
  | none => false
theorem foldl_splice (off : Nat) : ∀ (vs : List Value) (k : Nat) (cs : Array Value) (i : Nat), off + k + vs.length ≤ cs.size →
    ((vs.zipIdx k).foldl (fun cs (p : Value × Nat) => cs.setIfInBounds (off + p.2) p.1) cs)[i]? = if off + k ≤ i ∧ i < off + k + vs.length then vs[i - (off + k)]? else cs[i]?
  | [], k, cs, i, _ => by simp; intro h; omega
  | v :: vs, k, cs, i, h => by
    simp only [List.length_cons] at h
    rw [List.zipIdx_cons, List.foldl_cons, foldl_splice off vs (k + 1) _ i (by simp; omega)]
    simp only [List.length_cons]
    by_cases h1 : off + (k + 1) ≤ i ∧ i < off + (k + 1) + vs.length
    · rw [if_pos h1, if_pos (by omega)]
      have : i - (off + k) = (i - (off + (k + 1))) + 1 := by omega
      rw [this, List.getElem?_cons_succ]
    · rw [if_neg h1, Array.getElem?_setIfInBounds]
      by_cases h2 : i = off + k
      · subst h2
        rw [if_pos rfl, if_pos (by omega), if_pos (by omega)]
        simp
      · rw [if_neg (fun e => h2 e.symm), if_neg (by omega)]
def cellsO : Value → Option (List Value)
  | .agg cs => forceL (fun v => some v) cs.toList
  | .tuple cs => some [.tuple cs]
  | v => some [v]
theorem cellsO_eq {v : Value} {cs : List Value} (h : cellsO v = some cs) : v.cells = cs.toArray := by
  cases v <;> first
    | (have := forceL_eq (g := fun v => some v) (fun v u h => by simpa using h.symm) _ _ h
       subst this
       simp [Value.cells]; done)
    | (simp only [cellsO, Option.some.injEq] at h; subst h; rfl)
def fillL (place : Nat → Option (Nat × Nat)) : List Value → List (Nat × Value) → Option (List Value)
  | cells, [] => some cells
  | cells, p :: rest => match place p.1 with
    | none => none
    | some q => match cellsO p.2 with
      | some vs => match Nat.beq vs.length q.2, spliceS cells q.1 vs with
        | true, some cs => fillL place cs rest
        | _, _ => none
      | none => none
theorem fillL_eq {place : Nat → Option (Nat × Nat)} : ∀ {parts : List (Nat × Value)} {cells r : List Value}, fillL place cells parts = some r → Instr.fill place cells.toArray parts = some r.toArray
  | [], cells, r, h => by simp only [fillL, Option.some.injEq] at h; subst h; rfl
  | (i, v) :: rest, cells, r, h => by
    simp only [fillL] at h
    cases hp : place i with
    | none => rw [hp] at h; cases h
    | some q =>
      rw [hp] at h
      simp only at h
      split at h <;> try (cases h; done)
      rename_i vs hvs
      have hv := cellsO_eq hvs
      split at h <;> try (cases h; done)
      rename_i cs h1 h2
      have e1 := Nat.eq_of_beq_eq_true h1
      obtain ⟨h3, h4⟩ := spliceS_eq h2
      have ih := fillL_eq h
      simp only [Instr.fill, hp]
      have hsz : v.cells.size = vs.length := by rw [hv]; simp
      rw [if_neg (by simp; omega)]
      have e3 : (v.cells.zipIdx.foldl (fun cs (x : Value × Nat) => match x with | (c, j) => cs.setIfInBounds (q.1 + j) c) cells.toArray) = cs.toArray := by
        rw [← Array.foldl_toList, Array.toList_zipIdx, ← h3, hv]
        apply Array.ext_getElem?
        intro j
        rw [foldl_splice q.1 vs 0 cells.toArray j (by simp; omega)]
        simp only [Nat.add_zero, List.getElem?_toArray, splice_get]
        by_cases hj : q.1 ≤ j ∧ j < q.1 + vs.length
        · rw [if_pos hj, if_pos (by omega)]
        · rw [if_neg hj, if_neg (by omega)]
      rw [e3]
      exact ih
def placesL (P : Program) : List Field → Option (List (Nat × Nat))
  | [] => some []
  | fd :: r => match P.info? fd.type, placesL P r with
    | some i, some s => some ((fd.offset, i.size) :: s)
    | _, _ => none
theorem placesL_eq : ∀ {fs : List Field} {ps : List (Nat × Nat)}, placesL P fs = some ps → fs.mapM (fun f => (P.info? f.type).map fun i => (f.offset, i.size)) = some ps
  | [], ps, h => by simp only [placesL, Option.some.injEq] at h; subst h; rfl
  | fd :: r, ps, h => by
    simp only [placesL] at h
    split at h
    · rename_i i s h1 h2
      simp only [Option.some.injEq] at h
      subst h
      simp [List.mapM_cons, h1, placesL_eq h2]
    · cases h
def builtL (P : Program) (t : TypeId) (parts : List (Nat × Value)) : Option (List Value) :=
  match P.info? t, P.underlying t with
  | some it, some (.array _ e) => match it.zero, P.info? e with
    | some z, some ie => match cellsO z with
      | some zc => fillL (fun i => some (i * ie.size, ie.size)) zc parts
      | none => none
    | _, _ => none
  | some it, some (.struct fields) => match it.zero, placesL P fields.toList with
    | some z, some ps => match cellsO z with
      | some zc => fillL (fun i => ps[i]?) zc parts
      | none => none
    | _, _ => none
  | _, _ => none
theorem builtL_eq {t : TypeId} {parts : List (Nat × Value)} {cs : List Value} (h : builtL P t parts = some cs) : P.built t parts = some cs.toArray := by
  unfold builtL at h
  unfold Program.built
  split at h
  · rename_i it n e h1 h2
    rw [h1, h2]
    simp only
    split at h
    · rename_i z ie h3 h4
      rw [h3, h4]
      split at h <;> try (cases h; done)
      rename_i zc hz
      have := fillL_eq h
      rw [← cellsO_eq hz] at this
      exact this
    · cases h
  · rename_i it fields h1 h2
    rw [h1, h2]
    simp only
    split at h
    · rename_i z ps h3 h4
      rw [h3, placesL_eq h4]
      split at h <;> try (cases h; done)
      rename_i zc hz
      have := fillL_eq h
      rw [← cellsO_eq hz] at this
      simpa using this
    · cases h
  · cases h
theorem pureV_spec {o : Oper} {f : Fr} {v : Value} (h : pureV P o f = some v) : own o.op = false ∧ pureS P (execOp f.ev o) = some (.value v) := by
  unfold pureV at h
  split at h
  · rename_i h1 h2
    exact ⟨h1, by rw [h2, forceV_eq _ _ _ h]⟩
  · cases h
theorem opsC_none {o : Oper} {f : Fr} (hg : o.guard = none) (h : opC P o f (opsC P ops Q rest) (fun ch M => Q (.panic ch) f M) L) : opsC P ops Q (o :: rest) f L := by
  simp only [opsC, guardC, hg]
  exact h
theorem r_nil {f : Fr} (k : Q .normal f L) : opsC P ops Q [] f L := k
theorem r_val {v : Value} (h : pureV P ⟨some d, p, ty, pos, af, none⟩ ⟨l, base, df⟩ = some v) (k : opsC P ops Q rest ⟨(d, v) :: l, base, df⟩ L) : opsC P ops Q (⟨some d, p, ty, pos, af, none⟩ :: rest) ⟨l, base, df⟩ L :=
  opsC_none rfl (opC_own (pureV_spec h).1 (.inr (.inr (.inl (pureS_semC _ (pureV_spec h).2 k)))))
theorem r_val0 {v : Value} (h : pureV P ⟨none, p, ty, pos, af, none⟩ ⟨l, base, df⟩ = some v) (k : opsC P ops Q rest ⟨l, base, df⟩ L) : opsC P ops Q (⟨none, p, ty, pos, af, none⟩ :: rest) ⟨l, base, df⟩ L :=
  opsC_none rfl (opC_own (pureV_spec h).1 (.inr (.inr (.inl (pureS_semC _ (pureV_spec h).2 k)))))
/-- Where a field lies. -/
def offL : List Field → Nat → Option (TypeId × Nat)
  | [], _ => none
  | fd :: _, 0 => match fd with
    | { offset := o, type := t, .. } => some (t, o)
  | _ :: r, n + 1 => offL r n
theorem offL_eq : ∀ {l : List Field} {n t o : Nat}, offL l n = some (t, o) → ∃ fd, l[n]? = some fd ∧ fd.offset = o ∧ fd.type = t
  | [], _, _, _, h => by simp [offL] at h
  | fd :: _, 0, t, o, h => by
    simp only [offL, Option.some.injEq, Prod.mk.injEq] at h
    exact ⟨fd, rfl, h.2, h.1⟩
  | _ :: r, n + 1, t, o, h => by
    simp only [offL] at h
    simpa using offL_eq h
def fieldOff (P : Program) (T : TypeId) (k : Nat) : Option Nat := match P.underlying T with
  | some (.struct fields) => match offL fields.toList k with
    | some (t, o) => match P.info? t with
      | some i => match Nat.ble 1 i.size with
        | true => some o
        | false => none
      | none => none
    | none => none
  | _ => none
theorem fieldOff_eq {P : Program} {T : TypeId} {k q : Nat} (hf : fieldOff P T k = some q) : ∃ fields t i, P.underlying T = some (.struct fields) ∧ offL fields.toList k = some (t, q) ∧ P.info? t = some i ∧ 1 ≤ i.size := by
  unfold fieldOff at hf
  cases hu : P.underlying T with
  | none => simp [hu] at hf
  | some u =>
    rw [hu] at hf
    cases u <;> try (simp at hf; done)
    rename_i fields
    simp only at hf
    cases ht : offL fields.toList k with
    | none => simp [ht] at hf
    | some p =>
      obtain ⟨t, o⟩ := p
      rw [ht] at hf
      simp only at hf
      cases hi : P.info? t with
      | none => simp [hi] at hf
      | some i =>
        rw [hi] at hf
        simp only at hf
        cases hb : Nat.ble 1 i.size with
        | false => simp [hb] at hf
        | true =>
          rw [hb] at hf
          simp only [Option.some.injEq] at hf
          subst hf
          exact ⟨fields, t, i, rfl, ht, hi, Nat.le_of_ble_eq_true hb⟩
theorem run_fieldAddr {ev : Operand → Value} {o : Oper} {T : TypeId} {x : Operand} {k b off q : Nat} (ho : o.op = .fieldAddr T x k) (hx : ev x = .pointer (some ⟨b, off, none⟩)) (hf : fieldOff P T k = some q) (w : World) :
    (execOp ev o).run P w = .ok (.value (.pointer (some ⟨b, off + q, none⟩))) w := by
  obtain ⟨fields, t, i, hu, ht, hi, h1⟩ := fieldOff_eq hf
  obtain ⟨fd, h3, h2, h4⟩ := offL_eq ht
  subst h4
  have h5 : ¬ i.size = 0 := by omega
  have h3 : fields[k]? = some fd := by rw [← Array.getElem?_toList]; exact h3
  unfold execOp
  simp only [ho, hx]
  simp [Instr.fieldAt, run_underlying hu, h3, Instr.sureAddr, fieldPlace, h2, Addr.add_none, sizeOf, typeInfo, hi, h5]
theorem r_load {t : TypeId} {ad : Operand} {a : Value} (ha : (⟨l, base, df⟩ : Fr).ev ad = a) (k : LoadC P t a L fun v => opsC P ops Q rest ⟨(d, v) :: l, base, df⟩ L) : opsC P ops Q (⟨some d, .load t ad, ty, pos, af, none⟩ :: rest) ⟨l, base, df⟩ L :=
  opsC_none rfl (by subst ha; exact k)
theorem r_store {t : TypeId} {ad vo : Operand} {a v : Value} (ha : (⟨l, base, df⟩ : Fr).ev ad = a) (hv : forceV 3 ((⟨l, base, df⟩ : Fr).ev vo) = some v) (k : StoreC P t a v L fun M => opsC P ops Q rest ⟨l, base, df⟩ M) : opsC P ops Q (⟨none, .store t ad vo, ty, pos, af, none⟩ :: rest) ⟨l, base, df⟩ L :=
  opsC_none rfl (by subst ha; rw [forceV_eq _ _ _ hv] at k; exact k)
theorem r_look {t : TypeId} {mo ko : Operand} {ok : Bool} {m key : Value} (hm : forceV 3 ((⟨l, base, df⟩ : Fr).ev mo) = some m) (hk : forceV 3 ((⟨l, base, df⟩ : Fr).ev ko) = some key) (k : ReadC P (Instr.lookup t m key ok) L fun v => opsC P ops Q rest ⟨(d, v) :: l, base, df⟩ L) :
    opsC P ops Q (⟨some d, .lookup t mo ko ok, ty, pos, af, none⟩ :: rest) ⟨l, base, df⟩ L :=
  opsC_none rfl (by rw [forceV_eq _ _ _ hm, forceV_eq _ _ _ hk] at k; exact k)
theorem r_upd {t : TypeId} {mo ko vo : Operand} {m key v : Value} (hm : forceV 3 ((⟨l, base, df⟩ : Fr).ev mo) = some m) (hk : forceV 3 ((⟨l, base, df⟩ : Fr).ev ko) = some key) (hv : forceV 3 ((⟨l, base, df⟩ : Fr).ev vo) = some v) (k : UpdC P (Instr.mapUpdate t m key v) L fun M => opsC P ops Q rest ⟨l, base, df⟩ M) :
    opsC P ops Q (⟨none, .mapUpdate t mo ko vo, ty, pos, af, none⟩ :: rest) ⟨l, base, df⟩ L :=
  opsC_none rfl (by rw [forceV_eq _ _ _ hm, forceV_eq _ _ _ hk, forceV_eq _ _ _ hv] at k; exact k)
theorem r_ent {t : TypeId} {mo ko : Operand} {m key : Value} (hm : forceV 3 ((⟨l, base, df⟩ : Fr).ev mo) = some m) (hk : forceV 3 ((⟨l, base, df⟩ : Fr).ev ko) = some key) (k : RunC P (Instr.mapEntry t m key) L fun v M => opsC P ops Q rest ⟨(d, v) :: l, base, df⟩ M) :
    opsC P ops Q (⟨some d, .mapEntry t mo ko, ty, pos, af, none⟩ :: rest) ⟨l, base, df⟩ L :=
  opsC_none rfl (by rw [forceV_eq _ _ _ hm, forceV_eq _ _ _ hk] at k; exact k)
theorem r_est {t : TypeId} {mo so vo : Operand} {m s v : Value} (hm : forceV 3 ((⟨l, base, df⟩ : Fr).ev mo) = some m) (hs : forceV 3 ((⟨l, base, df⟩ : Fr).ev so) = some s) (hv : forceV 3 ((⟨l, base, df⟩ : Fr).ev vo) = some v) (k : UpdC P (Instr.entryStore t m s v) L fun M => opsC P ops Q rest ⟨l, base, df⟩ M) :
    opsC P ops Q (⟨none, .entryStore t mo so vo, ty, pos, af, none⟩ :: rest) ⟨l, base, df⟩ L :=
  opsC_none rfl (by rw [forceV_eq _ _ _ hm, forceV_eq _ _ _ hs, forceV_eq _ _ _ hv] at k; exact k)
theorem r_app {t t' : TypeId} {so xo : Operand} {s x : Value} (hs : forceV 3 ((⟨l, base, df⟩ : Fr).ev so) = some s) (hx : forceV 3 ((⟨l, base, df⟩ : Fr).ev xo) = some x) (k : RunC P (Builtin.append_ #[t, t'] ty #[s, x]) L fun v M => opsC P ops Q rest ⟨(d, v) :: l, base, df⟩ M) :
    opsC P ops Q (⟨some d, .call { callee := .builtin .append, args := #[so, xo], argTypes := #[t, t'] }, ty, pos, af, none⟩ :: rest) ⟨l, base, df⟩ L :=
  opsC_none rfl (by rw [forceV_eq _ _ _ hs, forceV_eq _ _ _ hx] at k; show RunC P (Builtin.append_ #[t, t'] ty (#[so, xo].map (Fr.ev ⟨l, base, df⟩))) L _; rw [show #[so, xo].map (Fr.ev ⟨l, base, df⟩) = #[Fr.ev ⟨l, base, df⟩ so, Fr.ev ⟨l, base, df⟩ xo] by simp]; exact k)
theorem r_del {t t' : TypeId} {so xo : Operand} {s x : Value} (hs : forceV 3 ((⟨l, base, df⟩ : Fr).ev so) = some s) (hx : forceV 3 ((⟨l, base, df⟩ : Fr).ev xo) = some x) (k : RunC P (Builtin.delete_ #[t, t'] ty #[s, x]) L fun _ M => opsC P ops Q rest ⟨l, base, df⟩ M) :
    opsC P ops Q (⟨none, .call { callee := .builtin .delete, args := #[so, xo], argTypes := #[t, t'] }, ty, pos, af, none⟩ :: rest) ⟨l, base, df⟩ L :=
  opsC_none rfl (by rw [forceV_eq _ _ _ hs, forceV_eq _ _ _ hx] at k; show RunC P (Builtin.delete_ #[t, t'] ty (#[so, xo].map (Fr.ev ⟨l, base, df⟩))) L _; rw [show #[so, xo].map (Fr.ev ⟨l, base, df⟩) = #[Fr.ev ⟨l, base, df⟩ so, Fr.ev ⟨l, base, df⟩ xo] by simp]; exact k)
theorem opC_call {o : Oper} {f : Fr} {fo : Operand} {args : Array Operand} {ts : Array TypeId} {g : FuncId} {first cap : Array Value} {vs ws : List Value} {K : Fr → Units → Prop} {E : List PanicEntry → Units → Prop} (ho : o.op = .call { callee := .value fo, args := args, argTypes := ts })
    (hf : f.ev fo = .func (.func g) first cap) (hg : textOf P g = true) (ha : evL f args.toList = some vs) (hw : first.toList ++ (vs ++ cap.toList) = ws) (k : CallC P g ws.toArray L (fun v M => K (f.put o.dst v) M) E) : opC P o f K E L := by
  have hown : own o.op = false := by rw [ho]; rfl
  refine opC_own hown (.inr (.inr (.inl ?_)))
  have he : execOp f.ev o = Sem.bind (resolve f.ev { callee := .value fo, args := args, argTypes := ts } o.type) (fun d => invoke d.target d.args) := by
    unfold execOp
    rw [ho]
    rfl
  have hargs : args.map f.ev = vs.toArray := by
    apply Array.ext'
    rw [Array.toList_map, evL_eq ha]
  rw [he]
  simp only [resolve, hf, hargs, Deferred.ofValue]
  show semC P (callFunc g (first ++ vs.toArray ++ cap)) _ _ L
  have hcat : first ++ vs.toArray ++ cap = ws.toArray := by
    apply Array.ext'
    rw [← hw]
    simp
  rw [hcat]
  unfold textOf at hg
  cases hfn : P.funcs[g]? with
  | none => rw [hfn] at hg; cases hg
  | some fn =>
    rw [hfn] at hg
    simp only [Bool.and_eq_true, Bool.not_eq_true', beq_eq_false_iff_ne, ne_eq] at hg
    have hb : fn.body.isNone = false := by cases hh : fn.body <;> simp_all
    have hn : (fn.name == "runtime.NumGoroutine") = false := by simpa using hg.2
    have e : semC P (callFunc g ws.toArray) (nextC P o.dst f K E) (fun v M => E [{ v, recovered := false }] M) L = semC P (match P.funcs[g]? with
      | none => stuck "call: no such function"
      | some fn =>
        if fn.name == "runtime.NumGoroutine" then pure .numGoroutine
        else if fn.body.isNone then do
          mark (.extern g)
          if let some e := Extern.findNext fn then return ← e ws.toArray
          match Extern.find fn with
          | some e => pure (.value (← e ws.toArray))
          | none =>
            if fn.name.endsWith ".init" && !fn.name.startsWith "(" && !fn.name.startsWith "gosem." then pure (.value (.tuple #[]))
            else unsupported (.extern fn.name)
        else pure (.enter g ws.toArray)) (nextC P o.dst f K E) (fun v M => E [{ v, recovered := false }] M) L := rfl
    rw [e, hfn]
    simp only [hn, hb, Bool.false_eq_true, if_false]
    exact k
theorem r_call {fo : Operand} {args : Array Operand} {ts : Array TypeId} {g : FuncId} {first cap : Array Value} {vs ws : List Value}
    (hf : (⟨l, base, df⟩ : Fr).ev fo = .func (.func g) first cap) (hg : textOf P g = true) (ha : evL ⟨l, base, df⟩ args.toList = some vs) (hw : first.toList ++ (vs ++ cap.toList) = ws)
    (k : CallC P g ws.toArray L (fun v M => opsC P ops Q rest ⟨(d, v) :: l, base, df⟩ M) (fun ch M => Q (.panic ch) ⟨l, base, df⟩ M)) :
    opsC P ops Q (⟨some d, .call { callee := .value fo, args := args, argTypes := ts }, ty, pos, af, none⟩ :: rest) ⟨l, base, df⟩ L :=
  opsC_none rfl (opC_call rfl hf hg ha hw k)
theorem r_call0 {fo : Operand} {args : Array Operand} {ts : Array TypeId} {g : FuncId} {first cap : Array Value} {vs ws : List Value}
    (hf : (⟨l, base, df⟩ : Fr).ev fo = .func (.func g) first cap) (hg : textOf P g = true) (ha : evL ⟨l, base, df⟩ args.toList = some vs) (hw : first.toList ++ (vs ++ cap.toList) = ws)
    (k : CallC P g ws.toArray L (fun _ M => opsC P ops Q rest ⟨l, base, df⟩ M) (fun ch M => Q (.panic ch) ⟨l, base, df⟩ M)) :
    opsC P ops Q (⟨none, .call { callee := .value fo, args := args, argTypes := ts }, ty, pos, af, none⟩ :: rest) ⟨l, base, df⟩ L :=
  opsC_none rfl (opC_call rfl hf hg ha hw k)
/-- A call of a function by its name. -/
theorem r_fun {args : Array Operand} {ts : Array TypeId} {g : FuncId} {vs : List Value} (hg : textOf P g = true) (ha : evL ⟨l, base, df⟩ args.toList = some vs)
    (k : CallC P g vs.toArray L (fun v M => opsC P ops Q rest ⟨(d, v) :: l, base, df⟩ M) (fun ch M => Q (.panic ch) ⟨l, base, df⟩ M)) :
    opsC P ops Q (⟨some d, .call { callee := .value (.func g), args := args, argTypes := ts }, ty, pos, af, none⟩ :: rest) ⟨l, base, df⟩ L :=
  r_call (first := #[]) (cap := #[]) rfl hg ha (by simp) k
theorem r_fun0 {args : Array Operand} {ts : Array TypeId} {g : FuncId} {vs : List Value} (hg : textOf P g = true) (ha : evL ⟨l, base, df⟩ args.toList = some vs)
    (k : CallC P g vs.toArray L (fun _ M => opsC P ops Q rest ⟨l, base, df⟩ M) (fun ch M => Q (.panic ch) ⟨l, base, df⟩ M)) :
    opsC P ops Q (⟨none, .call { callee := .value (.func g), args := args, argTypes := ts }, ty, pos, af, none⟩ :: rest) ⟨l, base, df⟩ L :=
  r_call0 (first := #[]) (cap := #[]) rfl hg ha (by simp) k
theorem opC_run {o : Oper} {f : Fr} {v : Value} {K : Fr → Units → Prop} {E : List PanicEntry → Units → Prop} (ho : own o.op = false) (hr : ∀ w, (execOp f.ev o).run P w = .ok (.value v) w) (k : K (f.put o.dst v) L) : opC P o f K E L :=
  opC_own ho (.inl ⟨v, fun x => hr x.w, k⟩)
/-- An operation that hands back a value, of whatever world it makes. -/
theorem opC_any {o : Oper} {f : Fr} {K : Fr → Units → Prop} {E : List PanicEntry → Units → Prop} (ho : own o.op = false) (h : ∀ x : St L, ∃ v w', (execOp f.ev o).run P x.w = .ok (.value v) w' ∧ ∃ M, InSt M w' ∧ K (f.put o.dst v) M) : opC P o f K E L :=
  opC_own ho (.inr (.inr (.inr h)))
theorem opC_new {o : Oper} {f : Fr} {v : Nat → Value} {ob : Obj} {K : Fr → Units → Prop} {E : List PanicEntry → Units → Prop} (ho : own o.op = false) (hr : ∀ w, (execOp f.ev o).run P w = .ok (.value (v w.heap.size)) (w.alloc ob)) (k : ∀ nb, K (f.put o.dst (v nb)) ([(nb, ob)] :: L)) : opC P o f K E L :=
  opC_own ho (.inr (.inl ⟨v, ob, fun x => hr x.w, k⟩))
theorem map_pairs {ev : Operand → Value} {parts : Array (Nat × Operand)} {vs : List (Nat × Value)} (h : (parts.toList.map fun p => (p.1, ev p.2)) = vs) : (parts.map fun (i, x) => (i, ev x)) = vs.toArray := by
  apply Array.ext'
  rw [Array.toList_map]
  exact h
theorem r_build {T : TypeId} {parts : Array (Nat × Operand)} {vs : List (Nat × Value)} {cs : List Value} (hp : evP ⟨l, base, df⟩ parts.toList = some vs) (hc : builtL P T vs = some cs)
    (k : opsC P ops Q rest ⟨(d, .agg cs.toArray) :: l, base, df⟩ L) : opsC P ops Q (⟨some d, .build T parts, ty, pos, af, none⟩ :: rest) ⟨l, base, df⟩ L := by
  refine opsC_none rfl (opC_run rfl (v := .agg cs.toArray) (fun w => ?_) k)
  have := run_build w T (parts.map fun (i, x) => (i, (⟨l, base, df⟩ : Fr).ev x)) cs.toArray (by rw [map_pairs (evP_eq hp)]; simpa using builtL_eq hc)
  simp [execOp, this]
theorem run_pick {ev : Operand → Value} {o : Oper} {c a b : Operand} {t : Bool} (ho : o.op = .pick c a b) (hc : ev c = .bool t) (w : World) : (execOp ev o).run P w = .ok (.value (if t then ev a else ev b)) w := by
  unfold execOp
  simp only [ho, hc]
  cases t <;> rfl
theorem r_pickT {c a b : Operand} {t : Bool} {v : Value} (hc : (⟨l, base, df⟩ : Fr).ev c = .bool t) (ht : t = true) (hv : forceV 3 ((⟨l, base, df⟩ : Fr).ev a) = some v) (k : opsC P ops Q rest ⟨(d, v) :: l, base, df⟩ L) : opsC P ops Q (⟨some d, .pick c a b, ty, pos, af, none⟩ :: rest) ⟨l, base, df⟩ L := by
  rw [forceV_eq _ _ _ hv] at k
  exact opsC_none rfl (opC_run rfl (run_pick rfl hc) (by rw [ht]; exact k))
theorem r_pickF {c a b : Operand} {t : Bool} {v : Value} (hc : (⟨l, base, df⟩ : Fr).ev c = .bool t) (ht : t = false) (hv : forceV 3 ((⟨l, base, df⟩ : Fr).ev b) = some v) (k : opsC P ops Q rest ⟨(d, v) :: l, base, df⟩ L) : opsC P ops Q (⟨some d, .pick c a b, ty, pos, af, none⟩ :: rest) ⟨l, base, df⟩ L := by
  rw [forceV_eq _ _ _ hv] at k
  exact opsC_none rfl (opC_run rfl (run_pick rfl hc) (by rw [ht]; exact k))
theorem r_field {T : TypeId} {x : Operand} {k b off q : Nat} (hx : (⟨l, base, df⟩ : Fr).ev x = .pointer (some ⟨b, off, none⟩)) (hf : fieldOff P T k = some q) (k' : opsC P ops Q rest ⟨(d, .pointer (some ⟨b, off + q, none⟩)) :: l, base, df⟩ L) :
    opsC P ops Q (⟨some d, .fieldAddr T x k, ty, pos, af, none⟩ :: rest) ⟨l, base, df⟩ L :=
  opsC_none rfl (opC_run rfl (run_fieldAddr rfl hx hf) k')
theorem r_field0 {T : TypeId} {x : Operand} {k b q : Nat} (hx : (⟨l, base, df⟩ : Fr).ev x = .pointer (some ⟨b, 0, none⟩)) (hf : fieldOff P T k = some q) (k' : opsC P ops Q rest ⟨(d, .pointer (some ⟨b, q, none⟩)) :: l, base, df⟩ L) :
    opsC P ops Q (⟨some d, .fieldAddr T x k, ty, pos, af, none⟩ :: rest) ⟨l, base, df⟩ L :=
  r_field hx hf (by rw [Nat.zero_add]; exact k')
theorem r_box {T : TypeId} {v : Operand} {u : Value} {cs : List Value} (hu : forceV 3 ((⟨l, base, df⟩ : Fr).ev v) = some u) (hv : cellsO u = some cs) (k : ∀ nb, opsC P ops Q rest ⟨(d, .pointer (some ⟨nb, 0, none⟩)) :: l, base, df⟩ ([(nb, .cells cs.toArray T)] :: L)) :
    opsC P ops Q (⟨some d, .box T v, ty, pos, af, none⟩ :: rest) ⟨l, base, df⟩ L := by
  have e := forceV_eq _ _ _ hu
  subst e
  exact opsC_none rfl (opC_new rfl (v := fun nb => .pointer (some ⟨nb, 0, none⟩)) (fun w => by simp [execOp, Instr.box, newVar, newRow, cellsO_eq hv]) k)
theorem r_alloc {T : TypeId} {z : Value} {cs : List Value} (hz : (P.info? T).bind (·.zero) = some z) (hc : cellsO z = some cs) (k : ∀ nb, opsC P ops Q rest ⟨(d, .pointer (some ⟨nb, 0, none⟩)) :: l, base, df⟩ ([(nb, .cells cs.toArray T)] :: L)) :
    opsC P ops Q (⟨some d, .alloc T, ty, pos, af, none⟩ :: rest) ⟨l, base, df⟩ L :=
  opsC_none rfl (opC_new rfl (v := fun nb => .pointer (some ⟨nb, 0, none⟩)) (fun w => by
    cases hi : P.info? T with
    | none => simp [hi] at hz
    | some i =>
      simp only [hi, Option.bind_some] at hz
      simp [execOp, Instr.alloc, zeroValue, typeInfo, hi, hz, newVar, newRow, cellsO_eq hc]) k)
theorem r_map {κ β : Type} {T : TypeId} (ek : κ → Value) (ev : β → Value) (k : ∀ nb, opsC P ops Q rest ⟨(d, .map (some nb)) :: l, base, df⟩ ([(nb, (GMap.empty κ β).obj ek ev)] :: L)) :
    opsC P ops Q (⟨some d, .makeMap T none, ty, pos, af, none⟩ :: rest) ⟨l, base, df⟩ L :=
  opsC_none rfl (opC_new rfl (v := fun nb => .map (some nb)) (ob := (GMap.empty κ β).obj ek ev) (fun w => by simp [execOp, Instr.makeMap, GMap.empty, GMap.obj]) k)
/-- The cells of a slice that is built. -/
def sliceL (P : Program) (T : TypeId) (n : Nat) (parts : List (Nat × Value)) : Option (TypeId × List Value) :=
  match P.underlying T with
  | some (.slice e) => match P.info? e with
    | some i => match i.zero, Nat.ble (n * i.size) 16777216, Nat.ble 1 (n * i.size) with
      | some z, true, true => match forceL (fun v => some v) ((List.range (n * i.size)).map fun j => z.cells[j % z.cells.size]!) with
        | some z0 => match fillL (fun j => some (j * i.size, i.size)) z0 parts with
          | some cs => some (e, cs)
          | none => none
        | none => none
      | _, _, _ => none
    | none => none
  | _ => none
theorem r_slice {T E : TypeId} {n : Nat} {parts : Array (Nat × Operand)} {vs : List (Nat × Value)} {cs : List Value} (hp : evP ⟨l, base, df⟩ parts.toList = some vs) (hc : sliceL P T n vs = some (E, cs))
    (k : ∀ nb, opsC P ops Q rest ⟨(d, .slice (some ⟨nb, 0, none⟩) n n) :: l, base, df⟩ ([(nb, .cells cs.toArray E)] :: L)) :
    opsC P ops Q (⟨some d, .buildSlice T n parts, ty, pos, af, none⟩ :: rest) ⟨l, base, df⟩ L := by
  refine opsC_none rfl (opC_new rfl (v := fun nb => .slice (some ⟨nb, 0, none⟩) n n) (ob := .cells cs.toArray E) (fun w => ?_) k)
  have hpp := map_pairs (evP_eq hp)
  unfold sliceL at hc
  split at hc
  · rename_i e hu
    split at hc
    · rename_i i hi
      split at hc
      · rename_i z hz h1 h2
        split at hc <;> try (cases hc; done)
        rename_i z0 hz0
        have hz0 := forceL_eq (g := fun v => some v) (fun v u h => by simpa using h.symm) _ _ hz0
        subst hz0
        split at hc
        · rename_i cs' hf
          simp only [Option.some.injEq, Prod.mk.injEq] at hc
          obtain ⟨rfl, rfl⟩ := hc
          have hf' := fillL_eq hf
          have e1 := Nat.le_of_ble_eq_true h1
          have e2 := Nat.le_of_ble_eq_true h2
          have e3 : (Array.map (fun x => z.cells[x % z.cells.size]!) (Array.range (n * i.size))) = (List.map (fun j => z.cells[j % z.cells.size]!) (List.range (n * i.size))).toArray := by
            apply Array.ext'
            simp
          have e4 : ¬ (n * i.size = 0) := by omega
          have e5 : ¬ (16777216 < n * i.size) := by omega
          simp only [execOp, hpp]
          simp [Instr.buildSlice, run_underlying hu, sizeOf, typeInfo, hi, e4, e5, zeroValue, hz, e3, hf', newRow]
        · cases hc
      · cases hc
    · cases hc
  · cases hc
theorem r_g {f : Fr} {j : Nat} {w c : Bool} (hy : f.yielded ops j = some c) (hc : c = w) (k : opsC P ops Q (⟨od, p, ty, pos, af, none⟩ :: rest) f L) : opsC P ops Q (⟨od, p, ty, pos, af, some (j, w)⟩ :: rest) f L := by
  simp only [opsC, guardC, hy] at k ⊢
  exact GuardC.mk (fun _ => k) (fun h => absurd hc h)
theorem r_gn {j : Nat} {w c : Bool} (hy : Fr.yielded ⟨l, base, df⟩ ops j = some c) (hc : c = !w) (k : opsC P ops Q rest ⟨(d, undef) :: l, base, df⟩ L) : opsC P ops Q (⟨some d, p, ty, pos, af, some (j, w)⟩ :: rest) ⟨l, base, df⟩ L := by
  simp only [opsC, guardC, hy]
  refine GuardC.mk (fun h => ?_) (fun _ => k)
  rw [hc] at h
  cases w <;> cases h
theorem r_gn0 {j : Nat} {w c : Bool} (hy : Fr.yielded ⟨l, base, df⟩ ops j = some c) (hc : c = !w) (k : opsC P ops Q rest ⟨l, base, df⟩ L) : opsC P ops Q (⟨none, p, ty, pos, af, some (j, w)⟩ :: rest) ⟨l, base, df⟩ L := by
  simp only [opsC, guardC, hy]
  refine GuardC.mk (fun h => ?_) (fun _ => k)
  rw [hc] at h
  cases w <;> cases h
theorem r_gnT {j : Nat} {c : Bool} (hy : Fr.yielded ⟨l, base, df⟩ ops j = some c) (hc : c = false) (k : opsC P ops Q rest ⟨(d, undef) :: l, base, df⟩ L) : opsC P ops Q (⟨some d, p, ty, pos, af, some (j, true)⟩ :: rest) ⟨l, base, df⟩ L := r_gn hy hc k
theorem r_gnF {j : Nat} {c : Bool} (hy : Fr.yielded ⟨l, base, df⟩ ops j = some c) (hc : c = true) (k : opsC P ops Q rest ⟨(d, undef) :: l, base, df⟩ L) : opsC P ops Q (⟨some d, p, ty, pos, af, some (j, false)⟩ :: rest) ⟨l, base, df⟩ L := r_gn hy hc k
theorem r_gT {f : Fr} {j : Nat} {c : Bool} (hy : f.yielded ops j = some c) (hc : c = true) (k : opsC P ops Q (⟨od, p, ty, pos, af, none⟩ :: rest) f L) : opsC P ops Q (⟨od, p, ty, pos, af, some (j, true)⟩ :: rest) f L := r_g hy hc k
theorem r_gF {f : Fr} {j : Nat} {c : Bool} (hy : f.yielded ops j = some c) (hc : c = false) (k : opsC P ops Q (⟨od, p, ty, pos, af, none⟩ :: rest) f L) : opsC P ops Q (⟨od, p, ty, pos, af, some (j, false)⟩ :: rest) f L := r_g hy hc k
theorem r_go {j : Nat} {w : Bool} (hy : Fr.yielded ⟨l, base, df⟩ ops j = none) (k : opsC P ops Q rest ⟨(d, undef) :: l, base, df⟩ L) : opsC P ops Q (⟨some d, p, ty, pos, af, some (j, w)⟩ :: rest) ⟨l, base, df⟩ L := by
  simp only [opsC, guardC, hy]
  exact k
theorem r_go0 {j : Nat} {w : Bool} (hy : Fr.yielded ⟨l, base, df⟩ ops j = none) (k : opsC P ops Q rest ⟨l, base, df⟩ L) : opsC P ops Q (⟨none, p, ty, pos, af, some (j, w)⟩ :: rest) ⟨l, base, df⟩ L := by
  simp only [opsC, guardC, hy]
  exact k
theorem r_gs {f : Fr} {j : Nat} {w c : Bool} (hy : f.yielded ops j = some c) (k1 : c = true → opsC P ops Q (⟨od, p, ty, pos, af, some (j, w)⟩ :: rest) f L) (k2 : c = false → opsC P ops Q (⟨od, p, ty, pos, af, some (j, w)⟩ :: rest) f L) : opsC P ops Q (⟨od, p, ty, pos, af, some (j, w)⟩ :: rest) f L := by
  cases c
  · exact k2 rfl
  · exact k1 rfl
end
end W
end Go
end
