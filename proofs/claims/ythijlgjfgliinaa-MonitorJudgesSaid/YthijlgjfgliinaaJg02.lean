/- Part 2 of the proof of what MonJudges says. -/
import Derived.Test.YthijlgjfgliinaaJg01
section
/- Walking by computing: what a piece of code comes to, over what is known of the world; each memory operation is a step with a rule of its own, all else computes. -/
set_option linter.all false
namespace Go
variable [Env]

/-- A frame: what each slot holds; the deferred calls. -/
structure Fr where
  l : List (Nat × Value)
  base : Nat → Value
  defers : List Deferred
def lookF (base : Nat → Value) (t : Nat) : List (Nat × Value) → Value
  | [] => base t
  | p :: r => bif Nat.beq p.1 t then p.2 else lookF base t r
def Fr.get (f : Fr) (t : Nat) : Value := lookF f.base t f.l
def Fr.ev (f : Fr) : Operand → Value
  | .tmp t => f.get t
  | .const v => v
  | .global g => .pointer (some ⟨g, 0, none⟩)
  | .func k => .func (.func k) #[] #[]
def Fr.put (f : Fr) (d : Option Tmp) (v : Value) : Fr :=
  match d with
  | some d => ⟨(d, v) :: f.l, f.base, f.defers⟩
  | none => f
theorem Fr.get_put (f : Fr) (d t : Nat) (v : Value) : (f.put (some d) v).get t = if t = d then v else f.get t := by
  show (bif Nat.beq d t then v else lookF f.base t f.l) = _
  by_cases h : t = d
  · subst h; simp [Nat.beq_refl]
  · have : Nat.beq d t = false := by
      cases hb : Nat.beq d t with
      | false => rfl
      | true => exact absurd (Nat.eq_of_beq_eq_true hb).symm h
    rw [this, if_neg h]
    rfl
def Fr.yielded (f : Fr) (ops : Array Oper) (j : Nat) : Option Bool :=
  match (ops[j]?).bind (·.dst) with
  | some d => match f.get d with
    | .bool b => some b
    | _ => none
  | none => none
/-- The frame, as the machine has it. -/
structure Like (n : Nat) (a : Act) (f : Fr) : Prop where
  size : a.tmps.size = n
  at_ : ∀ t, a.tmps.getD t undef = f.get t
  defers : a.defers = f.defers
theorem Like.eval {n : Nat} {a : Act} {f : Fr} (h : Like n a f) : a.eval = f.ev := by
  funext x
  cases x <;> simp [Act.eval, Fr.ev, h.at_]
theorem Like.yielded {n : Nat} {a : Act} {f : Fr} (h : Like n a f) (ops : Array Oper) (j : Nat) : Go.yielded ops a.tmps j = f.yielded ops j := by
  unfold Go.yielded Fr.yielded
  cases (ops[j]?).bind (·.dst) with
  | none => rfl
  | some d =>
    simp only [Option.bind_some]
    have hd := h.at_ d
    rw [Array.getD_eq_getD_getElem?] at hd
    cases ht : a.tmps[d]? with
    | none =>
      rw [ht] at hd
      simp only [Option.getD_none] at hd
      rw [← hd]
      rfl
    | some v =>
      rw [ht] at hd
      simp only [Option.getD_some] at hd
      rw [hd]
      cases f.get d <;> rfl
theorem Like.put {n : Nat} {a : Act} {f : Fr} (h : Like n a f) {d : Option Tmp} (hd : ∀ t, d = some t → t < n) (v : Value) : Like n (a.put d v) (f.put d v) := by
  cases d with
  | none => exact h
  | some d =>
    have hdn := hd d rfl
    refine ⟨by simp [Act.put, h.size], fun t => ?_, h.defers⟩
    rw [Fr.get_put]
    simp only [Act.put, Array.getD_eq_getD_getElem?, Array.getElem?_setIfInBounds]
    by_cases ht : t = d
    · subst ht
      simp [h.size, hdn]
    · rw [if_neg ht, if_neg (fun e => ht e.symm), ← Array.getD_eq_getD_getElem?]
      exact h.at_ t
theorem Like.push {n : Nat} {a : Act} {f : Fr} (h : Like n a f) (d : Deferred) : Like n { a with defers := d :: a.defers } ⟨f.l, f.base, d :: f.defers⟩ := ⟨h.size, h.at_, by simp [h.defers]⟩

/-! ### Steps on memory -/
def LdC (a : Addr) (L : Units) (K : Value → Prop) : Prop := ∃ v, (∀ x : St L, x.w.cell? a = some v) ∧ K v
def StC (a : Addr) (v : Value) (L : Units) (K : Units → Prop) : Prop := ∃ M, (v.oneCell' = true ∧ ∀ x : St L, (∃ u, x.w.cell? a = some u) ∧ x.w.frozen? a = false ∧ Sat (x.w.setCell a v) M) ∧ K M
def GetC (r : Nat) (L : Units) (K : Obj → Prop) : Prop := ∃ o, (∀ x : St L, x.w.heap[r]? = some o ∧ ∀ c t f, o ≠ .cells c t f) ∧ K o
def SetC (r : Nat) (o : Obj) (L : Units) (K : Units → Prop) : Prop := ∃ M, (∀ x : St L, (∃ p, x.w.heap[r]? = some p ∧ ∀ c t f, p ≠ .cells c t f) ∧ Sat (x.w.setBlk r o) M) ∧ K M
def NewC (o : Obj) (L : Units) (K : Nat → Units → Prop) : Prop := ∀ nb, K nb ([(nb, o)] :: L)
def ShC (r : Nat) (L : Units) (K : Option (TypeId × Nat) → Prop) : Prop := ∃ s, (∀ x : St L, x.w.shape? r = s) ∧ K s
def FzC (a : Addr) (L : Units) (K : Bool → Prop) : Prop := ∃ s, (∀ x : St L, x.w.frozen? a = s) ∧ K s

/-- What an action comes to. -/
def semC (P : Program) {α : Type} : Sem α → (α → Units → Prop) → (Value → Units → Prop) → Units → Prop
  | .pure a, K, _, L => K a L
  | .program k, K, E, L => semC P (k P) K E L
  | .load _ a k, K, E, L => LdC a L fun v => semC P (k v) K E L
  | .store _ a v k, K, E, L => StC a v L fun M => semC P k K E M
  | .new o k, K, E, L => NewC o L fun nb M => semC P (k nb) K E M
  | .shape r k, K, E, L => ShC r L fun s => semC P (k s) K E L
  | .frozen a k, K, E, L => FzC a L fun s => semC P (k s) K E L
  | .getObj r k, K, E, L => GetC r L fun o => semC P (k o) K E L
  | .setObj r o k, K, E, L => SetC r o L fun M => semC P k K E M
  | .choose _ k, K, E, L => ∀ n, semC P (k n) K E L
  | .mark _ k, K, E, L => semC P k K E L
  | .halt (.panic v), _, E, L => E v L
  | .halt _, _, _, _ => False
  | .freeze _ _ _, _, _, _ => False
  | .sys _ _, _, _, _ => False
def InSt' (L : Units) (w : World) : Prop := ∃ y : St L, w = y.w
def ResC {α : Type} (K : α → Units → Prop) (E : Value → Units → Prop) : Result α → Prop
  | .ok a w => ∃ M, InSt M w ∧ K a M
  | .halt (.panic v) w => ∃ M, InSt M w ∧ E v M
  | _ => False
theorem semC_run {P : Program} {α : Type} (s : Sem α) : ∀ {K : α → Units → Prop} {E : Value → Units → Prop} {L : Units}, semC P s K E L → ∀ x : St L, ResC K E (s.run P x.w) := by
  induction s with
  | pure a => intro K E L h x; exact ⟨L, ⟨x, rfl⟩, h⟩
  | program k ih => intro K E L h x; exact ih P h x
  | load m a k ih =>
    intro K E L h x
    obtain ⟨v, hv, h⟩ := h
    simp only [Sem.run, hv x]
    exact ih v h x
  | store m a v k ih =>
    intro K E L h x
    obtain ⟨M, ⟨h1, hv⟩, h⟩ := h
    obtain ⟨⟨u, hu⟩, hf, hs⟩ := hv x
    have e : (Sem.store m a v k).run P x.w = k.run P (x.w.setCell a v) := by
      cases v <;> first | (simp [Value.oneCell'] at h1; done) | simp [Sem.run, hu, hf]
    rw [e]
    exact ih h ⟨_, hs⟩
  | new o k ih =>
    intro K E L h x
    exact ih x.w.heap.size (h x.w.heap.size) (x.alloc o)
  | shape r k ih =>
    intro K E L h x
    obtain ⟨s, hs, h⟩ := h
    simp only [Sem.run, hs x]
    exact ih s h x
  | frozen a k ih =>
    intro K E L h x
    obtain ⟨s, hs, h⟩ := h
    simp only [Sem.run, hs x]
    exact ih s h x
  | getObj r k ih =>
    intro K E L h x
    obtain ⟨o, ho, h⟩ := h
    obtain ⟨h1, h2⟩ := ho x
    have e : (Sem.getObj r k).run P x.w = (k o).run P x.w := by
      cases o <;> first | (simp only [Sem.run, h1]; done) | exact absurd rfl (h2 _ _ _)
    rw [e]
    exact ih o h x
  | setObj r o k ih =>
    intro K E L h x
    obtain ⟨M, hv, h⟩ := h
    obtain ⟨⟨p, h1, h2⟩, hs⟩ := hv x
    have e : (Sem.setObj r o k).run P x.w = k.run P (x.w.setBlk r o) := by
      simp only [Sem.run, h1]
      cases p <;> first | rfl | exact absurd rfl (h2 _ _ _)
    rw [e]
    exact ih h ⟨_, hs⟩
  | choose q k ih =>
    intro K E L h x
    simp only [Sem.run]
    split
    · exact ih 0 (h 0) x
    · exact ih _ (h _) x.drew
  | mark m k ih => intro K E L h x; exact ih h x
  | halt hh =>
    intro K E L h x
    cases hh <;> first | exact absurd h id | exact ⟨L, ⟨x, rfl⟩, h⟩
  | freeze a n k ih => intro K E L h x; exact absurd h id
  | sys c k ih => intro K E L h x; exact absurd h id

/-- A call hands back something, or panics. -/
def Does (P : Program) (g : FuncId) (args : Array Value) (L : Units) (R : Ending → Units → Prop) : Prop :=
  ∀ x : St L, Calls P g args x.w fun e w' => ∃ M, InSt M w' ∧ R e M
def CallC (P : Program) (g : FuncId) (args : Array Value) (L : Units) (K : Value → Units → Prop) (E : List PanicEntry → Units → Prop) : Prop :=
  Does P g args L fun e M => match e with
    | .returned v => K v M
    | .panicked ch => E ch M
    | .outgrown => False
def BrC (b : Bool) (A B : Prop) : Prop := match b with
  | true => A
  | false => B
theorem BrC.h1 {b : Bool} {A B : Prop} (h : BrC b A B) (e : b = true) : A := by subst e; exact h
theorem BrC.h2 {b : Bool} {A B : Prop} (h : BrC b A B) (e : b = false) : B := by subst e; exact h
theorem BrC.both {t : Bool} {A B : Prop} (h1 : t = true → A) (h2 : t = false → B) : BrC t A B := by cases t <;> first | exact h1 rfl | exact h2 rfl
/-- An operation of which only its value and what is known behind it count. -/
def RunC (P : Program) (s : Sem Value) (L : Units) (K : Value → Units → Prop) : Prop :=
  ∀ x : St L, ∃ v w', s.run P x.w = .ok v w' ∧ ∃ M, InSt M w' ∧ K v M
/-- A whole variable is read, is written. -/
def LoadC (P : Program) (t : TypeId) (ad : Value) (L : Units) (K : Value → Prop) : Prop := ∃ v, (∀ x : St L, (Instr.loadAt t ad).run P x.w = .ok v x.w) ∧ K v
def StoreC (P : Program) (t : TypeId) (ad v : Value) (L : Units) (K : Units → Prop) : Prop := ∃ M, (∀ x : St L, ∃ w', (Instr.storeAt t ad v).run P x.w = .ok () w' ∧ Sat w' M) ∧ K M
/-- Something is read of a map. -/
def ReadC (P : Program) (s : Sem Value) (L : Units) (K : Value → Prop) : Prop := ∃ v, (∀ x : St L, s.run P x.w = .ok v x.w) ∧ K v
def UpdC (P : Program) (s : Sem Unit) (L : Units) (K : Units → Prop) : Prop := ∃ M, (∀ x : St L, ∃ w', s.run P x.w = .ok () w' ∧ Sat w' M) ∧ K M

def nextC (P : Program) (d : Option Tmp) (f : Fr) (K : Fr → Units → Prop) (E : List PanicEntry → Units → Prop) : Next → Units → Prop
  | .value v, L => K (f.put d v) L
  | .skip, L => K (f.put d undef) L
  | .defer g, L => K (Fr.put ⟨f.l, f.base, g :: f.defers⟩ d undef) L
  | .enter g args, L => CallC P g args L (fun v M => K (f.put d v) M) E
  | _, _ => False
/-- What an operation comes to. -/
def opC (P : Program) (o : Oper) (f : Fr) (K : Fr → Units → Prop) (E : List PanicEntry → Units → Prop) (L : Units) : Prop :=
  match o.op with
  | .load t a => LoadC P t (f.ev a) L fun v => K (f.put o.dst v) L
  | .store t a v => StoreC P t (f.ev a) (f.ev v) L fun M => K (f.put o.dst undef) M
  | .lookup t m k ok => ReadC P (Instr.lookup t (f.ev m) (f.ev k) ok) L fun v => K (f.put o.dst v) L
  | .mapUpdate t m k v => UpdC P (Instr.mapUpdate t (f.ev m) (f.ev k) (f.ev v)) L fun M => K (f.put o.dst undef) M
  | .mapEntry t m k => RunC P (Instr.mapEntry t (f.ev m) (f.ev k)) L fun v M => K (f.put o.dst v) M
  | .entryStore t m s v => UpdC P (Instr.entryStore t (f.ev m) (f.ev s) (f.ev v)) L fun M => K (f.put o.dst undef) M
  | .call { callee := .builtin .append, args, argTypes } => RunC P (Builtin.append_ argTypes o.type (args.map f.ev)) L fun v M => K (f.put o.dst v) M
  | .call { callee := .builtin .delete, args, argTypes } => RunC P (Builtin.delete_ argTypes o.type (args.map f.ev)) L fun v M => K (f.put o.dst v) M
  | .call { callee := .builtin .copy, args, argTypes } => RunC P (Builtin.copy_ argTypes o.type (args.map f.ev)) L fun v M => K (f.put o.dst v) M
  | .call { callee := .builtin .recover, .. } => False
  | _ => (∃ v, (∀ x : St L, (execOp f.ev o).run P x.w = .ok (.value v) x.w) ∧ K (f.put o.dst v) L) ∨
    (∃ (v : Nat → Value) (ob : Obj), (∀ x : St L, (execOp f.ev o).run P x.w = .ok (.value (v x.w.heap.size)) (x.w.alloc ob)) ∧ ∀ nb, K (f.put o.dst (v nb)) ([(nb, ob)] :: L)) ∨
    semC P (execOp f.ev o) (nextC P o.dst f K E) (fun v M => E [{ v, recovered := false }] M) L ∨
    (∀ x : St L, ∃ v w', (execOp f.ev o).run P x.w = .ok (.value v) w' ∧ ∃ M, InSt M w' ∧ K (f.put o.dst v) M)
def GuardC (c want : Bool) (A B : Prop) : Prop := match c, want with
  | true, true => A
  | false, false => A
  | _, _ => B
theorem GuardC.h1 {c want : Bool} {A B : Prop} (h : GuardC c want A B) (e : c = want) : A := by subst e; cases c <;> exact h
theorem GuardC.h2 {c want : Bool} {A B : Prop} (h : GuardC c want A B) (e : ¬ c = want) : B := by cases c <;> cases want <;> first | exact h | exact absurd rfl e
theorem GuardC.mk {c want : Bool} {A B : Prop} (h1 : c = want → A) (h2 : ¬ c = want → B) : GuardC c want A B := by
  cases c <;> cases want <;> first | exact h1 rfl | exact h2 (by simp)
def guardC (f : Fr) (ops : Array Oper) (g : Option (Nat × Bool)) (A B : Prop) : Prop :=
  match g with
  | none => A
  | some (j, want) => match f.yielded ops j with
    | some c => GuardC c want A B
    | none => B
def opsC (P : Program) (ops : Array Oper) (Q : Exit → Fr → Units → Prop) : List Oper → Fr → Units → Prop
  | [], f, L => Q .normal f L
  | o :: rest, f, L => guardC f ops o.guard (opC P o f (opsC P ops Q rest) (fun ch M => Q (.panic ch) f M) L) (opsC P ops Q rest (f.put o.dst undef) L)

/-- Its slots lie in the frame. -/
def Oper.okD (n : Nat) (o : Oper) : Bool := match o.dst with
  | some d => decide (d < n)
  | none => true
def Code.okD (n : Nat) : Code → Bool
  | .region _ ops _ => ops.toList.all (Oper.okD n)
  | .seq a b | .cond _ a b | .rangeFunc _ _ a b => a.okD n && b.okD n
  | .block _ c | .loop c | .scope c => c.okD n
  | _ => true
theorem Oper.okD_lt {n : Nat} {o : Oper} (h : o.okD n = true) : ∀ t, o.dst = some t → t < n := by
  intro t ht
  unfold Oper.okD at h
  rw [ht] at h
  simpa using h
/-- What is asked behind, as the machine has it. -/
def lift (n : Nat) (Q : Exit → Fr → Units → Prop) : Exit → Act → World → Prop := fun e a w => ∃ f M, Like n a f ∧ InSt M w ∧ Q e f M
def LoopC (P : Program) (c : Code) (Q : Exit → Fr → Units → Prop) (f : Fr) (L : Units) : Prop :=
  ∀ n, c.okD n = true → ∀ a, Like n a f → ∀ x : St L, (Code.loop c).wp P (lift n Q) a x.w
def DrawC (P : Program) (id : Nat) (ops : Array Oper) (Q : Exit → Fr → Units → Prop) (f : Fr) (L : Units) : Prop :=
  ∀ n, (ops.toList.all (Oper.okD n)) = true → ∀ a, Like n a f → ∀ x : St L, (Code.region id ops true).wp P (lift n Q) a x.w
/-- A piece of code behind which ways may meet. -/
def CutC (P : Program) (d : Code) (Q : Exit → Fr → Units → Prop) (f : Fr) (M : Units) : Prop := ∀ n, d.okD n = true → ∀ a, Like n a f → ∀ x : St M, d.wp P (lift n Q) a x.w
def thenC (K : Fr → Units → Prop) (Q : Exit → Fr → Units → Prop) : Exit → Fr → Units → Prop
  | .normal, f, L => K f L
  | e, f, L => Q e f L
def inBlockC (id : Nat) (Q : Exit → Fr → Units → Prop) : Exit → Fr → Units → Prop
  | .exit i, f, L => if i = id then Q .normal f L else Q (.exit i) f L
  | e, f, L => Q e f L
/-- What a piece of code comes to. -/
def wpC (P : Program) : Code → (Exit → Fr → Units → Prop) → Fr → Units → Prop
  | .skip, Q, f, L => Q .normal f L
  | .label _, Q, f, L => Q .normal f L
  | .exit id, Q, f, L => Q (.exit id) f L
  | .ret, Q, f, L => Q .ret f L
  | .seq a b, Q, f, L => wpC P a (thenC (CutC P b Q) Q) f L
  | .cond c a b, Q, f, L => match f.ev c with
    | .bool t => BrC t (wpC P a Q f L) (wpC P b Q f L)
    | _ => False
  | .block id c, Q, f, L => wpC P c (inBlockC id Q) f L
  | .loop c, Q, f, L => LoopC P c Q f L
  | .region id ops d, Q, f, L => if d then DrawC P id ops Q f L else opsC P ops Q ops.toList f L
  | _, _, _, _ => False

theorem Does.mono {P : Program} {g : FuncId} {args : Array Value} {L : Units} {R R' : Ending → Units → Prop} (h : Does P g args L R) (hr : ∀ e M, R e M → R' e M) : Does P g args L R' :=
  fun x => (h x).mono fun _ _ ⟨M, hM, hR⟩ => ⟨M, hM, hr _ _ hR⟩
section
variable {P : Program} {ops : Array Oper} {n : Nat} {Q : Exit → Fr → Units → Prop}
/-- What stands behind an operation, as the machine has it. -/
def liftK (n : Nat) (K : Fr → Units → Prop) : Act → World → Prop := fun a w => ∃ f M, Like n a f ∧ InSt M w ∧ K f M
theorem opC_wp {o : Oper} {f : Fr} {K : Fr → Units → Prop} {E : List PanicEntry → Units → Prop} {L : Units} {a : Act} (ho : o.okD n = true) (hl : Like n a f) (h : opC P o f K E L) (x : St L)
    (hQ : ∀ ch M, E ch M → Q (.panic ch) f M) : o.wp P a x.w (liftK n K) (lift n Q) := by
  have hd := Oper.okD_lt ho
  have hval : ∀ (s : Sem Next) {v : Value} {w' : World} {M : Units}, execOp f.ev o = s → s.run P x.w = .ok (.value v) w' → InSt M w' → K (f.put o.dst v) M → o.wp P a x.w (liftK n K) (lift n Q) := by
    intro s v w' M hs hr hM hK
    unfold Oper.wp
    rw [hl.eval, hs, hr]
    exact ⟨_, M, hl.put hd v, hM, hK⟩
  have hskip : ∀ (s : Sem Next) {w' : World} {M : Units}, execOp f.ev o = s → s.run P x.w = .ok .skip w' → Sat w' M → K (f.put o.dst undef) M → o.wp P a x.w (liftK n K) (lift n Q) := by
    intro s w' M hs hr hM hK
    unfold Oper.wp
    rw [hl.eval, hs, hr]
    exact ⟨_, M, hl.put hd undef, ⟨⟨w', hM⟩, rfl⟩, hK⟩
  have hsem : semC P (execOp f.ev o) (nextC P o.dst f K E) (fun v M => E [{ v, recovered := false }] M) L → o.wp P a x.w (liftK n K) (lift n Q) := by
    intro h
    have := semC_run _ h x
    unfold Oper.wp
    rw [hl.eval]
    generalize (execOp f.ev o).run P x.w = r at this
    cases r with
    | ok nx w' =>
      obtain ⟨M, ⟨y, rfl⟩, hK⟩ := this
      cases nx <;> simp only [nextC] at hK <;> simp only [Oper.upon]
      case value v => exact ⟨_, M, hl.put hd v, ⟨y, rfl⟩, hK⟩
      case skip => exact ⟨_, M, hl.put hd undef, ⟨y, rfl⟩, hK⟩
      case defer g => exact ⟨_, M, (hl.push g).put hd undef, ⟨y, rfl⟩, hK⟩
      case enter g args =>
        refine (hK y).mono ?_
        intro e w'' ⟨M', hM', hR⟩
        cases e with
        | returned v => exact ⟨_, M', hl.put hd v, hM', hR⟩
        | panicked ch => exact ⟨f, M', hl, hM', hQ _ _ hR⟩
        | outgrown => exact hR.elim
    | halt hh w' =>
      cases hh <;> simp only [ResC] at this
      case panic v =>
        obtain ⟨M, hM, hE⟩ := this
        exact ⟨f, M, hl, hM, hQ _ _ hE⟩
  have hx : InSt L x.w := ⟨x, rfl⟩
  unfold opC at h
  split at h
  · rename_i t ad e
    obtain ⟨v, hv, h⟩ := h
    exact hval _ rfl (by simp [execOp, e, hv x]) hx h
  · rename_i t ad v e
    obtain ⟨M, hv, h⟩ := h
    obtain ⟨w', hr, hs⟩ := hv x
    exact hskip _ rfl (by simp [execOp, e, hr]) hs h
  · rename_i t m k ok e
    obtain ⟨v, hv, h⟩ := h
    exact hval _ rfl (by simp [execOp, e, hv x]) hx h
  · rename_i t m k v e
    obtain ⟨M, hv, h⟩ := h
    obtain ⟨w', hr, hs⟩ := hv x
    exact hskip _ rfl (by simp [execOp, e, hr]) hs h
  · rename_i t m k e
    obtain ⟨v, w', hr, M, hM, h⟩ := h x
    exact hval _ rfl (by simp [execOp, e, hr]) hM h
  · rename_i t m s v e
    obtain ⟨M, hv, h⟩ := h
    obtain ⟨w', hr, hs⟩ := hv x
    exact hskip _ rfl (by simp [execOp, e, hr]) hs h
  · rename_i args ts e
    obtain ⟨v, w', hr, M, hM, h⟩ := h x
    exact hval _ rfl (by simp [execOp, e, resolve, invoke, builtin, hr]) hM h
  · rename_i args ts e
    obtain ⟨v, w', hr, M, hM, h⟩ := h x
    exact hval _ rfl (by simp [execOp, e, resolve, invoke, builtin, hr]) hM h
  · rename_i args ts e
    obtain ⟨v, w', hr, M, hM, h⟩ := h x
    exact hval _ rfl (by simp [execOp, e, resolve, invoke, builtin, hr]) hM h
  · exact h.elim
  · rcases h with ⟨v, hr, h⟩ | ⟨v, ob, hr, h⟩ | h | h
    · exact hval _ rfl (hr x) hx h
    · exact hval _ rfl (hr x) ⟨x.alloc ob, rfl⟩ (h _)
    · exact hsem h
    · obtain ⟨v, w', hr, M, hM, h⟩ := h x
      exact hval _ rfl hr hM h
theorem opsC_wp : ∀ {l : List Oper} {f : Fr} {L : Units} {a : Act}, (l.all (Oper.okD n)) = true → Like n a f → opsC P ops Q l f L → ∀ x : St L, wpList P ops (lift n Q) l a x.w
  | [], f, L, a, _, hl, h, x => ⟨f, L, hl, ⟨x, rfl⟩, h⟩
  | o :: l, f, L, a, hok, hl, h, x => by
    simp only [List.all_cons, Bool.and_eq_true] at hok
    have hrest : ∀ a' w', liftK n (opsC P ops Q l) a' w' → wpList P ops (lift n Q) l a' w' := by
      rintro a' w' ⟨f', M, hl', ⟨y, rfl⟩, hK⟩
      exact opsC_wp hok.2 hl' hK y
    have hyes : opC P o f (opsC P ops Q l) (fun ch M => Q (.panic ch) f M) L → Region.wanted o (Go.yielded ops a.tmps) = true → wpList P ops (lift n Q) (o :: l) a x.w := by
      intro h hw
      unfold wpList
      rw [if_pos hw]
      refine .inl ?_
      have := opC_wp (Q := Q) hok.1 hl h x (fun ch M h => h)
      unfold Oper.wp at this ⊢
      generalize (execOp a.eval o).run P x.w = r at this
      cases r with
      | ok nx w' =>
        cases nx <;> simp only [Oper.upon] at this ⊢
        case value v => exact hrest _ _ this
        case skip => exact hrest _ _ this
        case defer g => exact hrest _ _ this
        case enter g args =>
          refine this.mono ?_
          intro e w'' hR
          cases e with
          | returned v => exact hrest _ _ hR
          | panicked ch => exact hR
          | outgrown => exact hR
        case row row args =>
          exact this.mono fun v w'' hR => hrest _ _ hR
      | halt hh w' => cases hh <;> simp only [Oper.upon] at this ⊢ <;> exact this
    have hno : opsC P ops Q l (f.put o.dst undef) L → Region.wanted o (Go.yielded ops a.tmps) = false → wpList P ops (lift n Q) (o :: l) a x.w := by
      intro h hw
      unfold wpList
      rw [if_neg (by simp [hw])]
      exact opsC_wp hok.2 (hl.put (Oper.okD_lt hok.1) undef) h x
    simp only [opsC, guardC] at h
    cases hg : o.guard with
    | none =>
      rw [hg] at h
      exact hyes h (by simp [Region.wanted, hg])
    | some p =>
      obtain ⟨j, want⟩ := p
      rw [hg] at h
      simp only at h
      have hy := hl.yielded ops j
      cases hyd : f.yielded ops j with
      | none =>
        rw [hyd] at h
        refine hno h ?_
        simp only [Region.wanted, hg, hy, hyd]
        rfl
      | some c =>
        rw [hyd] at h
        by_cases hc : c = want
        · exact hyes (h.h1 hc) (by simp [Region.wanted, hg, hy, hyd, hc])
        · exact hno (h.h2 hc) (by simp [Region.wanted, hg, hy, hyd, hc])
theorem lift_mono {Q Q' : Exit → Fr → Units → Prop} (h : ∀ e f M, Q e f M → Q' e f M) : ∀ e a w, lift n Q e a w → lift n Q' e a w :=
  fun _ _ _ ⟨f, M, h1, h2, h3⟩ => ⟨f, M, h1, h2, h _ _ _ h3⟩
theorem wpC_wp : ∀ {c : Code} {Q : Exit → Fr → Units → Prop} {f : Fr} {L : Units} {a : Act}, c.okD n = true → Like n a f → wpC P c Q f L → ∀ x : St L, c.wp P (lift n Q) a x.w := by
  intro c
  induction c with
  | skip => intro Q f L a _ hl h x; exact wp_skip ⟨f, L, hl, ⟨x, rfl⟩, h⟩
  | label l => intro Q f L a _ hl h x; exact wp_label ⟨f, L, hl, ⟨x, rfl⟩, h⟩
  | exit id => intro Q f L a _ hl h x; exact wp_exit ⟨f, L, hl, ⟨x, rfl⟩, h⟩
  | ret => intro Q f L a _ hl h x; exact wp_ret ⟨f, L, hl, ⟨x, rfl⟩, h⟩
  | seq c d ihc ihd =>
    intro Q f L a hok hl h x
    simp only [Code.okD, Bool.and_eq_true] at hok
    refine wp_seq (wp_mono (ihc hok.1 hl h x) ?_)
    rintro e a' w' ⟨f', M, hl', ⟨y, rfl⟩, hq⟩
    cases e <;> first | exact ⟨f', M, hl', ⟨y, rfl⟩, hq⟩ | skip
    exact hq n hok.2 _ hl' y
  | cond c A B ihA ihB =>
    intro Q f L a hok hl h x
    simp only [Code.okD, Bool.and_eq_true] at hok
    simp only [wpC] at h
    have he := congrFun hl.eval c
    cases hv : f.ev c <;> rw [hv] at h <;> first | exact h.elim | skip
    rename_i t
    refine wp_cond_split (he.trans hv) (fun ht => ihA hok.1 hl (h.h1 ht) x) (fun ht => ihB hok.2 hl (h.h2 ht) x)
  | block id c ih =>
    intro Q f L a hok hl h x
    refine wp_block (wp_mono (ih hok hl h x) ?_)
    rintro e a' w' ⟨f', M, hl', hM, hq⟩
    cases e <;> first | exact ⟨f', M, hl', hM, hq⟩ | skip
    rename_i i
    simp only [inBlockC] at hq
    simp only [Exit.inBlock]
    split
    · rename_i hi; rw [if_pos hi] at hq; exact ⟨f', M, hl', hM, hq⟩
    · rename_i hi; rw [if_neg hi] at hq; exact ⟨f', M, hl', hM, hq⟩
  | loop c ih =>
    intro Q f L a hok hl h x
    exact h n hok a hl x
  | region id ops d =>
    intro Q f L a hok hl h x
    cases d with
    | true => exact h n hok a hl x
    | false => exact wp_region_list (opsC_wp (by simpa [Code.okD] using hok) hl h x)
  | _ => intro Q f L a _ _ h; exact h.elim
end

/-! ### A function's body -/
def retC (fn : Func) (R : Ending → Units → Prop) (f : Fr) (L : Units) : Prop :=
  match fn.results.toList with
  | [] => R (.returned (.tuple #[])) L
  | [.tmp a] => R (.returned (f.get a)) L
  | [.tmp a, .tmp b] => R (.returned (.tuple #[f.get a, f.get b])) L
  | [.tmp a, .tmp b, .tmp c] => R (.returned (.tuple #[f.get a, f.get b, f.get c])) L
  | _ => False
def EndC (d : List Deferred) (K : Prop) : Prop := d = [] ∧ K
theorem EndC.mk {d : List Deferred} {K : Prop} (h : d = []) (k : K) : EndC d K := ⟨h, k⟩
def bodyC (fn : Func) (R : Ending → Units → Prop) : Exit → Fr → Units → Prop
  | .normal, f, L => EndC f.defers (retC fn R f L)
  | .ret, f, L => EndC f.defers (retC fn R f L)
  | .panic ch, f, L => EndC f.defers (R (.panicked ch) L)
  | _, _, _ => False
theorem retC_post {P : Program} {fn : Func} {R : Ending → Units → Prop} {f : Fr} {L : Units} {n : Nat} {a : Act} {w : World} (hl : Like n a f) (hw : InSt L w) (h : retC fn R f L) :
    ∃ v, (results fn a.tmps).run P w = .ok v w ∧ ∃ M, InSt M w ∧ R (.returned v) M := by
  unfold retC at h
  have hr : fn.results = fn.results.toList.toArray := by simp
  split at h
  · rename_i e; rw [e] at hr; exact ⟨_, results_none hr _ _ _, L, hw, h⟩
  · rename_i a' e; rw [e] at hr; exact ⟨_, results_tmp hr _ _ _, L, hw, by rw [hl.at_]; exact h⟩
  · rename_i a' b' e; rw [e] at hr; exact ⟨_, results_tmp2 hr _ _ _, L, hw, by rw [hl.at_, hl.at_]; exact h⟩
  · rename_i a' b' c' e; rw [e] at hr; exact ⟨_, results_tmp3 hr _ _ _, L, hw, by rw [hl.at_, hl.at_, hl.at_]; exact h⟩
  · exact h.elim
/-- The slots at the begin. -/
def numF : Nat → List Value → List (Nat × Value)
  | _, [] => []
  | i, v :: l => (i, v) :: numF (i + 1) l
theorem lookF_numF (base : Nat → Value) (t : Nat) : ∀ (l : List Value) (i : Nat), lookF base t (numF i l) = if i ≤ t ∧ t < i + l.length then l.getD (t - i) undef else base t
  | [], i => by simp [numF, lookF]; intro h1 h2; omega
  | v :: l, i => by
    show (bif Nat.beq i t then v else lookF base t (numF (i + 1) l)) = _
    rw [lookF_numF base t l (i + 1)]
    by_cases h : i = t
    · subst h; simp [Nat.beq_refl]
    · have hb : Nat.beq i t = false := by
        cases hb : Nat.beq i t with
        | false => rfl
        | true => exact absurd (Nat.eq_of_beq_eq_true hb) h
      rw [hb]
      simp only [cond_false, List.length_cons]
      by_cases h1 : i + 1 ≤ t ∧ t < i + 1 + l.length
      · rw [if_pos h1, if_pos (by omega)]
        have : t - i = (t - (i + 1)) + 1 := by omega
        rw [this]
        simp
      · rw [if_neg h1, if_neg (by omega)]
def frOf (args : List Value) : Fr := ⟨numF 0 args, fun _ => undef, []⟩
theorem frOf_like (args : List Value) (n : Nat) (h : args.length ≤ n) : Like n { tmps := args.toArray ++ Array.replicate (n - args.toArray.size) undef, defers := [] } (frOf args) := by
  refine ⟨by simp; omega, fun t => ?_, rfl⟩
  simp only [frOf, Fr.get, lookF_numF, Array.getD_eq_getD_getElem?, List.getD_eq_getElem?_getD, Array.getElem?_append, List.size_toArray, Nat.zero_le, Nat.zero_add, true_and, Nat.sub_zero]
  split
  · simp [*]
  · rename_i h'
    rw [Array.getElem?_replicate]
    split <;> rfl
theorem does_of_wpC {P : Program} {k : FuncId} {fn : Func} {c : Code} {args : List Value} {L : Units} {R : Ending → Units → Prop} (hf : P.funcs[k]? = some fn) (hb : fn.body = some c) (hok : (c.okD fn.ntmps && decide (args.length ≤ fn.ntmps)) = true)
    (h : wpC P c (bodyC fn R) (frOf args) L) : Does P k args.toArray L R := by
  simp only [Bool.and_eq_true, decide_eq_true_eq] at hok
  intro x
  refine calls_of_wp hf hb (wp_mono (wpC_wp hok.1 (frOf_like args fn.ntmps hok.2) h x) ?_)
  rintro e a w ⟨f, M, hl, hw, hq⟩
  cases e with
  | normal => exact ⟨hl.defers.trans hq.1, retC_post hl hw hq.2⟩
  | ret => exact ⟨hl.defers.trans hq.1, retC_post hl hw hq.2⟩
  | panic ch => exact ⟨hl.defers.trans hq.1, M, hw, hq.2⟩
  | _ => exact hq.elim

/-! ### Monotone -/
section
variable {P : Program} {n : Nat}
theorem semC_mono {α : Type} (s : Sem α) : ∀ {K K' : α → Units → Prop} {E E' : Value → Units → Prop} {L : Units}, (∀ a M, K a M → K' a M) → (∀ a M, E a M → E' a M) → semC P s K E L → semC P s K' E' L := by
  induction s with
  | pure a => intro K K' E E' L hk _ h; exact hk _ _ h
  | program k ih => intro K K' E E' L hk he h; exact ih P hk he h
  | load m a k ih => intro K K' E E' L hk he ⟨v, hv, h⟩; exact ⟨v, hv, ih v hk he h⟩
  | store m a v k ih => intro K K' E E' L hk he ⟨M, hv, h⟩; exact ⟨M, hv, ih hk he h⟩
  | new o k ih => intro K K' E E' L hk he h nb; exact ih nb hk he (h nb)
  | shape r k ih => intro K K' E E' L hk he ⟨v, hv, h⟩; exact ⟨v, hv, ih v hk he h⟩
  | frozen r k ih => intro K K' E E' L hk he ⟨v, hv, h⟩; exact ⟨v, hv, ih v hk he h⟩
  | getObj r k ih => intro K K' E E' L hk he ⟨v, hv, h⟩; exact ⟨v, hv, ih v hk he h⟩
  | setObj r o k ih => intro K K' E E' L hk he ⟨v, hv, h⟩; exact ⟨v, hv, ih hk he h⟩
  | choose q k ih => intro K K' E E' L hk he h n; exact ih n hk he (h n)
  | mark m k ih => intro K K' E E' L hk he h; exact ih hk he h
  | halt hh => intro K K' E E' L _ he h; cases hh <;> first | exact absurd h id | exact he _ _ h
  | freeze a n k ih => intro K K' E E' L _ _ h; exact absurd h id
  | sys c k ih => intro K K' E E' L _ _ h; exact absurd h id
theorem CallC.mono {g : FuncId} {args : Array Value} {L : Units} {K K' : Value → Units → Prop} {E E' : List PanicEntry → Units → Prop} (hk : ∀ a M, K a M → K' a M) (he : ∀ a M, E a M → E' a M) (h : CallC P g args L K E) : CallC P g args L K' E' :=
  Does.mono h fun e M hR => by cases e <;> first | exact hk _ _ hR | exact he _ _ hR | exact hR
theorem opC_mono {o : Oper} {f : Fr} {K K' : Fr → Units → Prop} {E E' : List PanicEntry → Units → Prop} {L : Units} (hk : ∀ a M, K a M → K' a M) (he : ∀ a M, E a M → E' a M) (h : opC P o f K E L) : opC P o f K' E' L := by
  unfold opC at *
  have hn : ∀ nx M, nextC P o.dst f K E nx M → nextC P o.dst f K' E' nx M := by
    intro nx M h
    cases nx <;> simp only [nextC] at h ⊢ <;> first | exact hk _ _ h | exact h.mono (fun _ _ => hk _ _) he
  split <;> rename_i e <;> simp only [e] at h <;> first
    | (rcases h with ⟨v, hr, h⟩ | ⟨v, ob, hr, h⟩ | h | h
       · exact .inl ⟨v, hr, hk _ _ h⟩
       · exact .inr (.inl ⟨v, ob, hr, fun nb => hk _ _ (h nb)⟩)
       · exact .inr (.inr (.inl (semC_mono _ hn (fun v M => he _ _) h)))
       · exact .inr (.inr (.inr fun x => by obtain ⟨v, w', hr, M, hM, h⟩ := h x; exact ⟨v, w', hr, M, hM, hk _ _ h⟩)))
    | (obtain ⟨v, hv, h⟩ := h; exact ⟨v, hv, hk _ _ h⟩)
    | (intro x; obtain ⟨v, w', hr, M, hM, h⟩ := h x; exact ⟨v, w', hr, M, hM, hk _ _ h⟩)
    | exact h
theorem opsC_mono {ops : Array Oper} {Q Q' : Exit → Fr → Units → Prop} (hq : ∀ e f M, Q e f M → Q' e f M) : ∀ {l : List Oper} {f : Fr} {L : Units}, opsC P ops Q l f L → opsC P ops Q' l f L
  | [], f, L, h => hq _ _ _ h
  | o :: l, f, L, h => by
    simp only [opsC, guardC] at h ⊢
    have h1 : opC P o f (opsC P ops Q l) (fun ch M => Q (.panic ch) f M) L → opC P o f (opsC P ops Q' l) (fun ch M => Q' (.panic ch) f M) L := opC_mono (fun _ _ => opsC_mono hq) (fun _ _ => hq _ _ _)
    split
    · rename_i e; simp only [e] at h; exact h1 h
    · rename_i e
      simp only [e] at h
      split
      · rename_i e2; simp only [e2] at h; exact GuardC.mk (fun hc => h1 (h.h1 hc)) (fun hc => opsC_mono hq (h.h2 hc))
      · rename_i e2; simp only [e2] at h; exact opsC_mono hq h
theorem thenC_mono {K K' : Fr → Units → Prop} {Q Q' : Exit → Fr → Units → Prop} (hk : ∀ f M, K f M → K' f M) (hq : ∀ e f M, Q e f M → Q' e f M) : ∀ e f M, thenC K Q e f M → thenC K' Q' e f M := by
  intro e f M h
  cases e <;> first | exact hk _ _ h | exact hq _ _ _ h
theorem wpC_mono : ∀ {c : Code} {Q Q' : Exit → Fr → Units → Prop} {f : Fr} {L : Units}, (∀ e f M, Q e f M → Q' e f M) → wpC P c Q f L → wpC P c Q' f L := by
  intro c
  induction c with
  | skip => intro Q Q' f L hq h; exact hq _ _ _ h
  | label l => intro Q Q' f L hq h; exact hq _ _ _ h
  | exit id => intro Q Q' f L hq h; exact hq _ _ _ h
  | ret => intro Q Q' f L hq h; exact hq _ _ _ h
  | seq c d ihc ihd => intro Q Q' f L hq h; exact ihc (thenC_mono (fun _ _ h n hok a hl x => wp_mono (h n hok a hl x) (lift_mono hq)) hq) h
  | cond c A B ihA ihB =>
    intro Q Q' f L hq h
    simp only [wpC] at h ⊢
    split
    · rename_i e; rw [e] at h; exact BrC.both (fun ht => ihA hq (h.h1 ht)) (fun ht => ihB hq (h.h2 ht))
    · rename_i e; split at h <;> first | exact h.elim | (rename_i e2; exact absurd e2 (e _))
  | block id c ih =>
    intro Q Q' f L hq h
    refine ih (fun e f M h => ?_) h
    cases e <;> first | exact hq _ _ _ h | skip
    rename_i i
    simp only [inBlockC] at h ⊢
    split
    · rename_i hi; rw [if_pos hi] at h; exact hq _ _ _ h
    · rename_i hi; rw [if_neg hi] at h; exact hq _ _ _ h
  | loop c ih => intro Q Q' f L hq h n hok a hl x; exact wp_mono (h n hok a hl x) (lift_mono hq)
  | region id ops d =>
    intro Q Q' f L hq h
    cases d with
    | true => intro n hok a hl x; exact wp_mono (h n hok a hl x) (lift_mono hq)
    | false => exact opsC_mono hq h
  | _ => intro Q Q' f L _ h; exact h.elim

/-! ### Loops, cuts -/
theorem wp_loop_gh {c : Code} {Q : Exit → Act → World → Prop} {a : Act} {w : World} {γ : Type} {g0 : γ} (I : γ → Act → World → Prop) (μ : γ → Nat) (h₀ : I g0 a w)
    (round : ∀ g a w, I g a w → c.wp P (Exit.then (fun a' w' => ∃ g', I g' a' w' ∧ μ g' < μ g) Q) a w) : (Code.loop c).wp P Q a w := by
  intro b k cs
  have key : ∀ n g a w, μ g = n → I g a w →
      ∃ e a' w', Q e a' w' ∧ Arrives P (lone (b.at a (.code c :: .inLoop c :: k)) cs w) b k cs e a' w' := by
    intro n
    induction n using Nat.strongRecOn with
    | _ n ih =>
      intro g a w hn hI
      obtain ⟨e, a₁, w₁, hq, harr⟩ := round g a w hI b (.inLoop c :: k) cs
      cases e with
      | normal =>
        obtain ⟨g', hI₁, hlt⟩ := hq
        obtain ⟨e₂, a₂, w₂, hq₂, harr₂⟩ := ih (μ g') (hn ▸ hlt) g' a₁ w₁ rfl hI₁
        exact ⟨e₂, a₂, w₂, hq₂, .of_steps (Steps.trans harr (.one step_inLoop)) harr₂⟩
      | exit id => exact ⟨_, a₁, w₁, hq, .pass (x := .inLoop c) rfl (fun _ _ => .inl (by simp)) harr⟩
      | goto l => exact ⟨_, a₁, w₁, hq, .pass (x := .inLoop c) rfl (fun _ _ => .inl (by simp)) harr⟩
      | ret => exact ⟨_, a₁, w₁, hq, .pass (x := .inLoop c) rfl (fun _ _ => .inl (by simp)) harr⟩
      | panic ch => exact ⟨_, a₁, w₁, hq, .pass (x := .inLoop c) rfl (fun _ _ => .inl (by simp)) harr⟩
      | outgrown => exact ⟨_, a₁, w₁, hq, .pass (x := .inLoop c) rfl (fun _ _ => .inl (by simp)) harr⟩
  obtain ⟨e, a', w', hq, harr⟩ := key _ g0 a w rfl h₀
  exact ⟨e, a', w', hq, .of_steps (.one step_loop) harr⟩
def Fr.over (base : Nat → Value) (l : List (Nat × Value)) : Fr := ⟨l, base, []⟩
def AllAt (f : Fr) : List (Nat × Value) → Prop
  | [] => f.defers = []
  | p :: r => f.get p.1 = p.2 ∧ AllAt f r
theorem AllAt.defers {f : Fr} : ∀ {l : List (Nat × Value)}, AllAt f l → f.defers = []
  | [], h => h
  | _ :: _, h => AllAt.defers h.2
theorem lookF_all {f : Fr} {t : Nat} : ∀ {l : List (Nat × Value)}, AllAt f l → lookF f.get t l = f.get t
  | [], _ => rfl
  | p :: r, h => by
    show (bif Nat.beq p.1 t then p.2 else lookF f.get t r) = f.get t
    rw [lookF_all h.2]
    cases hb : Nat.beq p.1 t with
    | false => rfl
    | true => rw [← Nat.eq_of_beq_eq_true hb]; exact h.1.symm
/-- A frame told anew. -/
theorem Like.over {n : Nat} {a : Act} {f : Fr} {l : List (Nat × Value)} (hl : Like n a f) (h : AllAt f l) : Like n a (Fr.over f.get l) :=
  ⟨hl.size, fun t => by rw [hl.at_]; exact (lookF_all h).symm, hl.defers.trans h.defers⟩
def Incl (M N : Units) : Prop := ∀ w, Sat w M → Sat w N
theorem Incl.refl (M : Units) : Incl M M := fun _ h => h
theorem Incl.of {M N : Units} [h : Fits M N] : Incl M N := fun _ s => s.fits h
theorem Incl.eqv {M N : Units} (h : Eqv M N) : Incl M N := fun _ s => s.eqv h
theorem InSt.incl {M N : Units} {w : World} (h : Incl M N) (hw : InSt M w) : InSt N w := by
  obtain ⟨y, rfl⟩ := hw
  exact ⟨⟨y.w, h _ y.ok⟩, rfl⟩
/-- What is asked where ways meet: some g for which this holds, these slots, these units. -/
def MeetC {γ : Type} (C : γ → Prop) (live : γ → List (Nat × Value)) (U : γ → Units) (f : Fr) (M : Units) : Prop := ∃ g, C g ∧ AllAt f (live g) ∧ Incl M (U g)
theorem MeetC.mk {γ : Type} {C : γ → Prop} {live : γ → List (Nat × Value)} {U : γ → Units} {f : Fr} {M : Units} (g : γ) (h1 : C g) (h2 : AllAt f (live g)) (h3 : Incl M (U g)) : MeetC C live U f M := ⟨g, h1, h2, h3⟩
theorem incl_wpC {c : Code} {Q : Exit → Fr → Units → Prop} {f : Fr} {L M : Units} (hi : Incl L M) (h : wpC P c Q f M) {n : Nat} (hok : c.okD n = true) {a : Act} (hl : Like n a f) (x : St L) : c.wp P (lift n Q) a x.w :=
  wpC_wp hok hl h (⟨x.w, hi _ x.ok⟩ : St M)
theorem LoopC.inv {c : Code} {Q : Exit → Fr → Units → Prop} {f : Fr} {L : Units} {γ : Type} (C : γ → Prop) (live : γ → List (Nat × Value)) (U : γ → Units) (μ : γ → Nat) (h0 : MeetC C live U f L)
    (round : ∀ g, C g → ∀ f0 : Nat → Value, wpC P c (thenC (fun f' M => MeetC (fun g' => C g' ∧ μ g' < μ g) live U f' M) Q) (Fr.over f0 (live g)) (U g)) : LoopC P c Q f L := by
  obtain ⟨g0, hg0, hl0, hi0⟩ := h0
  intro n hok a hl x
  refine wp_loop_gh (fun g a w => C g ∧ ∃ f, Like n a f ∧ AllAt f (live g) ∧ InSt (U g) w) μ ⟨hg0, f, hl, hl0, ⟨⟨x.w, hi0 _ x.ok⟩, rfl⟩⟩ ?_
  rintro g a w ⟨hg, f, hl, hla, y, rfl⟩
  have h := round g hg f.get
  refine wp_mono (wpC_wp hok (hl.over hla) h y) ?_
  rintro e a' w' ⟨f', M, hl', hM, hq⟩
  cases e <;> first | exact ⟨f', M, hl', hM, hq⟩ | skip
  obtain ⟨g', ⟨hc, hm⟩, ha', hi'⟩ := hq
  exact ⟨g', ⟨hc, f', hl', ha', hM.incl hi'⟩, hm⟩
theorem MeetC.cut {d : Code} {Q : Exit → Fr → Units → Prop} {γ : Type} {C : γ → Prop} {live : γ → List (Nat × Value)} {U : γ → Units} (h2 : ∀ g, C g → ∀ f0 : Nat → Value, wpC P d Q (Fr.over f0 (live g)) (U g)) {f : Fr} {M : Units} (h : MeetC C live U f M) :
    CutC P d Q f M := by
  obtain ⟨g, hc, ha, hi⟩ := h
  intro n hok a hl x
  exact wpC_wp hok (hl.over ha) (h2 g hc f.get) (⟨x.w, hi _ x.ok⟩ : St (U g))
theorem CutC.go {d : Code} {Q : Exit → Fr → Units → Prop} {f : Fr} {M : Units} (h : wpC P d Q f M) : CutC P d Q f M := fun _ hok _ hl x => wpC_wp hok hl h x
theorem CutC.wk {d : Code} {Q : Exit → Fr → Units → Prop} {f : Fr} {M : Units} (N : Units) (hi : Incl M N) (h : wpC P d Q f N) : CutC P d Q f M := fun _ hok _ hl x => wpC_wp hok hl h (⟨x.w, hi _ x.ok⟩ : St N)
/-- The frame told anew: these slots, and what else was there. -/
theorem CutC.over {d : Code} {Q : Exit → Fr → Units → Prop} {f : Fr} {M : Units} (l : List (Nat × Value)) (ha : AllAt f l) (h : ∀ f0 : Nat → Value, wpC P d Q (Fr.over f0 l) M) : CutC P d Q f M := fun _ hok _ hl x => wpC_wp hok (hl.over ha) (h _) x
/-- Where ways meet: what is known there, once for all of them. -/
theorem wpC_cut {c d : Code} {Q : Exit → Fr → Units → Prop} {f : Fr} {L : Units} {γ : Type} (C : γ → Prop) (live : γ → List (Nat × Value)) (U : γ → Units)
    (h1 : wpC P c (thenC (MeetC C live U) Q) f L) (h2 : ∀ g, C g → ∀ f0 : Nat → Value, wpC P d Q (Fr.over f0 (live g)) (U g)) : wpC P (.seq c d) Q f L :=
  show wpC P c (thenC (CutC P d Q) Q) f L from wpC_mono (thenC_mono (fun _ _ => MeetC.cut h2) (fun _ _ _ h => h)) h1
end
end Go
end
