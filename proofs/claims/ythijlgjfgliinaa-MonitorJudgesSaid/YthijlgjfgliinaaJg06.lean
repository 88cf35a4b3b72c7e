/- Part 6 of the proof of what MonJudges says. -/
import Derived.Test.YthijlgjfgliinaaJg05
import Derived.Maps.RangeRun
import Derived.Laws.Externs
section
/- The rules of code, of quiet operations, of places in rows and strings. -/
set_option linter.all false
namespace Go
variable [Env]
namespace W
section
variable {P : Program} {Q : Exit → Fr → Units → Prop} {K : Fr → Units → Prop} {f : Fr} {L : Units} {a b : Code} {id i : Nat}
theorem c_seq (k : wpC P a (thenC (CutC P b Q) Q) f L) : wpC P (.seq a b) Q f L := k
theorem c_reg {l : List Oper} (k : opsC P l.toArray Q l f L) : wpC P (.region id l.toArray false) Q f L := k
theorem c_draw {ops : Array Oper} (k : DrawC P id ops Q f L) : wpC P (.region id ops true) Q f L := k
theorem c_skip (k : Q .normal f L) : wpC P .skip Q f L := k
theorem c_ret (k : Q .ret f L) : wpC P .ret Q f L := k
theorem c_exit (k : Q (.exit i) f L) : wpC P (.exit i) Q f L := k
theorem c_block (k : wpC P a (inBlockC id Q) f L) : wpC P (.block id a) Q f L := k
theorem c_loop (k : LoopC P a Q f L) : wpC P (.loop a) Q f L := k
theorem c_yes {c : Operand} {t : Bool} (hc : f.ev c = .bool t) (ht : t = true) (k : wpC P a Q f L) : wpC P (.cond c a b) Q f L := by
  simp only [wpC, hc, ht]; exact k
theorem c_no {c : Operand} {t : Bool} (hc : f.ev c = .bool t) (ht : t = false) (k : wpC P b Q f L) : wpC P (.cond c a b) Q f L := by
  simp only [wpC, hc, ht]; exact k
theorem c_both {c : Operand} {t : Bool} (hc : f.ev c = .bool t) (k1 : t = true → wpC P a Q f L) (k2 : t = false → wpC P b Q f L) : wpC P (.cond c a b) Q f L := by
  simp only [wpC, hc]; exact BrC.both k1 k2
theorem c_cut {c : Operand} {t : Bool} {d : Code} {γ : Type} (C : γ → Prop) (live : γ → List (Nat × Value)) (U : γ → Units) (hc : f.ev c = .bool t)
    (k1 : t = true → wpC P a (thenC (MeetC C live U) Q) f L) (k2 : t = false → wpC P b (thenC (MeetC C live U) Q) f L) (h2 : ∀ g, C g → ∀ f0 : Nat → Value, wpC P d Q (Fr.over f0 (live g)) (U g)) :
    wpC P (.cond c a b) (thenC (CutC P d Q) Q) f L := by
  have hm := thenC_mono (Q := Q) (Q' := Q) (fun f M (h : MeetC C live U f M) => MeetC.cut h2 h) (fun _ _ _ h => h)
  exact c_both hc (fun h => wpC_mono hm (k1 h)) (fun h => wpC_mono hm (k2 h))
theorem e_n (k : K f L) : thenC K Q .normal f L := k
theorem e_r (k : Q .ret f L) : thenC K Q .ret f L := k
theorem e_x (k : Q (.exit i) f L) : thenC K Q (.exit i) f L := k
theorem e_p {ch : List PanicEntry} (k : Q (.panic ch) f L) : thenC K Q (.panic ch) f L := k
theorem b_n (k : Q .normal f L) : inBlockC id Q .normal f L := k
theorem b_r (k : Q .ret f L) : inBlockC id Q .ret f L := k
theorem b_p {ch : List PanicEntry} (k : Q (.panic ch) f L) : inBlockC id Q (.panic ch) f L := k
theorem b_x1 (k : Q .normal f L) : inBlockC i Q (.exit i) f L := by simp only [inBlockC, if_true]; exact k
theorem b_x2 (h : Nat.beq i id = false) (k : Q (.exit i) f L) : inBlockC id Q (.exit i) f L := by
  have : ¬ i = id := fun e => by rw [e, Nat.beq_refl] at h; cases h
  simp only [inBlockC, this, if_false]; exact k
theorem d_tail (n0 : Nat) {l : List Oper} (hB : (P.follows .mixedOrders && Region.lexTailB .any l.toArray n0) = true) (h : quietC P l.toArray L (fun f' => opsC P l.toArray Q (l.drop n0) f' L) (l.take n0) f) : DrawC P id l.toArray Q f L :=
  DrawC.tail n0 hB h
theorem d_all {l : List Oper} (hB : (P.follows .mixedOrders && Region.lexB .any l.toArray) = true) (h : quietC P l.toArray L (fun f' => Q .normal f' L) l f) : DrawC P id l.toArray Q f L :=
  DrawC.quiet hB h
end
section
variable {P : Program} {ops : Array Oper} {K : Fr → Prop} {Q : Exit → Fr → Units → Prop} {rest : List Oper} {L M : Units} {d : Tmp} {od : Option Tmp} {p : Op} {ty : TypeId} {pos : String} {af : Array Edge} {l : List (Nat × Value)} {base : Nat → Value} {df : List Deferred}
theorem quietC_none {o : Oper} {f : Fr} (hg : o.guard = none) (h : qopC P o f L fun v => quietC P ops L K rest (f.put o.dst v)) : quietC P ops L K (o :: rest) f := by
  simp only [quietC, guardC, hg]
  exact h
theorem q_nil {f : Fr} (k : K f) : quietC P ops L K [] f := k
theorem q_val {v : Value} (h : pureV P ⟨some d, p, ty, pos, af, none⟩ ⟨l, base, df⟩ = some v) (k : quietC P ops L K rest ⟨(d, v) :: l, base, df⟩) : quietC P ops L K (⟨some d, p, ty, pos, af, none⟩ :: rest) ⟨l, base, df⟩ :=
  quietC_none rfl (qopC_own (pureV_spec h).1 (.inr (pureS_semQ _ (pureV_spec h).2 k)))
theorem q_load {t : TypeId} {ad : Operand} {a : Value} (ha : (⟨l, base, df⟩ : Fr).ev ad = a) (k : LoadC P t a L fun v => quietC P ops L K rest ⟨(d, v) :: l, base, df⟩) : quietC P ops L K (⟨some d, .load t ad, ty, pos, af, none⟩ :: rest) ⟨l, base, df⟩ :=
  quietC_none rfl (by subst ha; exact k)
theorem q_look {t : TypeId} {mo ko : Operand} {ok : Bool} {m key : Value} (hm : forceV 3 ((⟨l, base, df⟩ : Fr).ev mo) = some m) (hk : forceV 3 ((⟨l, base, df⟩ : Fr).ev ko) = some key) (k : ReadC P (Instr.lookup t m key ok) L fun v => quietC P ops L K rest ⟨(d, v) :: l, base, df⟩) :
    quietC P ops L K (⟨some d, .lookup t mo ko ok, ty, pos, af, none⟩ :: rest) ⟨l, base, df⟩ :=
  quietC_none rfl (by rw [forceV_eq _ _ _ hm, forceV_eq _ _ _ hk] at k; exact k)
theorem qopC_run {o : Oper} {f : Fr} {v : Value} {K : Value → Prop} (ho : own o.op = false) (hr : ∀ w, (execOp f.ev o).run P w = .ok (.value v) w) (k : K v) : qopC P o f L K := qopC_own ho (.inl ⟨v, fun x => hr x.w, k⟩)
theorem execOp_call {ev : Operand → Value} {o : Oper} {fo : Operand} {args : Array Operand} {ts : Array TypeId} {g : FuncId} {first cap : Array Value} {vs ws : List Value} (ho : o.op = .call { callee := .value fo, args := args, argTypes := ts })
    (hf : ev fo = .func (.func g) first cap) (hg : textOf P g = true) (ha : args.toList.map ev = vs) (hw : first.toList ++ (vs ++ cap.toList) = ws) : pureS P (execOp ev o) = some (.enter g ws.toArray) := by
  have he : execOp ev o = Sem.bind (resolve ev { callee := .value fo, args := args, argTypes := ts } o.type) (fun d => invoke d.target d.args) := by
    unfold execOp
    rw [ho]
    rfl
  have hargs : args.map ev = vs.toArray := by
    apply Array.ext'
    rw [Array.toList_map, ha]
  rw [he]
  simp only [resolve, hf, hargs, Deferred.ofValue]
  show pureS P (callFunc g (first ++ vs.toArray ++ cap)) = _
  have hcat : first ++ vs.toArray ++ cap = ws.toArray := by
    apply Array.ext'
    rw [← hw]
    simp
  rw [hcat]
  unfold textOf at hg
  cases hfn : P.funcs[g]? with
  | none => rw [hfn] at hg; cases hg
  | some fn =>
    rw [hfn] at hg
    simp only [Bool.and_eq_true, Bool.not_eq_true', beq_eq_false_iff_ne, ne_eq] at hg
    have hb : fn.body.isNone = false := by cases hh : fn.body <;> simp_all
    have hn : (fn.name == "runtime.NumGoroutine") = false := by simpa using hg.2
    have e : pureS P (callFunc g ws.toArray) = pureS P (match P.funcs[g]? with
      | none => stuck "call: no such function"
      | some fn =>
        if fn.name == "runtime.NumGoroutine" then pure .numGoroutine
        else if fn.body.isNone then do
          mark (.extern g)
          if let some e := Extern.findNext fn then return ← e ws.toArray
          match Extern.find fn with
          | some e => pure (.value (← e ws.toArray))
          | none =>
            if fn.name.endsWith ".init" && !fn.name.startsWith "(" && !fn.name.startsWith "gosem." then pure (.value (.tuple #[]))
            else unsupported (.extern fn.name)
        else pure (.enter g ws.toArray)) := rfl
    rw [e, hfn]
    simp only [hn, hb, Bool.false_eq_true, if_false]
    rfl
theorem q_fun {args : Array Operand} {ts : Array TypeId} {g : FuncId} {vs : List Value} (hg : textOf P g = true) (ha : evL ⟨l, base, df⟩ args.toList = some vs)
    (k : QCallC P g vs.toArray L (fun v => quietC P ops L K rest ⟨(d, v) :: l, base, df⟩)) :
    quietC P ops L K (⟨some d, .call { callee := .value (.func g), args := args, argTypes := ts }, ty, pos, af, none⟩ :: rest) ⟨l, base, df⟩ :=
  quietC_none rfl (qopC_own rfl (.inr (pureS_semQ _ (execOp_call (first := #[]) (cap := #[]) rfl rfl hg (evL_eq ha) (by simp)) k)))
theorem q_build {T : TypeId} {parts : Array (Nat × Operand)} {vs : List (Nat × Value)} {cs : List Value} (hp : evP ⟨l, base, df⟩ parts.toList = some vs) (hc : builtL P T vs = some cs)
    (k : quietC P ops L K rest ⟨(d, .agg cs.toArray) :: l, base, df⟩) : quietC P ops L K (⟨some d, .build T parts, ty, pos, af, none⟩ :: rest) ⟨l, base, df⟩ := by
  refine quietC_none rfl (qopC_run rfl (v := .agg cs.toArray) (fun w => ?_) k)
  have := run_build w T (parts.map fun (i, x) => (i, (⟨l, base, df⟩ : Fr).ev x)) cs.toArray (by rw [map_pairs (evP_eq hp)]; simpa using builtL_eq hc)
  simp [execOp, this]
theorem q_pickT {c a b : Operand} {t : Bool} {v : Value} (hc : (⟨l, base, df⟩ : Fr).ev c = .bool t) (ht : t = true) (hv : forceV 3 ((⟨l, base, df⟩ : Fr).ev a) = some v) (k : quietC P ops L K rest ⟨(d, v) :: l, base, df⟩) : quietC P ops L K (⟨some d, .pick c a b, ty, pos, af, none⟩ :: rest) ⟨l, base, df⟩ := by
  rw [forceV_eq _ _ _ hv] at k
  exact quietC_none rfl (qopC_run rfl (run_pick rfl hc) (by rw [ht]; exact k))
theorem q_pickF {c a b : Operand} {t : Bool} {v : Value} (hc : (⟨l, base, df⟩ : Fr).ev c = .bool t) (ht : t = false) (hv : forceV 3 ((⟨l, base, df⟩ : Fr).ev b) = some v) (k : quietC P ops L K rest ⟨(d, v) :: l, base, df⟩) : quietC P ops L K (⟨some d, .pick c a b, ty, pos, af, none⟩ :: rest) ⟨l, base, df⟩ := by
  rw [forceV_eq _ _ _ hv] at k
  exact quietC_none rfl (qopC_run rfl (run_pick rfl hc) (by rw [ht]; exact k))
theorem q_field {T : TypeId} {x : Operand} {k b off q : Nat} (hx : (⟨l, base, df⟩ : Fr).ev x = .pointer (some ⟨b, off, none⟩)) (hf : fieldOff P T k = some q) (k' : quietC P ops L K rest ⟨(d, .pointer (some ⟨b, off + q, none⟩)) :: l, base, df⟩) :
    quietC P ops L K (⟨some d, .fieldAddr T x k, ty, pos, af, none⟩ :: rest) ⟨l, base, df⟩ :=
  quietC_none rfl (qopC_run rfl (run_fieldAddr rfl hx hf) k')
theorem q_field0 {T : TypeId} {x : Operand} {k b q : Nat} (hx : (⟨l, base, df⟩ : Fr).ev x = .pointer (some ⟨b, 0, none⟩)) (hf : fieldOff P T k = some q) (k' : quietC P ops L K rest ⟨(d, .pointer (some ⟨b, q, none⟩)) :: l, base, df⟩) :
    quietC P ops L K (⟨some d, .fieldAddr T x k, ty, pos, af, none⟩ :: rest) ⟨l, base, df⟩ :=
  q_field hx hf (by rw [Nat.zero_add]; exact k')
theorem q_g {f : Fr} {j : Nat} {w c : Bool} (hy : f.yielded ops j = some c) (hc : c = w) (k : quietC P ops L K (⟨od, p, ty, pos, af, none⟩ :: rest) f) : quietC P ops L K (⟨od, p, ty, pos, af, some (j, w)⟩ :: rest) f := by
  simp only [quietC, guardC, hy] at k ⊢
  exact GuardC.mk (fun _ => k) (fun h => absurd hc h)
theorem q_gn {j : Nat} {w c : Bool} (hy : Fr.yielded ⟨l, base, df⟩ ops j = some c) (hc : c = !w) (k : quietC P ops L K rest ⟨(d, undef) :: l, base, df⟩) : quietC P ops L K (⟨some d, p, ty, pos, af, some (j, w)⟩ :: rest) ⟨l, base, df⟩ := by
  simp only [quietC, guardC, hy]
  refine GuardC.mk (fun h => ?_) (fun _ => k)
  rw [hc] at h
  cases w <;> cases h
theorem q_gnT {j : Nat} {c : Bool} (hy : Fr.yielded ⟨l, base, df⟩ ops j = some c) (hc : c = false) (k : quietC P ops L K rest ⟨(d, undef) :: l, base, df⟩) : quietC P ops L K (⟨some d, p, ty, pos, af, some (j, true)⟩ :: rest) ⟨l, base, df⟩ := q_gn hy hc k
theorem q_gnF {j : Nat} {c : Bool} (hy : Fr.yielded ⟨l, base, df⟩ ops j = some c) (hc : c = true) (k : quietC P ops L K rest ⟨(d, undef) :: l, base, df⟩) : quietC P ops L K (⟨some d, p, ty, pos, af, some (j, false)⟩ :: rest) ⟨l, base, df⟩ := q_gn hy hc k
theorem q_gT {f : Fr} {j : Nat} {c : Bool} (hy : f.yielded ops j = some c) (hc : c = true) (k : quietC P ops L K (⟨od, p, ty, pos, af, none⟩ :: rest) f) : quietC P ops L K (⟨od, p, ty, pos, af, some (j, true)⟩ :: rest) f := q_g hy hc k
theorem q_gF {f : Fr} {j : Nat} {c : Bool} (hy : f.yielded ops j = some c) (hc : c = false) (k : quietC P ops L K (⟨od, p, ty, pos, af, none⟩ :: rest) f) : quietC P ops L K (⟨od, p, ty, pos, af, some (j, false)⟩ :: rest) f := q_g hy hc k
theorem q_go {j : Nat} {w : Bool} (hy : Fr.yielded ⟨l, base, df⟩ ops j = none) (k : quietC P ops L K rest ⟨(d, undef) :: l, base, df⟩) : quietC P ops L K (⟨some d, p, ty, pos, af, some (j, w)⟩ :: rest) ⟨l, base, df⟩ := by
  simp only [quietC, guardC, hy]
  exact k
theorem q_gs {f : Fr} {j : Nat} {w c : Bool} (hy : f.yielded ops j = some c) (k1 : c = true → quietC P ops L K (⟨od, p, ty, pos, af, some (j, w)⟩ :: rest) f) (k2 : c = false → quietC P ops L K (⟨od, p, ty, pos, af, some (j, w)⟩ :: rest) f) : quietC P ops L K (⟨od, p, ty, pos, af, some (j, w)⟩ :: rest) f := by
  cases c
  · exact k2 rfl
  · exact k1 rfl

/-! ### Places -/
/-- The size of a slice's elements. -/
def elemSz (P : Program) (T : TypeId) : Option Nat := match P.underlying T with
  | some (.slice e) => match P.info? e with
    | some i => match i with
      | { size := s, .. } => some s
    | none => none
  | _ => none
theorem elemSz_eq {T : TypeId} {s : Nat} (h : elemSz P T = some s) : ∃ e i, P.underlying T = some (.slice e) ∧ P.info? e = some i ∧ i.size = s := by
  unfold elemSz at h
  cases hu : P.underlying T with
  | none => simp [hu] at h
  | some u =>
    rw [hu] at h
    cases u <;> try (simp at h; done)
    rename_i e
    simp only at h
    cases hi : P.info? e with
    | none => simp [hi] at h
    | some i =>
      rw [hi] at h
      simp only [Option.some.injEq] at h
      exact ⟨e, i, rfl, hi, h⟩
theorem run_indexAddr {ev : Operand → Value} {o : Oper} {T : TypeId} {xo io : Operand} {b off n c s : Nat} {k : Nat} (ho : o.op = .indexAddr T xo io) (hx : ev xo = .slice (some ⟨b, off, none⟩) n c) (hi : ev io = .int .i64 k)
    (hs : elemSz P T = some s) (hk : k < n) (w : World) : (execOp ev o).run P w = .ok (.value (.pointer (some ⟨b, off + k * s, none⟩))) w := by
  obtain ⟨e, i, hu, hi1, hs⟩ := elemSz_eq hs
  have hk' : decide ((k : Int) < (n : Int)) = true := by simp; omega
  unfold execOp
  simp only [ho, hx, hi]
  simp [Instr.indexAt, asIntOf, run_underlying hu, sizeOf, typeInfo, hi1, hs, Addr.add_none, hk]
theorem r_index {T : TypeId} {xo io : Operand} {b off n c s k : Nat} (hx : (⟨l, base, df⟩ : Fr).ev xo = .slice (some ⟨b, off, none⟩) n c) (hi : (⟨l, base, df⟩ : Fr).ev io = .int .i64 (k : Nat)) (hs : elemSz P T = some s) (hk : k < n)
    (h : opsC P ops Q rest ⟨(d, .pointer (some ⟨b, off + k * s, none⟩)) :: l, base, df⟩ L) : opsC P ops Q (⟨some d, .indexAddr T xo io, ty, pos, af, none⟩ :: rest) ⟨l, base, df⟩ L :=
  opsC_none rfl (opC_run rfl (run_indexAddr rfl hx hi hs hk) h)
theorem q_index {T : TypeId} {xo io : Operand} {b off n c s k : Nat} (hx : (⟨l, base, df⟩ : Fr).ev xo = .slice (some ⟨b, off, none⟩) n c) (hi : (⟨l, base, df⟩ : Fr).ev io = .int .i64 (k : Nat)) (hs : elemSz P T = some s) (hk : k < n)
    (h : quietC P ops L K rest ⟨(d, .pointer (some ⟨b, off + k * s, none⟩)) :: l, base, df⟩) : quietC P ops L K (⟨some d, .indexAddr T xo io, ty, pos, af, none⟩ :: rest) ⟨l, base, df⟩ :=
  quietC_none rfl (qopC_run rfl (run_indexAddr rfl hx hi hs hk) h)
/-! ### Comparisons -/
def eqFree (P : Program) (T : TypeId) (a b : Value) : Bool := match a, b with
  | .agg _, .agg _ => !P.eqGuardType P.depth T
  | .nilIface, .nilIface => false
  | _, _ => true
theorem run_eqGuard {op : BinOp} {T : TypeId} {xo yo : Operand} {a b : Value} (h : eqFree P T a b = true) (w : World) : (eqGuard op T xo yo a b).run P w = .ok () w := by
  cases op <;> cases a <;> cases b <;> first | rfl | (simp [eqFree] at h; done) | (simp [eqFree] at h; simp [eqGuard, program, Sem.run, h])
theorem run_binOp {ev : Operand → Value} {o : Oper} {op : BinOp} {T T' : TypeId} {xo yo : Operand} {a b v : Value} {w : World} (ho : o.op = .binOp op T xo yo T') (ha : ev xo = a) (hb : ev yo = b) (hg : eqFree P T a b = true) (hr : (binOp op T a b).run P w = .ok v w) :
    (execOp ev o).run P w = .ok (.value v) w := by
  unfold execOp
  simp only [ho, ha, hb]
  simp [run_eqGuard hg w, hr]
theorem r_eq {op : BinOp} {T T' : TypeId} {xo yo : Operand} {a b v : Value} (ha : forceV 3 ((⟨l, base, df⟩ : Fr).ev xo) = some a) (hb : forceV 3 ((⟨l, base, df⟩ : Fr).ev yo) = some b) (hg : eqFree P T a b = true) (hr : ∀ x : St L, (binOp op T a b).run P x.w = .ok v x.w)
    (k : opsC P ops Q rest ⟨(d, v) :: l, base, df⟩ L) : opsC P ops Q (⟨some d, .binOp op T xo yo T', ty, pos, af, none⟩ :: rest) ⟨l, base, df⟩ L :=
  opsC_none rfl (opC_own rfl (.inl ⟨v, fun x => run_binOp rfl (forceV_eq _ _ _ ha).symm (forceV_eq _ _ _ hb).symm hg (hr x), k⟩))
theorem q_eq {op : BinOp} {T T' : TypeId} {xo yo : Operand} {a b v : Value} (ha : forceV 3 ((⟨l, base, df⟩ : Fr).ev xo) = some a) (hb : forceV 3 ((⟨l, base, df⟩ : Fr).ev yo) = some b) (hg : eqFree P T a b = true) (hr : ∀ x : St L, (binOp op T a b).run P x.w = .ok v x.w)
    (k : quietC P ops L K rest ⟨(d, v) :: l, base, df⟩) : quietC P ops L K (⟨some d, .binOp op T xo yo T', ty, pos, af, none⟩ :: rest) ⟨l, base, df⟩ :=
  quietC_none rfl (qopC_own rfl (.inl ⟨v, fun x => run_binOp rfl (forceV_eq _ _ _ ha).symm (forceV_eq _ _ _ hb).symm hg (hr x), k⟩))
/-! ### Lengths -/
theorem run_len {ev : Operand → Value} {o : Oper} {t : TypeId} {x : Operand} {n : Int} (ho : o.op = .call { callee := .builtin .len, args := #[x], argTypes := #[t] })
    (h : ∀ w, (Builtin.len_ #[t] o.type #[ev x]).run P w = .ok (.int .i64 n) w) (w : World) : (execOp ev o).run P w = .ok (.value (.int .i64 n)) w := by
  unfold execOp
  simp only [ho]
  simp [resolve, invoke, builtin, h]
theorem r_lenS {t e : TypeId} {x : Operand} {a : Option Addr} {n c : Nat} (hx : (⟨l, base, df⟩ : Fr).ev x = .slice a n c) (hu : P.underlying t = some (.slice e)) (k : opsC P ops Q rest ⟨(d, .int .i64 n) :: l, base, df⟩ L) :
    opsC P ops Q (⟨some d, .call { callee := .builtin .len, args := #[x], argTypes := #[t] }, ty, pos, af, none⟩ :: rest) ⟨l, base, df⟩ L :=
  opsC_none rfl (opC_run rfl (run_len rfl (fun w => by rw [hx]; simp [Builtin.len_, run_underlying hu, goInt])) k)
theorem q_lenS {t e : TypeId} {x : Operand} {a : Option Addr} {n c : Nat} (hx : (⟨l, base, df⟩ : Fr).ev x = .slice a n c) (hu : P.underlying t = some (.slice e)) (k : quietC P ops L K rest ⟨(d, .int .i64 n) :: l, base, df⟩) :
    quietC P ops L K (⟨some d, .call { callee := .builtin .len, args := #[x], argTypes := #[t] }, ty, pos, af, none⟩ :: rest) ⟨l, base, df⟩ :=
  quietC_none rfl (qopC_run rfl (run_len rfl (fun w => by rw [hx]; simp [Builtin.len_, run_underlying hu, goInt])) k)
theorem r_lenT {t : TypeId} {x : Operand} {s : ByteArray} (hx : (⟨l, base, df⟩ : Fr).ev x = .string s) (hu : P.underlying t = some .string) (k : opsC P ops Q rest ⟨(d, .int .i64 s.size) :: l, base, df⟩ L) :
    opsC P ops Q (⟨some d, .call { callee := .builtin .len, args := #[x], argTypes := #[t] }, ty, pos, af, none⟩ :: rest) ⟨l, base, df⟩ L :=
  opsC_none rfl (opC_run rfl (run_len rfl (fun w => by rw [hx]; simp [Builtin.len_, run_underlying hu, goInt])) k)
theorem q_lenT {t : TypeId} {x : Operand} {s : ByteArray} (hx : (⟨l, base, df⟩ : Fr).ev x = .string s) (hu : P.underlying t = some .string) (k : quietC P ops L K rest ⟨(d, .int .i64 s.size) :: l, base, df⟩) :
    quietC P ops L K (⟨some d, .call { callee := .builtin .len, args := #[x], argTypes := #[t] }, ty, pos, af, none⟩ :: rest) ⟨l, base, df⟩ :=
  quietC_none rfl (qopC_run rfl (run_len rfl (fun w => by rw [hx]; simp [Builtin.len_, run_underlying hu, goInt])) k)
theorem ReadC.of {s : Sem Value} {v : Value} {K : Value → Prop} (h : ∀ x : St L, s.run P x.w = .ok v x.w) (k : K v) : ReadC P s L K := ⟨v, h, k⟩
theorem UpdC.of {s : Sem Unit} {K : Units → Prop} (h : ∀ x : St L, ∃ y : St M, s.run P x.w = .ok () y.w) (k : K M) : UpdC P s L K := ⟨M, fun x => by obtain ⟨y, hy⟩ := h x; exact ⟨y.w, hy, y.ok⟩, k⟩
theorem RunC.of {s : Sem Value} {v : Value} {K : Value → Units → Prop} (h : ∀ x : St L, ∃ y : St M, s.run P x.w = .ok v y.w) (k : K v M) : RunC P s L K := fun x => by
  obtain ⟨y, hy⟩ := h x
  exact ⟨v, y.w, hy, M, ⟨y, rfl⟩, k⟩
theorem RunC.app (r : Row) (els news : List (List Value)) {s bytes n m c : Nat} {t e : TypeId} {z : Value} {ad : Option Addr} {R R2 : Units} {K : Value → Units → Prop} (U : Blocks) [hU : Unit_ L (r.u e) R] [hU2 : Unit_ L U R2]
    (ht : P.underlying t = some (.slice e)) (hinfo : (P.info? e).map (fun i => (i.zero, i.size, i.bytes)) = some (some z, s, bytes)) (hzs : z.cells.size = s) (hn : els.length = n)
    (hok : RowOk r s els) (hnl : ∀ c ∈ news, c.length = s) (hsl : SlIn U ad m s news) (h1 : ∀ u ∈ news.flatten, u.oneCell' = true) (hbytes : (n + m) * bytes ≤ 140737488355328) (hlen : n + m ≤ 9223372036854775807)
    (k : ∀ r' : Row, RowOk r' s (els ++ news) → K (r'.val (n + m)) (r'.u e :: R)) : RunC P (Builtin.append_ #[t, t] ty #[r.val n, .slice ad m c]) L K := fun x => by
  obtain ⟨i, hi, hp⟩ := Option.map_eq_some_iff.1 hinfo
  simp only [Prod.mk.injEq] at hp
  obtain ⟨hz, hs, hb⟩ := hp
  subst hn
  obtain ⟨r', y, hr, hok'⟩ := run_append_row r els news s bytes t ty e i z ht hi hz hs hb hzs hok hnl x ad m c hsl.1 (hsl.read hnl x hU2) h1 hbytes hlen
  exact ⟨_, _, hr, _, ⟨y, rfl⟩, k r' hok'⟩
theorem RunC.appS (r : Row) (els news : List (List Value)) {s bytes n m c : Nat} {t e : TypeId} {z sv : Value} {ad : Option Addr} {R R2 : Units} {K : Value → Units → Prop} (U : Blocks) (hsv : r.val n = sv) [hU : Unit_ L (r.u e) R] [hU2 : Unit_ L U R2]
    (ht : P.underlying t = some (.slice e)) (hinfo : (P.info? e).map (fun i => (i.zero, i.size, i.bytes)) = some (some z, s, bytes)) (hzs : z.cells.size = s) (hn : els.length = n)
    (hok : RowOk r s els) (hnl : ∀ c ∈ news, c.length = s) (hsl : SlIn U ad m s news) (h1 : ∀ u ∈ news.flatten, u.oneCell' = true) (hbytes : (n + m) * bytes ≤ 140737488355328) (hlen : n + m ≤ 9223372036854775807)
    (k : ∀ (r' : Row) (a' : Option Addr) (c' : Nat), RowOk r' s (els ++ news) → r'.val (n + m) = .slice a' (n + m) c' → SlIn (r'.u e) a' (n + m) s (els ++ news) → K (.slice a' (n + m) c') (r'.u e :: R)) : RunC P (Builtin.append_ #[t, t] ty #[sv, .slice ad m c]) L K := by
  subst hsv
  refine RunC.app (s := s) (bytes := bytes) (z := z) (e := e) r els news U ht hinfo hzs hn hok hnl hsl h1 hbytes hlen (fun r' hok' => ?_)
  obtain ⟨a', c', hv, hs⟩ := r'.val_slice hok' e
  have hl : (els ++ news).length = n + m := by
    have := hsl.1
    rw [List.length_append, hn, this]
  rw [hl] at hv hs
  rw [hv]
  exact k r' a' c' hok' hv hs
/-- A thing of a row is read. -/
theorem LoadC.row {t : TypeId} {b o k s : Nat} {arr : Array Value} {T : TypeId} {fz : Nat × Nat} {els : List (List Value)} {cs : List Value} {K : Value → Prop} [Has L b (.cells arr T fz)] (hrow : RowAt arr o s els) (hk : els[k]? = some cs) (hs : cs.length = s) (ht : aggSize P t = some s) (h : K (.agg cs.toArray)) :
    LoadC P t (.pointer (some ⟨b, o + k * s, none⟩)) L K := by
  refine LoadC.aggAt (n := s) (vs := cs) (c := arr) (T := T) (fz := fz) ht ?_ hs h
  apply List.ext_getElem?
  intro j
  rw [List.getElem?_take]
  split
  · rename_i hj
    rw [List.getElem?_drop, Array.getElem?_toList]
    obtain ⟨v, hv⟩ : ∃ v, cs[j]? = some v := ⟨cs[j]'(by omega), List.getElem?_eq_getElem _⟩
    rw [hv, hrow k cs hk j v hv]
  · rename_i hj
    rw [List.getElem?_eq_none (by omega)]
theorem LoadC.row1 {t : TypeId} {b o k : Nat} {arr : Array Value} {T : TypeId} {fz : Nat × Nat} {els : List (List Value)} {v : Value} {K : Value → Prop} [Has L b (.cells arr T fz)] (hrow : RowAt arr o 1 els) (hk : els[k]? = some [v]) (ht : nonAgg P t = true) (h : K v) :
    LoadC P t (.pointer (some ⟨b, o + k * 1, none⟩)) L K :=
  LoadC.at (c := arr) (T := T) (fz := fz) ht (by have := hrow k [v] hk 0 v rfl; simpa using this) h
theorem Does.incl {g : FuncId} {args : Array Value} {R : Ending → Units → Prop} (hi : Incl L M) (h : Does P g args M R) : Does P g args L R := fun x => h ⟨x.w, hi _ x.ok⟩
theorem i64_succ {c : Nat} (h : c ≤ 4611686018427387904) : Value.int .i64 (IntKind.i64.wrap ((c : Int) + 1)) = .int .i64 ((c + 1 : Nat) : Int) := by
  rw [IntWalk.i64_in _ (by omega)]; rfl
/-- Ways meet behind a region. -/
theorem DrawC.cut {id : Nat} {dd : Code} {f : Fr} {γ : Type} (C : γ → Prop) (live : γ → List (Nat × Value)) (U : γ → Units)
    (h1 : DrawC P id ops (thenC (MeetC C live U) Q) f L) (h2 : ∀ g, C g → ∀ f0 : Nat → Value, wpC P dd Q (Fr.over f0 (live g)) (U g)) : DrawC P id ops (thenC (CutC P dd Q) Q) f L :=
  fun n hok a hl x => wp_mono (h1 n hok a hl x) (lift_mono (thenC_mono (fun _ _ h => MeetC.cut h2 h) (fun _ _ _ h => h)))
theorem CutC.nd {d : Code} {f : Fr} (h : (L.flatten.map (·.1)).Nodup → CutC P d Q f L) : CutC P d Q f L := fun n hok a hl x => h x.ok.nd n hok a hl x
theorem Does.nd {g : FuncId} {args : Array Value} {R : Ending → Units → Prop} (h : (L.flatten.map (·.1)).Nodup → Does P g args L R) : Does P g args L R := fun x => h x.ok.nd x
/-! ### Whatever order -/
def anyC (P : Program) (ops : Array Oper) (Q : Exit → Fr → Units → Prop) (fuel : Nat) (listed : Array Bool) (f : Fr) (L : Units) : Prop :=
  ∀ n, ops.toList.all (Oper.okD n) = true → ∀ a, Like n a f → ∀ x : St L, wpAny P .any ops (lift n Q) fuel listed a x.w
theorem any_start {id : Nat} {f : Fr} (hm : P.follows .mixedOrders = true) {s : Nat} (hs : ops.size = s) {li : List Bool} (hli : List.replicate s false = li) (h : anyC P ops Q s li.toArray f L) : DrawC P id ops Q f L := by
  intro n hok a hl x
  refine wp_region_any hm ?_
  subst hli; subst hs
  have e : (List.replicate ops.size false).toArray = Array.replicate ops.size false := by simp
  rw [← e]
  exact h n hok a hl x.drew
/-- What comes of a panic does not hang on the slots. -/
def PanicFree (Q : Exit → Fr → Units → Prop) : Prop := ∀ ch f f' M, f.defers = f'.defers → Q (.panic ch) f M → Q (.panic ch) f' M
theorem panicFree_body {fn : Func} {R : Ending → Units → Prop} : PanicFree (bodyC fn R) := fun ch f f' M hd h => by
  have h : EndC f.defers (R (.panicked ch) M) := h
  show EndC f'.defers (R (.panicked ch) M)
  rw [← hd]; exact h
theorem panicFree_then {K : Fr → Units → Prop} (h : PanicFree Q) : PanicFree (thenC K Q) := fun ch f f' M hd h' => h ch f f' M hd h'
theorem panicFree_block {id : Nat} (h : PanicFree Q) : PanicFree (inBlockC id Q) := fun ch f f' M hd h' => h ch f f' M hd h'
theorem any_take {f : Fr} (i : Nat) {o : Oper} {v : Value} {fuel : Nat} {listed : Array Bool} (hp : PanicFree Q) (hi : ops[i]? = some o) (hc : (Region.noSelect ops && Region.free .any ops listed i && (Region.ready .any ops listed).contains i) = true)
    (hg : o.guard = none) (hv : ∀ w, (execOp f.ev o).run P w = .ok (.value v) w) (k : anyC P ops Q fuel (listed.setIfInBounds i true) (f.put o.dst v) L) : anyC P ops Q (fuel + 1) listed f L := by
  simp only [Bool.and_eq_true] at hc
  intro n hok a hl x
  have hio : o.okD n = true := List.all_eq_true.1 hok o (by
    have := Array.mem_of_getElem? hi
    simpa using this)
  refine wpAny_take hi hc.1.1 hc.1.2 hc.2 ?_ (.inl ⟨by simp [Region.wanted, hg], fun w => by rw [hl.eval]; exact hv w⟩) (k n hok _ (hl.put (Oper.okD_lt hio) v) x)
  rintro ch a' w ⟨f', M, h1, h2, h3⟩
  have hd : a'.defers = f'.defers := by
    have e : (a'.put o.dst v).defers = a'.defers := by cases o.dst <;> rfl
    rw [← e]
    exact h1.defers
  have hs : a'.tmps.size = n := by
    have := h1.size
    cases hh : o.dst <;> simpa [Act.put, hh] using this
  exact ⟨⟨[], fun t => a'.tmps.getD t undef, a'.defers⟩, M, ⟨hs, fun t => rfl, rfl⟩, h2, hp ch f' _ M hd.symm h3⟩
theorem run_buildL {ev : Operand → Value} {o : Oper} {T : TypeId} {parts : Array (Nat × Operand)} {f : Fr} {vs : List (Nat × Value)} {cs : List Value} (ho : o.op = .build T parts) (hf : f.ev = ev) (hp : evP f parts.toList = some vs) (hc : builtL P T vs = some cs) (w : World) :
    (execOp ev o).run P w = .ok (.value (.agg cs.toArray)) w := by
  subst hf
  have := run_build w T (parts.map fun (i, x) => (i, f.ev x)) cs.toArray (by rw [map_pairs (evP_eq hp)]; simpa using builtL_eq hc)
  unfold execOp
  simp [ho, this]
theorem any_val {i : Nat} {v : Value} {fuel : Nat} {listed : Array Bool} (hp : PanicFree Q) (hi : ops[i]? = some ⟨some d, p, ty, pos, af, none⟩) (hc : (Region.noSelect ops && Region.free .any ops listed i && (Region.ready .any ops listed).contains i) = true)
    (hv : ∀ w, (execOp (Fr.ev ⟨l, base, df⟩) ⟨some d, p, ty, pos, af, none⟩).run P w = .ok (.value v) w) (k : anyC P ops Q fuel (listed.setIfInBounds i true) ⟨(d, v) :: l, base, df⟩ L) : anyC P ops Q (fuel + 1) listed ⟨l, base, df⟩ L :=
  any_take i hp hi hc rfl hv k
theorem pureV_run {o : Oper} {f : Fr} {v : Value} (h : pureV P o f = some v) (w : World) : (execOp f.ev o).run P w = .ok (.value v) w := by
  have := (pureV_spec h).2
  have key : ∀ {α : Type} (s : Sem α) {a : α}, pureS P s = some a → s.run P w = .ok a w := by
    intro α s
    induction s with
    | pure b => intro a h; simp only [pureS, Option.some.injEq] at h; subst h; rfl
    | program f ih => intro a h; exact ih P h
    | _ => intro a h; cases h
  exact key _ this
def AllI (P : Program) (ops : Array Oper) (Q : Exit → Fr → Units → Prop) (fuel : Nat) (listed : Array Bool) (f : Fr) (L : Units) : List Nat → Prop
  | [] => True
  | i :: r => (∃ o, ops[i]? = some o ∧ opsC P ops (thenC (anyC P ops Q fuel (listed.setIfInBounds i true)) Q) [o] f L) ∧ AllI P ops Q fuel listed f L r
theorem allI_mem {f : Fr} {fuel : Nat} {listed : Array Bool} : ∀ {is : List Nat}, AllI P ops Q fuel listed f L is → ∀ i ∈ is, ∃ o, ops[i]? = some o ∧ opsC P ops (thenC (anyC P ops Q fuel (listed.setIfInBounds i true)) Q) [o] f L
  | [], _, _, h => by cases h
  | i :: r, h, j, hj => by
    rcases List.mem_cons.1 hj with rfl | hj
    · exact h.1
    · exact allI_mem h.2 j hj
theorem any_all {f : Fr} (is : List Nat) {fuel : Nat} {listed : Array Bool} (hr : Region.ready .any ops listed = is) (hne : is.isEmpty = false) (h : AllI P ops Q fuel listed f L is) : anyC P ops Q (fuel + 1) listed f L := by
  intro n hok a hl x
  refine wpAny_all hr (by intro e; subst e; cases hne) ?_
  intro i hi
  obtain ⟨o, ho, h⟩ := allI_mem h i hi
  have hio : [o].all (Oper.okD n) = true := by
    have : o ∈ ops.toList := by simpa using Array.mem_of_getElem? ho
    simp [List.all_eq_true.1 hok o this]
  have h2 := opsC_wp hio hl h x
  have mono : ∀ a' w', wpList P ops (lift n (thenC (anyC P ops Q fuel (listed.setIfInBounds i true)) Q)) [] a' w' → wpAny P .any ops (lift n Q) fuel (listed.setIfInBounds i true) a' w' := by
    rintro a' w' ⟨f', M, h1, ⟨y, rfl⟩, h3⟩
    exact h3 n hok a' h1 y
  have hpan : ∀ ch a' w', lift n (thenC (anyC P ops Q fuel (listed.setIfInBounds i true)) Q) (.panic ch) a' w' → lift n Q (.panic ch) a' w' := fun ch a' w' ⟨f', M, h1, h2, h3⟩ => ⟨f', M, h1, h2, h3⟩
  unfold wpOp
  rw [ho]
  simp only
  unfold wpList at h2
  split
  · rename_i hw
    rw [if_pos hw] at h2
    rcases h2 with h2 | ⟨h2, a', w', f', M, h3, h4, h5⟩
    · refine .inl ?_
      unfold Oper.wp at h2 ⊢
      generalize (execOp a.eval o).run P x.w = r at h2
      cases r with
      | ok nx w' =>
        cases nx <;> simp only [Oper.upon] at h2 ⊢
        case value v => exact mono _ _ h2
        case skip => exact mono _ _ h2
        case defer g => exact mono _ _ h2
        case enter g args =>
          refine h2.mono ?_
          intro e w'' hR
          cases e with
          | returned v => exact mono _ _ hR
          | panicked ch => exact hpan _ _ _ hR
          | outgrown =>
            obtain ⟨a'', w3, f', M, h3, h4, h5⟩ := hR
            exact ⟨a'', w3, f', M, h3, h4, h5⟩
        case row row args =>
          exact h2.mono fun v w'' hR => mono _ _ hR
      | halt hh w' => cases hh <;> simp only [Oper.upon] at h2 ⊢ <;> first | exact hpan _ _ _ h2 | exact h2
    · exact .inr ⟨h2, a', w', f', M, h3, h4, h5⟩
  · rename_i hw
    rw [if_neg hw] at h2
    exact mono _ _ h2
/-- Orders meet where the same is listed. -/
theorem any_meet {γ : Type} {C : γ → Prop} {live : γ → List (Nat × Value)} {U : γ → Units} {fuel : Nat} {listed : Array Bool} (h2 : ∀ g, C g → ∀ f0 : Nat → Value, anyC P ops Q fuel listed (Fr.over f0 (live g)) (U g)) {f : Fr} {M : Units} (h : MeetC C live U f M) : anyC P ops Q fuel listed f M := by
  obtain ⟨g, hc, ha, hi⟩ := h
  intro n hok a hl x
  exact h2 g hc f.get n hok a (hl.over ha) (⟨x.w, hi _ x.ok⟩ : St (U g))
theorem any_have {γ : Type} (fuel' : Nat) (listed' : List Bool) (C : γ → Prop) (live : γ → List (Nat × Value)) (U : γ → Units) {fuel : Nat} {listed : Array Bool} {f : Fr} {M : Units} (h : ∀ g, C g → ∀ f0 : Nat → Value, anyC P ops Q fuel' listed'.toArray (Fr.over f0 (live g)) (U g))
    (k : (∀ g, C g → ∀ f0 : Nat → Value, anyC P ops Q fuel' listed'.toArray (Fr.over f0 (live g)) (U g)) → anyC P ops Q fuel listed f M) : anyC P ops Q fuel listed f M := k h
theorem any_done {f : Fr} {fuel : Nat} {listed : Array Bool} (hr : Region.ready .any ops listed = []) (h : Q .normal f L) : anyC P ops Q fuel listed f L :=
  fun _ _ _ hl x => wpAny_done hr ⟨f, L, hl, ⟨x, rfl⟩, h⟩ fuel
end
end W
theorem Incl.trans {M N O : Units} (h : Incl M N) (h' : Incl N O) : Incl M O := fun w s => h' w (h w s)
theorem Incl.of' {M N : Units} (h : M = N) : Incl M N := by subst h; exact Incl.refl _
/-! ### Maps gone through; maps cloned -/
namespace W
variable [Env]
section
variable {P : Program} {ops : Array Oper} {Q : Exit → Fr → Units → Prop} {rest : List Oper} {L M : Units} {d : Tmp} {ty : TypeId} {pos : String} {af : Array Edge} {l : List (Nat × Value)} {base : Nat → Value} {df : List Deferred}
theorem r_range {T k e : TypeId} {mo : Operand} {m clk : Nat} {es : Array MapEntry} (hm : forceV 3 ((⟨l, base, df⟩ : Fr).ev mo) = some (.map (some m))) (ht : P.underlying T = some (.map k e)) [H : Has L m (.map es clk)]
    (kk : ∀ nb, opsC P ops Q rest ⟨(d, .pointer (some ⟨nb, 0, none⟩)) :: l, base, df⟩ ([(nb, .mapIter (some m) clk #[] clk)] :: L)) :
    opsC P ops Q (⟨some d, .range T mo, ty, pos, af, none⟩ :: rest) ⟨l, base, df⟩ L :=
  opsC_none rfl (opC_own rfl (.inr (.inl ⟨fun nb => .pointer (some ⟨nb, 0, none⟩), .mapIter (some m) clk #[] clk, fun x => by
    have hb : x.w.heap[m]? = some (.map es clk) := St.heap (h := H) x
    have := run_range_map (P := P) x.w T k e m es clk ht hb
    show (Instr.range T ((⟨l, base, df⟩ : Fr).ev mo) >>= fun v => pure (Next.value v)).run P x.w = _
    rw [← forceV_eq _ _ _ hm]
    simp only [Sem.run_bind, this, Result.andThen]
    rfl, kk⟩)))
theorem r_next {it : Operand} {r bm since c0 clock : Nat} {seen : Array Nat} {es : Array MapEntry} (hi : forceV 3 ((⟨l, base, df⟩ : Fr).ev it) = some (.pointer (some ⟨r, 0, none⟩)))
    [H : Has L r (.mapIter (some bm) since seen c0)] [H2 : Has L bm (.map es clock)] (hold : ∀ x ∈ es.toList, x.born < since) (hsc : since ≤ c0)
    (k0 : (leftOf es seen).size = 0 → opsC P ops Q rest ⟨(d, .tuple #[.bool false]) :: l, base, df⟩ L)
    (k1 : ∀ e ∈ (leftOf es seen).toList, ∃ M, ∃ _ : Lay L r (.mapIter (some bm) since (seen.push e.born) clock) M, opsC P ops Q rest ⟨(d, .tuple #[.bool true, e.key, e.val]) :: l, base, df⟩ M) :
    opsC P ops Q (⟨some d, .next it false, ty, pos, af, none⟩ :: rest) ⟨l, base, df⟩ L :=
  opsC_none rfl (opC_any rfl fun x => by
    have hb : x.w.heap[r]? = _ := St.heap (h := H) x
    have hb2 : x.w.heap[bm]? = _ := St.heap (h := H2) x
    have he : ∀ w, (execOp (⟨l, base, df⟩ : Fr).ev ⟨some d, .next it false, ty, pos, af, none⟩).run P w = ((Instr.next (.pointer (some ⟨r, 0, none⟩)) false ty).run P w).andThen fun v w => .ok (.value v) w := by
      intro w
      show (Instr.next ((⟨l, base, df⟩ : Fr).ev it) false ty >>= fun v => pure (Next.value v)).run P w = _
      rw [← forceV_eq _ _ _ hi, Sem.run_bind]
      rfl
    rcases run_next_at (P := P) x.w ty r bm since c0 seen es clock hb hb2 hold hsc with ⟨h0, hr⟩ | ⟨e, hem, w1, hw1, hr⟩
    · exact ⟨_, _, by rw [he, hr]; rfl, L, ⟨x, rfl⟩, k0 h0⟩
    · obtain ⟨M, hM, kk⟩ := k1 e hem
      refine ⟨_, _, by rw [he, hr]; rfl, M, ?_, kk⟩
      have hx1 : ∃ x1 : St L, x1.w = w1 := by
        rcases hw1 with rfl | rfl
        · exact ⟨x, rfl⟩
        · exact ⟨x.drew, rfl⟩
      obtain ⟨x1, rfl⟩ := hx1
      exact ⟨x1.lay r (.mapIter (some bm) since (seen.push e.born) clock), rfl⟩)
theorem r_entry {it : Operand} {r bm since clock : Nat} {seen : Array Nat} {es : Array MapEntry} {e : MapEntry} {ke ve : Value} (hi : forceV 3 ((⟨l, base, df⟩ : Fr).ev it) = some (.pointer (some ⟨r, 0, none⟩)))
    [H : Has L r (.mapIter (some bm) since (seen.push e.born) clock)] [H2 : Has L bm (.map es clock)] (he : e ∈ es.toList) (hn : (es.toList.map (·.born)).Nodup) (hk : e.key = ke) (hv : e.val = ve)
    (k : opsC P ops Q rest ⟨(d, .tuple #[ke, ve]) :: l, base, df⟩ L) :
    opsC P ops Q (⟨some d, .entry it, ty, pos, af, none⟩ :: rest) ⟨l, base, df⟩ L := by
  subst hk; subst hv
  exact opsC_none rfl (opC_own rfl (.inl ⟨.tuple #[e.key, e.val], fun x => by
    have hb : x.w.heap[r]? = _ := St.heap (h := H) x
    have hb2 : x.w.heap[bm]? = _ := St.heap (h := H2) x
    show (Instr.entry ((⟨l, base, df⟩ : Fr).ev it) >>= fun v => pure (Next.value v)).run P x.w = _
    rw [← forceV_eq _ _ _ hi, Sem.run_bind, run_entry_at (P := P) x.w r bm since seen es clock e hb hb2 he hn]
    rfl, k⟩))
/-- A call of a function for which the model stands in: its value, its new block. -/
theorem r_extern {args : Array Operand} {ts : Array TypeId} {g : FuncId} {fn : Func} {ex : Array Value → Sem Value} {vs : List Value} {v : Nat → Value} {ob : Obj} (hf : P.funcs[g]? = some fn) (hname : (fn.name == "runtime.NumGoroutine") = false)
    (hb : fn.body.isNone = true) (hx : Extern.findNext fn = none) (he : Extern.find fn = some ex) (ha : evL ⟨l, base, df⟩ args.toList = some vs)
    (hr : ∀ x : St L, (ex vs.toArray).run P x.w = .ok (v x.w.heap.size) (x.w.alloc ob)) (k : ∀ nb, opsC P ops Q rest ⟨(d, v nb) :: l, base, df⟩ ([(nb, ob)] :: L)) :
    opsC P ops Q (⟨some d, .call { callee := .value (.func g), args := args, argTypes := ts }, ty, pos, af, none⟩ :: rest) ⟨l, base, df⟩ L :=
  opsC_none rfl (opC_own rfl (.inr (.inl ⟨v, ob, fun x => by
    have hargs : args.map (⟨l, base, df⟩ : Fr).ev = vs.toArray := by
      apply Array.ext'
      rw [Array.toList_map, evL_eq ha]
    have e1 : execOp (⟨l, base, df⟩ : Fr).ev ⟨some d, .call { callee := .value (.func g), args := args, argTypes := ts }, ty, pos, af, none⟩ = callFunc g vs.toArray := by
      have e2 : (#[] : Array Value) ++ vs.toArray ++ #[] = vs.toArray := by simp
      show callFunc g (#[] ++ args.map (⟨l, base, df⟩ : Fr).ev ++ #[]) = _
      rw [hargs, e2]
    rw [e1, run_callFunc_extern hf hname hb hx he, hr x]
    rfl, k⟩)))
/-- An empty slice is built. -/
theorem r_slice0 {T E : TypeId} (hr : ∀ w, (Instr.buildSlice T 0 #[]).run P w = .ok (.slice (some ⟨w.heap.size, 0, none⟩) 0 0) (w.alloc (.cells #[] E))) (k : ∀ nb, opsC P ops Q rest ⟨(d, .slice (some ⟨nb, 0, none⟩) 0 0) :: l, base, df⟩ ([(nb, .cells #[] E)] :: L)) :
    opsC P ops Q (⟨some d, .buildSlice T 0 #[], ty, pos, af, none⟩ :: rest) ⟨l, base, df⟩ L :=
  opsC_none rfl (opC_new rfl (v := fun nb => .slice (some ⟨nb, 0, none⟩) 0 0) (ob := .cells #[] E) (fun w => by
    have e : (#[] : Array (Nat × Operand)).map (fun x => (x.1, (⟨l, base, df⟩ : Fr).ev x.2)) = #[] := by simp
    show (Instr.buildSlice T 0 ((#[] : Array (Nat × Operand)).map fun x => (x.1, (⟨l, base, df⟩ : Fr).ev x.2)) >>= fun v => pure (Next.value v)).run P w = _
    rw [e, Sem.run_bind, hr w]
    rfl) k)
/-- 'x.(M)', where it is one. -/
theorem r_assert {t xT T k e : TypeId} {io : Operand} {v : Value} (hi : forceV 3 ((⟨l, base, df⟩ : Fr).ev io) = some (.iface T v)) (ht : P.underlying T = some (.map k e))
    (kk : opsC P ops Q rest ⟨(d, v) :: l, base, df⟩ L) :
    opsC P ops Q (⟨some d, .typeAssert io xT T false, ty, pos, af, none⟩ :: rest) ⟨l, base, df⟩ L :=
  opsC_none rfl (opC_run rfl (v := v) (fun w => by
    show (Instr.typeAssert ((⟨l, base, df⟩ : Fr).ev io) xT T false >>= fun v => pure (Next.value v)).run P w = _
    rw [← forceV_eq _ _ _ hi]
    have : (Instr.typeAssert (.iface T v) xT T false).run P w = .ok v w := by simp [Instr.typeAssert, run_underlying ht, go_sem, Result.andThen]
    rw [Sem.run_bind, this]
    rfl) kk)
end
end W
end Go
end
