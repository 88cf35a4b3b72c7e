/- A message is sent. -/
import Derived.Test.YthijlgjfgliinaaMon7
import Derived.Test.YthijlgjfgliinaaMon3
import Derived.Deep.RegionHeld3
import Derived.Deep.DeepCutAuto
set_option linter.all false
namespace Go
variable [Env]
section
variable {P : Program}
/-- An append as a step of a region that draws its order. -/
theorem step_append_sl {ops : Array Oper} {K : Act → World → Prop} {Q : Exit → Act → World → Prop} {E : Prop} {a : Act} {d : Option Tmp} {ty : TypeId} {pos : String} {af : Array Edge} {so xo : Operand} {t : TypeId}
    (r : Row) (els news : List (List Value)) (s bytes : Nat) (e : TypeId) (i : TypeInfo) (z : Value) (ht : P.underlying t = some (.slice e)) (hi : P.info? e = some i) (hz : i.zero = some z)
    (hsize : i.size = s) (hby : i.bytes = bytes) (hzs : z.cells.size = s) (U : Blocks) {L R R2 : Units} {x : St L} [hU : Unit_ L (r.u e) R] [hU2 : Unit_ L U R2]
    (ad : Option Addr) (m c n : Nat) (hn : els.length = n) (hs : a.eval so = r.val n) (hxv : a.eval xo = .slice ad m c) (hok : RowOk r s els) (hnl : ∀ c ∈ news, c.length = s)
    (hsl : SlIn U ad m s news) (h1 : ∀ u ∈ news.flatten, u.oneCell' = true)
    (hbytes : (n + m) * bytes ≤ 140737488355328) (hlen : n + m ≤ 9223372036854775807)
    (h : ∀ (r' : Row) (y : St (r'.u e :: R)), RowOk r' s (els ++ news) → K (a.put d (r'.val (n + m))) y.w) :
    if Region.wanted { dst := d, op := .call { callee := .builtin .append, args := #[so, xo], argTypes := #[t, t] }, type := ty, pos := pos, after := af, guard := none } (yielded ops a.tmps) = true then
      Oper.wp P { dst := d, op := .call { callee := .builtin .append, args := #[so, xo], argTypes := #[t, t] }, type := ty, pos := pos, after := af, guard := none } a x.w K Q else E := by
  subst hn
  obtain ⟨r', y, hr, hok'⟩ := run_append_row r els news s bytes t ty e i z ht hi hz hsize hby hzs hok hnl x ad m c hsl.1 (hsl.read hnl x hU2) h1 hbytes hlen
  rw [if_pos (by simp [Region.wanted])]
  unfold Oper.wp
  have e1 : (execOp a.eval { dst := d, op := .call { callee := .builtin .append, args := #[so, xo], argTypes := #[t, t] }, type := ty, pos := pos, after := af, guard := none }).run P x.w = .ok (.value (r'.val (els.length + m))) y.w := by
    simp [execOp, resolve, invoke, builtin, hs, hxv, hr]
  rw [e1]
  exact h r' y hok'
end
end Go
namespace Go.Proofs.Ythijlgjfgliinaa
open Go.RowKit
variable [Env]
set_option maxRecDepth 100000
theorem Try.size39 : (Try.prog.info? 39).map (·.size) = some 19 := by kernel_rfl
/-- A whole event is loaded. -/
theorem wpList_loadEv {ops : Array Oper} {Q : Exit → Act → World → Prop} {rest : List Oper} {a : Act} {d : Option Tmp} {ty : TypeId} {pos : String} {af : Array Edge} {ad : Operand} {L : Units} {x : St L} {b : Nat} (e : Ev)
    (ha : a.eval ad = .pointer (some ⟨b, 0, none⟩)) [H : Has L b (evO e)] (h : wpList Try.prog ops Q rest (a.put d (evV e)) x.w) :
    wpList Try.prog ops Q ({ dst := d, op := .load 39 ad, type := ty, pos := pos, after := af, guard := none } :: rest) a x.w := by
  have hb : x.w.heap[b]? = some (evO e) := x.heap
  have hl := run_loadCells_list (P := Try.prog) (w := x.w) ⟨b, 0, none⟩ e.cells (fun j v hv => by
    have ea : (⟨b, 0, none⟩ : Addr).add j = ⟨b, j, none⟩ := by unfold Addr.add; split <;> simp_all
    rw [ea, St.cell, hb]
    show (e.cells.toArray)[j]? = some v
    rw [List.getElem?_toArray]; exact hv)
  obtain ⟨i, hi, hs⟩ := Option.map_eq_some_iff.1 Try.size39
  refine wpList_plain rfl fun K hK => ?_
  unfold Oper.wp
  have e1 : (execOp a.eval { dst := d, op := .load 39 ad, type := ty, pos := pos, after := af, guard := none }).run Try.prog x.w = .ok (.value (evV e)) x.w := by
    unfold execOp
    simp only [ha]
    have hlen : e.cells.length = 19 := rfl
    rw [hlen] at hl
    simp [Instr.loadAt, loadVar, isAgg, run_underlying Try.underlying39, sizeOf, typeInfo, hi, hs, hl, Instr.sureAddr]
    rfl
  rw [e1]
  exact hK _ _ h
theorem at_load39 {ops : Array Oper} {Q : Exit → Act → World → Prop} {rest : List Oper} {a : Act} {d : Option Tmp} {ty : TypeId} {pos : String} {af : Array Edge} {ad : Operand} {w : World}
    (h : wpList Try.prog ops Q ({ dst := d, op := .load 39 ad, type := ty, pos := pos, after := af, guard := none } :: rest) a w) :
    wpList Try.prog ops Q ({ dst := d, op := .load 39 ad, type := ty, pos := pos, after := af, guard := none } :: rest) a w := h
/-- The stay that an event stands in, if it does. -/
def stayOk (lvv : Bool) (s : Option GStay) (e : Ev) : Option GStay := match s with
  | some b => if lvv && confEq b.epoch b.rep e.epoch e.rep then some b else none
  | none => none
section
variable {m sb eb mb lb nb : Nat} {st : Value} {br ln at_ ru : Int}
theorem stay19_spec (e : Ev) (lv : GMap Int Bool) (nw : GMap Int Nat) (lvv : Bool) (s : Option GStay) (hl : (lv.get e.proc).getD false = lvv) (hn : nw.get e.proc = s.map GStay.blk)
    {L R : Units} [hp : Pick L m (monO sb eb mb st lb nb br ln at_ ru) R] [Has R lb (lv.obj ikey bval)] [Has R nb (nw.obj ikey pval)] (hS : ∀ b, s = some b → Has R b.blk b.obj) (x : St L) :
    Calls Try.prog 19 #[.pointer (some ⟨m, 0, none⟩), evV e] x.w (Ret ([(m, monO sb eb mb st lb nb (brk br 1 (stayOk lvv s e).isNone) ln at_ ru)] :: R) (.pointer ((stayOk lvv s e).map fun b => ⟨b.blk, 0, none⟩))) := by
  cases lvv
  · have : stayOk false s e = none := by cases s <;> rfl
    rw [this]
    exact stay19_dead e lv nw _ hl rfl x
  · rcases s with _ | b
    · exact stay19_none e lv nw hl hn x
    · haveI := hS b rfl
      cases hc : confEq b.epoch b.rep e.epoch e.rep
      · have : stayOk true (some b) e = none := by simp [stayOk, hc]
        rw [this]
        exact stay19_else e lv nw b.blk _ _ _ _ _ _ _ _ _ hl hn hc x
      · have : stayOk true (some b) e = some b := by simp [stayOk, hc]
        rw [this]
        obtain ⟨h1, h2⟩ := confEq_iff.1 hc
        haveI : Has R b.blk (stayO b.proc e.epoch e.rep b.members (b.r0.val b.m0.length) (b.r1.val b.m1.length) b.cb (b.tr.map (·.1)) b.went) := by rw [← h1, ← h2]; exact hS b rfl
        have e0 : brk br 1 (some b).isNone = br := by simp [brk]
        rw [e0]
        exact stay19_ok e lv nw b.blk (b.r0.val b.m0.length) (b.r1.val b.m1.length) b.proc b.members b.cb (b.tr.map fun t : Nat × Ev => t.1) b.went hl hn x

theorem stayOk_some {lvv : Bool} {s : Option GStay} {e : Ev} {b : GStay} (h : stayOk lvv s e = some b) : s = some b ∧ lvv = true ∧ b.epoch = e.epoch ∧ b.rep = e.rep := by
  rcases s with _ | c
  · cases h
  · simp only [stayOk] at h
    split at h
    · rename_i hc
      cases h
      simp only [Bool.and_eq_true] at hc
      obtain ⟨h1, h2⟩ := confEq_iff.1 hc.2
      exact ⟨rfl, hc.1, h1, h2⟩
    · cases h
theorem stay19_no (e : Ev) (lv : GMap Int Bool) (nw : GMap Int Nat) (lvv : Bool) (s : Option GStay) (hso : stayOk lvv s e = none) (hl : (lv.get e.proc).getD false = lvv) (hn : nw.get e.proc = s.map GStay.blk)
    {L R : Units} [hp : Pick L m (monO sb eb mb st lb nb br ln at_ ru) R] [Has R lb (lv.obj ikey bval)] [Has R nb (nw.obj ikey pval)] (hS : ∀ b, s = some b → Has R b.blk b.obj) (x : St L) :
    Calls Try.prog 19 #[.pointer (some ⟨m, 0, none⟩), evV e] x.w (Ret ([(m, monO sb eb mb st lb nb (brk br 1 true) ln at_ ru)] :: R) (.pointer none)) := by
  have := stay19_spec (st := st) (br := br) (ln := ln) (at_ := at_) (ru := ru) (sb := sb) (eb := eb) (mb := mb) (m := m) e lv nw lvv s hl hn hS x
  rw [hso] at this
  exact this
theorem stay19_yes (e : Ev) (lv : GMap Int Bool) (nw : GMap Int Nat) (lvv : Bool) (s : Option GStay) (b : GStay) (hso : stayOk lvv s e = some b) (hl : (lv.get e.proc).getD false = lvv) (hn : nw.get e.proc = s.map GStay.blk)
    {L R : Units} [hp : Pick L m (monO sb eb mb st lb nb br ln at_ ru) R] [Has R lb (lv.obj ikey bval)] [Has R nb (nw.obj ikey pval)] (hS : ∀ b, s = some b → Has R b.blk b.obj) (x : St L) :
    Calls Try.prog 19 #[.pointer (some ⟨m, 0, none⟩), evV e] x.w (Ret ([(m, monO sb eb mb st lb nb br ln at_ ru)] :: R) (.pointer (some ⟨b.blk, 0, none⟩))) := by
  have := stay19_spec (st := st) (br := br) (ln := ln) (at_ := at_) (ru := ru) (sb := sb) (eb := eb) (mb := mb) (m := m) e lv nw lvv s hl hn hS x
  rw [hso] at this
  have e0 : brk br 1 (some b).isNone = br := by simp [brk]
  rw [e0] at this
  exact this

/-- What lies under a message's place: the row, and what is in it. -/
abbrev SV := Row × List GM
abbrev sval (p : SV) : Value := p.1.val p.2.length
abbrev sendsO (g : GMap Place SV) : Obj := g.obj Place.key sval
theorem Try.info34' : (Try.prog.info? 34).map (fun i => (i.zero, i.size, i.bytes)) = some (some msgZero, 6, 72) := Try.info34
theorem entry_sends {L M : Units} (r : Nat) (g : GMap Place SV) (k : Place) (p : SV) (hp : (g.get k).getD (Row.nil, []) = p) [h : Has L r (sendsO g)] [Lay L r (sendsO (g.touch k (Row.nil, []))) M] (x : St L) :
    (Instr.mapEntry 45 (.map (some r)) (.agg #[.int .u64 k.epoch, .int .i64 k.rep, .int .i64 k.frm, .int .u32 k.seq])).run Try.prog x.w = .ok (.tuple #[p.1.val p.2.length, .int .i64 (g.stamp k)]) (x.lay r (sendsO (g.touch k (Row.nil, [])))).w := by
  have := run_mapEntry_g (P := Try.prog) KL69 (T := 45) (et := 61) (ev := sval) Try.underlying45 (Row.nil, []) (fun w => by simp [go_sem, sval, Row.val, Row.nil]) g (St.heap (h := h) x) k
  rw [hp] at this
  exact this
theorem put_sends {L M : Units} (r : Nat) (g : GMap Place SV) (k : Place) (r' : Row) (ms : List GM) (n : Nat) (hn : ms.length = n) [h : Has L r (sendsO (g.touch k (Row.nil, [])))] [Lay L r (sendsO (g.put k (r', ms))) M] (x : St L) :
    (Instr.entryStore 45 (.map (some r)) (.int .i64 (g.stamp k)) (r'.val n)).run Try.prog x.w = .ok () (x.lay r (sendsO (g.put k (r', ms)))).w := by
  subst hn
  exact run_entryStore_g (P := Try.prog) (ev := sval) g k (Row.nil, []) (r', ms) (St.heap (h := h) x)
end
end Go.Proofs.Ythijlgjfgliinaa
