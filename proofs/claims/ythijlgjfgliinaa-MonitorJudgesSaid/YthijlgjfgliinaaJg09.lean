/- Part 9 of the proof of what MonJudges says. -/
import Derived.Test.YthijlgjfgliinaaJg08
import Derived.Deep.RegionHeld3
import Derived.Deep.DeepCutAuto
section
/- The stay of an event that must stand in one. -/
set_option linter.all false
namespace Go.Proofs.Ythijlgjfgliinaa
open Go.RowKit
variable [Env]
set_option maxRecDepth 100000

/-- The value of an event. -/
abbrev evV (e : Ev) : Value := .agg #[.int .i64 e.kind, .int .i64 e.proc, .int .u64 e.epoch, .int .i64 e.rep, .int .u64 e.nepoch, .int .i64 e.nrep, .int .u64 e.members, .int .i64 e.m.frm, .int .u32 e.m.seq, .int .u64 e.m.stamp, .int .i64 e.m.svc, .slice e.m.da e.m.dn e.m.dc, .string e.m.pay, .int .u64 e.vnum, .int .u64 e.vepoch, .int .i64 e.vrep, .int .u64 e.vmem, .slice e.na e.nn e.nc, .string e.state]
abbrev bval (b : Bool) : Value := .bool b
abbrev pval (b : Nat) : Value := .pointer (some ⟨b, 0, none⟩)
abbrev setV (b : Int) : Value := .int .u64 b
theorem look_now {L : Units} (r : Nat) (g : GMap Int Nat) (v : Option Nat) (k : Int) (hv : g.get k = v) [h : Has L r (g.obj ikey pval)] (x : St L) : (Instr.lookup 52 (.map (some r)) (.int .i64 k) false).run Try.prog x.w = .ok (.pointer (v.map (⟨·, 0, none⟩))) x.w := by
  have := run_lookup_g (P := Try.prog) KL3 (T := 52) (et := 57) (z := .pointer none) Try.underlying52 (fun w => by simp [go_sem]) g (St.heap (h := h) x) k false
  rw [this, hv]
  cases v <;> rfl
theorem look_live {L : Units} (r : Nat) (g : GMap Int Bool) (v : Bool) (k : Int) (hv : (g.get k).getD false = v) [h : Has L r (g.obj ikey bval)] (x : St L) : (Instr.lookup 51 (.map (some r)) (.int .i64 k) false).run Try.prog x.w = .ok (.bool v) x.w := by
  have := run_lookup_g (P := Try.prog) KL3 (T := 51) (et := 4) (z := .bool false) Try.underlying51 (fun w => by simp [go_sem]) g (St.heap (h := h) x) k false
  rw [this, ← hv]
  cases g.get k <;> rfl
section
variable {m sb eb mb lb nb : Nat} {st : Value} {br ln at_ ru : Int}
set_option maxHeartbeats 1000000 in
theorem stay19_ok (e : Ev) (lv : GMap Int Bool) (nw : GMap Int Nat) (b : Nat) (p0 p1 : Value) (pr me : Int) (cb : Nat) (tr : Option Nat) (we : Bool) (hl : (lv.get e.proc).getD false = true) (hn : nw.get e.proc = some b)
    {L R : Units} [hp : Pick L m (monO sb eb mb st lb nb br ln at_ ru) R] [Has R lb (lv.obj ikey bval)] [Has R nb (nw.obj ikey pval)] [Has R b (stayO pr e.epoch e.rep me p0 p1 cb tr we)] (x : St L) :
    Calls Try.prog 19 #[.pointer (some ⟨m, 0, none⟩), evV e] x.w (Ret ([(m, monO sb eb mb st lb nb br ln at_ ru)] :: R) (.pointer (some ⟨b, 0, none⟩))) := by
  rw [St.re_w x hp.ok]
  generalize x.re hp.ok = x
  have h1 := fun {L : Units} [Has L nb (nw.obj ikey pval)] (x : St L) => look_now nb nw _ e.proc hn x
  have h2 := fun {L : Units} [Has L lb (lv.obj ikey bval)] (x : St L) => look_live lb lv _ e.proc hl x
  have hc : confEq e.epoch e.rep e.epoch e.rep = true := by simp [confEq]
  clear hl hn
  go_enter Try.func19, Try.ntmps19
  go_wp2_with (first | ((with_reducible refine wpList_box_st (by simp [go_sem]; rfl) ?_); intro nb y))
  have hne : Nonempty (St _) := ⟨y⟩
  refine wp_region_st (by kernel_rfl) (by kernel_rfl) ?_
  repeat (go_big_quiet_step (fail))
  refine wpQuiet_nil ?_
  intro z
  go_wp2_with fail
  refine wp_region_st (by kernel_rfl) (by kernel_rfl) ?_
  repeat (go_big_quiet_step (fail))
  refine wpQuiet_nil ?_
  intro z
  go_wp2_with fail
  go_ret
  exact Ret.fin _ rfl
set_option maxHeartbeats 1000000 in
theorem stay19_dead (e : Ev) (lv : GMap Int Bool) (nw : GMap Int Nat) (v : Option Nat) (hl : (lv.get e.proc).getD false = false) (hn : nw.get e.proc = v)
    {L R : Units} [hp : Pick L m (monO sb eb mb st lb nb br ln at_ ru) R] [Has R lb (lv.obj ikey bval)] [Has R nb (nw.obj ikey pval)] (x : St L) :
    Calls Try.prog 19 #[.pointer (some ⟨m, 0, none⟩), evV e] x.w (Ret ([(m, monO sb eb mb st lb nb (brk br 1 true) ln at_ ru)] :: R) (.pointer none)) := by
  rw [St.re_w x hp.ok]
  generalize x.re hp.ok = x
  have h1 := fun {L : Units} [Has L nb (nw.obj ikey pval)] (x : St L) => look_now nb nw _ e.proc hn x
  have h2 := fun {L : Units} [Has L lb (lv.obj ikey bval)] (x : St L) => look_live lb lv _ e.proc hl x
  clear hl hn
  go_enter Try.func19, Try.ntmps19
  go_wp2_with (first | ((with_reducible refine wpList_box_st (by simp [go_sem]; rfl) ?_); intro nb y))
  have hne : Nonempty (St _) := ⟨y⟩
  refine wp_region_st (by kernel_rfl) (by kernel_rfl) ?_
  repeat (go_big_quiet_step (fail))
  refine wpQuiet_nil ?_
  intro z
  go_wp2_with fail
  refine wp_region_st (by kernel_rfl) (by kernel_rfl) ?_
  repeat (go_big_quiet_step (fail))
  refine wpQuiet_nil ?_
  intro z
  go_wp2_with (go_at_call 20; refine (breaks_spec _ _ _).mono ?_; rintro e w' ⟨rfl, y, rfl⟩)
  go_ret
  exact Ret.fin _ rfl
set_option maxHeartbeats 1000000 in
theorem stay19_none (e : Ev) (lv : GMap Int Bool) (nw : GMap Int Nat) (hl : (lv.get e.proc).getD false = true) (hn : nw.get e.proc = none)
    {L R : Units} [hp : Pick L m (monO sb eb mb st lb nb br ln at_ ru) R] [Has R lb (lv.obj ikey bval)] [Has R nb (nw.obj ikey pval)] (x : St L) :
    Calls Try.prog 19 #[.pointer (some ⟨m, 0, none⟩), evV e] x.w (Ret ([(m, monO sb eb mb st lb nb (brk br 1 true) ln at_ ru)] :: R) (.pointer none)) := by
  rw [St.re_w x hp.ok]
  generalize x.re hp.ok = x
  have h1 := fun {L : Units} [Has L nb (nw.obj ikey pval)] (x : St L) => look_now nb nw _ e.proc hn x
  have h2 := fun {L : Units} [Has L lb (lv.obj ikey bval)] (x : St L) => look_live lb lv _ e.proc hl x
  clear hl hn
  go_enter Try.func19, Try.ntmps19
  go_wp2_with (first | ((with_reducible refine wpList_box_st (by simp [go_sem]; rfl) ?_); intro nb y))
  have hne : Nonempty (St _) := ⟨y⟩
  refine wp_region_st (by kernel_rfl) (by kernel_rfl) ?_
  repeat (go_big_quiet_step (fail))
  refine wpQuiet_nil ?_
  intro z
  go_wp2_with fail
  refine wp_region_st (by kernel_rfl) (by kernel_rfl) ?_
  repeat (go_big_quiet_step (fail))
  refine wpQuiet_nil ?_
  intro z
  go_wp2_with (go_at_call 20; refine (breaks_spec _ _ _).mono ?_; rintro e w' ⟨rfl, y, rfl⟩)
  go_ret
  exact Ret.fin _ rfl
set_option maxHeartbeats 1000000 in
theorem stay19_else (e : Ev) (lv : GMap Int Bool) (nw : GMap Int Nat) (b : Nat) (p0 p1 : Value) (pr ep re me : Int) (cb : Nat) (tr : Option Nat) (we : Bool) (hl : (lv.get e.proc).getD false = true) (hn : nw.get e.proc = some b) (hc : confEq ep re e.epoch e.rep = false)
    {L R : Units} [hp : Pick L m (monO sb eb mb st lb nb br ln at_ ru) R] [Has R lb (lv.obj ikey bval)] [Has R nb (nw.obj ikey pval)] [Has R b (stayO pr ep re me p0 p1 cb tr we)] (x : St L) :
    Calls Try.prog 19 #[.pointer (some ⟨m, 0, none⟩), evV e] x.w (Ret ([(m, monO sb eb mb st lb nb (brk br 1 true) ln at_ ru)] :: R) (.pointer none)) := by
  rw [St.re_w x hp.ok]
  generalize x.re hp.ok = x
  have h1 := fun {L : Units} [Has L nb (nw.obj ikey pval)] (x : St L) => look_now nb nw _ e.proc hn x
  have h2 := fun {L : Units} [Has L lb (lv.obj ikey bval)] (x : St L) => look_live lb lv _ e.proc hl x
  clear hl hn
  go_enter Try.func19, Try.ntmps19
  go_wp2_with (first | ((with_reducible refine wpList_box_st (by simp [go_sem]; rfl) ?_); intro nb y))
  have hne : Nonempty (St _) := ⟨y⟩
  refine wp_region_st (by kernel_rfl) (by kernel_rfl) ?_
  repeat (go_big_quiet_step (fail))
  refine wpQuiet_nil ?_
  intro z
  go_wp2_with fail
  refine wp_region_st (by kernel_rfl) (by kernel_rfl) ?_
  repeat (go_big_quiet_step (fail))
  refine wpQuiet_nil ?_
  intro z
  go_wp2_with (go_at_call 20; refine (breaks_spec _ _ _).mono ?_; rintro e w' ⟨rfl, y, rfl⟩)
  go_ret
  exact Ret.fin _ rfl
end
end Go.Proofs.Ythijlgjfgliinaa
end
section
/- A message is sent. -/
set_option linter.all false
namespace Go
variable [Env]
section
variable {P : Program}
/-- An append as a step of a region that draws its order. -/
theorem step_append_sl {ops : Array Oper} {K : Act → World → Prop} {Q : Exit → Act → World → Prop} {E : Prop} {a : Act} {d : Option Tmp} {ty : TypeId} {pos : String} {af : Array Edge} {so xo : Operand} {t : TypeId}
    (r : Row) (els news : List (List Value)) (s bytes : Nat) (e : TypeId) (i : TypeInfo) (z : Value) (ht : P.underlying t = some (.slice e)) (hi : P.info? e = some i) (hz : i.zero = some z)
    (hsize : i.size = s) (hby : i.bytes = bytes) (hzs : z.cells.size = s) (U : Blocks) {L R R2 : Units} {x : St L} [hU : Unit_ L (r.u e) R] [hU2 : Unit_ L U R2]
    (ad : Option Addr) (m c n : Nat) (hn : els.length = n) (hs : a.eval so = r.val n) (hxv : a.eval xo = .slice ad m c) (hok : RowOk r s els) (hnl : ∀ c ∈ news, c.length = s)
    (hsl : SlIn U ad m s news) (h1 : ∀ u ∈ news.flatten, u.oneCell' = true)
    (hbytes : (n + m) * bytes ≤ 140737488355328) (hlen : n + m ≤ 9223372036854775807)
    (h : ∀ (r' : Row) (y : St (r'.u e :: R)), RowOk r' s (els ++ news) → K (a.put d (r'.val (n + m))) y.w) :
    if Region.wanted { dst := d, op := .call { callee := .builtin .append, args := #[so, xo], argTypes := #[t, t] }, type := ty, pos := pos, after := af, guard := none } (yielded ops a.tmps) = true then
      Oper.wp P { dst := d, op := .call { callee := .builtin .append, args := #[so, xo], argTypes := #[t, t] }, type := ty, pos := pos, after := af, guard := none } a x.w K Q else E := by
  subst hn
  obtain ⟨r', y, hr, hok'⟩ := run_append_row r els news s bytes t ty e i z ht hi hz hsize hby hzs hok hnl x ad m c hsl.1 (hsl.read hnl x hU2) h1 hbytes hlen
  rw [if_pos (by simp [Region.wanted])]
  unfold Oper.wp
  have e1 : (execOp a.eval { dst := d, op := .call { callee := .builtin .append, args := #[so, xo], argTypes := #[t, t] }, type := ty, pos := pos, after := af, guard := none }).run P x.w = .ok (.value (r'.val (els.length + m))) y.w := by
    simp [execOp, resolve, invoke, builtin, hs, hxv, hr]
  rw [e1]
  exact h r' y hok'
end
end Go
namespace Go.Proofs.Ythijlgjfgliinaa
open Go.RowKit
variable [Env]
set_option maxRecDepth 100000
theorem Try.size39 : (Try.prog.info? 39).map (·.size) = some 19 := by kernel_rfl
/-- A whole event is loaded. -/
theorem wpList_loadEv {ops : Array Oper} {Q : Exit → Act → World → Prop} {rest : List Oper} {a : Act} {d : Option Tmp} {ty : TypeId} {pos : String} {af : Array Edge} {ad : Operand} {L : Units} {x : St L} {b : Nat} (e : Ev)
    (ha : a.eval ad = .pointer (some ⟨b, 0, none⟩)) [H : Has L b (evO e)] (h : wpList Try.prog ops Q rest (a.put d (evV e)) x.w) :
    wpList Try.prog ops Q ({ dst := d, op := .load 39 ad, type := ty, pos := pos, after := af, guard := none } :: rest) a x.w := by
  have hb : x.w.heap[b]? = some (evO e) := x.heap
  have hl := run_loadCells_list (P := Try.prog) (w := x.w) ⟨b, 0, none⟩ e.cells (fun j v hv => by
    have ea : (⟨b, 0, none⟩ : Addr).add j = ⟨b, j, none⟩ := by unfold Addr.add; split <;> simp_all
    rw [ea, St.cell, hb]
    show (e.cells.toArray)[j]? = some v
    rw [List.getElem?_toArray]; exact hv)
  obtain ⟨i, hi, hs⟩ := Option.map_eq_some_iff.1 Try.size39
  refine wpList_plain rfl fun K hK => ?_
  unfold Oper.wp
  have e1 : (execOp a.eval { dst := d, op := .load 39 ad, type := ty, pos := pos, after := af, guard := none }).run Try.prog x.w = .ok (.value (evV e)) x.w := by
    unfold execOp
    simp only [ha]
    have hlen : e.cells.length = 19 := rfl
    rw [hlen] at hl
    simp [Instr.loadAt, loadVar, isAgg, run_underlying Try.underlying39, sizeOf, typeInfo, hi, hs, hl, Instr.sureAddr]
    rfl
  rw [e1]
  exact hK _ _ h
theorem at_load39 {ops : Array Oper} {Q : Exit → Act → World → Prop} {rest : List Oper} {a : Act} {d : Option Tmp} {ty : TypeId} {pos : String} {af : Array Edge} {ad : Operand} {w : World}
    (h : wpList Try.prog ops Q ({ dst := d, op := .load 39 ad, type := ty, pos := pos, after := af, guard := none } :: rest) a w) :
    wpList Try.prog ops Q ({ dst := d, op := .load 39 ad, type := ty, pos := pos, after := af, guard := none } :: rest) a w := h
/-- The stay that an event stands in, if it does. -/
def stayOk (lvv : Bool) (s : Option GStay) (e : Ev) : Option GStay := match s with
  | some b => if lvv && confEq b.epoch b.rep e.epoch e.rep then some b else none
  | none => none
section
variable {m sb eb mb lb nb : Nat} {st : Value} {br ln at_ ru : Int}
theorem stay19_spec (e : Ev) (lv : GMap Int Bool) (nw : GMap Int Nat) (lvv : Bool) (s : Option GStay) (hl : (lv.get e.proc).getD false = lvv) (hn : nw.get e.proc = s.map GStay.blk)
    {L R : Units} [hp : Pick L m (monO sb eb mb st lb nb br ln at_ ru) R] [Has R lb (lv.obj ikey bval)] [Has R nb (nw.obj ikey pval)] (hS : ∀ b, s = some b → Has R b.blk b.obj) (x : St L) :
    Calls Try.prog 19 #[.pointer (some ⟨m, 0, none⟩), evV e] x.w (Ret ([(m, monO sb eb mb st lb nb (brk br 1 (stayOk lvv s e).isNone) ln at_ ru)] :: R) (.pointer ((stayOk lvv s e).map fun b => ⟨b.blk, 0, none⟩))) := by
  cases lvv
  · have : stayOk false s e = none := by cases s <;> rfl
    rw [this]
    exact stay19_dead e lv nw _ hl rfl x
  · rcases s with _ | b
    · exact stay19_none e lv nw hl hn x
    · haveI := hS b rfl
      cases hc : confEq b.epoch b.rep e.epoch e.rep
      · have : stayOk true (some b) e = none := by simp [stayOk, hc]
        rw [this]
        exact stay19_else e lv nw b.blk _ _ _ _ _ _ _ _ _ hl hn hc x
      · have : stayOk true (some b) e = some b := by simp [stayOk, hc]
        rw [this]
        obtain ⟨h1, h2⟩ := confEq_iff.1 hc
        haveI : Has R b.blk (stayO b.proc e.epoch e.rep b.members (b.r0.val b.m0.length) (b.r1.val b.m1.length) b.cb (b.tr.map (·.1)) b.went) := by rw [← h1, ← h2]; exact hS b rfl
        have e0 : brk br 1 (some b).isNone = br := by simp [brk]
        rw [e0]
        exact stay19_ok e lv nw b.blk (b.r0.val b.m0.length) (b.r1.val b.m1.length) b.proc b.members b.cb (b.tr.map fun t : Nat × Ev => t.1) b.went hl hn x

theorem stayOk_some {lvv : Bool} {s : Option GStay} {e : Ev} {b : GStay} (h : stayOk lvv s e = some b) : s = some b ∧ lvv = true ∧ b.epoch = e.epoch ∧ b.rep = e.rep := by
  rcases s with _ | c
  · cases h
  · simp only [stayOk] at h
    split at h
    · rename_i hc
      cases h
      simp only [Bool.and_eq_true] at hc
      obtain ⟨h1, h2⟩ := confEq_iff.1 hc.2
      exact ⟨rfl, hc.1, h1, h2⟩
    · cases h
theorem stay19_no (e : Ev) (lv : GMap Int Bool) (nw : GMap Int Nat) (lvv : Bool) (s : Option GStay) (hso : stayOk lvv s e = none) (hl : (lv.get e.proc).getD false = lvv) (hn : nw.get e.proc = s.map GStay.blk)
    {L R : Units} [hp : Pick L m (monO sb eb mb st lb nb br ln at_ ru) R] [Has R lb (lv.obj ikey bval)] [Has R nb (nw.obj ikey pval)] (hS : ∀ b, s = some b → Has R b.blk b.obj) (x : St L) :
    Calls Try.prog 19 #[.pointer (some ⟨m, 0, none⟩), evV e] x.w (Ret ([(m, monO sb eb mb st lb nb (brk br 1 true) ln at_ ru)] :: R) (.pointer none)) := by
  have := stay19_spec (st := st) (br := br) (ln := ln) (at_ := at_) (ru := ru) (sb := sb) (eb := eb) (mb := mb) (m := m) e lv nw lvv s hl hn hS x
  rw [hso] at this
  exact this
theorem stay19_yes (e : Ev) (lv : GMap Int Bool) (nw : GMap Int Nat) (lvv : Bool) (s : Option GStay) (b : GStay) (hso : stayOk lvv s e = some b) (hl : (lv.get e.proc).getD false = lvv) (hn : nw.get e.proc = s.map GStay.blk)
    {L R : Units} [hp : Pick L m (monO sb eb mb st lb nb br ln at_ ru) R] [Has R lb (lv.obj ikey bval)] [Has R nb (nw.obj ikey pval)] (hS : ∀ b, s = some b → Has R b.blk b.obj) (x : St L) :
    Calls Try.prog 19 #[.pointer (some ⟨m, 0, none⟩), evV e] x.w (Ret ([(m, monO sb eb mb st lb nb br ln at_ ru)] :: R) (.pointer (some ⟨b.blk, 0, none⟩))) := by
  have := stay19_spec (st := st) (br := br) (ln := ln) (at_ := at_) (ru := ru) (sb := sb) (eb := eb) (mb := mb) (m := m) e lv nw lvv s hl hn hS x
  rw [hso] at this
  have e0 : brk br 1 (some b).isNone = br := by simp [brk]
  rw [e0] at this
  exact this

/-- What lies under a message's place: the row, and what is in it. -/
abbrev SV := Row × List GM
abbrev sval (p : SV) : Value := p.1.val p.2.length
abbrev sendsO (g : GMap Place SV) : Obj := g.obj Place.key sval
theorem Try.info34' : (Try.prog.info? 34).map (fun i => (i.zero, i.size, i.bytes)) = some (some msgZero, 6, 72) := Try.info34
theorem entry_sends {L M : Units} (r : Nat) (g : GMap Place SV) (k : Place) (p : SV) (hp : (g.get k).getD (Row.nil, []) = p) [h : Has L r (sendsO g)] [Lay L r (sendsO (g.touch k (Row.nil, []))) M] (x : St L) :
    (Instr.mapEntry 45 (.map (some r)) (.agg #[.int .u64 k.epoch, .int .i64 k.rep, .int .i64 k.frm, .int .u32 k.seq])).run Try.prog x.w = .ok (.tuple #[p.1.val p.2.length, .int .i64 (g.stamp k)]) (x.lay r (sendsO (g.touch k (Row.nil, [])))).w := by
  have := run_mapEntry_g (P := Try.prog) KL69 (T := 45) (et := 61) (ev := sval) Try.underlying45 (Row.nil, []) (fun w => by simp [go_sem, sval, Row.val, Row.nil]) g (St.heap (h := h) x) k
  rw [hp] at this
  exact this
theorem put_sends {L M : Units} (r : Nat) (g : GMap Place SV) (k : Place) (r' : Row) (ms : List GM) (n : Nat) (hn : ms.length = n) [h : Has L r (sendsO (g.touch k (Row.nil, [])))] [Lay L r (sendsO (g.put k (r', ms))) M] (x : St L) :
    (Instr.entryStore 45 (.map (some r)) (.int .i64 (g.stamp k)) (r'.val n)).run Try.prog x.w = .ok () (x.lay r (sendsO (g.put k (r', ms)))).w := by
  subst hn
  exact run_entryStore_g (P := Try.prog) (ev := sval) g k (Row.nil, []) (r', ms) (St.heap (h := h) x)
end
end Go.Proofs.Ythijlgjfgliinaa
end
section
/- A message is sent: the walk. -/
set_option linter.all false
namespace Go.Proofs.Ythijlgjfgliinaa
open Go.RowKit
variable [Env]
set_option maxRecDepth 100000
def SR (g : GMap Place SV) : Blocks := g.l.flatMap fun e => e.2.1.1.u 34
theorem SR_focus {g : GMap Place SV} {k : Place} {p : SV} (h : (g.get k).getD (Row.nil, []) = p) : ∃ X : Blocks, (SR g).Perm (p.1.u 34 ++ X) ∧ ∀ q, (SR (g.put k q)).Perm (q.1.u 34 ++ X) := by
  cases hh : has_ g.l k with
  | false =>
    have hn : g.get k = none := by
      cases hg : g.get k with
      | none => rfl
      | some b => have := GMap.has_of_get hg; rw [hh] at this; cases this
    rw [hn] at h
    subst h
    refine ⟨SR g, by simp [Row.u, Row.nil], fun q => ?_⟩
    have e1 : (g.put k q).l = g.l ++ [(k, q, g.clk)] := by unfold GMap.put; rw [dif_neg (by simp [hh])]
    unfold SR
    rw [e1, List.flatMap_append]
    simp only [List.flatMap_cons, List.flatMap_nil, List.append_nil]
    exact List.perm_append_comm
  | true =>
    obtain ⟨l1, e, l2, h1, h2, h3, h4⟩ := ixF_split (ev := sval) g.l 0 hh
    have hg : g.get k = some e.2.1 := by
      have : l1.find? (fun e => decide (e.1 = k)) = none := by
        rw [List.find?_eq_none]
        intro e' he'
        simp only [decide_eq_true_eq]
        intro h
        have : has_ l1 k = true := has_iff.2 (List.mem_map.2 ⟨e', he', h⟩)
        rw [h3] at this; cases this
      simp [GMap.get, h1, List.find?_append, this, h2]
    rw [hg] at h
    simp only [Option.getD_some] at h
    subst h
    refine ⟨(l1.flatMap fun e => e.2.1.1.u 34) ++ (l2.flatMap fun e => e.2.1.1.u 34), ?_, fun q => ?_⟩
    · unfold SR
      rw [h1, List.flatMap_append, List.flatMap_cons, ← List.append_assoc, ← List.append_assoc]
      exact List.Perm.append_right _ List.perm_append_comm
    · obtain ⟨p1, p2⟩ := GMap.put_split q h1 h2 h3
      unfold SR
      rw [p1, List.flatMap_append, List.flatMap_cons, ← List.append_assoc, ← List.append_assoc]
      exact List.Perm.append_right _ List.perm_append_comm
theorem SlIn.oneMsg (pb : Nat) (r : RM) (d : List Int) : SlIn [(pb, .cells #[.int .i64 r.frm, .int .u32 r.seq, .int .u64 r.stamp, .int .i64 r.svc, .slice r.da r.dn r.dc, .string r.pay] 34)] (some ⟨pb, 0, none⟩) 1 6 [GM.cells ⟨r, d⟩] := by
  refine ⟨rfl, .inr ⟨pb, 0, _, 34, (0, 0), rfl, List.mem_singleton.2 rfl, fun i c hc j w hw => ?_⟩⟩
  have hi : i = 0 := by have := (List.getElem?_eq_some_iff.1 hc).1; simpa using this
  subst hi
  simp only [List.getElem?_cons_zero, Option.some.injEq] at hc
  subst hc
  simp only [Nat.zero_mul, Nat.zero_add]
  rw [List.getElem?_toArray]
  exact hw
section
variable {m sb eb mb lb nb : Nat} {st : Value} {br ln at_ ru : Int}
def Ev.place (e : Ev) : Place := ⟨e.epoch, e.rep, e.m.frm, e.m.seq⟩
/-- What an event breaks that must stand in a stay that has no way on yet. -/
def standB (br : Int) (o : Option GStay) : Int := match o with
  | some b => brk br 1 b.tr.isSome
  | none => brk br 1 true
abbrev SendL (m sb eb mb lb nb : Nat) (st : Value) (br ln at_ ru : Int) (g : GMap Place SV) (lv : GMap Int Bool) (nw : GMap Int Nat) (stays : List GStay) (F : Blocks) (R : Units) : Units :=
  [(m, monO sb eb mb st lb nb br ln at_ ru)] :: [(sb, sendsO g)] :: [(lb, lv.obj ikey bval)] :: [(nb, nw.obj ikey pval)] :: SR g :: SU stays :: F :: R
def SendRet (m sb eb mb lb nb : Nat) (st : Value) (br ln at_ ru : Int) (g : GMap Place SV) (k : Place) (ms : List GM) (lv : GMap Int Bool) (nw : GMap Int Nat) (stays : List GStay) (F : Blocks) (R : Units) (en : Ending) (w : World) : Prop :=
  en = .returned (.tuple #[]) ∧ ∃ r' : Row, RowOk r' 6 (ms.map GM.cells) ∧ ∃ y : St (SendL m sb eb mb lb nb st br ln at_ ru (g.put k (r', ms)) lv nw stays F R), w = y.w
set_option maxHeartbeats 4000000 in
theorem send_own {F : Blocks} (e : Ev) (d : List Int) (g : GMap Place SV) (r : Row) (ms : List GM) (n : Nat) (hlen : Hid (ms.length = n)) (hn : n ≤ 1000) (hg : (g.get e.place).getD (Row.nil, []) = (r, ms)) (hr : RowOk r 6 (ms.map GM.cells)) (lv : GMap Int Bool) (nw : GMap Int Nat) (stays : List GStay) (lvv : Bool) (s : Option GStay)
    (hpf : (e.proc == e.m.frm) = true) (hl : (lv.get e.proc).getD false = lvv) (hnw : nw.get e.proc = s.map GStay.blk) (hs : ∀ b, s = some b → b ∈ stays) {R : Units} (x : St (SendL m sb eb mb lb nb st br ln at_ ru g lv nw stays F R)) :
    Calls Try.prog 17 #[.pointer (some ⟨m, 0, none⟩), evV e] x.w (SendRet m sb eb mb lb nb st (standB br (stayOk lvv s e)) ln at_ ru g e.place (ms ++ [⟨e.m, d⟩]) lv nw stays F R) := by
  obtain ⟨X, hX1, hX2⟩ := SR_focus hg
  have E1 : Eqv (SendL m sb eb mb lb nb st br ln at_ ru g lv nw stays F R) ([(m, monO sb eb mb st lb nb br ln at_ ru)] :: [(sb, sendsO g)] :: [(lb, lv.obj ikey bval)] :: [(nb, nw.obj ikey pval)] :: r.u 34 :: X :: SU stays :: F :: R) :=
    Eqv.cons _ (Eqv.cons _ (Eqv.cons _ (Eqv.cons _ ((Eqv.head hX1 _).trans (Eqv.split _ _ _)))))
  rw [St.re_w x E1]
  generalize x.re E1 = x
  have h1 : ∀ {L M : Units} [Has L sb (sendsO g)] [Lay L sb (sendsO (g.touch e.place (Row.nil, []))) M] (x : St L), (Instr.mapEntry 45 (.map (some sb)) (.agg #[.int .u64 e.epoch, .int .i64 e.rep, .int .i64 e.m.frm, .int .u32 e.m.seq])).run Try.prog x.w = .ok (.tuple #[r.val ms.length, .int .i64 (g.stamp e.place)]) (x.lay sb (sendsO (g.touch e.place (Row.nil, [])))).w :=
    fun x => entry_sends sb g e.place (r, ms) hg x
  have h2 := fun (r' : Row) {L M : Units} [Has L sb (sendsO (g.touch e.place (Row.nil, [])))] [Lay L sb (sendsO (g.put e.place (r', ms ++ [⟨e.m, d⟩]))) M] (x : St L) => put_sends sb g e.place r' (ms ++ [⟨e.m, d⟩]) (n + 1) (by simp [hlen.out]) x
  obtain ⟨stp, hstp⟩ : ∃ v : Nat, g.stamp e.place = v := ⟨_, rfl⟩
  rw [hstp] at h1
  simp only [hstp] at h2
  rw [hlen.out] at h1
  obtain ⟨i0, hi0, hz0, hz1, hz2⟩ := info_parts Try.info34
  have HR := Lib.hid hr
  have HL := Lib.hid hl
  have HN := Lib.hid hnw
  have HS := Lib.hid hs
  have HX := Lib.hid hX2
  have HCL : Hid ((ms.map GM.cells).length = n) := Lib.hid (by simp [hlen.out])
  clear hr hl hnw hs hX1 hX2 E1 hstp hg
  go_enter Try.func17, Try.ntmps17
  go_upto_region 3 with (first | ((with_reducible refine wpList_box_st (T := 39) (by simp [go_sem]; rfl) ?_); intro xb y0) | ((with_reducible refine wpList_alloc_st rfl (by simp only [Value.cells]; rfl) ?_); intro kb y1) | ((with_reducible refine at_store ?_); refine wpList_storeAll rfl rfl rfl (by rfl) rfl ?_; intro y))
  simp only [Act.put, List.setIfInBounds_toArray, List.set_cons_zero, List.set_cons_succ]
  go_cut [] (fun wx => ∃ r' : Row, RowOk r' 6 ((ms ++ [(⟨e.m, d⟩ : GM)]).map GM.cells) ∧ ∃ y : St ([(xb, evO e)] :: [(m, monO sb eb mb st lb nb br ln at_ ru)] :: [(sb, sendsO (g.put e.place (r', ms ++ [⟨e.m, d⟩])))] :: [(lb, lv.obj ikey bval)] :: [(nb, nw.obj ikey pval)] :: r'.u 34 :: X :: SU stays :: F :: R), wx = y.w)
  case first =>
    go_region_held3 (fun w' => w'.cell? ⟨m, 0, none⟩ = some (.map (some sb)) ∧ w'.cell? ⟨kb, 0, none⟩ = some (.int .u64 e.epoch) ∧ w'.cell? ⟨kb, 1, none⟩ = some (.int .i64 e.rep) ∧ w'.cell? ⟨kb, 2, none⟩ = some (.int .i64 e.m.frm) ∧ w'.cell? ⟨kb, 3, none⟩ = some (.int .u32 e.m.seq) ∧
       w'.cell? ⟨xb, 7, none⟩ = some (.int .i64 e.m.frm) ∧ w'.cell? ⟨xb, 8, none⟩ = some (.int .u32 e.m.seq) ∧ w'.cell? ⟨xb, 9, none⟩ = some (.int .u64 e.m.stamp) ∧ w'.cell? ⟨xb, 10, none⟩ = some (.int .i64 e.m.svc) ∧ w'.cell? ⟨xb, 11, none⟩ = some (.slice e.m.da e.m.dn e.m.dc) ∧ w'.cell? ⟨xb, 12, none⟩ = some (.string e.m.pay))
      (simp [go_sem]) ((refine step_append_sl (P := Try.prog) r (ms.map GM.cells) [GM.cells ⟨e.m, d⟩] 6 72 34 i0 msgZero Try.underlying61 hi0 hz0 hz1 hz2 rfl _ _ 1 1 n HCL.out rfl rfl HR.out (cells_len (ms := [⟨e.m, d⟩]) rfl) (SlIn.oneMsg _ e.m d) (cells_one [⟨e.m, d⟩]) (by omega) (by omega) ?_; intro r' y2 hok2))
    all_goals
      go_wp2_with fail
      go_meet
      refine ⟨r', by rw [List.map_append]; exact hok2, toSt _⟩
  case rest =>
    clear y y0 y1 h1 h2
    obtain ⟨r', hok, y, rfl⟩ := hcut
    have HOK := Lib.hid hok
    clear hok
    have hBi : ∀ b, s = some b → ∀ {L R : Units} [Unit_ L (SU stays) R], Has L b.blk b.obj := fun b hb {L R} h => ⟨h.ok.mem_iff.2 (by simp [mem_SU (HS.out b hb) (show (b.blk, b.obj) ∈ b.u by simp [GStay.u])])⟩
    have HB := Lib.hid @hBi
    clear hBi
    rcases hso : stayOk lvv s e with _ | b
    · have HSO := Lib.hid hso
      clear hso
      go_wp2_with (first | ((with_reducible refine at_load39 ?_); refine wpList_loadEv e rfl ?_) | (go_at_call 19; go_must (refine (stay19_no e lv nw lvv s HSO.out HL.out HN.out (fun b hb => HB.out b hb) _).mono ?_); rintro en w' ⟨rfl, z, rfl⟩))
      go_end0
      rw [HSO.out]
      refine ⟨rfl, r', HOK.out, ?_⟩
      obtain ⟨z5, h5⟩ := toSt (M := [(m, monO sb eb mb st lb nb (brk br 1 true) ln at_ ru)] :: [(sb, sendsO (g.put e.place (r', ms ++ [⟨e.m, d⟩])))] :: [(lb, lv.obj ikey bval)] :: [(nb, nw.obj ikey pval)] :: r'.u 34 :: X :: SU stays :: F :: R) z
      exact ⟨z5.re (Eqv.cons _ (Eqv.cons _ (Eqv.cons _ (Eqv.cons _ ((Eqv.split _ _ _).symm.trans (Eqv.head (HX.out (r', ms ++ [⟨e.m, d⟩])).symm _)))))), h5⟩
    · have HSO := Lib.hid hso
      haveI hBB : ∀ {L R : Units} [Unit_ L (SU stays) R], Has L b.blk (stayO b.proc b.epoch b.rep b.members (b.r0.val b.m0.length) (b.r1.val b.m1.length) b.cb (b.tr.map (·.1)) b.went) := fun {L R} h => HB.out b (stayOk_some hso).1
      clear hso
      rcases ht : b.tr with _ | t
      all_goals
        go_wp2_with (first | ((with_reducible refine at_load39 ?_); refine wpList_loadEv e rfl ?_) | (go_at_call 19; go_must (refine (stay19_yes e lv nw lvv s b HSO.out HL.out HN.out (fun b hb => HB.out b hb) _).mono ?_); rintro en w' ⟨rfl, z, rfl⟩) | (go_at_call 20; refine (breaks_spec _ _ _).mono ?_; rintro en w' ⟨rfl, z2, rfl⟩))
        go_end0
        rw [HSO.out]
        simp only [standB, ht, Option.isSome_none, Option.isSome_some]
        refine ⟨rfl, r', HOK.out, ?_⟩
        first
        | (obtain ⟨z5, h5⟩ := toSt (M := [(m, monO sb eb mb st lb nb (brk br 1 true) ln at_ ru)] :: [(sb, sendsO (g.put e.place (r', ms ++ [⟨e.m, d⟩])))] :: [(lb, lv.obj ikey bval)] :: [(nb, nw.obj ikey pval)] :: r'.u 34 :: X :: SU stays :: F :: R) z2
           exact ⟨z5.re (Eqv.cons _ (Eqv.cons _ (Eqv.cons _ (Eqv.cons _ ((Eqv.split _ _ _).symm.trans (Eqv.head (HX.out (r', ms ++ [⟨e.m, d⟩])).symm _)))))), h5⟩)
        | (obtain ⟨z5, h5⟩ := toSt (M := [(m, monO sb eb mb st lb nb (brk br 1 false) ln at_ ru)] :: [(sb, sendsO (g.put e.place (r', ms ++ [⟨e.m, d⟩])))] :: [(lb, lv.obj ikey bval)] :: [(nb, nw.obj ikey pval)] :: r'.u 34 :: X :: SU stays :: F :: R) z2
           exact ⟨z5.re (Eqv.cons _ (Eqv.cons _ (Eqv.cons _ (Eqv.cons _ ((Eqv.split _ _ _).symm.trans (Eqv.head (HX.out (r', ms ++ [⟨e.m, d⟩])).symm _)))))), h5⟩)
set_option maxHeartbeats 4000000 in
theorem send_other {F : Blocks} (e : Ev) (g : GMap Place SV) (lv : GMap Int Bool) (nw : GMap Int Nat) (stays : List GStay) (lvv : Bool) (s : Option GStay)
    (hpf : (e.proc == e.m.frm) = false) (hl : (lv.get e.proc).getD false = lvv) (hnw : nw.get e.proc = s.map GStay.blk) (hs : ∀ b, s = some b → b ∈ stays) {R : Units} (x : St (SendL m sb eb mb lb nb st br ln at_ ru g lv nw stays F R)) :
    Calls Try.prog 17 #[.pointer (some ⟨m, 0, none⟩), evV e] x.w (Ret (SendL m sb eb mb lb nb st (standB br (stayOk lvv s e)) ln at_ ru g lv nw stays F R) (.tuple #[])) := by
  have HL := Lib.hid hl
  have HN := Lib.hid hnw
  have hBi : ∀ b, s = some b → ∀ {L R : Units} [Unit_ L (SU stays) R], Has L b.blk b.obj := fun b hb {L R} h => ⟨h.ok.mem_iff.2 (by simp [mem_SU (hs b hb) (show (b.blk, b.obj) ∈ b.u by simp [GStay.u])])⟩
  have HB := Lib.hid @hBi
  clear hBi hl hnw hs
  rcases hso : stayOk lvv s e with _ | b
  · have HSO := Lib.hid hso
    clear hso
    go_enter Try.func17, Try.ntmps17
    go_wp2_with (first | ((with_reducible refine wpList_box_st (T := 39) (by simp [go_sem]; rfl) ?_); intro xb y0) | ((with_reducible refine at_load39 ?_); refine wpList_loadEv e rfl ?_) | (go_at_call 19; go_must (refine (stay19_no e lv nw lvv s HSO.out HL.out HN.out (fun b hb => HB.out b hb) _).mono ?_); rintro en w' ⟨rfl, z, rfl⟩))
    go_end0
    simp only [standB]
    exact ⟨rfl, toSt z⟩
  · have HSO := Lib.hid hso
    haveI hBB : ∀ {L R : Units} [Unit_ L (SU stays) R], Has L b.blk (stayO b.proc b.epoch b.rep b.members (b.r0.val b.m0.length) (b.r1.val b.m1.length) b.cb (b.tr.map (·.1)) b.went) := fun {L R} h => HB.out b (stayOk_some hso).1
    clear hso
    rcases ht : b.tr with _ | t
    all_goals
      go_enter Try.func17, Try.ntmps17
      go_wp2_with (first | ((with_reducible refine wpList_box_st (T := 39) (by simp [go_sem]; rfl) ?_); intro xb y0) | ((with_reducible refine at_load39 ?_); refine wpList_loadEv e rfl ?_) | (go_at_call 19; go_must (refine (stay19_yes e lv nw lvv s b HSO.out HL.out HN.out (fun b hb => HB.out b hb) _).mono ?_); rintro en w' ⟨rfl, z, rfl⟩) | (go_at_call 20; refine (breaks_spec _ _ _).mono ?_; rintro en w' ⟨rfl, z2, rfl⟩))
      go_end0
      simp only [standB, ht, Option.isSome_none, Option.isSome_some]
      exact ⟨rfl, toSt z2⟩
end
end Go.Proofs.Ythijlgjfgliinaa
end
section
/- A message is delivered: what stands in no configuration. -/
set_option linter.all false
namespace Go.Proofs.Ythijlgjfgliinaa
open Go.RowKit
variable [Env]
set_option maxRecDepth 100000
abbrev seenO (g : GMap Had Bool) : Obj := g.obj Had.key bval
theorem look_sends {L : Units} (r : Nat) (g : GMap Place SV) (k : Place) (p : SV) (hp : (g.get k).getD (Row.nil, []) = p) [h : Has L r (sendsO g)] (x : St L) :
    (Instr.lookup 45 (.map (some r)) (.agg #[.int .u64 k.epoch, .int .i64 k.rep, .int .i64 k.frm, .int .u32 k.seq]) false).run Try.prog x.w = .ok (p.1.val p.2.length) x.w := by
  have := run_lookup_g (P := Try.prog) KL69 (T := 45) (et := 61) (z := .slice none 0 0) (ev := sval) Try.underlying45 (fun w => by simp [go_sem]) g (St.heap (h := h) x) k false
  rw [this, ← hp]
  cases g.get k <;> rfl
theorem look_seen {L : Units} (r : Nat) (g : GMap Had Bool) (k : Had) (v : Bool) (hv : (g.get k).getD false = v) [h : Has L r (seenO g)] (x : St L) :
    (Instr.lookup 46 (.map (some r)) (.agg #[.int .i64 k.proc, .int .u64 k.place.epoch, .int .i64 k.place.rep, .int .i64 k.place.frm, .int .u32 k.place.seq]) false).run Try.prog x.w = .ok (.bool v) x.w := by
  have := run_lookup_g (P := Try.prog) KL71 (T := 46) (et := 4) (z := .bool false) (ev := bval) Try.underlying46 (fun w => by simp [go_sem]) g (St.heap (h := h) x) k false
  rw [this, ← hv]
  cases g.get k <;> rfl
theorem upd_seen {L M : Units} (r : Nat) (g : GMap Had Bool) (k : Had) [h : Has L r (seenO g)] [Lay L r (seenO (g.put k true)) M] (x : St L) :
    (Instr.mapUpdate 46 (.map (some r)) (.agg #[.int .i64 k.proc, .int .u64 k.place.epoch, .int .i64 k.place.rep, .int .i64 k.place.frm, .int .u32 k.place.seq]) (.bool true)).run Try.prog x.w = .ok () (x.lay r (seenO (g.put k true))).w :=
  run_mapUpdate_g (P := Try.prog) KL71 (T := 46) (et := 4) (ev := bval) Try.underlying46 g (St.heap (h := h) x) k true
/-- How often a message is among others. -/
def cntMg (x : Mg) : List Mg → Nat
  | [] => 0
  | y :: l => (if x = y then 1 else 0) + cntMg x l
theorem cntMg_le (x : Mg) : ∀ l, cntMg x l ≤ l.length
  | [] => Nat.le_refl _
  | y :: l => by
    have := cntMg_le x l
    simp only [cntMg, List.length_cons]
    split <;> omega
def Ev.had (e : Ev) : Had := ⟨e.proc, e.place⟩
/-- What a delivery breaks, wherever it stands. -/
def del1 (br : Int) (x : Mg) (lm : List Mg) (seen : Bool) : Int := brk (brk br 2 ((cntMg x lm : Int) != 1)) 3 seen
section
variable {m sb eb mb lb nb : Nat} {st : Value} {br ln at_ ru : Int}
abbrev DelL (m sb eb mb lb nb : Nat) (st : Value) (br ln at_ ru : Int) (g : GMap Place SV) (sn : GMap Had Bool) (lv : GMap Int Bool) (nw : GMap Int Nat) (stays : List GStay) (F : Blocks) (R : Units) : Units :=
  [(m, monO sb eb mb st lb nb br ln at_ ru)] :: [(sb, sendsO g)] :: [(eb, seenO sn)] :: [(lb, lv.obj ikey bval)] :: [(nb, nw.obj ikey pval)] :: SR g :: SU stays :: F :: R
abbrev placeO (e : Ev) : Obj := .cells #[.int .u64 e.epoch, .int .i64 e.rep, .int .i64 e.m.frm, .int .u32 e.m.seq] 69
abbrev hadO (e : Ev) : Obj := .cells #[.int .i64 e.proc, .int .u64 e.epoch, .int .i64 e.rep, .int .i64 e.m.frm, .int .u32 e.m.seq] 71
def DcInv (x : Mg) (lm : List Mg) (n : Nat) (L : Units) (v5 v35 : Value) (w : World) : Prop :=
  ∃ k c : Nat, k ≤ n ∧ c ≤ k ∧ v5 = .int .i64 c ∧ v35 = .int .i64 k ∧ cntMg x lm = c + cntMg x (lm.drop k) ∧ ∃ y : St L, w = y.w
set_option maxHeartbeats 4000000 in
theorem deliver_dead {F : Blocks} (e : Ev) (d : List Int) (hd : GM.ok F ⟨e.m, d⟩) (g : GMap Place SV) (r : Row) (ms : List GM) (n : Nat) (hlen : Hid (ms.length = n)) (hn : n ≤ 1000) (hg : (g.get e.place).getD (Row.nil, []) = (r, ms)) (hr : RowOk r 6 (ms.map GM.cells)) (hms : ∀ q ∈ ms, q.ok F)
    (sn : GMap Had Bool) (seen : Bool) (hsn : (sn.get e.had).getD false = seen) (lv : GMap Int Bool) (nw : GMap Int Nat) (stays : List GStay) (lvv : Bool) (s : Option GStay)
    (hl : (lv.get e.proc).getD false = lvv) (hnw : nw.get e.proc = s.map GStay.blk) (hs : ∀ b, s = some b → b ∈ stays) (hso : stayOk lvv s e = none) {R : Units} (x : St (DelL m sb eb mb lb nb st br ln at_ ru g sn lv nw stays F R)) :
    Calls Try.prog 18 #[.pointer (some ⟨m, 0, none⟩), evV e] x.w (Ret (DelL m sb eb mb lb nb st (brk (del1 br (GM.mg ⟨e.m, d⟩) (ms.map GM.mg) seen) 1 true) ln at_ ru g (sn.put e.had true) lv nw stays F R) (.tuple #[])) := by
  have h1 : ∀ {L : Units} [Has L sb (sendsO g)] (x : St L), (Instr.lookup 45 (.map (some sb)) (.agg #[.int .u64 e.epoch, .int .i64 e.rep, .int .i64 e.m.frm, .int .u32 e.m.seq]) false).run Try.prog x.w = .ok (r.val ms.length) x.w :=
    fun x => look_sends sb g e.place (r, ms) hg x
  have h2 : ∀ {L : Units} [Has L eb (seenO sn)] (x : St L), (Instr.lookup 46 (.map (some eb)) (.agg #[.int .i64 e.proc, .int .u64 e.epoch, .int .i64 e.rep, .int .i64 e.m.frm, .int .u32 e.m.seq]) false).run Try.prog x.w = .ok (.bool seen) x.w :=
    fun x => look_seen eb sn e.had seen hsn x
  have h3 : ∀ {L M : Units} [Has L eb (seenO sn)] [Lay L eb (seenO (sn.put e.had true)) M] (x : St L), (Instr.mapUpdate 46 (.map (some eb)) (.agg #[.int .i64 e.proc, .int .u64 e.epoch, .int .i64 e.rep, .int .i64 e.m.frm, .int .u32 e.m.seq]) (.bool true)).run Try.prog x.w = .ok () (x.lay eb (seenO (sn.put e.had true))).w :=
    fun x => upd_seen eb sn e.had x
  obtain ⟨ra, rc, hrv, hrs⟩ := r.val_slice hr 34
  rw [show (ms.map GM.cells).length = n by simp [hlen.out]] at hrv hrs
  rw [hlen.out, hrv] at h1
  have hrU : SlIn (SR g) ra n 6 (ms.map GM.cells) := hrs.mono fun p hp => by
    obtain ⟨X, hX1, _⟩ := SR_focus hg
    exact hX1.mem_iff.2 (by simp [hp])
  have HRS := Lib.hid hrU
  have HD := Lib.hid hd
  have HMS := Lib.hid hms
  have HL := Lib.hid hl
  have HN := Lib.hid hnw
  have HSO := Lib.hid hso
  have hBi : ∀ b, s = some b → ∀ {L R : Units} [Unit_ L (SU stays) R], Has L b.blk b.obj := fun b hb {L R} h => ⟨h.ok.mem_iff.2 (by simp [mem_SU (hs b hb) (show (b.blk, b.obj) ∈ b.u by simp [GStay.u])])⟩
  have HB := Lib.hid @hBi
  clear hBi hl hnw hs hso hrs hrU hrv hd hms hsn hr hg
  go_enter Try.func18, Try.ntmps18
  go_wp2_with (first | ((with_reducible refine wpList_box_st (T := 39) (by simp [go_sem]; rfl) ?_); intro xb y0) | ((with_reducible refine wpList_alloc_st rfl (by simp only [Value.cells]; rfl) ?_); intro kb y1) | ((with_reducible refine at_store ?_); refine wpList_storeAll rfl rfl rfl (by rfl) rfl ?_; intro y))
  have hne : Nonempty (St _) := ⟨y⟩
  refine wp_region_st (by kernel_rfl) (by kernel_rfl) ?_
  repeat (go_big_quiet_step (fail))
  refine wpQuiet_nil ?_
  intro z
  clear hne y y0 y1 h1
  go_wp2_with fail
  go_loopw [5, 35] (fun v5 v35 wr => DcInv (GM.mg ⟨e.m, d⟩) (ms.map GM.mg) n ([(kb, placeO e)] :: [(xb, evO e)] :: DelL m sb eb mb lb nb st br ln at_ ru g sn lv nw stays F R) v5 v35 wr) (fun _ v _ => n - (intOf v).toNat)
  case atStart => exact ⟨0, 0, by omega, by omega, rfl, rfl, by simp, _, rfl⟩
  case round =>
    clear z
    obtain ⟨k, c, hk, hck, rfl, rfl, hcn, y, rfl⟩ := hrel
    by_cases hlt : k < n
    · obtain ⟨q, hq⟩ : ∃ q, ms[k]? = some q := ⟨ms[k]'(by rw [hlen.out]; exact hlt), List.getElem?_eq_getElem _⟩
      rcases HRS.out.2 with h0 | ⟨rb, ro, rarr, rT, rfr, rfl, hrm, hrow⟩
      · omega
      haveI hS : ∀ {L R : Units} [Unit_ L (SR g) R], Has L rb (.cells rarr rT rfr) := fun {L R} h => ⟨h.ok.mem_iff.2 (by simp [hrm])⟩
      obtain ⟨c0, c1, c2, c3, c4, c5⟩ := row_msg hrow hq
      have Hq := Lib.hid (HMS.out q (List.mem_of_getElem? hq))
      have hdr : (ms.map GM.mg).drop k = q.mg :: (ms.map GM.mg).drop (k + 1) := by
        have h1 : (ms.map GM.mg)[k]? = some q.mg := by simp [hq]
        obtain ⟨h2, h3⟩ := List.getElem?_eq_some_iff.1 h1
        rw [List.drop_eq_getElem_cons h2, h3]
      rw [hdr, cntMg] at hcn
      have HC := Lib.hid hcn
      clear hcn hdr hq hrm hrow
      by_cases he : GM.mg ⟨e.m, d⟩ = q.mg
      · have HE := Lib.hid he
        have hb : decide (GM.mg ⟨e.m, d⟩ = q.mg) = true := by simp [he]
        clear he
        go_wp2_with (first | ((with_reducible refine wpList_alloc_st rfl (by simp only [Value.cells]; rfl) ?_); intro tb y1) | ((with_reducible refine at_store ?_); refine wpList_storeAll rfl rfl rfl (by rfl) rfl ?_; intro y2) | (go_at_call 34; refine (same_spec (F := F) ⟨e.m, d⟩ q HD.out Hq.out _).mono ?_; rintro en w' ⟨rfl, y3, rfl⟩))
        go_roundw
        case rel => exact ⟨k + 1, c + 1, by omega, by omega, by go_num, by go_num, by rw [HC.out, if_pos HE.out]; omega, toSt _⟩
        case measure => simp [intOf]; omega
      · have HE := Lib.hid he
        have hb : decide (GM.mg ⟨e.m, d⟩ = q.mg) = false := by simp [he]
        clear he
        go_wp2_with (first | ((with_reducible refine wpList_alloc_st rfl (by simp only [Value.cells]; rfl) ?_); intro tb y1) | ((with_reducible refine at_store ?_); refine wpList_storeAll rfl rfl rfl (by rfl) rfl ?_; intro y2) | (go_at_call 34; refine (same_spec (F := F) ⟨e.m, d⟩ q HD.out Hq.out _).mono ?_; rintro en w' ⟨rfl, y3, rfl⟩))
        go_roundw
        case rel => exact ⟨k + 1, c, by omega, by omega, by go_num, by go_num, by rw [HC.out, if_neg HE.out]; omega, toSt _⟩
        case measure => simp [intOf]; omega
    · have hkn : k = n := by omega
      have e1 : (ms.map GM.mg).drop k = [] := by rw [List.drop_eq_nil_iff, List.length_map, hlen.out]; omega
      rw [e1] at hcn
      have HC : Hid (cntMg (GM.mg ⟨e.m, d⟩) (ms.map GM.mg) = c) := Lib.hid hcn
      clear hcn e1
      go_wp2_with (first | ((with_reducible refine wpList_alloc_st rfl (by simp only [Value.cells]; rfl) ?_); intro hb y1) | ((with_reducible refine at_store ?_); refine wpList_storeAll rfl rfl rfl (by rfl) rfl ?_; intro y2) | (go_at_call 20; refine (breaks_spec _ _ _).mono ?_; rintro en w' ⟨rfl, y3, rfl⟩; revert y3; generalize hbr : brk br 2 ((c : Int) != 1) = br1; intro y3; replace hbr := Lib.hid hbr))
      simp only [Act.put, List.setIfInBounds_toArray, List.set_cons_zero, List.set_cons_succ]
      have hne : Nonempty (St _) := ⟨y2⟩
      refine wp_region_st_tail 8 (by kernel_rfl) (by kernel_rfl) ?_
      simp only [List.take_succ_cons, List.take_zero, List.drop_succ_cons, List.drop_zero]
      repeat (go_big_quiet_step (fail))
      refine wpQuiet_nil ?_
      intro z
      clear hne y2 y3 y1 y h2
      go_wp2_with (go_at_call 20; refine (breaks_spec _ _ _).mono ?_; rintro en w' ⟨rfl, y3, rfl⟩)
      have hne : Nonempty (St _) := ⟨y3⟩
      refine wp_region_st_tail 6 (by kernel_rfl) (by kernel_rfl) ?_
      simp only [List.take_succ_cons, List.take_zero, List.drop_succ_cons, List.drop_zero]
      repeat (go_big_quiet_step (fail))
      refine wpQuiet_nil ?_
      intro z2
      clear hne z
      go_wp2_with (first | ((with_reducible refine at_load39 ?_); refine wpList_loadEv e rfl ?_) | (go_at_call 19; go_must (refine (stay19_no e lv nw lvv s HSO.out HL.out HN.out (fun b hb => HB.out b hb) _).mono ?_); rintro en w' ⟨rfl, z3, rfl⟩))
      go_end0
      have e2 : del1 br (GM.mg ⟨e.m, d⟩) (ms.map GM.mg) seen = brk (brk br 2 ((c : Int) != 1)) 3 seen := by unfold del1; rw [HC.out]
      rw [e2, hbr.out]
      exact ⟨rfl, toSt z3⟩
end
end Go.Proofs.Ythijlgjfgliinaa
end
