/- The stay of an event that must stand in one. -/
import Derived.Test.YthijlgjfgliinaaMon5
set_option linter.all false
namespace Go.Proofs.Ythijlgjfgliinaa
open Go.RowKit
variable [Env]
set_option maxRecDepth 100000

/-- The value of an event. -/
abbrev evV (e : Ev) : Value := .agg #[.int .i64 e.kind, .int .i64 e.proc, .int .u64 e.epoch, .int .i64 e.rep, .int .u64 e.nepoch, .int .i64 e.nrep, .int .u64 e.members, .int .i64 e.m.frm, .int .u32 e.m.seq, .int .u64 e.m.stamp, .int .i64 e.m.svc, .slice e.m.da e.m.dn e.m.dc, .string e.m.pay, .int .u64 e.vnum, .int .u64 e.vepoch, .int .i64 e.vrep, .int .u64 e.vmem, .slice e.na e.nn e.nc, .string e.state]
abbrev bval (b : Bool) : Value := .bool b
abbrev pval (b : Nat) : Value := .pointer (some ⟨b, 0, none⟩)
abbrev setV (b : Int) : Value := .int .u64 b
theorem look_now {L : Units} (r : Nat) (g : GMap Int Nat) (v : Option Nat) (k : Int) (hv : g.get k = v) [h : Has L r (g.obj ikey pval)] (x : St L) : (Instr.lookup 52 (.map (some r)) (.int .i64 k) false).run Try.prog x.w = .ok (.pointer (v.map (⟨·, 0, none⟩))) x.w := by
  have := run_lookup_g (P := Try.prog) KL3 (T := 52) (et := 57) (z := .pointer none) Try.underlying52 (fun w => by simp [go_sem]) g (St.heap (h := h) x) k false
  rw [this, hv]
  cases v <;> rfl
theorem look_live {L : Units} (r : Nat) (g : GMap Int Bool) (v : Bool) (k : Int) (hv : (g.get k).getD false = v) [h : Has L r (g.obj ikey bval)] (x : St L) : (Instr.lookup 51 (.map (some r)) (.int .i64 k) false).run Try.prog x.w = .ok (.bool v) x.w := by
  have := run_lookup_g (P := Try.prog) KL3 (T := 51) (et := 4) (z := .bool false) Try.underlying51 (fun w => by simp [go_sem]) g (St.heap (h := h) x) k false
  rw [this, ← hv]
  cases g.get k <;> rfl
section
variable {m sb eb mb lb nb : Nat} {st : Value} {br ln at_ ru : Int}
set_option maxHeartbeats 1000000 in
theorem stay19_ok (e : Ev) (lv : GMap Int Bool) (nw : GMap Int Nat) (b : Nat) (p0 p1 : Value) (pr me : Int) (cb : Nat) (tr : Option Nat) (we : Bool) (hl : (lv.get e.proc).getD false = true) (hn : nw.get e.proc = some b)
    {L R : Units} [hp : Pick L m (monO sb eb mb st lb nb br ln at_ ru) R] [Has R lb (lv.obj ikey bval)] [Has R nb (nw.obj ikey pval)] [Has R b (stayO pr e.epoch e.rep me p0 p1 cb tr we)] (x : St L) :
    Calls Try.prog 19 #[.pointer (some ⟨m, 0, none⟩), evV e] x.w (Ret ([(m, monO sb eb mb st lb nb br ln at_ ru)] :: R) (.pointer (some ⟨b, 0, none⟩))) := by
  rw [St.re_w x hp.ok]
  generalize x.re hp.ok = x
  have h1 := fun {L : Units} [Has L nb (nw.obj ikey pval)] (x : St L) => look_now nb nw _ e.proc hn x
  have h2 := fun {L : Units} [Has L lb (lv.obj ikey bval)] (x : St L) => look_live lb lv _ e.proc hl x
  have hc : confEq e.epoch e.rep e.epoch e.rep = true := by simp [confEq]
  clear hl hn
  go_enter Try.func19, Try.ntmps19
  go_wp2_with (first | ((with_reducible refine wpList_box_st (by simp [go_sem]; rfl) ?_); intro nb y))
  have hne : Nonempty (St _) := ⟨y⟩
  refine wp_region_st (by kernel_rfl) (by kernel_rfl) ?_
  repeat (go_big_quiet_step (fail))
  refine wpQuiet_nil ?_
  intro z
  go_wp2_with fail
  refine wp_region_st (by kernel_rfl) (by kernel_rfl) ?_
  repeat (go_big_quiet_step (fail))
  refine wpQuiet_nil ?_
  intro z
  go_wp2_with fail
  go_ret
  exact Ret.fin _ rfl
set_option maxHeartbeats 1000000 in
theorem stay19_dead (e : Ev) (lv : GMap Int Bool) (nw : GMap Int Nat) (v : Option Nat) (hl : (lv.get e.proc).getD false = false) (hn : nw.get e.proc = v)
    {L R : Units} [hp : Pick L m (monO sb eb mb st lb nb br ln at_ ru) R] [Has R lb (lv.obj ikey bval)] [Has R nb (nw.obj ikey pval)] (x : St L) :
    Calls Try.prog 19 #[.pointer (some ⟨m, 0, none⟩), evV e] x.w (Ret ([(m, monO sb eb mb st lb nb (brk br 1 true) ln at_ ru)] :: R) (.pointer none)) := by
  rw [St.re_w x hp.ok]
  generalize x.re hp.ok = x
  have h1 := fun {L : Units} [Has L nb (nw.obj ikey pval)] (x : St L) => look_now nb nw _ e.proc hn x
  have h2 := fun {L : Units} [Has L lb (lv.obj ikey bval)] (x : St L) => look_live lb lv _ e.proc hl x
  clear hl hn
  go_enter Try.func19, Try.ntmps19
  go_wp2_with (first | ((with_reducible refine wpList_box_st (by simp [go_sem]; rfl) ?_); intro nb y))
  have hne : Nonempty (St _) := ⟨y⟩
  refine wp_region_st (by kernel_rfl) (by kernel_rfl) ?_
  repeat (go_big_quiet_step (fail))
  refine wpQuiet_nil ?_
  intro z
  go_wp2_with fail
  refine wp_region_st (by kernel_rfl) (by kernel_rfl) ?_
  repeat (go_big_quiet_step (fail))
  refine wpQuiet_nil ?_
  intro z
  go_wp2_with (go_at_call 20; refine (breaks_spec _ _ _).mono ?_; rintro e w' ⟨rfl, y, rfl⟩)
  go_ret
  exact Ret.fin _ rfl
set_option maxHeartbeats 1000000 in
theorem stay19_none (e : Ev) (lv : GMap Int Bool) (nw : GMap Int Nat) (hl : (lv.get e.proc).getD false = true) (hn : nw.get e.proc = none)
    {L R : Units} [hp : Pick L m (monO sb eb mb st lb nb br ln at_ ru) R] [Has R lb (lv.obj ikey bval)] [Has R nb (nw.obj ikey pval)] (x : St L) :
    Calls Try.prog 19 #[.pointer (some ⟨m, 0, none⟩), evV e] x.w (Ret ([(m, monO sb eb mb st lb nb (brk br 1 true) ln at_ ru)] :: R) (.pointer none)) := by
  rw [St.re_w x hp.ok]
  generalize x.re hp.ok = x
  have h1 := fun {L : Units} [Has L nb (nw.obj ikey pval)] (x : St L) => look_now nb nw _ e.proc hn x
  have h2 := fun {L : Units} [Has L lb (lv.obj ikey bval)] (x : St L) => look_live lb lv _ e.proc hl x
  clear hl hn
  go_enter Try.func19, Try.ntmps19
  go_wp2_with (first | ((with_reducible refine wpList_box_st (by simp [go_sem]; rfl) ?_); intro nb y))
  have hne : Nonempty (St _) := ⟨y⟩
  refine wp_region_st (by kernel_rfl) (by kernel_rfl) ?_
  repeat (go_big_quiet_step (fail))
  refine wpQuiet_nil ?_
  intro z
  go_wp2_with fail
  refine wp_region_st (by kernel_rfl) (by kernel_rfl) ?_
  repeat (go_big_quiet_step (fail))
  refine wpQuiet_nil ?_
  intro z
  go_wp2_with (go_at_call 20; refine (breaks_spec _ _ _).mono ?_; rintro e w' ⟨rfl, y, rfl⟩)
  go_ret
  exact Ret.fin _ rfl
set_option maxHeartbeats 1000000 in
theorem stay19_else (e : Ev) (lv : GMap Int Bool) (nw : GMap Int Nat) (b : Nat) (p0 p1 : Value) (pr ep re me : Int) (cb : Nat) (tr : Option Nat) (we : Bool) (hl : (lv.get e.proc).getD false = true) (hn : nw.get e.proc = some b) (hc : confEq ep re e.epoch e.rep = false)
    {L R : Units} [hp : Pick L m (monO sb eb mb st lb nb br ln at_ ru) R] [Has R lb (lv.obj ikey bval)] [Has R nb (nw.obj ikey pval)] [Has R b (stayO pr ep re me p0 p1 cb tr we)] (x : St L) :
    Calls Try.prog 19 #[.pointer (some ⟨m, 0, none⟩), evV e] x.w (Ret ([(m, monO sb eb mb st lb nb (brk br 1 true) ln at_ ru)] :: R) (.pointer none)) := by
  rw [St.re_w x hp.ok]
  generalize x.re hp.ok = x
  have h1 := fun {L : Units} [Has L nb (nw.obj ikey pval)] (x : St L) => look_now nb nw _ e.proc hn x
  have h2 := fun {L : Units} [Has L lb (lv.obj ikey bval)] (x : St L) => look_live lb lv _ e.proc hl x
  clear hl hn
  go_enter Try.func19, Try.ntmps19
  go_wp2_with (first | ((with_reducible refine wpList_box_st (by simp [go_sem]; rfl) ?_); intro nb y))
  have hne : Nonempty (St _) := ⟨y⟩
  refine wp_region_st (by kernel_rfl) (by kernel_rfl) ?_
  repeat (go_big_quiet_step (fail))
  refine wpQuiet_nil ?_
  intro z
  go_wp2_with fail
  refine wp_region_st (by kernel_rfl) (by kernel_rfl) ?_
  repeat (go_big_quiet_step (fail))
  refine wpQuiet_nil ?_
  intro z
  go_wp2_with (go_at_call 20; refine (breaks_spec _ _ _).mono ?_; rintro e w' ⟨rfl, y, rfl⟩)
  go_ret
  exact Ret.fin _ rfl
end
end Go.Proofs.Ythijlgjfgliinaa
