/- The monitor's helpers: two rows as one; what a stay delivered. -/
import Derived.Test.YthijlgjfgliinaaMon2
import Derived.Lib.AppendZeros
set_option linter.all false
namespace Go.Proofs.Ythijlgjfgliinaa
open Go.RowKit
variable [Env]
set_option maxRecDepth 100000

def msgZero : Value := .agg #[.int .i64 0, .int .u32 0, .int .u64 0, .int .i64 0, .slice none 0 0, .string ⟨#[]⟩]
theorem Try.info34 : (Try.prog.info? 34).map (fun i => (i.zero, i.size, i.bytes)) = some (some msgZero, 6, 72) := by kernel_rfl

/-- The call hands back a row of its own. -/
def RowRet (L : Units) (els : List (List Value)) (n : Nat) (e : Ending) (w' : World) : Prop :=
  ∃ r : Row, RowOk r 6 els ∧ e = .returned (r.val n) ∧ ∃ y : St (r.u 34 :: L), w' = y.w

set_option maxHeartbeats 400000 in
theorem grow62 (n : Nat) (hn : n ≤ 1000000) {L : Units} (x : St L) : Calls Try.prog 62 #[.slice none 0 0, .int .i64 n] x.w (RowRet L [] 0) := by
  obtain ⟨i0, hi, hz0, hz1, hz2⟩ := info_parts Try.info34
  by_cases h0 : 0 < n
  · have hr := Lib.run_append_nil_zeros (P := Try.prog) x.w 61 3 61 34 i0 msgZero .i64 .i64 Try.underlying61 Try.underlying3 hi hz0 n h0 (by omega) (by omega) (by rw [hz2]; omega)
    obtain ⟨cap, hcap⟩ : ∃ c, grownCap x.w n 0 34 = c := ⟨_, rfl⟩
    obtain ⟨arr, harr⟩ : ∃ a, Builtin.zeroCells msgZero.cells n ++ Builtin.zeroCells msgZero.cells (cap - n) = a := ⟨_, rfl⟩
    have hge := grownCap_ge x.w n 0 34
    rw [hcap] at hge hr
    have hsz : arr.size = cap * 6 := by
      rw [← harr]
      simp only [Array.size_append, size_zeros, msgZero, Value.cells]
      simp
      omega
    rw [harr] at hr
    have HC := Lib.hid hcap
    have HA := Lib.hid harr
    clear hcap harr
    go_enter Try.func62, Try.ntmps62
    go_wp2_with (at_builtin; refine Lib.wpList_append_run _ rfl _ _ _ _ rfl _ _ rfl rfl _ _ hr ?_)
    go_ret
    exact ⟨⟨some x.w.heap.size, cap, arr⟩, ⟨fun h => (by cases h), by simp, fun _ => hsz, fun _ => Nat.zero_le _, fun _ => by simp⟩, rfl, St.alloc (St.drew x) _, rfl⟩
  · obtain rfl : n = 0 := by omega
    go_enter Try.func62, Try.ntmps62
    go_wp2_with fail
    go_ret
    exact ⟨Row.nil, RowOk.mkNil 6, rfl, x.re (Eqv.nil L).symm, rfl⟩

def CatInv1 (n1 n2 : Nat) (L : Units) (vs vi : Value) (w : World) : Prop := ∃ k : Nat, k ≤ 2 ∧ vi = .int .i64 k ∧ vs = .int .i64 ((if 1 ≤ k then n1 else 0) + (if 2 ≤ k then n2 else 0) : Nat) ∧ ∃ y : St L, w = y.w
def CatInv2 (e1 e2 : List (List Value)) (L : Units) (vr vi : Value) (w : World) : Prop := ∃ (k : Nat) (els : List (List Value)) (r : Row), k ≤ 2 ∧ vi = .int .i64 k ∧ els = (if 1 ≤ k then e1 else []) ++ (if 2 ≤ k then e2 else []) ∧ RowOk r 6 els ∧ vr = r.val els.length ∧ ∃ y : St (r.u 34 :: L), w = y.w
theorem cells_len {els : List (List Value)} {ms : List GM} (h : els = ms.map GM.cells) : ∀ c ∈ els, c.length = 6 := by
  subst h; intro c hc; obtain ⟨m, _, rfl⟩ := List.mem_map.1 hc; rfl
theorem cells_one (ms : List GM) : ∀ u ∈ (ms.map GM.cells).flatten, u.oneCell' = true := by
  intro u hu
  obtain ⟨l, hl, hu⟩ := List.mem_flatten.1 hu
  obtain ⟨m, _, rfl⟩ := List.mem_map.1 hl
  simp only [GM.cells, RM.cells, List.mem_cons, List.not_mem_nil, or_false] at hu
  rcases hu with rfl | rfl | rfl | rfl | rfl | rfl <;> rfl
set_option maxHeartbeats 2000000 in
theorem concat55 {U1 U2 : Blocks} (sb n1 n2 c1 c2 : Nat) (a1 a2 : Option Addr) (m1 m2 : List GM) (h1 : SlIn U1 a1 n1 6 (m1.map GM.cells)) (h2 : SlIn U2 a2 n2 6 (m2.map GM.cells)) (hn : n1 + n2 ≤ 1000000)
    {L R1 R2 : Units} [hU1 : Unit_ L U1 R1] [hU2 : Unit_ L U2 R2] [Has L sb (.cells #[.slice a1 n1 c1, .slice a2 n2 c2] 61)] (x : St L) :
    Calls Try.prog 55 #[.slice (some ⟨sb, 0, none⟩) 2 2] x.w (RowRet L ((m1 ++ m2).map GM.cells) (n1 + n2)) := by
  obtain ⟨i0, hi, hz0, hz1, hz2⟩ := info_parts Try.info34
  have HL1 := Lib.hid h1.1
  have HL2 := Lib.hid h2.1
  have b1 : n1 ≤ 1000000 := by omega
  have b2 : n2 ≤ 1000000 := by omega
  go_enter Try.func55, Try.ntmps55
  go_wp2_with fail
  go_loopw [3, 11] (fun vs vi wr => CatInv1 n1 n2 L vs vi wr) (fun _ vi _ => 2 - (intOf vi).toNat)
  case atStart => exact ⟨0, by omega, rfl, rfl, x, rfl⟩
  case round =>
    obtain ⟨k, hk, rfl, rfl, y, rfl⟩ := hrel
    match k, hk with
    | 0, _ =>
      simp only [Nat.reduceLeDiff, if_false, Nat.add_zero]
      go_wp2_with fail
      go_roundw
      case rel => exact ⟨1, by omega, rfl, by simp, y, rfl⟩
      case measure => simp [intOf]
    | 1, _ =>
      simp only [Nat.reduceLeDiff, if_false, if_true, Nat.add_zero, Nat.le_refl]
      go_wp2_with fail
      go_roundw
      case rel => exact ⟨2, by omega, rfl, by simp, y, rfl⟩
      case measure => simp [intOf]
    | 2, _ =>
      simp only [Nat.reduceLeDiff, if_false, if_true, Nat.add_zero, Nat.le_refl]
      obtain ⟨n, hnn⟩ : ∃ n, n1 + n2 = n := ⟨_, rfl⟩
      have HN := Lib.hid hnn
      have bn : n ≤ 1000000 := by omega
      rw [hnn]
      clear hnn
      go_wp2_with (go_at_call 62; refine (grow62 n bn _).mono ?_; rintro e w' ⟨r0, hok0, rfl, y0, rfl⟩)
      go_loopw [6, 27] (fun vr vi wr => CatInv2 (m1.map GM.cells) (m2.map GM.cells) L vr vi wr) (fun _ vi _ => 2 - (intOf vi).toNat)
      case atStart => exact ⟨0, [], r0, by omega, rfl, rfl, hok0, rfl, y0, rfl⟩
      case round =>
        clear hok0
        obtain ⟨k, els, r, hk, rfl, hels, hok, rfl, y, rfl⟩ := hrel
        have HE := Lib.hid hels
        clear hels
        match k, hk with
        | 0, _ =>
          have hel : els.length = 0 := by rw [HE.out]; rfl
          have HEL := Lib.hid hel
          clear hel
          go_wp2_with (at_builtin; refine wpList_append_sl (P := Try.prog) r els (m1.map GM.cells) 6 72 34 i0 msgZero Try.underlying61 hi hz0 hz1 hz2 rfl U1 a1 n1 c1 rfl rfl hok (cells_len rfl) h1 (cells_one m1) ?byt ?le ?k)
          case byt => rw [HEL.out]; omega
          case le => rw [HEL.out]; omega
          case k =>
            intro r' z hok'
            go_wp2
            go_roundw
            case rel => exact ⟨1, m1.map GM.cells, r', by omega, rfl, by simp, by rw [HE.out] at hok'; exact hok', by rw [HEL.out, ← HL1.out, Nat.zero_add], z, rfl⟩
            case measure => simp [intOf]
        | 1, _ =>
          have hel : els.length = n1 := by rw [HE.out, ← HL1.out]; simp
          have HEL := Lib.hid hel
          clear hel
          go_wp2_with (at_builtin; refine wpList_append_sl (P := Try.prog) r els (m2.map GM.cells) 6 72 34 i0 msgZero Try.underlying61 hi hz0 hz1 hz2 rfl U2 a2 n2 c2 rfl rfl hok (cells_len rfl) h2 (cells_one m2) ?byt ?le ?k)
          case byt => rw [HEL.out]; omega
          case le => rw [HEL.out]; omega
          case k =>
            intro r' z hok'
            go_wp2
            go_roundw
            case rel => exact ⟨2, els ++ m2.map GM.cells, r', by omega, rfl, by rw [HE.out]; simp, hok', by rw [List.length_append, HL2.out], z, rfl⟩
            case measure => simp [intOf]
        | 2, _ =>
          go_wp2_with fail
          go_ret
          refine ⟨r, ?_, ?_, y, rfl⟩
          · rw [HE.out] at hok
            simpa using hok
          · have hel : els.length = n1 + n2 := by rw [HE.out, ← HL1.out, ← HL2.out]; simp
            rw [← hel]
            rfl

/-- The block of a stay. -/
abbrev stayO (proc epoch rep members : Int) (p0 p1 : Value) (cb : Nat) (tr : Option Nat) (went : Bool) : Obj :=
  .cells #[.int .i64 proc, .int .u64 epoch, .int .i64 rep, .int .u64 members, p0, p1, .map (some cb), .pointer (tr.map (⟨·, 0, none⟩)), .bool went] 66
set_option maxHeartbeats 1000000 in
theorem all35 {U1 U2 : Blocks} (sb n1 n2 c1 c2 cb : Nat) (pr ep re me : Int) (tr : Option Nat) (we : Bool) (a1 a2 : Option Addr) (m1 m2 : List GM) (h1 : SlIn U1 a1 n1 6 (m1.map GM.cells)) (h2 : SlIn U2 a2 n2 6 (m2.map GM.cells)) (hn : n1 + n2 ≤ 1000000)
    {L R1 R2 : Units} [hU1 : Unit_ L U1 R1] [hU2 : Unit_ L U2 R2] [Has L sb (stayO pr ep re me (.slice a1 n1 c1) (.slice a2 n2 c2) cb tr we)] (x : St L) :
    Calls Try.prog 35 #[.pointer (some ⟨sb, 0, none⟩)] x.w (RowRet L ((m1 ++ m2).map GM.cells) (n1 + n2)) := by
  have hne : Nonempty (St L) := ⟨x⟩
  have H1 := Lib.hid h1
  have H2 := Lib.hid h2
  clear h1 h2
  go_enter Try.func35, Try.ntmps35
  go_wp2_with fail
  refine wp_region_st_tail 10 (by kernel_rfl) (by kernel_rfl) ?_
  simp only [List.take_succ_cons, List.take_zero, List.drop_succ_cons, List.drop_zero]
  repeat (go_big_quiet_step (fail))
  refine wpQuiet_nil ?_
  intro z
  go_wp2_with (first | ((with_reducible refine wpList_buildSlice_st (by intro w; simp [go_sem]; rfl) ?_); intro nb y) | (go_at_call 55; refine (concat55 (U1 := U1) (U2 := U2) nb n1 n2 c1 c2 a1 a2 m1 m2 H1.out H2.out hn _).mono ?_; rintro e w' ⟨r, hok, rfl, y, rfl⟩))
  go_ret
  exact ⟨r, hok, rfl, y.to, rfl⟩

/-- The block of a monitor. -/
abbrev monO (sb eb mb : Nat) (st : Value) (lb nb : Nat) (br ln at_ ru : Int) : Obj :=
  .cells #[.map (some sb), .map (some eb), .map (some mb), st, .map (some lb), .map (some nb), .int .i64 br, .int .i64 ln, .int .i64 at_, .int .i64 ru] 54
/-- A rule is broken, if something is so. -/
def brk (br r : Int) (c : Bool) : Int := if c = true ∧ (br = 0 ∨ r < br) then r else br
set_option maxHeartbeats 400000 in
theorem breaks_spec {m sb eb mb lb nb : Nat} {st : Value} {br ln at_ ru : Int} (r : Int) (c : Bool) {L R : Units} [hp : Pick L m (monO sb eb mb st lb nb br ln at_ ru) R] (x : St L) :
    Calls Try.prog 20 #[.pointer (some ⟨m, 0, none⟩), .int .i64 r, .bool c] x.w (Ret ([(m, monO sb eb mb st lb nb (brk br r c) ln at_ ru)] :: R) (.tuple #[])) := by
  rw [St.re_w x hp.ok]
  generalize x.re hp.ok = x
  cases c
  · go_enter Try.func20, Try.ntmps20
    go_wp2
    go_end0
    exact Ret.mk _ rfl rfl (by simp [brk])
  · by_cases h0 : br = 0
    · subst h0
      go_enter Try.func20, Try.ntmps20
      go_wp2
      go_end0
      exact Ret.mk _ rfl rfl (by simp [brk])
    · have h1 : (br == 0) = false := by simpa using h0
      by_cases h2 : r < br
      · have h3 : decide (r < br) = true := by simpa using h2
        go_enter Try.func20, Try.ntmps20
        go_wp2
        go_end0
        exact Ret.mk _ rfl rfl (by simp [brk]; omega)
      · have h3 : decide (r < br) = false := by simpa using h2
        go_enter Try.func20, Try.ntmps20
        go_wp2
        go_end0
        exact Ret.mk _ rfl rfl (by simp [brk, h0]; omega)

end Go.Proofs.Ythijlgjfgliinaa
