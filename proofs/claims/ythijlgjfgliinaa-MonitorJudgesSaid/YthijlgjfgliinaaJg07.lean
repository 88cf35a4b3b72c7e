/- Part 7 of the proof of what MonJudges says. -/
import Derived.Test.YthijlgjfgliinaaProg
import Derived.Test.YthijlgjfgliinaaJg03
import Derived.Lib.Hide
import Derived.Test.YthijlgjfgliinaaJg04
import Derived.WalkSpells
section
/- Messages and events as their cells; whether a trace is short. -/
set_option linter.all false
namespace Go.Proofs.Ythijlgjfgliinaa
open Go.RowKit
variable [Env]

/-- A message as its cells tell: of its Deps only where they lie. -/
structure RM where
  frm : Int
  seq : Int
  stamp : Int
  svc : Int
  da : Option Addr
  dn : Nat
  dc : Nat
  pay : ByteArray
/-- An event as its cells tell. -/
structure Ev where
  kind : Int
  proc : Int
  epoch : Int
  rep : Int
  nepoch : Int
  nrep : Int
  members : Int
  m : RM
  vnum : Int
  vepoch : Int
  vrep : Int
  vmem : Int
  na : Option Addr
  nn : Nat
  nc : Nat
  state : ByteArray
def RM.cells (m : RM) : List Value := [.int .i64 m.frm, .int .u32 m.seq, .int .u64 m.stamp, .int .i64 m.svc, .slice m.da m.dn m.dc, .string m.pay]
def Ev.cells (e : Ev) : List Value := [.int .i64 e.kind, .int .i64 e.proc, .int .u64 e.epoch, .int .i64 e.rep, .int .u64 e.nepoch, .int .i64 e.nrep, .int .u64 e.members, .int .i64 e.m.frm, .int .u32 e.m.seq, .int .u64 e.m.stamp, .int .i64 e.m.svc, .slice e.m.da e.m.dn e.m.dc, .string e.m.pay, .int .u64 e.vnum, .int .u64 e.vepoch, .int .i64 e.vrep, .int .u64 e.vmem, .slice e.na e.nn e.nc, .string e.state]

/-- From place o on an array has a row of things of s cells each. -/
def RowAt (arr : Array Value) (o s : Nat) (els : List (List Value)) : Prop := ∀ i c, els[i]? = some c → ∀ j v, c[j]? = some v → arr[o + i * s + j]? = some v

def cut20 (n : Int) : Int := if 20000 < n then 20000 else n
def few1 (n : Int) (e : Ev) : Int := n + cut20 e.m.pay.size / 8 + cut20 e.m.dn / 8 + cut20 e.nn / 8 + cut20 e.state.size / 16
def fewFrom : Int → Nat → List Ev → Bool
  | _, _, [] => true
  | n, i, e :: l => if 500 ≤ i ∨ 20000 < few1 n e then false else fewFrom (few1 n e) (i + 1) l
/-- Is a trace short enough? -/
def few (l : List Ev) : Bool := fewFrom 0 0 l
theorem cut20_le (n : Int) (h : 0 ≤ n) : 0 ≤ cut20 n ∧ cut20 n ≤ 20000 := by unfold cut20; split <;> omega

def FewInv (evs : List Ev) (L : Units) (v3 v4 : Value) (wr : World) : Prop :=
  ∃ (k : Nat) (n : Int), k ≤ evs.length ∧ v4 = .int .i64 k ∧ v3 = .int .i64 n ∧ 0 ≤ n ∧ n ≤ 20000 ∧ few evs = fewFrom n k (evs.drop k) ∧ ∃ y : St L, wr = y.w
set_option maxHeartbeats 1000000 in
set_option maxRecDepth 100000 in
theorem few_spec (evs : List Ev) (b off c : Nat) (arr : Array Value) (T : TypeId) (fr : Nat × Nat) {L : Units} [Has L b (.cells arr T fr)] (hrow : RowAt arr off 19 (evs.map Ev.cells)) (hlen : evs.length ≤ 9223372036854775807) (x : St L) :
    Calls Try.prog 7 #[.slice (some ⟨b, off, none⟩) evs.length c] x.w (Ret L (.bool (few evs))) := by
  have hne : Nonempty (St L) := ⟨x⟩
  go_enter Try.func7, Try.ntmps7
  go_wp2_with fail
  go_loopw [3, 4] (fun v3 v4 wr => FewInv evs L v3 v4 wr) (fun _ v4 _ => evs.length - (intOf v4).toNat)
  case atStart => exact ⟨0, 0, by omega, rfl, rfl, by omega, by omega, rfl, x, rfl⟩
  case round =>
    obtain ⟨k, n, hk, rfl, rfl, hn0, hn1, hfew, y, rfl⟩ := hrel
    by_cases hlt : k < evs.length
    · obtain ⟨e, he⟩ : ∃ e, evs[k]? = some e := ⟨evs[k], List.getElem?_eq_getElem hlt⟩
      have hr := fun j v => hrow k e.cells (by simp [he]) j v
      have h12 : arr[off + k * 19 + 7 + 5]? = some (.string e.m.pay) := hr 12 _ rfl
      have h11 : arr[off + k * 19 + 7 + 4]? = some (.slice e.m.da e.m.dn e.m.dc) := hr 11 _ rfl
      have h17 : arr[off + k * 19 + 17]? = some (.slice e.na e.nn e.nc) := hr 17 _ rfl
      have h18 : arr[off + k * 19 + 18]? = some (.string e.state) := hr 18 _ rfl
      have hd : evs.drop k = e :: evs.drop (k + 1) := by rw [List.drop_eq_getElem_cons hlt]; congr 1; rw [List.getElem?_eq_getElem hlt] at he; exact Option.some.inj he
      rw [hd] at hfew
      simp only [fewFrom] at hfew
      obtain ⟨m1, hm1⟩ : ∃ m, cut20 e.m.pay.size = m := ⟨_, rfl⟩
      obtain ⟨m2, hm2⟩ : ∃ m, cut20 e.m.dn = m := ⟨_, rfl⟩
      obtain ⟨m3, hm3⟩ : ∃ m, cut20 e.nn = m := ⟨_, rfl⟩
      obtain ⟨m4, hm4⟩ : ∃ m, cut20 e.state.size = m := ⟨_, rfl⟩
      have b1 := cut20_le e.m.pay.size (by omega)
      have b2 := cut20_le e.m.dn (by omega)
      have b3 := cut20_le e.nn (by omega)
      have b4 := cut20_le e.state.size (by omega)
      have hf1 : few1 n e = n + m1 / 8 + m2 / 8 + m3 / 8 + m4 / 16 := by unfold few1; rw [hm1, hm2, hm3, hm4]
      rw [hf1] at hfew
      rw [hm1] at b1; rw [hm2] at b2; rw [hm3] at b3; rw [hm4] at b4
      unfold cut20 at hm1 hm2 hm3 hm4
      have hfew' := Lib.hid hfew
      obtain ⟨b10, b11⟩ := b1; obtain ⟨b20, b21⟩ := b2; obtain ⟨b30, b31⟩ := b3; obtain ⟨b40, b41⟩ := b4
      clear hr he hfew hd hf1
      by_cases h5 : k < 500
      · have h5b : decide ((500 : Int) ≤ k) = false := by simp; omega
        by_cases hbig : 20000 < n + m1 / 8 + m2 / 8 + m3 / 8 + m4 / 16
        · have hbb : decide (20000 < n + m1 / 8 + m2 / 8 + m3 / 8 + m4 / 16) = true := by simp [hbig]
          go_wp2_with fail
          refine wp_region_st (by kernel_rfl) (by kernel_rfl) ?_
          repeat (go_big_quiet_step (fail))
          refine wpQuiet_nil ?_
          intro z
          go_wp2_with fail
          go_ret
          exact Ret.mk z rfl (by rw [hfew'.out, if_pos (Or.inr hbig)]; rfl) rfl
        · have hbb : decide (20000 < n + m1 / 8 + m2 / 8 + m3 / 8 + m4 / 16) = false := by simp; omega
          go_wp2_with fail
          refine wp_region_st (by kernel_rfl) (by kernel_rfl) ?_
          repeat (go_big_quiet_step (fail))
          refine wpQuiet_nil ?_
          intro z
          go_wp2_with fail
          go_roundw
          case rel => exact ⟨k + 1, _, by omega, by go_num, rfl, by omega, by omega, by rw [hfew'.out, if_neg (by omega)], z, rfl⟩
          case measure => simp [intOf]; omega
      · have h5b : decide ((500 : Int) ≤ k) = true := by simp; omega
        go_wp2_with fail
        refine wp_region_st (by kernel_rfl) (by kernel_rfl) ?_
        repeat (go_big_quiet_step (fail))
        refine wpQuiet_nil ?_
        intro z
        go_wp2_with fail
        go_ret
        exact Ret.mk z rfl (by rw [hfew'.out, if_pos (Or.inl (by omega))]; rfl) rfl
    · have : k = evs.length := by omega
      subst this
      have hfew' := Lib.hid hfew
      clear hfew
      go_wp2_with fail
      go_ret
      exact Ret.mk y rfl (by rw [hfew'.out, List.drop_length]; rfl) rfl
end Go.Proofs.Ythijlgjfgliinaa
end
section
/- The small functions: sets, keys, comparisons, equality of messages. -/
set_option linter.all false
namespace Go.Proofs.Ythijlgjfgliinaa
open Go.RowKit
variable [Env]
set_option maxRecDepth 100000

/-- The set of one. -/
def bitOf (p : Int) : Int := if p < 0 ∨ 64 ≤ p then 0 else IntKind.u64.wrap (2 ^ p.toNat)
/-- Does a set have a process? -/
def hasB (s p : Int) : Bool := Go.bits .and .u64 s (bitOf p) != 0
/-- Has another set all? -/
def inB (s t : Int) : Bool := Go.bits .andNot .u64 s t == 0

set_option maxHeartbeats 400000 in
theorem bit_spec (p : Int) {L : Units} (x : St L) : Calls Try.prog 49 #[.int .i64 p] x.w (Ret L (.int .u64 (bitOf p))) := by
  by_cases h0 : p < 0
  · have e : bitOf p = 0 := by unfold bitOf; rw [if_pos (Or.inl h0)]
    have h0b : decide (p < 0) = true := by simp [h0]
    rw [e]
    go_enter Try.func49, Try.ntmps49
    go_wp2
    go_ret
    exact Ret.mk x rfl rfl rfl
  · have h0b : decide (p < 0) = false := by simp; omega
    by_cases h1 : 64 ≤ p
    · have e : bitOf p = 0 := by unfold bitOf; rw [if_pos (Or.inr h1)]
      have h1b : decide (64 ≤ p) = true := by simp [h1]
      rw [e]
      go_enter Try.func49, Try.ntmps49
      go_wp2
      go_ret
      exact Ret.mk x rfl rfl rfl
    · have h1b : decide (64 ≤ p) = false := by simp; omega
      have e : bitOf p = IntKind.u64.wrap (2 ^ p.toNat) := by unfold bitOf; rw [if_neg (by omega)]
      have E := Lib.hid e
      clear e
      have h2 : 0 ≤ p := by omega
      go_enter Try.func49, Try.ntmps49
      go_wp2
      go_ret
      exact Ret.mk x rfl (by rw [E.out]; simp) rfl

set_option maxHeartbeats 400000 in
theorem has_spec (s p : Int) {L : Units} (x : St L) : Calls Try.prog 30 #[.int .u64 s, .int .i64 p] x.w (Ret L (.bool (hasB s p))) := by
  go_enter Try.func30, Try.ntmps30
  go_wp2_with (go_at_call 49; refine (bit_spec _ _).mono ?_; rintro e w' ⟨rfl, y, rfl⟩)
  go_ret
  exact Ret.mk _ rfl rfl rfl

set_option maxHeartbeats 400000 in
theorem but_spec (s t : Int) {L : Units} (x : St L) : Calls Try.prog 53 #[.int .u64 s, .int .u64 t] x.w (Ret L (.int .u64 (Go.bits .andNot .u64 s t))) := by
  go_enter Try.func53, Try.ntmps53
  go_wp2
  go_ret
  exact Ret.mk x rfl rfl rfl

set_option maxHeartbeats 400000 in
theorem in_spec (s t : Int) {L : Units} (x : St L) : Calls Try.prog 32 #[.int .u64 s, .int .u64 t] x.w (Ret L (.bool (inB s t))) := by
  go_enter Try.func32, Try.ntmps32
  go_wp2_with (go_at_call 53; refine (but_spec _ _ _).mono ?_; rintro e w' ⟨rfl, y, rfl⟩)
  go_ret
  exact Ret.mk _ rfl rfl rfl

/-- Which of two numbers is greater. -/
def cmp3 (a b : Int) : Int := if a < b then -1 else if b < a then 1 else 0
set_option maxHeartbeats 400000 in
theorem nan60 (a : Int) {L : Units} (x : St L) : Calls Try.prog 60 #[.int .u64 a] x.w (Ret L (.bool false)) := by
  go_enter Try.func60, Try.ntmps60
  go_wp2
  go_ret
  exact Ret.mk x rfl (by simp) rfl
set_option maxHeartbeats 400000 in
theorem nan61 (a : Int) {L : Units} (x : St L) : Calls Try.prog 61 #[.int .i64 a] x.w (Ret L (.bool false)) := by
  go_enter Try.func61, Try.ntmps61
  go_wp2
  go_ret
  exact Ret.mk x rfl (by simp) rfl
set_option maxHeartbeats 400000 in
theorem cmp51 (a b : Int) {L : Units} (x : St L) : Calls Try.prog 51 #[.int .u64 a, .int .u64 b] x.w (Ret L (.int .i64 (cmp3 a b))) := by
  go_enter Try.func51, Try.ntmps51
  go_wp2_with (go_at_call 60; refine (nan60 _ _).mono ?_; rintro e w' ⟨rfl, y, rfl⟩)
  all_goals (go_ret; refine Ret.mk _ rfl ?_ rfl; simp only [cmp3]; first | rw [if_pos (by omega)]; rfl | (rw [if_neg (by omega)]; first | rw [if_pos (by omega)]; rfl | rw [if_neg (by omega)]; rfl))
set_option maxHeartbeats 400000 in
theorem cmp52 (a b : Int) {L : Units} (x : St L) : Calls Try.prog 52 #[.int .i64 a, .int .i64 b] x.w (Ret L (.int .i64 (cmp3 a b))) := by
  go_enter Try.func52, Try.ntmps52
  go_wp2_with (go_at_call 61; refine (nan61 _ _).mono ?_; rintro e w' ⟨rfl, y, rfl⟩)
  all_goals (go_ret; refine Ret.mk _ rfl ?_ rfl; simp only [cmp3]; first | rw [if_pos (by omega)]; rfl | (rw [if_neg (by omega)]; first | rw [if_pos (by omega)]; rfl | rw [if_neg (by omega)]; rfl))

/-- The first of two numbers that isn't zero. -/
def or2 (a b : Int) : Int := if a = 0 then b else a
def OrInv (a b : Int) (L : Units) (v : Value) (w : World) : Prop := ∃ k : Nat, k ≤ 2 ∧ v = .int .i64 k ∧ (1 ≤ k → a = 0) ∧ (2 ≤ k → b = 0) ∧ ∃ y : St L, w = y.w
set_option maxHeartbeats 400000 in
theorem or_spec (nb : Nat) (a b : Int) {L : Units} [Has L nb (.cells #[.int .i64 a, .int .i64 b] 3 (0, 0))] (x : St L) : Calls Try.prog 50 #[.slice (some ⟨nb, 0, none⟩) 2 2] x.w (Ret L (.int .i64 (or2 a b))) := by
  go_enter Try.func50, Try.ntmps50
  go_wp2_with fail
  go_loopw [8] (fun v wr => OrInv a b L v wr) (fun v _ => 2 - (intOf v).toNat)
  case atStart => exact ⟨0, by omega, rfl, by omega, by omega, x, rfl⟩
  case round =>
    obtain ⟨k, hk, rfl, h1, h2, y, rfl⟩ := hrel
    match k, hk with
    | 0, _ =>
      clear h1 h2
      by_cases ha : a = 0
      · have hab : (a != 0) = false := by simp [ha]
        have HA := Lib.hid ha
        clear ha
        go_wp2_with fail
        go_roundw
        case rel => exact ⟨1, by omega, rfl, fun _ => HA.out, by omega, y, rfl⟩
        case measure => simp [intOf]
      · have hab : (a != 0) = true := by simp [ha]
        go_wp2_with fail
        go_ret
        exact Ret.mk y rfl (by simp only [or2]; rw [if_neg ha]; rfl) rfl
    | 1, _ =>
      have HA := Lib.hid (h1 (by omega))
      clear h1 h2
      by_cases ha : b = 0
      · have hab : (b != 0) = false := by simp [ha]
        have HB := Lib.hid ha
        clear ha
        go_wp2_with fail
        go_roundw
        case rel => exact ⟨2, by omega, rfl, fun _ => HA.out, fun _ => HB.out, y, rfl⟩
        case measure => simp [intOf]
      · have hab : (b != 0) = true := by simp [ha]
        go_wp2_with fail
        go_ret
        exact Ret.mk y rfl (by simp only [or2]; rw [if_pos HA.out]; rfl) rfl
    | 2, _ =>
      have HA := Lib.hid (h1 (by omega))
      have HB := Lib.hid (h2 (by omega))
      clear h1 h2
      go_wp2_with fail
      go_ret
      exact Ret.mk y rfl (by simp only [or2]; rw [if_pos HA.out, HB.out]; rfl) rfl

/-- The order of configurations, of keys: by the first number, then the second. -/
def ord2 (a b c d : Int) : Int := or2 (cmp3 a c) (cmp3 b d)
set_option maxHeartbeats 1000000 in
theorem confs_spec (a b c d : Int) {L : Units} (x : St L) : Calls Try.prog 31 #[.agg #[.int .u64 a, .int .i64 b], .agg #[.int .u64 c, .int .i64 d]] x.w (Ret L (.int .i64 (ord2 a b c d))) := by
  go_enter Try.func31, Try.ntmps31
  go_wp2_with ((with_reducible refine wpList_box_st (by simp [go_sem]; rfl) ?_); intro nb y; have hne : Nonempty (St _) := ⟨y⟩)
  refine wp_region_st_tail 10 (by kernel_rfl) (by kernel_rfl) ?_
  simp only [List.take_succ_cons, List.take_zero, List.drop_succ_cons, List.drop_zero]
  repeat (go_big_quiet_step (first | exact cmp51 _ _ _ | exact cmp52 _ _ _))
  refine wpQuiet_nil ?_
  intro z
  go_wp2_with (first | ((with_reducible refine wpList_buildSlice_st (by intro w; simp [go_sem]; rfl) ?_); intro nb y) | (go_at_call 50; refine (or_spec _ _ _ _).mono ?_; rintro e w' ⟨rfl, y, rfl⟩))
  go_ret
  exact Ret.fin _ rfl
set_option maxHeartbeats 1000000 in
theorem compare_spec (a b c d : Int) {L : Units} (x : St L) : Calls Try.prog 36 #[.agg #[.int .u64 a, .int .i64 b], .agg #[.int .u64 c, .int .i64 d]] x.w (Ret L (.int .i64 (ord2 a b c d))) := by
  go_enter Try.func36, Try.ntmps36
  go_wp2_with ((with_reducible refine wpList_box_st (by simp [go_sem]; rfl) ?_); intro nb y; have hne : Nonempty (St _) := ⟨y⟩)
  refine wp_region_st_tail 10 (by kernel_rfl) (by kernel_rfl) ?_
  simp only [List.take_succ_cons, List.take_zero, List.drop_succ_cons, List.drop_zero]
  repeat (go_big_quiet_step (first | exact cmp51 _ _ _ | exact cmp52 _ _ _))
  refine wpQuiet_nil ?_
  intro z
  go_wp2_with (first | ((with_reducible refine wpList_buildSlice_st (by intro w; simp [go_sem]; rfl) ?_); intro nb y) | (go_at_call 50; refine (or_spec _ _ _ _).mono ?_; rintro e w' ⟨rfl, y, rfl⟩))
  go_ret
  exact Ret.fin _ rfl

/-- A message by value. -/
def RM.val (m : RM) : Value := .agg #[.int .i64 m.frm, .int .u32 m.seq, .int .u64 m.stamp, .int .i64 m.svc, .slice m.da m.dn m.dc, .string m.pay]
set_option maxHeartbeats 1000000 in
theorem of_spec (f s t v : Int) (da : Option Addr) (dn dc : Nat) (p : ByteArray) {L : Units} (x : St L) :
    Calls Try.prog 37 #[.agg #[.int .i64 f, .int .u32 s, .int .u64 t, .int .i64 v, .slice da dn dc, .string p]] x.w (Ret L (.agg #[.int .u64 t, .int .i64 f])) := by
  go_enter Try.func37, Try.ntmps37
  go_wp2_with (first | ((with_reducible refine wpList_box_st (by simp [go_sem]; rfl) ?_); intro nb y) | ((with_reducible refine wpList_alloc_st rfl (by simp only [Value.cells]; rfl) ?_); intro nb y))
  exact bodyPost_ret (v := .agg #[.int .u64 t, .int .i64 f]) (by simp [results, Try.results37, go_sem]) rfl (Ret.fin _ rfl)

/-- The numbers of a row are just these, from a place on. -/
def U32At (arr : Array Value) (o : Nat) (l : List Int) : Prop := ∀ i v, l[i]? = some v → arr[o + i]? = some (.int .u32 v)
/-- What a slice of numbers holds: nothing, or a row that is listed. -/
def DepsIn (F : Blocks) (a : Option Addr) (n : Nat) (l : List Int) : Prop :=
  l.length = n ∧ (n = 0 ∨ ∃ b o arr T fr, a = some ⟨b, o, none⟩ ∧ (b, Obj.cells arr T fr) ∈ F ∧ U32At arr o l)
def EqInv (l m : List Int) (n : Nat) (L : Units) (v : Value) (w : World) : Prop := ∃ k : Nat, k ≤ n ∧ v = .int .i64 k ∧ l.take k = m.take k ∧ ∃ y : St L, w = y.w
set_option maxHeartbeats 1000000 in
theorem equal_some (b o b' o' : Nat) (arr arr' : Array Value) (T T' : TypeId) (fr fr' : Nat × Nat) (l m : List Int) (n c c' : Nat) (hl : Hid (l.length = n)) (hm : Hid (m.length = n)) (hlen : n ≤ 9223372036854775807) (h : U32At arr o l) (h' : U32At arr' o' m)
    {L : Units} [Has L b (.cells arr T fr)] [Has L b' (.cells arr' T' fr')] (x : St L) :
    Calls Try.prog 54 #[.slice (some ⟨b, o, none⟩) n c, .slice (some ⟨b', o', none⟩) n c'] x.w (Ret L (.bool (decide (l = m)))) := by
  have hne : Nonempty (St L) := ⟨x⟩
  go_enter Try.func54, Try.ntmps54
  go_wp2_with fail
  go_loopw [13] (fun v wr => EqInv l m n L v wr) (fun v _ => n - (intOf v).toNat)
  case atStart => exact ⟨0, by omega, rfl, rfl, x, rfl⟩
  case round =>
    obtain ⟨k, hk, rfl, ht, y, rfl⟩ := hrel
    have HT := Lib.hid ht
    clear ht
    by_cases hlt : k < n
    · obtain ⟨u, hu⟩ : ∃ u, l[k]? = some u := ⟨l[k]'(by rw [hl.out]; exact hlt), List.getElem?_eq_getElem _⟩
      obtain ⟨v, hv⟩ : ∃ v, m[k]? = some v := ⟨m[k]'(by rw [hm.out]; exact hlt), List.getElem?_eq_getElem _⟩
      have c1 := h k u hu
      have c2 := h' k v hv
      have HU := Lib.hid hu
      have HV := Lib.hid hv
      clear hu hv h h'
      by_cases he : u = v
      · have heb : (u != v) = false := by simp [he]
        have HE := Lib.hid he
        clear he
        go_wp2_with fail
        refine wp_region_st (by kernel_rfl) (by kernel_rfl) ?_
        repeat (go_big_quiet_step (fail))
        refine wpQuiet_nil ?_
        intro z
        go_wp2_with fail
        go_roundw
        case rel => exact ⟨k + 1, by omega, by go_num, by rw [List.take_add_one, List.take_add_one, HT.out, HU.out, HV.out, HE.out], z, rfl⟩
        case measure => simp [intOf]; omega
      · have heb : (u != v) = true := by simp [he]
        have HD : Hid (decide (l = m) = false) := Lib.hid (by
          simp only [decide_eq_false_iff_not]
          intro e
          have h1 := HU.out; have h2 := HV.out
          rw [e, h2] at h1
          exact he (Option.some.inj h1).symm)
        clear he
        go_wp2_with fail
        refine wp_region_st (by kernel_rfl) (by kernel_rfl) ?_
        repeat (go_big_quiet_step (fail))
        refine wpQuiet_nil ?_
        intro z
        go_wp2_with fail
        go_ret
        exact Ret.fin _ (by rw [HD.out]; rfl)
    · have HD : Hid (decide (l = m) = true) := Lib.hid (by
        have hkl : k = n := by omega
        have e1 : l.take n = l := by rw [← hl.out, List.take_length]
        have e2 : m.take n = m := by rw [← hm.out, List.take_length]
        have := HT.out
        rw [hkl, e1, e2] at this
        simp [this])
      clear h h'
      go_wp2_with fail
      go_ret
      exact Ret.fin _ (by rw [HD.out]; rfl)
set_option maxHeartbeats 400000 in
theorem equal_len (a a' : Option Addr) (n n' c c' : Nat) (hne : n ≠ n') {L : Units} (x : St L) :
    Calls Try.prog 54 #[.slice a n c, .slice a' n' c'] x.w (Ret L (.bool false)) := by
  have h1 : ((n : Int) != n') = true := by simp; omega
  go_enter Try.func54, Try.ntmps54
  go_wp2_with fail
  go_ret
  exact Ret.fin _ rfl
set_option maxHeartbeats 400000 in
theorem equal_nil (a a' : Option Addr) (c c' : Nat) {L : Units} (x : St L) :
    Calls Try.prog 54 #[.slice a 0 c, .slice a' 0 c'] x.w (Ret L (.bool true)) := by
  go_enter Try.func54, Try.ntmps54
  go_wp2_with fail
  go_loopw [13] (fun v wr => v = .int .i64 0 ∧ ∃ y : St L, wr = y.w) (fun v _ => 0)
  case atStart => exact ⟨rfl, x, rfl⟩
  case round =>
    obtain ⟨rfl, y, rfl⟩ := hrel
    go_wp2_with fail
    go_ret
    exact Ret.fin _ rfl
/-- slices.Equal of two rows of numbers. -/
theorem equal_spec {F : Blocks} (a a' : Option Addr) (n n' c c' : Nat) (l m : List Int) (h : DepsIn F a n l) (h' : DepsIn F a' n' m) (hn : n ≤ 9223372036854775807) {L R : Units} [hF : Unit_ L F R] (x : St L) :
    Calls Try.prog 54 #[.slice a n c, .slice a' n' c'] x.w (Ret L (.bool (decide (l = m)))) := by
  by_cases hne : n = n'
  · subst hne
    rcases h.2 with h0 | ⟨b, o, arr, T, fr, rfl, hb, hu⟩
    · subst h0
      have e1 : l = [] := List.eq_nil_of_length_eq_zero h.1
      have e2 : m = [] := List.eq_nil_of_length_eq_zero h'.1
      subst e1; subst e2
      exact equal_nil a a' c c' x
    · rcases h'.2 with h0 | ⟨b', o', arr', T', fr', rfl, hb', hu'⟩
      · subst h0
        have e1 : l = [] := List.eq_nil_of_length_eq_zero h.1
        have e2 : m = [] := List.eq_nil_of_length_eq_zero h'.1
        subst e1; subst e2
        exact equal_nil _ a' c c' x
      · haveI : Has L b (.cells arr T fr) := ⟨hF.ok.mem_iff.2 (by simp [hb])⟩
        haveI : Has L b' (.cells arr' T' fr') := ⟨hF.ok.mem_iff.2 (by simp [hb'])⟩
        exact equal_some b o b' o' arr arr' T T' fr fr' l m n c c' (Lib.hid h.1) (Lib.hid h'.1) hn hu hu' x
  · have : decide (l = m) = false := by
      simp only [decide_eq_false_iff_not]
      intro e
      have h1 := h.1; have h2 := h'.1
      rw [e, h2] at h1
      exact hne h1.symm
    rw [this]
    exact equal_len a a' n n' c c' hne x

/-- Are two messages the same? Their Deps are l and m. -/
def sameB (a b : RM) (l m : List Int) : Bool := a.frm == b.frm && (a.seq == b.seq && (a.stamp == b.stamp && (a.svc == b.svc && (a.pay.toList == b.pay.toList && decide (l = m)))))
set_option maxHeartbeats 1000000 in
theorem same34 {F : Blocks} (a b : RM) (l m : List Int) (h : DepsIn F a.da a.dn l) (h' : DepsIn F b.da b.dn m) (hn : a.dn ≤ 9223372036854775807) {L R : Units} [hF : Unit_ L F R] (x : St L) :
    Calls Try.prog 34 #[.agg #[.int .i64 a.frm, .int .u32 a.seq, .int .u64 a.stamp, .int .i64 a.svc, .slice a.da a.dn a.dc, .string a.pay],
      .agg #[.int .i64 b.frm, .int .u32 b.seq, .int .u64 b.stamp, .int .i64 b.svc, .slice b.da b.dn b.dc, .string b.pay]] x.w (Ret L (.bool (sameB a b l m))) := by
  have H := Lib.hid h
  have H' := Lib.hid h'
  clear h h'
  cases c0 : (a.frm == b.frm)
  · have HE : Hid (sameB a b l m = false) := Lib.hid (by simp only [sameB, c0, Bool.true_and, Bool.false_and])
    go_enter Try.func34, Try.ntmps34
    go_wp2_with (first | ((with_reducible refine wpList_box_st (by simp [go_sem]; rfl) ?_); intro nb y) | (go_at_call 54; refine (equal_spec (F := F) _ _ _ _ _ _ l m H.out H'.out hn _).mono ?_; rintro e w' ⟨rfl, y, rfl⟩))
    go_ret
    exact Ret.fin _ (by rw [HE.out]; rfl)
  cases c1 : (a.seq == b.seq)
  · have HE : Hid (sameB a b l m = false) := Lib.hid (by simp only [sameB, c0, c1, Bool.true_and, Bool.false_and])
    go_enter Try.func34, Try.ntmps34
    go_wp2_with (first | ((with_reducible refine wpList_box_st (by simp [go_sem]; rfl) ?_); intro nb y) | (go_at_call 54; refine (equal_spec (F := F) _ _ _ _ _ _ l m H.out H'.out hn _).mono ?_; rintro e w' ⟨rfl, y, rfl⟩))
    go_ret
    exact Ret.fin _ (by rw [HE.out]; rfl)
  cases c2 : (a.stamp == b.stamp)
  · have HE : Hid (sameB a b l m = false) := Lib.hid (by simp only [sameB, c0, c1, c2, Bool.true_and, Bool.false_and])
    go_enter Try.func34, Try.ntmps34
    go_wp2_with (first | ((with_reducible refine wpList_box_st (by simp [go_sem]; rfl) ?_); intro nb y) | (go_at_call 54; refine (equal_spec (F := F) _ _ _ _ _ _ l m H.out H'.out hn _).mono ?_; rintro e w' ⟨rfl, y, rfl⟩))
    go_ret
    exact Ret.fin _ (by rw [HE.out]; rfl)
  cases c3 : (a.svc == b.svc)
  · have HE : Hid (sameB a b l m = false) := Lib.hid (by simp only [sameB, c0, c1, c2, c3, Bool.true_and, Bool.false_and])
    go_enter Try.func34, Try.ntmps34
    go_wp2_with (first | ((with_reducible refine wpList_box_st (by simp [go_sem]; rfl) ?_); intro nb y) | (go_at_call 54; refine (equal_spec (F := F) _ _ _ _ _ _ l m H.out H'.out hn _).mono ?_; rintro e w' ⟨rfl, y, rfl⟩))
    go_ret
    exact Ret.fin _ (by rw [HE.out]; rfl)
  cases c4 : (a.pay.toList == b.pay.toList)
  · have HE : Hid (sameB a b l m = false) := Lib.hid (by simp only [sameB, c0, c1, c2, c3, c4, Bool.true_and, Bool.false_and])
    go_enter Try.func34, Try.ntmps34
    go_wp2_with (first | ((with_reducible refine wpList_box_st (by simp [go_sem]; rfl) ?_); intro nb y) | (go_at_call 54; refine (equal_spec (F := F) _ _ _ _ _ _ l m H.out H'.out hn _).mono ?_; rintro e w' ⟨rfl, y, rfl⟩))
    go_ret
    exact Ret.fin _ (by rw [HE.out]; rfl)
  · have HE : Hid (sameB a b l m = decide (l = m)) := Lib.hid (by simp only [sameB, c0, c1, c2, c3, c4, Bool.true_and])
    go_enter Try.func34, Try.ntmps34
    go_wp2_with (first | ((with_reducible refine wpList_box_st (by simp [go_sem]; rfl) ?_); intro nb y) | (go_at_call 54; refine (equal_spec (F := F) _ _ _ _ _ _ l m H.out H'.out hn _).mono ?_; rintro e w' ⟨rfl, y, rfl⟩))
    go_ret
    exact Ret.fin _ (by rw [HE.out]; rfl)
end Go.Proofs.Ythijlgjfgliinaa
end
section
/- The monitor's helpers: copies, rows, comparisons of messages. -/
set_option linter.all false
namespace Go.Proofs.Ythijlgjfgliinaa
open Go.RowKit
variable [Env]
set_option maxRecDepth 100000

theorem Try.info31 : (Try.prog.info? 31).map (fun i => (i.zero, i.size, i.bytes)) = some (some (.int .u32 0), 1, 4) := by kernel_rfl

/-- A copy of a row of numbers, in a place of its own. -/
def CloneRet (F : Blocks) (R : Units) (n : Nat) (l : List Int) (e : Ending) (w' : World) : Prop :=
  ∃ a' c' F', e = .returned (.slice a' n c') ∧ DepsIn F' a' n l ∧ F ⊆ F' ∧ ∃ y : St (F' :: R), w' = y.w
theorem one_flatten (l : List Int) : (l.map fun v => [Value.int .u32 v]).flatten = l.map (Value.int .u32) := by
  induction l with
  | nil => rfl
  | cons a l ih => simp [ih]
theorem _root_.Go.SlIn.mono {U V : Blocks} {a : Option Addr} {n s : Nat} {els : List (List Value)} (h : SlIn U a n s els) (hs : U ⊆ V) : SlIn V a n s els := by
  refine ⟨h.1, ?_⟩
  rcases h.2 with h0 | ⟨b, o, arr, T, fr, ha, hb, hr⟩
  · exact .inl h0
  · exact .inr ⟨b, o, arr, T, fr, ha, hs hb, hr⟩
theorem DepsIn.mono {U V : Blocks} {a : Option Addr} {n : Nat} {l : List Int} (h : DepsIn U a n l) (hs : U ⊆ V) : DepsIn V a n l := by
  refine ⟨h.1, ?_⟩
  rcases h.2 with h0 | ⟨b, o, arr, T, fr, ha, hb, hr⟩
  · exact .inl h0
  · exact .inr ⟨b, o, arr, T, fr, ha, hs hb, hr⟩
theorem depsIn_of_sl {U : Blocks} {a : Option Addr} {n : Nat} {l : List Int} (h : SlIn U a n 1 (l.map fun v => [Value.int .u32 v])) : DepsIn U a n l := by
  refine ⟨by simpa using h.1, ?_⟩
  rcases h.2 with h0 | ⟨b, o, arr, T, fr, ha, hb, hr⟩
  · exact .inl h0
  · refine .inr ⟨b, o, arr, T, fr, ha, hb, fun i v hv => ?_⟩
    have := hr i [.int .u32 v] (by simp [hv]) 0 _ rfl
    simpa using this
theorem sl_of_depsIn {U : Blocks} {a : Option Addr} {n : Nat} {l : List Int} (h : DepsIn U a n l) : SlIn U a n 1 (l.map fun v => [Value.int .u32 v]) := by
  refine ⟨by simpa using h.1, ?_⟩
  rcases h.2 with h0 | ⟨b, o, arr, T, fr, ha, hb2, hu⟩
  · exact .inl h0
  · refine .inr ⟨b, o, arr, T, fr, ha, hb2, ?_⟩
    intro i c hc j v hv
    rw [List.getElem?_map] at hc
    obtain ⟨w, hw, rfl⟩ := Option.map_eq_some_iff.1 hc
    have hj : j = 0 := by have := (List.getElem?_eq_some_iff.1 hv).1; simp at this; exact this
    subst hj
    simp only [List.getElem?_cons_zero, Option.some.injEq] at hv
    subst hv
    simpa using hu i w hw
set_option maxHeartbeats 1000000 in
theorem clone15 {F : Blocks} (a : Option Addr) (n c : Nat) (l : List Int) (h : DepsIn F a n l) (hb : n * 4 ≤ 140737488355328) {L R : Units} [hF : Unit_ L F R] (x : St L) :
    Calls Try.prog 15 #[.slice a n c] x.w (CloneRet F R n l) := by
  obtain ⟨i0, hi, hz0, hz1, hz2⟩ := info_parts Try.info31
  have H := Lib.hid h
  clear h
  have heq := fun (w : World) (a : Option Addr) (n c : Nat) => Lib.run_eql_slice_nil (P := Try.prog) w 32 31 a n c 0 0 Try.underlying32
  cases a with
  | none =>
    have h0 : n = 0 := by
      rcases H.out.2 with h | ⟨b, o, arr, T, fr, h, _⟩
      · exact h
      · cases h
    go_enter Try.func15, Try.ntmps15
    go_wp2
    go_ret
    refine ⟨none, 0, F, ?_, H.out, List.Subset.refl _, x.re hF.ok, rfl⟩
    subst h0
    rfl
  | some a =>
    have hsl := sl_of_depsIn H.out
    go_enter Try.func15, Try.ntmps15
    go_wp2_with (first | ((with_reducible refine wpList_buildSlice_st (by intro w; simp [go_sem]; rfl) ?_); intro nb y; haveI hu0 : Unit_ ([(nb, Obj.cells #[] 31)] :: L) (Row.u ⟨some nb, 0, #[]⟩ 31) L := ⟨Eqv.refl _⟩) | (at_builtin; refine wpList_append_sl (P := Try.prog) ⟨some nb, 0, #[]⟩ [] (l.map fun v => [Value.int .u32 v]) 1 4 31 i0 (.int .u32 0) Try.underlying32 hi hz0 hz1 hz2 rfl F (some a) n c rfl rfl ?ok ?nl hsl ?one ?byt ?le ?k))
    case ok => exact ⟨fun h => (by cases h), by simp, fun _ => rfl, fun _ => Nat.le_refl _, fun _ => rfl⟩
    case nl => intro c hc; obtain ⟨v, _, rfl⟩ := List.mem_map.1 hc; rfl
    case one => intro u hu; rw [one_flatten] at hu; obtain ⟨v, _, rfl⟩ := List.mem_map.1 hu; rfl
    case byt => simpa using hb
    case le => simp; omega
    case k =>
      intro r' z hok
      go_wp2
      go_ret
      obtain ⟨a', c', hv, hs⟩ := r'.val_slice hok 31
      have he : ([] ++ l.map fun v => [Value.int .u32 v]).length = n := by simpa using H.out.1
      rw [he] at hv hs
      have hu : Eqv (r'.u 31 :: L) ((r'.u 31 ++ F) :: R) := (hF.ok.cons _).trans (Eqv.split _ _ _).symm
      refine ⟨a', c', r'.u 31 ++ F, ?_, depsIn_of_sl (hs.mono (List.subset_append_left _ _)), List.subset_append_right _ _, z.re hu, rfl⟩
      rw [← hv]
      rfl

/-- A message, as the laws see it. -/
structure Mg where
  frm : Int
  seq : Int
  stamp : Int
  svc : Int
  deps : List Int
  pay : List UInt8
deriving DecidableEq
/-- A message that lies somewhere: its cells, and its Deps. -/
structure GM where
  r : RM
  d : List Int
def GM.mg (g : GM) : Mg := ⟨g.r.frm, g.r.seq, g.r.stamp, g.r.svc, g.d, g.r.pay.toList⟩
def GM.ok (F : Blocks) (g : GM) : Prop := DepsIn F g.r.da g.r.dn g.d ∧ g.r.dn ≤ 35184372088832
def GM.cells (g : GM) : List Value := g.r.cells
theorem GM.ok.mono {U V : Blocks} {g : GM} (h : g.ok U) (hs : U ⊆ V) : g.ok V := ⟨h.1.mono hs, h.2⟩
theorem sameB_mg (a b : GM) : sameB a.r b.r a.d b.d = decide (a.mg = b.mg) := by
  rw [Bool.eq_iff_iff]
  simp only [sameB, Bool.and_eq_true, beq_iff_eq, decide_eq_true_eq, GM.mg, Mg.mk.injEq]
  constructor
  · rintro ⟨h1, h2, h3, h4, h5, h6⟩; exact ⟨h1, h2, h3, h4, h6, h5⟩
  · rintro ⟨h1, h2, h3, h4, h6, h5⟩; exact ⟨h1, h2, h3, h4, h5, h6⟩
theorem same_spec {F : Blocks} (a b : GM) (ha : a.ok F) (hb : b.ok F) {L R : Units} [hF : Unit_ L F R] (x : St L) :
    Calls Try.prog 34 #[.agg #[.int .i64 a.r.frm, .int .u32 a.r.seq, .int .u64 a.r.stamp, .int .i64 a.r.svc, .slice a.r.da a.r.dn a.r.dc, .string a.r.pay],
      .agg #[.int .i64 b.r.frm, .int .u32 b.r.seq, .int .u64 b.r.stamp, .int .i64 b.r.svc, .slice b.r.da b.r.dn b.r.dc, .string b.r.pay]] x.w (Ret L (.bool (decide (a.mg = b.mg)))) := by
  rw [← sameB_mg]
  exact same34 (F := F) a.r b.r a.d b.d ha.1 hb.1 (by have := ha.2; omega) x

/-- The cells of a message in a row. -/
theorem row_msg {arr : Array Value} {o k : Nat} {ms : List GM} {g : GM} (h : RowAt arr o 6 (ms.map GM.cells)) (hk : ms[k]? = some g) :
    arr[o + k * 6]? = some (.int .i64 g.r.frm) ∧ arr[o + k * 6 + 1]? = some (.int .u32 g.r.seq) ∧ arr[o + k * 6 + 2]? = some (.int .u64 g.r.stamp) ∧
    arr[o + k * 6 + 3]? = some (.int .i64 g.r.svc) ∧ arr[o + k * 6 + 4]? = some (.slice g.r.da g.r.dn g.r.dc) ∧ arr[o + k * 6 + 5]? = some (.string g.r.pay) := by
  have hr := fun j v => h k g.cells (by simp [hk]) j v
  exact ⟨hr 0 _ rfl, hr 1 _ rfl, hr 2 _ rfl, hr 3 _ rfl, hr 4 _ rfl, hr 5 _ rfl⟩

set_option maxHeartbeats 1000000 in
/-- The closure of owes: is it the message? -/
theorem same57 {F : Blocks} (xb : Nat) (g q : GM) (hg : g.ok F) (hy : q.ok F) {L R : Units} [hF : Unit_ L F R] [Has L xb (.cells #[.int .i64 g.r.frm, .int .u32 g.r.seq, .int .u64 g.r.stamp, .int .i64 g.r.svc, .slice g.r.da g.r.dn g.r.dc, .string g.r.pay] 34)] (x : St L) :
    Calls Try.prog 57 #[.agg #[.int .i64 q.r.frm, .int .u32 q.r.seq, .int .u64 q.r.stamp, .int .i64 q.r.svc, .slice q.r.da q.r.dn q.r.dc, .string q.r.pay], .pointer (some ⟨xb, 0, none⟩)] x.w (Ret L (.bool (decide (g.mg = q.mg)))) := by
  have Hg := Lib.hid hg
  have Hy := Lib.hid hy
  clear hg hy
  go_enter Try.func57, Try.ntmps57
  go_wp2_with (first | ((with_reducible refine wpList_box_st (by simp [go_sem]; rfl) ?_); intro nb y) | (go_at_call 34; refine (same_spec (F := F) g q Hg.out Hy.out _).mono ?_; rintro e w' ⟨rfl, y, rfl⟩))
  go_ret
  exact Ret.fin _ rfl

/-- Where a message stands first. -/
def ixOf (g : Mg) : List Mg → Int → Int
  | [], _ => -1
  | m :: l, i => if g = m then i else ixOf g l (i + 1)
theorem ixOf_nonneg (g : Mg) : ∀ (l : List Mg) (i : Int), 0 ≤ i → decide (0 ≤ ixOf g l i) = l.contains g
  | [], i, _ => by simp [ixOf]
  | m :: l, i, h => by
    by_cases e : g = m
    · simp [ixOf, e, h]
    · simp only [ixOf, if_neg e]
      rw [ixOf_nonneg g l (i + 1) (by omega)]
      simp [e]
def IxInv (g : Mg) (ms : List Mg) (n : Nat) (L : Units) (v : Value) (w : World) : Prop := ∃ k : Nat, k ≤ n ∧ v = .int .i64 k ∧ ixOf g ms 0 = ixOf g (ms.drop k) k ∧ ∃ y : St L, w = y.w
set_option maxHeartbeats 1000000 in
theorem index63_some {F : Blocks} (xb b o c n : Nat) (arr : Array Value) (T : TypeId) (fr : Nat × Nat) (g : GM) (ms : List GM) (hn : Hid (ms.length = n)) (hn2 : n ≤ 9223372036854775807) (hg : g.ok F) (hms : ∀ m ∈ ms, m.ok F) (hrow : RowAt arr o 6 (ms.map GM.cells))
    {L R : Units} [hF : Unit_ L F R] [Has L b (.cells arr T fr)] [Has L xb (.cells #[.int .i64 g.r.frm, .int .u32 g.r.seq, .int .u64 g.r.stamp, .int .i64 g.r.svc, .slice g.r.da g.r.dn g.r.dc, .string g.r.pay] 34)] (x : St L) :
    Calls Try.prog 63 #[.slice (some ⟨b, o, none⟩) n c, .func (.func 57) #[] #[.pointer (some ⟨xb, 0, none⟩)]] x.w (Ret L (.int .i64 (ixOf g.mg (ms.map GM.mg) 0))) := by
  have Hg := Lib.hid hg
  clear hg
  go_enter Try.func63, Try.ntmps63
  go_wp2_with fail
  go_loopw [8] (fun v wr => IxInv g.mg (ms.map GM.mg) n L v wr) (fun v _ => n - (intOf v).toNat)
  case atStart => exact ⟨0, by omega, rfl, rfl, x, rfl⟩
  case round =>
    obtain ⟨k, hk, rfl, hix, y, rfl⟩ := hrel
    by_cases hlt : k < n
    · obtain ⟨m, hm⟩ : ∃ m, ms[k]? = some m := ⟨ms[k]'(by rw [hn.out]; exact hlt), List.getElem?_eq_getElem _⟩
      obtain ⟨c0, c1, c2, c3, c4, c5⟩ := row_msg hrow hm
      have Hm := Lib.hid (hms m (List.mem_of_getElem? hm))
      have hd : (ms.map GM.mg).drop k = m.mg :: (ms.map GM.mg).drop (k + 1) := by
        have h1 : (ms.map GM.mg)[k]? = some m.mg := by simp [hm]
        obtain ⟨h2, h3⟩ := List.getElem?_eq_some_iff.1 h1
        rw [List.drop_eq_getElem_cons h2, h3]
      rw [hd, ixOf] at hix
      have HI := Lib.hid hix
      clear hix hd hm hms hrow
      by_cases he : g.mg = m.mg
      · have HE := Lib.hid he
        have hb : decide (g.mg = m.mg) = true := by simp [he]
        clear he
        go_wp2_with (go_at_call 57; refine (same57 (F := F) xb g m Hg.out Hm.out _).mono ?_; rintro e w' ⟨rfl, y, rfl⟩)
        go_ret
        exact Ret.fin _ (by rw [HI.out, if_pos HE.out]; rfl)
      · have HE := Lib.hid he
        have hb : decide (g.mg = m.mg) = false := by simp [he]
        clear he
        go_wp2_with (go_at_call 57; refine (same57 (F := F) xb g m Hg.out Hm.out _).mono ?_; rintro e w' ⟨rfl, y, rfl⟩)
        go_roundw
        case rel => exact ⟨k + 1, by omega, by go_num, by rw [HI.out, if_neg HE.out]; rfl, _, rfl⟩
        case measure => simp [intOf]; omega
    · have hkn : k = n := by omega
      subst hkn
      have HI := Lib.hid hix
      clear hix hrow hms
      go_wp2_with fail
      go_ret
      exact Ret.fin _ (by rw [HI.out, ← hn.out, show ms.length = (ms.map GM.mg).length by simp, List.drop_length]; rfl)
end Go.Proofs.Ythijlgjfgliinaa
end
