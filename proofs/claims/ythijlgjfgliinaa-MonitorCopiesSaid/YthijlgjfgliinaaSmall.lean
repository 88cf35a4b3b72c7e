/- The small functions: sets, keys, comparisons, equality of messages. -/
import Derived.Test.YthijlgjfgliinaaTypes
import Derived.Test.YthijlgjfgliinaaStep
set_option linter.all false
namespace Go.Proofs.Ythijlgjfgliinaa
open Go.RowKit
variable [Env]
set_option maxRecDepth 100000

/-- The set of one. -/
def bitOf (p : Int) : Int := if p < 0 ∨ 64 ≤ p then 0 else IntKind.u64.wrap (2 ^ p.toNat)
/-- Does a set have a process? -/
def hasB (s p : Int) : Bool := Go.bits .and .u64 s (bitOf p) != 0
/-- Has another set all? -/
def inB (s t : Int) : Bool := Go.bits .andNot .u64 s t == 0

set_option maxHeartbeats 400000 in
theorem bit_spec (p : Int) {L : Units} (x : St L) : Calls Try.prog 49 #[.int .i64 p] x.w (Ret L (.int .u64 (bitOf p))) := by
  by_cases h0 : p < 0
  · have e : bitOf p = 0 := by unfold bitOf; rw [if_pos (Or.inl h0)]
    have h0b : decide (p < 0) = true := by simp [h0]
    rw [e]
    go_enter Try.func49, Try.ntmps49
    go_wp2
    go_ret
    exact Ret.mk x rfl rfl rfl
  · have h0b : decide (p < 0) = false := by simp; omega
    by_cases h1 : 64 ≤ p
    · have e : bitOf p = 0 := by unfold bitOf; rw [if_pos (Or.inr h1)]
      have h1b : decide (64 ≤ p) = true := by simp [h1]
      rw [e]
      go_enter Try.func49, Try.ntmps49
      go_wp2
      go_ret
      exact Ret.mk x rfl rfl rfl
    · have h1b : decide (64 ≤ p) = false := by simp; omega
      have e : bitOf p = IntKind.u64.wrap (2 ^ p.toNat) := by unfold bitOf; rw [if_neg (by omega)]
      have E := Lib.hid e
      clear e
      have h2 : 0 ≤ p := by omega
      go_enter Try.func49, Try.ntmps49
      go_wp2
      go_ret
      exact Ret.mk x rfl (by rw [E.out]; simp) rfl

set_option maxHeartbeats 400000 in
theorem has_spec (s p : Int) {L : Units} (x : St L) : Calls Try.prog 30 #[.int .u64 s, .int .i64 p] x.w (Ret L (.bool (hasB s p))) := by
  go_enter Try.func30, Try.ntmps30
  go_wp2_with (go_at_call 49; refine (bit_spec _ _).mono ?_; rintro e w' ⟨rfl, y, rfl⟩)
  go_ret
  exact Ret.mk _ rfl rfl rfl

set_option maxHeartbeats 400000 in
theorem but_spec (s t : Int) {L : Units} (x : St L) : Calls Try.prog 53 #[.int .u64 s, .int .u64 t] x.w (Ret L (.int .u64 (Go.bits .andNot .u64 s t))) := by
  go_enter Try.func53, Try.ntmps53
  go_wp2
  go_ret
  exact Ret.mk x rfl rfl rfl

set_option maxHeartbeats 400000 in
theorem in_spec (s t : Int) {L : Units} (x : St L) : Calls Try.prog 32 #[.int .u64 s, .int .u64 t] x.w (Ret L (.bool (inB s t))) := by
  go_enter Try.func32, Try.ntmps32
  go_wp2_with (go_at_call 53; refine (but_spec _ _ _).mono ?_; rintro e w' ⟨rfl, y, rfl⟩)
  go_ret
  exact Ret.mk _ rfl rfl rfl

/-- Which of two numbers is greater. -/
def cmp3 (a b : Int) : Int := if a < b then -1 else if b < a then 1 else 0
set_option maxHeartbeats 400000 in
theorem nan60 (a : Int) {L : Units} (x : St L) : Calls Try.prog 60 #[.int .u64 a] x.w (Ret L (.bool false)) := by
  go_enter Try.func60, Try.ntmps60
  go_wp2
  go_ret
  exact Ret.mk x rfl (by simp) rfl
set_option maxHeartbeats 400000 in
theorem nan61 (a : Int) {L : Units} (x : St L) : Calls Try.prog 61 #[.int .i64 a] x.w (Ret L (.bool false)) := by
  go_enter Try.func61, Try.ntmps61
  go_wp2
  go_ret
  exact Ret.mk x rfl (by simp) rfl
set_option maxHeartbeats 400000 in
theorem cmp51 (a b : Int) {L : Units} (x : St L) : Calls Try.prog 51 #[.int .u64 a, .int .u64 b] x.w (Ret L (.int .i64 (cmp3 a b))) := by
  go_enter Try.func51, Try.ntmps51
  go_wp2_with (go_at_call 60; refine (nan60 _ _).mono ?_; rintro e w' ⟨rfl, y, rfl⟩)
  all_goals (go_ret; refine Ret.mk _ rfl ?_ rfl; simp only [cmp3]; first | rw [if_pos (by omega)]; rfl | (rw [if_neg (by omega)]; first | rw [if_pos (by omega)]; rfl | rw [if_neg (by omega)]; rfl))
set_option maxHeartbeats 400000 in
theorem cmp52 (a b : Int) {L : Units} (x : St L) : Calls Try.prog 52 #[.int .i64 a, .int .i64 b] x.w (Ret L (.int .i64 (cmp3 a b))) := by
  go_enter Try.func52, Try.ntmps52
  go_wp2_with (go_at_call 61; refine (nan61 _ _).mono ?_; rintro e w' ⟨rfl, y, rfl⟩)
  all_goals (go_ret; refine Ret.mk _ rfl ?_ rfl; simp only [cmp3]; first | rw [if_pos (by omega)]; rfl | (rw [if_neg (by omega)]; first | rw [if_pos (by omega)]; rfl | rw [if_neg (by omega)]; rfl))

/-- The first of two numbers that isn't zero. -/
def or2 (a b : Int) : Int := if a = 0 then b else a
def OrInv (a b : Int) (L : Units) (v : Value) (w : World) : Prop := ∃ k : Nat, k ≤ 2 ∧ v = .int .i64 k ∧ (1 ≤ k → a = 0) ∧ (2 ≤ k → b = 0) ∧ ∃ y : St L, w = y.w
set_option maxHeartbeats 400000 in
theorem or_spec (nb : Nat) (a b : Int) {L : Units} [Has L nb (.cells #[.int .i64 a, .int .i64 b] 3 (0, 0))] (x : St L) : Calls Try.prog 50 #[.slice (some ⟨nb, 0, none⟩) 2 2] x.w (Ret L (.int .i64 (or2 a b))) := by
  go_enter Try.func50, Try.ntmps50
  go_wp2_with fail
  go_loopw [8] (fun v wr => OrInv a b L v wr) (fun v _ => 2 - (intOf v).toNat)
  case atStart => exact ⟨0, by omega, rfl, by omega, by omega, x, rfl⟩
  case round =>
    obtain ⟨k, hk, rfl, h1, h2, y, rfl⟩ := hrel
    match k, hk with
    | 0, _ =>
      clear h1 h2
      by_cases ha : a = 0
      · have hab : (a != 0) = false := by simp [ha]
        have HA := Lib.hid ha
        clear ha
        go_wp2_with fail
        go_roundw
        case rel => exact ⟨1, by omega, rfl, fun _ => HA.out, by omega, y, rfl⟩
        case measure => simp [intOf]
      · have hab : (a != 0) = true := by simp [ha]
        go_wp2_with fail
        go_ret
        exact Ret.mk y rfl (by simp only [or2]; rw [if_neg ha]; rfl) rfl
    | 1, _ =>
      have HA := Lib.hid (h1 (by omega))
      clear h1 h2
      by_cases ha : b = 0
      · have hab : (b != 0) = false := by simp [ha]
        have HB := Lib.hid ha
        clear ha
        go_wp2_with fail
        go_roundw
        case rel => exact ⟨2, by omega, rfl, fun _ => HA.out, fun _ => HB.out, y, rfl⟩
        case measure => simp [intOf]
      · have hab : (b != 0) = true := by simp [ha]
        go_wp2_with fail
        go_ret
        exact Ret.mk y rfl (by simp only [or2]; rw [if_pos HA.out]; rfl) rfl
    | 2, _ =>
      have HA := Lib.hid (h1 (by omega))
      have HB := Lib.hid (h2 (by omega))
      clear h1 h2
      go_wp2_with fail
      go_ret
      exact Ret.mk y rfl (by simp only [or2]; rw [if_pos HA.out, HB.out]; rfl) rfl

/-- The order of configurations, of keys: by the first number, then the second. -/
def ord2 (a b c d : Int) : Int := or2 (cmp3 a c) (cmp3 b d)
set_option maxHeartbeats 1000000 in
theorem confs_spec (a b c d : Int) {L : Units} (x : St L) : Calls Try.prog 31 #[.agg #[.int .u64 a, .int .i64 b], .agg #[.int .u64 c, .int .i64 d]] x.w (Ret L (.int .i64 (ord2 a b c d))) := by
  go_enter Try.func31, Try.ntmps31
  go_wp2_with ((with_reducible refine wpList_box_st (by simp [go_sem]; rfl) ?_); intro nb y; have hne : Nonempty (St _) := ⟨y⟩)
  refine wp_region_st_tail 10 (by kernel_rfl) (by kernel_rfl) ?_
  simp only [List.take_succ_cons, List.take_zero, List.drop_succ_cons, List.drop_zero]
  repeat (go_big_quiet_step (first | exact cmp51 _ _ _ | exact cmp52 _ _ _))
  refine wpQuiet_nil ?_
  intro z
  go_wp2_with (first | ((with_reducible refine wpList_buildSlice_st (by intro w; simp [go_sem]; rfl) ?_); intro nb y) | (go_at_call 50; refine (or_spec _ _ _ _).mono ?_; rintro e w' ⟨rfl, y, rfl⟩))
  go_ret
  exact Ret.fin _ rfl
set_option maxHeartbeats 1000000 in
theorem compare_spec (a b c d : Int) {L : Units} (x : St L) : Calls Try.prog 36 #[.agg #[.int .u64 a, .int .i64 b], .agg #[.int .u64 c, .int .i64 d]] x.w (Ret L (.int .i64 (ord2 a b c d))) := by
  go_enter Try.func36, Try.ntmps36
  go_wp2_with ((with_reducible refine wpList_box_st (by simp [go_sem]; rfl) ?_); intro nb y; have hne : Nonempty (St _) := ⟨y⟩)
  refine wp_region_st_tail 10 (by kernel_rfl) (by kernel_rfl) ?_
  simp only [List.take_succ_cons, List.take_zero, List.drop_succ_cons, List.drop_zero]
  repeat (go_big_quiet_step (first | exact cmp51 _ _ _ | exact cmp52 _ _ _))
  refine wpQuiet_nil ?_
  intro z
  go_wp2_with (first | ((with_reducible refine wpList_buildSlice_st (by intro w; simp [go_sem]; rfl) ?_); intro nb y) | (go_at_call 50; refine (or_spec _ _ _ _).mono ?_; rintro e w' ⟨rfl, y, rfl⟩))
  go_ret
  exact Ret.fin _ rfl

/-- A message by value. -/
def RM.val (m : RM) : Value := .agg #[.int .i64 m.frm, .int .u32 m.seq, .int .u64 m.stamp, .int .i64 m.svc, .slice m.da m.dn m.dc, .string m.pay]
set_option maxHeartbeats 1000000 in
theorem of_spec (f s t v : Int) (da : Option Addr) (dn dc : Nat) (p : ByteArray) {L : Units} (x : St L) :
    Calls Try.prog 37 #[.agg #[.int .i64 f, .int .u32 s, .int .u64 t, .int .i64 v, .slice da dn dc, .string p]] x.w (Ret L (.agg #[.int .u64 t, .int .i64 f])) := by
  go_enter Try.func37, Try.ntmps37
  go_wp2_with (first | ((with_reducible refine wpList_box_st (by simp [go_sem]; rfl) ?_); intro nb y) | ((with_reducible refine wpList_alloc_st rfl (by simp only [Value.cells]; rfl) ?_); intro nb y))
  exact bodyPost_ret (v := .agg #[.int .u64 t, .int .i64 f]) (by simp [results, Try.results37, go_sem]) rfl (Ret.fin _ rfl)

/-- The numbers of a row are just these, from a place on. -/
def U32At (arr : Array Value) (o : Nat) (l : List Int) : Prop := ∀ i v, l[i]? = some v → arr[o + i]? = some (.int .u32 v)
/-- What a slice of numbers holds: nothing, or a row that is listed. -/
def DepsIn (F : Blocks) (a : Option Addr) (n : Nat) (l : List Int) : Prop :=
  l.length = n ∧ (n = 0 ∨ ∃ b o arr T fr, a = some ⟨b, o, none⟩ ∧ (b, Obj.cells arr T fr) ∈ F ∧ U32At arr o l)
def EqInv (l m : List Int) (n : Nat) (L : Units) (v : Value) (w : World) : Prop := ∃ k : Nat, k ≤ n ∧ v = .int .i64 k ∧ l.take k = m.take k ∧ ∃ y : St L, w = y.w
set_option maxHeartbeats 1000000 in
theorem equal_some (b o b' o' : Nat) (arr arr' : Array Value) (T T' : TypeId) (fr fr' : Nat × Nat) (l m : List Int) (n c c' : Nat) (hl : Hid (l.length = n)) (hm : Hid (m.length = n)) (hlen : n ≤ 9223372036854775807) (h : U32At arr o l) (h' : U32At arr' o' m)
    {L : Units} [Has L b (.cells arr T fr)] [Has L b' (.cells arr' T' fr')] (x : St L) :
    Calls Try.prog 54 #[.slice (some ⟨b, o, none⟩) n c, .slice (some ⟨b', o', none⟩) n c'] x.w (Ret L (.bool (decide (l = m)))) := by
  have hne : Nonempty (St L) := ⟨x⟩
  go_enter Try.func54, Try.ntmps54
  go_wp2_with fail
  go_loopw [13] (fun v wr => EqInv l m n L v wr) (fun v _ => n - (intOf v).toNat)
  case atStart => exact ⟨0, by omega, rfl, rfl, x, rfl⟩
  case round =>
    obtain ⟨k, hk, rfl, ht, y, rfl⟩ := hrel
    have HT := Lib.hid ht
    clear ht
    by_cases hlt : k < n
    · obtain ⟨u, hu⟩ : ∃ u, l[k]? = some u := ⟨l[k]'(by rw [hl.out]; exact hlt), List.getElem?_eq_getElem _⟩
      obtain ⟨v, hv⟩ : ∃ v, m[k]? = some v := ⟨m[k]'(by rw [hm.out]; exact hlt), List.getElem?_eq_getElem _⟩
      have c1 := h k u hu
      have c2 := h' k v hv
      have HU := Lib.hid hu
      have HV := Lib.hid hv
      clear hu hv h h'
      by_cases he : u = v
      · have heb : (u != v) = false := by simp [he]
        have HE := Lib.hid he
        clear he
        go_wp2_with fail
        refine wp_region_st (by kernel_rfl) (by kernel_rfl) ?_
        repeat (go_big_quiet_step (fail))
        refine wpQuiet_nil ?_
        intro z
        go_wp2_with fail
        go_roundw
        case rel => exact ⟨k + 1, by omega, by go_num, by rw [List.take_add_one, List.take_add_one, HT.out, HU.out, HV.out, HE.out], z, rfl⟩
        case measure => simp [intOf]; omega
      · have heb : (u != v) = true := by simp [he]
        have HD : Hid (decide (l = m) = false) := Lib.hid (by
          simp only [decide_eq_false_iff_not]
          intro e
          have h1 := HU.out; have h2 := HV.out
          rw [e, h2] at h1
          exact he (Option.some.inj h1).symm)
        clear he
        go_wp2_with fail
        refine wp_region_st (by kernel_rfl) (by kernel_rfl) ?_
        repeat (go_big_quiet_step (fail))
        refine wpQuiet_nil ?_
        intro z
        go_wp2_with fail
        go_ret
        exact Ret.fin _ (by rw [HD.out]; rfl)
    · have HD : Hid (decide (l = m) = true) := Lib.hid (by
        have hkl : k = n := by omega
        have e1 : l.take n = l := by rw [← hl.out, List.take_length]
        have e2 : m.take n = m := by rw [← hm.out, List.take_length]
        have := HT.out
        rw [hkl, e1, e2] at this
        simp [this])
      clear h h'
      go_wp2_with fail
      go_ret
      exact Ret.fin _ (by rw [HD.out]; rfl)
set_option maxHeartbeats 400000 in
theorem equal_len (a a' : Option Addr) (n n' c c' : Nat) (hne : n ≠ n') {L : Units} (x : St L) :
    Calls Try.prog 54 #[.slice a n c, .slice a' n' c'] x.w (Ret L (.bool false)) := by
  have h1 : ((n : Int) != n') = true := by simp; omega
  go_enter Try.func54, Try.ntmps54
  go_wp2_with fail
  go_ret
  exact Ret.fin _ rfl
set_option maxHeartbeats 400000 in
theorem equal_nil (a a' : Option Addr) (c c' : Nat) {L : Units} (x : St L) :
    Calls Try.prog 54 #[.slice a 0 c, .slice a' 0 c'] x.w (Ret L (.bool true)) := by
  go_enter Try.func54, Try.ntmps54
  go_wp2_with fail
  go_loopw [13] (fun v wr => v = .int .i64 0 ∧ ∃ y : St L, wr = y.w) (fun v _ => 0)
  case atStart => exact ⟨rfl, x, rfl⟩
  case round =>
    obtain ⟨rfl, y, rfl⟩ := hrel
    go_wp2_with fail
    go_ret
    exact Ret.fin _ rfl
/-- slices.Equal of two rows of numbers. -/
theorem equal_spec {F : Blocks} (a a' : Option Addr) (n n' c c' : Nat) (l m : List Int) (h : DepsIn F a n l) (h' : DepsIn F a' n' m) (hn : n ≤ 9223372036854775807) {L R : Units} [hF : Unit_ L F R] (x : St L) :
    Calls Try.prog 54 #[.slice a n c, .slice a' n' c'] x.w (Ret L (.bool (decide (l = m)))) := by
  by_cases hne : n = n'
  · subst hne
    rcases h.2 with h0 | ⟨b, o, arr, T, fr, rfl, hb, hu⟩
    · subst h0
      have e1 : l = [] := List.eq_nil_of_length_eq_zero h.1
      have e2 : m = [] := List.eq_nil_of_length_eq_zero h'.1
      subst e1; subst e2
      exact equal_nil a a' c c' x
    · rcases h'.2 with h0 | ⟨b', o', arr', T', fr', rfl, hb', hu'⟩
      · subst h0
        have e1 : l = [] := List.eq_nil_of_length_eq_zero h.1
        have e2 : m = [] := List.eq_nil_of_length_eq_zero h'.1
        subst e1; subst e2
        exact equal_nil _ a' c c' x
      · haveI : Has L b (.cells arr T fr) := ⟨hF.ok.mem_iff.2 (by simp [hb])⟩
        haveI : Has L b' (.cells arr' T' fr') := ⟨hF.ok.mem_iff.2 (by simp [hb'])⟩
        exact equal_some b o b' o' arr arr' T T' fr fr' l m n c c' (Lib.hid h.1) (Lib.hid h'.1) hn hu hu' x
  · have : decide (l = m) = false := by
      simp only [decide_eq_false_iff_not]
      intro e
      have h1 := h.1; have h2 := h'.1
      rw [e, h2] at h1
      exact hne h1.symm
    rw [this]
    exact equal_len a a' n n' c c' hne x

/-- Are two messages the same? Their Deps are l and m. -/
def sameB (a b : RM) (l m : List Int) : Bool := a.frm == b.frm && (a.seq == b.seq && (a.stamp == b.stamp && (a.svc == b.svc && (a.pay.toList == b.pay.toList && decide (l = m)))))
set_option maxHeartbeats 1000000 in
theorem same34 {F : Blocks} (a b : RM) (l m : List Int) (h : DepsIn F a.da a.dn l) (h' : DepsIn F b.da b.dn m) (hn : a.dn ≤ 9223372036854775807) {L R : Units} [hF : Unit_ L F R] (x : St L) :
    Calls Try.prog 34 #[.agg #[.int .i64 a.frm, .int .u32 a.seq, .int .u64 a.stamp, .int .i64 a.svc, .slice a.da a.dn a.dc, .string a.pay],
      .agg #[.int .i64 b.frm, .int .u32 b.seq, .int .u64 b.stamp, .int .i64 b.svc, .slice b.da b.dn b.dc, .string b.pay]] x.w (Ret L (.bool (sameB a b l m))) := by
  have H := Lib.hid h
  have H' := Lib.hid h'
  clear h h'
  cases c0 : (a.frm == b.frm)
  · have HE : Hid (sameB a b l m = false) := Lib.hid (by simp only [sameB, c0, Bool.true_and, Bool.false_and])
    go_enter Try.func34, Try.ntmps34
    go_wp2_with (first | ((with_reducible refine wpList_box_st (by simp [go_sem]; rfl) ?_); intro nb y) | (go_at_call 54; refine (equal_spec (F := F) _ _ _ _ _ _ l m H.out H'.out hn _).mono ?_; rintro e w' ⟨rfl, y, rfl⟩))
    go_ret
    exact Ret.fin _ (by rw [HE.out]; rfl)
  cases c1 : (a.seq == b.seq)
  · have HE : Hid (sameB a b l m = false) := Lib.hid (by simp only [sameB, c0, c1, Bool.true_and, Bool.false_and])
    go_enter Try.func34, Try.ntmps34
    go_wp2_with (first | ((with_reducible refine wpList_box_st (by simp [go_sem]; rfl) ?_); intro nb y) | (go_at_call 54; refine (equal_spec (F := F) _ _ _ _ _ _ l m H.out H'.out hn _).mono ?_; rintro e w' ⟨rfl, y, rfl⟩))
    go_ret
    exact Ret.fin _ (by rw [HE.out]; rfl)
  cases c2 : (a.stamp == b.stamp)
  · have HE : Hid (sameB a b l m = false) := Lib.hid (by simp only [sameB, c0, c1, c2, Bool.true_and, Bool.false_and])
    go_enter Try.func34, Try.ntmps34
    go_wp2_with (first | ((with_reducible refine wpList_box_st (by simp [go_sem]; rfl) ?_); intro nb y) | (go_at_call 54; refine (equal_spec (F := F) _ _ _ _ _ _ l m H.out H'.out hn _).mono ?_; rintro e w' ⟨rfl, y, rfl⟩))
    go_ret
    exact Ret.fin _ (by rw [HE.out]; rfl)
  cases c3 : (a.svc == b.svc)
  · have HE : Hid (sameB a b l m = false) := Lib.hid (by simp only [sameB, c0, c1, c2, c3, Bool.true_and, Bool.false_and])
    go_enter Try.func34, Try.ntmps34
    go_wp2_with (first | ((with_reducible refine wpList_box_st (by simp [go_sem]; rfl) ?_); intro nb y) | (go_at_call 54; refine (equal_spec (F := F) _ _ _ _ _ _ l m H.out H'.out hn _).mono ?_; rintro e w' ⟨rfl, y, rfl⟩))
    go_ret
    exact Ret.fin _ (by rw [HE.out]; rfl)
  cases c4 : (a.pay.toList == b.pay.toList)
  · have HE : Hid (sameB a b l m = false) := Lib.hid (by simp only [sameB, c0, c1, c2, c3, c4, Bool.true_and, Bool.false_and])
    go_enter Try.func34, Try.ntmps34
    go_wp2_with (first | ((with_reducible refine wpList_box_st (by simp [go_sem]; rfl) ?_); intro nb y) | (go_at_call 54; refine (equal_spec (F := F) _ _ _ _ _ _ l m H.out H'.out hn _).mono ?_; rintro e w' ⟨rfl, y, rfl⟩))
    go_ret
    exact Ret.fin _ (by rw [HE.out]; rfl)
  · have HE : Hid (sameB a b l m = decide (l = m)) := Lib.hid (by simp only [sameB, c0, c1, c2, c3, c4, Bool.true_and])
    go_enter Try.func34, Try.ntmps34
    go_wp2_with (first | ((with_reducible refine wpList_box_st (by simp [go_sem]; rfl) ?_); intro nb y) | (go_at_call 54; refine (equal_spec (F := F) _ _ _ _ _ _ l m H.out H'.out hn _).mono ?_; rintro e w' ⟨rfl, y, rfl⟩))
    go_ret
    exact Ret.fin _ (by rw [HE.out]; rfl)
end Go.Proofs.Ythijlgjfgliinaa
