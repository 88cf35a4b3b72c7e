/- Part 8 of the proof of what MonJudges says. -/
import Derived.Test.YthijlgjfgliinaaJg07
import Derived.Lib.AppendZeros
import Derived.Test.YthijlgjfgliinaaProg
import Derived.Test.YthijlgjfgliinaaJg03
import Derived.LaidEqlPtr
section
/- The monitor's helpers: whether a row of messages has one, whether two rows are the same, two rows as one. -/
set_option linter.all false
namespace Go.Proofs.Ythijlgjfgliinaa
open Go.RowKit
variable [Env]
set_option maxRecDepth 100000

/-- The block of a message. -/
abbrev msgO (r : RM) : Obj := .cells #[.int .i64 r.frm, .int .u32 r.seq, .int .u64 r.stamp, .int .i64 r.svc, .slice r.da r.dn r.dc, .string r.pay] 34
set_option maxHeartbeats 400000 in
theorem index63_nil (a : Option Addr) (c xb : Nat) {L : Units} (x : St L) :
    Calls Try.prog 63 #[.slice a 0 c, .func (.func 57) #[] #[.pointer (some ⟨xb, 0, none⟩)]] x.w (Ret L (.int .i64 (-1))) := by
  go_enter Try.func63, Try.ntmps63
  go_wp2_with fail
  go_loopw [8] (fun v wr => v = .int .i64 0 ∧ ∃ y : St L, wr = y.w) (fun v _ => 0)
  case atStart => exact ⟨rfl, x, rfl⟩
  case round =>
    obtain ⟨rfl, y, rfl⟩ := hrel
    go_wp2_with fail
    go_ret
    exact Ret.fin _ rfl
theorem index63 {F U : Blocks} (xb n c : Nat) (a : Option Addr) (g : GM) (ms : List GM) (h : SlIn U a n 6 (ms.map GM.cells)) (hn2 : n ≤ 9223372036854775807) (hg : g.ok F) (hms : ∀ m ∈ ms, m.ok F)
    {L R R2 : Units} [hF : Unit_ L F R] [hU : Unit_ L U R2] [Has L xb (msgO g.r)] (x : St L) :
    Calls Try.prog 63 #[.slice a n c, .func (.func 57) #[] #[.pointer (some ⟨xb, 0, none⟩)]] x.w (Ret L (.int .i64 (ixOf g.mg (ms.map GM.mg) 0))) := by
  have hl : ms.length = n := by simpa using h.1
  rcases h.2 with h0 | ⟨b, o, arr, T, fr, rfl, hb, hrow⟩
  · subst h0
    have : ms = [] := List.eq_nil_of_length_eq_zero hl
    subst this
    exact index63_nil a c xb x
  · haveI : Has L b (.cells arr T fr) := ⟨hU.ok.mem_iff.2 (by simp [hb])⟩
    exact index63_some (F := F) xb b o c n arr T fr g ms (Lib.hid hl) hn2 hg hms hrow x
/-- Is a message in a list? -/
def hasMg (l : List Mg) (g : Mg) : Bool := l.contains g
set_option maxHeartbeats 400000 in
theorem contains56 {F U : Blocks} (xb n c : Nat) (a : Option Addr) (g : GM) (ms : List GM) (all : List Mg) (hall : Hid (ms.map GM.mg = all)) (h : SlIn U a n 6 (ms.map GM.cells)) (hn2 : n ≤ 9223372036854775807) (hg : g.ok F) (hms : ∀ m ∈ ms, m.ok F)
    {L R R2 : Units} [hF : Unit_ L F R] [hU : Unit_ L U R2] [Has L xb (msgO g.r)] (x : St L) :
    Calls Try.prog 56 #[.slice a n c, .func (.func 57) #[] #[.pointer (some ⟨xb, 0, none⟩)]] x.w (Ret L (.bool (hasMg all g.mg))) := by
  have H := Lib.hid h
  have Hg := Lib.hid hg
  have Hm := Lib.hid hms
  clear h hg hms
  go_enter Try.func56, Try.ntmps56
  go_wp2_with (go_at_call 63; refine (index63 (F := F) (U := U) xb n c a g ms H.out hn2 Hg.out Hm.out _).mono ?_; rintro e w' ⟨rfl, y, rfl⟩)
  go_ret
  exact Ret.fin _ (by unfold hasMg; rw [← hall.out, ← ixOf_nonneg g.mg (ms.map GM.mg) 0 (by omega)]; rfl)

def EqfInv (l m : List Mg) (n : Nat) (L : Units) (v : Value) (w : World) : Prop := ∃ k : Nat, k ≤ n ∧ v = .int .i64 k ∧ l.take k = m.take k ∧ ∃ y : St L, w = y.w
set_option maxHeartbeats 1000000 in
theorem equalFunc_some {F : Blocks} (b o c n b' o' c' : Nat) (arr arr' : Array Value) (T T' : TypeId) (fr fr' : Nat × Nat) (ms ms' : List GM) (hn : Hid (ms.length = n)) (hn' : Hid (ms'.length = n)) (hn2 : n ≤ 9223372036854775807) (hms : ∀ m ∈ ms, m.ok F) (hms' : ∀ m ∈ ms', m.ok F)
    (hrow : RowAt arr o 6 (ms.map GM.cells)) (hrow' : RowAt arr' o' 6 (ms'.map GM.cells)) {L R : Units} [hF : Unit_ L F R] [Has L b (.cells arr T fr)] [Has L b' (.cells arr' T' fr')] (x : St L) :
    Calls Try.prog 46 #[.slice (some ⟨b, o, none⟩) n c, .slice (some ⟨b', o', none⟩) n c', .func (.func 34) #[] #[]] x.w (Ret L (.bool (decide (ms.map GM.mg = ms'.map GM.mg)))) := by
  go_enter Try.func46, Try.ntmps46
  go_wp2_with fail
  go_loopw [17] (fun v wr => EqfInv (ms.map GM.mg) (ms'.map GM.mg) n L v wr) (fun v _ => n - (intOf v).toNat)
  case atStart => exact ⟨0, by omega, rfl, rfl, x, rfl⟩
  case round =>
    obtain ⟨k, hk, rfl, ht, y, rfl⟩ := hrel
    have HT := Lib.hid ht
    clear ht
    by_cases hlt : k < n
    · obtain ⟨m, hm⟩ : ∃ m, ms[k]? = some m := ⟨ms[k]'(by rw [hn.out]; exact hlt), List.getElem?_eq_getElem _⟩
      obtain ⟨m', hm'⟩ : ∃ m, ms'[k]? = some m := ⟨ms'[k]'(by rw [hn'.out]; exact hlt), List.getElem?_eq_getElem _⟩
      obtain ⟨c0, c1, c2, c3, c4, c5⟩ := row_msg hrow hm
      obtain ⟨d0, d1, d2, d3, d4, d5⟩ := row_msg hrow' hm'
      have Hm := Lib.hid (hms m (List.mem_of_getElem? hm))
      have Hm' := Lib.hid (hms' m' (List.mem_of_getElem? hm'))
      have HU : Hid ((ms.map GM.mg)[k]? = some m.mg) := Lib.hid (by simp [hm])
      have HV : Hid ((ms'.map GM.mg)[k]? = some m'.mg) := Lib.hid (by simp [hm'])
      clear hm hm' hms hms' hrow hrow'
      by_cases he : m.mg = m'.mg
      · have HE := Lib.hid he
        have hb : decide (m.mg = m'.mg) = true := by simp [he]
        clear he
        go_wp2_with (first | ((with_reducible refine wpList_alloc_st rfl (by simp only [Value.cells]; rfl) ?_); intro nb y) | (go_at_call 34; refine (same_spec (F := F) m m' Hm.out Hm'.out _).mono ?_; rintro e w' ⟨rfl, y, rfl⟩))
        go_roundw
        case rel => exact ⟨k + 1, by omega, by go_num, by rw [List.take_add_one, List.take_add_one, HT.out, HU.out, HV.out, HE.out], St.to _, rfl⟩
        case measure => simp [intOf]; omega
      · have HD : Hid (decide (ms.map GM.mg = ms'.map GM.mg) = false) := Lib.hid (by
          simp only [decide_eq_false_iff_not]
          intro e
          have h1 := HU.out; have h2 := HV.out
          rw [e, h2] at h1
          exact he (Option.some.inj h1).symm)
        have hb : decide (m.mg = m'.mg) = false := by simp [he]
        clear he
        go_wp2_with (first | ((with_reducible refine wpList_alloc_st rfl (by simp only [Value.cells]; rfl) ?_); intro nb y) | (go_at_call 34; refine (same_spec (F := F) m m' Hm.out Hm'.out _).mono ?_; rintro e w' ⟨rfl, y, rfl⟩))
        go_ret
        exact Ret.fin _ (by rw [HD.out]; rfl)
    · have HD : Hid (decide (ms.map GM.mg = ms'.map GM.mg) = true) := Lib.hid (by
        have hkl : k = n := by omega
        have e1 : (ms.map GM.mg).take n = ms.map GM.mg := by rw [← hn.out, show ms.length = (ms.map GM.mg).length by simp, List.take_length]
        have e2 : (ms'.map GM.mg).take n = ms'.map GM.mg := by rw [← hn'.out, show ms'.length = (ms'.map GM.mg).length by simp, List.take_length]
        have := HT.out
        rw [hkl, e1, e2] at this
        simp [this])
      clear hrow hrow' hms hms'
      go_wp2_with fail
      go_ret
      exact Ret.fin _ (by rw [HD.out]; rfl)
set_option maxHeartbeats 400000 in
theorem equalFunc_len (a a' : Option Addr) (n n' c c' : Nat) (hne : n ≠ n') {L : Units} (x : St L) :
    Calls Try.prog 46 #[.slice a n c, .slice a' n' c', .func (.func 34) #[] #[]] x.w (Ret L (.bool false)) := by
  have h1 : ((n : Int) != n') = true := by simp; omega
  go_enter Try.func46, Try.ntmps46
  go_wp2_with fail
  go_ret
  exact Ret.fin _ rfl
set_option maxHeartbeats 400000 in
theorem equalFunc_nil (a a' : Option Addr) (c c' : Nat) {L : Units} (x : St L) :
    Calls Try.prog 46 #[.slice a 0 c, .slice a' 0 c', .func (.func 34) #[] #[]] x.w (Ret L (.bool true)) := by
  go_enter Try.func46, Try.ntmps46
  go_wp2_with fail
  go_loopw [17] (fun v wr => v = .int .i64 0 ∧ ∃ y : St L, wr = y.w) (fun v _ => 0)
  case atStart => exact ⟨rfl, x, rfl⟩
  case round =>
    obtain ⟨rfl, y, rfl⟩ := hrel
    go_wp2_with fail
    go_ret
    exact Ret.fin _ rfl
theorem equalFunc46 {F U U' : Blocks} (a a' : Option Addr) (n n' c c' : Nat) (ms ms' : List GM) (h : SlIn U a n 6 (ms.map GM.cells)) (h' : SlIn U' a' n' 6 (ms'.map GM.cells)) (hn2 : n ≤ 9223372036854775807) (hms : ∀ m ∈ ms, m.ok F) (hms' : ∀ m ∈ ms', m.ok F)
    {L R R2 R3 : Units} [hF : Unit_ L F R] [hU : Unit_ L U R2] [hU' : Unit_ L U' R3] (x : St L) :
    Calls Try.prog 46 #[.slice a n c, .slice a' n' c', .func (.func 34) #[] #[]] x.w (Ret L (.bool (decide (ms.map GM.mg = ms'.map GM.mg)))) := by
  have hl : ms.length = n := by simpa using h.1
  have hl' : ms'.length = n' := by simpa using h'.1
  by_cases hne : n = n'
  · subst hne
    rcases h.2 with h0 | ⟨b, o, arr, T, fr, rfl, hb, hrow⟩
    · subst h0
      have : ms = [] := List.eq_nil_of_length_eq_zero hl
      subst this
      have : ms' = [] := List.eq_nil_of_length_eq_zero hl'
      subst this
      exact equalFunc_nil a a' c c' x
    · rcases h'.2 with h0 | ⟨b', o', arr', T', fr', rfl, hb', hrow'⟩
      · subst h0
        have : ms = [] := List.eq_nil_of_length_eq_zero hl
        subst this
        have : ms' = [] := List.eq_nil_of_length_eq_zero hl'
        subst this
        exact equalFunc_nil _ a' c c' x
      · haveI : Has L b (.cells arr T fr) := ⟨hU.ok.mem_iff.2 (by simp [hb])⟩
        haveI : Has L b' (.cells arr' T' fr') := ⟨hU'.ok.mem_iff.2 (by simp [hb'])⟩
        exact equalFunc_some (F := F) b o c n b' o' c' arr arr' T T' fr fr' ms ms' (Lib.hid hl) (Lib.hid hl') hn2 hms hms' hrow hrow' x
  · have : decide (ms.map GM.mg = ms'.map GM.mg) = false := by
      simp only [decide_eq_false_iff_not]
      intro e
      have := congrArg List.length e
      simp at this
      omega
    rw [this]
    exact equalFunc_len a a' n n' c c' hne x
end Go.Proofs.Ythijlgjfgliinaa
end
section
/- The monitor's helpers: two rows as one; what a stay delivered. -/
set_option linter.all false
namespace Go.Proofs.Ythijlgjfgliinaa
open Go.RowKit
variable [Env]
set_option maxRecDepth 100000

def msgZero : Value := .agg #[.int .i64 0, .int .u32 0, .int .u64 0, .int .i64 0, .slice none 0 0, .string ⟨#[]⟩]
theorem Try.info34 : (Try.prog.info? 34).map (fun i => (i.zero, i.size, i.bytes)) = some (some msgZero, 6, 72) := by kernel_rfl

/-- The call hands back a row of its own. -/
def RowRet (L : Units) (els : List (List Value)) (n : Nat) (e : Ending) (w' : World) : Prop :=
  ∃ r : Row, RowOk r 6 els ∧ e = .returned (r.val n) ∧ ∃ y : St (r.u 34 :: L), w' = y.w

set_option maxHeartbeats 400000 in
theorem grow62 (n : Nat) (hn : n ≤ 1000000) {L : Units} (x : St L) : Calls Try.prog 62 #[.slice none 0 0, .int .i64 n] x.w (RowRet L [] 0) := by
  obtain ⟨i0, hi, hz0, hz1, hz2⟩ := info_parts Try.info34
  by_cases h0 : 0 < n
  · have hr := Lib.run_append_nil_zeros (P := Try.prog) x.w 61 3 61 34 i0 msgZero .i64 .i64 Try.underlying61 Try.underlying3 hi hz0 n h0 (by omega) (by omega) (by rw [hz2]; omega)
    obtain ⟨cap, hcap⟩ : ∃ c, grownCap x.w n 0 34 = c := ⟨_, rfl⟩
    obtain ⟨arr, harr⟩ : ∃ a, Builtin.zeroCells msgZero.cells n ++ Builtin.zeroCells msgZero.cells (cap - n) = a := ⟨_, rfl⟩
    have hge := grownCap_ge x.w n 0 34
    rw [hcap] at hge hr
    have hsz : arr.size = cap * 6 := by
      rw [← harr]
      simp only [Array.size_append, size_zeros, msgZero, Value.cells]
      simp
      omega
    rw [harr] at hr
    have HC := Lib.hid hcap
    have HA := Lib.hid harr
    clear hcap harr
    go_enter Try.func62, Try.ntmps62
    go_wp2_with (at_builtin; refine Lib.wpList_append_run _ rfl _ _ _ _ rfl _ _ rfl rfl _ _ hr ?_)
    go_ret
    exact ⟨⟨some x.w.heap.size, cap, arr⟩, ⟨fun h => (by cases h), by simp, fun _ => hsz, fun _ => Nat.zero_le _, fun _ => by simp⟩, rfl, St.alloc (St.drew x) _, rfl⟩
  · obtain rfl : n = 0 := by omega
    go_enter Try.func62, Try.ntmps62
    go_wp2_with fail
    go_ret
    exact ⟨Row.nil, RowOk.mkNil 6, rfl, x.re (Eqv.nil L).symm, rfl⟩

def CatInv1 (n1 n2 : Nat) (L : Units) (vs vi : Value) (w : World) : Prop := ∃ k : Nat, k ≤ 2 ∧ vi = .int .i64 k ∧ vs = .int .i64 ((if 1 ≤ k then n1 else 0) + (if 2 ≤ k then n2 else 0) : Nat) ∧ ∃ y : St L, w = y.w
def CatInv2 (e1 e2 : List (List Value)) (L : Units) (vr vi : Value) (w : World) : Prop := ∃ (k : Nat) (els : List (List Value)) (r : Row), k ≤ 2 ∧ vi = .int .i64 k ∧ els = (if 1 ≤ k then e1 else []) ++ (if 2 ≤ k then e2 else []) ∧ RowOk r 6 els ∧ vr = r.val els.length ∧ ∃ y : St (r.u 34 :: L), w = y.w
theorem cells_len {els : List (List Value)} {ms : List GM} (h : els = ms.map GM.cells) : ∀ c ∈ els, c.length = 6 := by
  subst h; intro c hc; obtain ⟨m, _, rfl⟩ := List.mem_map.1 hc; rfl
theorem cells_one (ms : List GM) : ∀ u ∈ (ms.map GM.cells).flatten, u.oneCell' = true := by
  intro u hu
  obtain ⟨l, hl, hu⟩ := List.mem_flatten.1 hu
  obtain ⟨m, _, rfl⟩ := List.mem_map.1 hl
  simp only [GM.cells, RM.cells, List.mem_cons, List.not_mem_nil, or_false] at hu
  rcases hu with rfl | rfl | rfl | rfl | rfl | rfl <;> rfl
set_option maxHeartbeats 2000000 in
theorem concat55 {U1 U2 : Blocks} (sb n1 n2 c1 c2 : Nat) (a1 a2 : Option Addr) (m1 m2 : List GM) (h1 : SlIn U1 a1 n1 6 (m1.map GM.cells)) (h2 : SlIn U2 a2 n2 6 (m2.map GM.cells)) (hn : n1 + n2 ≤ 1000000)
    {L R1 R2 : Units} [hU1 : Unit_ L U1 R1] [hU2 : Unit_ L U2 R2] [Has L sb (.cells #[.slice a1 n1 c1, .slice a2 n2 c2] 61)] (x : St L) :
    Calls Try.prog 55 #[.slice (some ⟨sb, 0, none⟩) 2 2] x.w (RowRet L ((m1 ++ m2).map GM.cells) (n1 + n2)) := by
  obtain ⟨i0, hi, hz0, hz1, hz2⟩ := info_parts Try.info34
  have HL1 := Lib.hid h1.1
  have HL2 := Lib.hid h2.1
  have b1 : n1 ≤ 1000000 := by omega
  have b2 : n2 ≤ 1000000 := by omega
  go_enter Try.func55, Try.ntmps55
  go_wp2_with fail
  go_loopw [3, 11] (fun vs vi wr => CatInv1 n1 n2 L vs vi wr) (fun _ vi _ => 2 - (intOf vi).toNat)
  case atStart => exact ⟨0, by omega, rfl, rfl, x, rfl⟩
  case round =>
    obtain ⟨k, hk, rfl, rfl, y, rfl⟩ := hrel
    match k, hk with
    | 0, _ =>
      simp only [Nat.reduceLeDiff, if_false, Nat.add_zero]
      go_wp2_with fail
      go_roundw
      case rel => exact ⟨1, by omega, rfl, by simp, y, rfl⟩
      case measure => simp [intOf]
    | 1, _ =>
      simp only [Nat.reduceLeDiff, if_false, if_true, Nat.add_zero, Nat.le_refl]
      go_wp2_with fail
      go_roundw
      case rel => exact ⟨2, by omega, rfl, by simp, y, rfl⟩
      case measure => simp [intOf]
    | 2, _ =>
      simp only [Nat.reduceLeDiff, if_false, if_true, Nat.add_zero, Nat.le_refl]
      obtain ⟨n, hnn⟩ : ∃ n, n1 + n2 = n := ⟨_, rfl⟩
      have HN := Lib.hid hnn
      have bn : n ≤ 1000000 := by omega
      rw [hnn]
      clear hnn
      go_wp2_with (go_at_call 62; refine (grow62 n bn _).mono ?_; rintro e w' ⟨r0, hok0, rfl, y0, rfl⟩)
      go_loopw [6, 27] (fun vr vi wr => CatInv2 (m1.map GM.cells) (m2.map GM.cells) L vr vi wr) (fun _ vi _ => 2 - (intOf vi).toNat)
      case atStart => exact ⟨0, [], r0, by omega, rfl, rfl, hok0, rfl, y0, rfl⟩
      case round =>
        clear hok0
        obtain ⟨k, els, r, hk, rfl, hels, hok, rfl, y, rfl⟩ := hrel
        have HE := Lib.hid hels
        clear hels
        match k, hk with
        | 0, _ =>
          have hel : els.length = 0 := by rw [HE.out]; rfl
          have HEL := Lib.hid hel
          clear hel
          go_wp2_with (at_builtin; refine wpList_append_sl (P := Try.prog) r els (m1.map GM.cells) 6 72 34 i0 msgZero Try.underlying61 hi hz0 hz1 hz2 rfl U1 a1 n1 c1 rfl rfl hok (cells_len rfl) h1 (cells_one m1) ?byt ?le ?k)
          case byt => rw [HEL.out]; omega
          case le => rw [HEL.out]; omega
          case k =>
            intro r' z hok'
            go_wp2
            go_roundw
            case rel => exact ⟨1, m1.map GM.cells, r', by omega, rfl, by simp, by rw [HE.out] at hok'; exact hok', by rw [HEL.out, ← HL1.out, Nat.zero_add], z, rfl⟩
            case measure => simp [intOf]
        | 1, _ =>
          have hel : els.length = n1 := by rw [HE.out, ← HL1.out]; simp
          have HEL := Lib.hid hel
          clear hel
          go_wp2_with (at_builtin; refine wpList_append_sl (P := Try.prog) r els (m2.map GM.cells) 6 72 34 i0 msgZero Try.underlying61 hi hz0 hz1 hz2 rfl U2 a2 n2 c2 rfl rfl hok (cells_len rfl) h2 (cells_one m2) ?byt ?le ?k)
          case byt => rw [HEL.out]; omega
          case le => rw [HEL.out]; omega
          case k =>
            intro r' z hok'
            go_wp2
            go_roundw
            case rel => exact ⟨2, els ++ m2.map GM.cells, r', by omega, rfl, by rw [HE.out]; simp, hok', by rw [List.length_append, HL2.out], z, rfl⟩
            case measure => simp [intOf]
        | 2, _ =>
          go_wp2_with fail
          go_ret
          refine ⟨r, ?_, ?_, y, rfl⟩
          · rw [HE.out] at hok
            simpa using hok
          · have hel : els.length = n1 + n2 := by rw [HE.out, ← HL1.out, ← HL2.out]; simp
            rw [← hel]
            rfl

/-- The block of a stay. -/
abbrev stayO (proc epoch rep members : Int) (p0 p1 : Value) (cb : Nat) (tr : Option Nat) (went : Bool) : Obj :=
  .cells #[.int .i64 proc, .int .u64 epoch, .int .i64 rep, .int .u64 members, p0, p1, .map (some cb), .pointer (tr.map (⟨·, 0, none⟩)), .bool went] 66
set_option maxHeartbeats 1000000 in
theorem all35 {U1 U2 : Blocks} (sb n1 n2 c1 c2 cb : Nat) (pr ep re me : Int) (tr : Option Nat) (we : Bool) (a1 a2 : Option Addr) (m1 m2 : List GM) (h1 : SlIn U1 a1 n1 6 (m1.map GM.cells)) (h2 : SlIn U2 a2 n2 6 (m2.map GM.cells)) (hn : n1 + n2 ≤ 1000000)
    {L R1 R2 : Units} [hU1 : Unit_ L U1 R1] [hU2 : Unit_ L U2 R2] [Has L sb (stayO pr ep re me (.slice a1 n1 c1) (.slice a2 n2 c2) cb tr we)] (x : St L) :
    Calls Try.prog 35 #[.pointer (some ⟨sb, 0, none⟩)] x.w (RowRet L ((m1 ++ m2).map GM.cells) (n1 + n2)) := by
  have hne : Nonempty (St L) := ⟨x⟩
  have H1 := Lib.hid h1
  have H2 := Lib.hid h2
  clear h1 h2
  go_enter Try.func35, Try.ntmps35
  go_wp2_with fail
  refine wp_region_st_tail 10 (by kernel_rfl) (by kernel_rfl) ?_
  simp only [List.take_succ_cons, List.take_zero, List.drop_succ_cons, List.drop_zero]
  repeat (go_big_quiet_step (fail))
  refine wpQuiet_nil ?_
  intro z
  go_wp2_with (first | ((with_reducible refine wpList_buildSlice_st (by intro w; simp [go_sem]; rfl) ?_); intro nb y) | (go_at_call 55; refine (concat55 (U1 := U1) (U2 := U2) nb n1 n2 c1 c2 a1 a2 m1 m2 H1.out H2.out hn _).mono ?_; rintro e w' ⟨r, hok, rfl, y, rfl⟩))
  go_ret
  exact ⟨r, hok, rfl, y.to, rfl⟩

/-- The block of a monitor. -/
abbrev monO (sb eb mb : Nat) (st : Value) (lb nb : Nat) (br ln at_ ru : Int) : Obj :=
  .cells #[.map (some sb), .map (some eb), .map (some mb), st, .map (some lb), .map (some nb), .int .i64 br, .int .i64 ln, .int .i64 at_, .int .i64 ru] 54
/-- A rule is broken, if something is so. -/
def brk (br r : Int) (c : Bool) : Int := if c = true ∧ (br = 0 ∨ r < br) then r else br
set_option maxHeartbeats 400000 in
theorem breaks_spec {m sb eb mb lb nb : Nat} {st : Value} {br ln at_ ru : Int} (r : Int) (c : Bool) {L R : Units} [hp : Pick L m (monO sb eb mb st lb nb br ln at_ ru) R] (x : St L) :
    Calls Try.prog 20 #[.pointer (some ⟨m, 0, none⟩), .int .i64 r, .bool c] x.w (Ret ([(m, monO sb eb mb st lb nb (brk br r c) ln at_ ru)] :: R) (.tuple #[])) := by
  rw [St.re_w x hp.ok]
  generalize x.re hp.ok = x
  cases c
  · go_enter Try.func20, Try.ntmps20
    go_wp2
    go_end0
    exact Ret.mk _ rfl rfl (by simp [brk])
  · by_cases h0 : br = 0
    · subst h0
      go_enter Try.func20, Try.ntmps20
      go_wp2
      go_end0
      exact Ret.mk _ rfl rfl (by simp [brk])
    · have h1 : (br == 0) = false := by simpa using h0
      by_cases h2 : r < br
      · have h3 : decide (r < br) = true := by simpa using h2
        go_enter Try.func20, Try.ntmps20
        go_wp2
        go_end0
        exact Ret.mk _ rfl rfl (by simp [brk]; omega)
      · have h3 : decide (r < br) = false := by simpa using h2
        go_enter Try.func20, Try.ntmps20
        go_wp2
        go_end0
        exact Ret.mk _ rfl rfl (by simp [brk, h0]; omega)

end Go.Proofs.Ythijlgjfgliinaa
end
section
/- What a stay owes. -/
set_option linter.all false
namespace Go.Proofs.Ythijlgjfgliinaa
open Go.RowKit
variable [Env]
set_option maxRecDepth 100000
/-- What a stay that went on must have delivered, of some messages. -/
def owesB (has : Bool) (all : List Mg) (br : Int) (l : List Mg) : Int := l.foldl (fun br x => if x.svc = 2 ∧ has = true then brk br 6 (!hasMg all x) else br) br
theorem owesB_cons (has : Bool) (all : List Mg) (br : Int) (x : Mg) (l : List Mg) : owesB has all br (x :: l) = owesB has all (if x.svc = 2 ∧ has = true then brk br 6 (!hasMg all x) else br) l := rfl
def OwInv (sb eb mb lb nb m : Nat) (st : Value) (br ln at_ ru : Int) (has : Bool) (all : List Mg) (l : List Mg) (n : Nat) (R : Units) (v : Value) (w : World) : Prop :=
  ∃ (k : Nat) (br' : Int), k ≤ n ∧ v = .int .i64 k ∧ owesB has all br l = owesB has all br' (l.drop k) ∧ ∃ y : St ([(m, monO sb eb mb st lb nb br' ln at_ ru)] :: R), w = y.w
set_option maxHeartbeats 2000000 in
theorem owes_some {F U1 U2 : Blocks} {m sb eb mb lb nb : Nat} {st : Value} {br ln at_ ru : Int} (bb n1 n2 c1' c2' cb : Nat) (pr ep re me mem : Int) (tr : Option Nat) (we : Bool) (a1 a2 : Option Addr) (m1 m2 l : List GM) (all lm : List Mg) (hall : Hid ((m1 ++ m2).map GM.mg = all)) (hlm : Hid (l.map GM.mg = lm))
    (h1 : SlIn U1 a1 n1 6 (m1.map GM.cells)) (h2 : SlIn U2 a2 n2 6 (m2.map GM.cells)) (hn : n1 + n2 ≤ 1000000) (hm12 : ∀ g ∈ m1 ++ m2, g.ok F) (hl : ∀ g ∈ l, g.ok F)
    (b o c n : Nat) (arr : Array Value) (T : TypeId) (fr : Nat × Nat) (hlen : Hid (l.length = n)) (hn2 : n ≤ 9223372036854775807) (hrow : RowAt arr o 6 (l.map GM.cells)) (oo : Value)
    {R RF R1 R2 : Units} [hF : Unit_ R F RF] [hU1 : Unit_ R U1 R1] [hU2 : Unit_ R U2 R2] [Has R b (.cells arr T fr)] [Has R bb (stayO pr ep re me (.slice a1 n1 c1') (.slice a2 n2 c2') cb tr we)] (x : St ([(m, monO sb eb mb st lb nb br ln at_ ru)] :: R)) :
    Calls Try.prog 38 #[.pointer (some ⟨m, 0, none⟩), .pointer (some ⟨bb, 0, none⟩), oo, .slice (some ⟨b, o, none⟩) n c, .int .u64 mem] x.w
      (Ret ([(m, monO sb eb mb st lb nb (owesB (hasB mem pr) all br lm) ln at_ ru)] :: R) (.tuple #[])) := by
  have H1 := Lib.hid h1
  have H2 := Lib.hid h2
  have HM := Lib.hid hm12
  have HLL : Hid (((m1 ++ m2).map GM.cells).length = n1 + n2) := Lib.hid (by have e1 := h1.1; have e2 := h2.1; simp at e1 e2 ⊢; omega)
  clear h1 h2 hm12
  go_enter Try.func38, Try.ntmps38
  go_wp2_with fail
  go_loopw [14] (fun v wr => OwInv sb eb mb lb nb m st br ln at_ ru (hasB mem pr) all lm n R v wr) (fun v _ => n - (intOf v).toNat)
  case atStart => exact ⟨0, br, by omega, rfl, rfl, x, rfl⟩
  case round =>
    obtain ⟨k, br', hk, rfl, hfold, y, rfl⟩ := hrel
    by_cases hlt : k < n
    · obtain ⟨g, hg⟩ : ∃ g, l[k]? = some g := ⟨l[k]'(by rw [hlen.out]; exact hlt), List.getElem?_eq_getElem _⟩
      obtain ⟨c0, c1, c2, c3, c4, c5⟩ := row_msg hrow hg
      have Hg := Lib.hid (hl g (List.mem_of_getElem? hg))
      have hd : lm.drop k = g.mg :: lm.drop (k + 1) := by
        have h1 : lm[k]? = some g.mg := by rw [← hlm.out]; simp [hg]
        obtain ⟨h2, h3⟩ := List.getElem?_eq_some_iff.1 h1
        rw [List.drop_eq_getElem_cons h2, h3]
      rw [hd, owesB_cons] at hfold
      have HI := Lib.hid hfold
      clear hfold hd hg hl hrow
      cases hsv : (g.r.svc == 2)
      · have HF : Hid (¬ (g.mg.svc = 2 ∧ hasB mem pr = true)) := Lib.hid (by simp [GM.mg]; intro h; rw [h] at hsv; simp at hsv)
        go_wp2_with (first | ((with_reducible refine wpList_alloc_st rfl (by simp only [Value.cells]; rfl) ?_); intro tb y) | ((with_reducible refine at_store ?_); refine wpList_storeAll rfl rfl rfl (by rfl) rfl ?_; intro y))
        go_roundw
        case rel => exact ⟨k + 1, br', by omega, by go_num, by have h_ := HI.out; rw [if_neg HF.out] at h_; first | exact h_ | (rw [hhas] at h_; exact h_), toSt _⟩
        case measure => simp [intOf]; omega
      · cases hhas : hasB mem pr
        · have HF : Hid (¬ (g.mg.svc = 2 ∧ hasB mem pr = true)) := Lib.hid (by simp [hhas])
          go_wp2_with (first | ((with_reducible refine wpList_alloc_st rfl (by simp only [Value.cells]; rfl) ?_); intro tb y) | ((with_reducible refine at_store ?_); refine wpList_storeAll rfl rfl rfl (by rfl) rfl ?_; intro y) | (go_at_call 30; refine (has_spec _ _ _).mono ?_; rintro e w' ⟨rfl, y, rfl⟩))
          go_roundw
          case rel => exact ⟨k + 1, br', by omega, by go_num, by have h_ := HI.out; rw [if_neg HF.out] at h_; first | exact h_ | (rw [hhas] at h_; exact h_), toSt _⟩
          case measure => simp [intOf]; omega
        · have HF : Hid (g.mg.svc = 2 ∧ hasB mem pr = true) := Lib.hid ⟨by simpa [GM.mg] using hsv, hhas⟩
          go_wp2_with (first | ((with_reducible refine wpList_alloc_st rfl (by simp only [Value.cells]; rfl) ?_); intro tb y) | ((with_reducible refine at_store ?_); refine wpList_storeAll rfl rfl rfl (by rfl) rfl ?_; intro y) | (go_at_call 30; refine (has_spec _ _ _).mono ?_; rintro e w' ⟨rfl, y, rfl⟩) | (go_at_call 35; refine (all35 (U1 := U1) (U2 := U2) bb n1 n2 c1' c2' cb pr ep re me tr we a1 a2 m1 m2 H1.out H2.out hn _).mono ?_; rintro e w' ⟨r, hok, rfl, y, rfl⟩; obtain ⟨ra, rc, hrv, hrs⟩ := r.val_slice hok 34; rw [HLL.out] at hrv hrs; rw [hrv]; clear hrv hok; have HRS := Lib.hid hrs; clear hrs) | (go_at_call 56; refine (contains56 (F := F) (U := r.u 34) tb _ _ _ g (m1 ++ m2) all hall HRS.out (by omega) Hg.out HM.out _).mono ?_; rintro e w' ⟨rfl, y, rfl⟩) | (go_at_call 20; refine (breaks_spec _ _ _).mono ?_; rintro e w' ⟨rfl, y, rfl⟩))
          go_roundw
          case rel => exact ⟨k + 1, _, by omega, by go_num, by have h_ := HI.out; rw [if_pos HF.out, hhas] at h_; exact h_, toSt _⟩
          case measure => simp [intOf]; omega
    · have hkn : k = n := by omega
      have HI := Lib.hid hfold
      clear hfold hrow hl
      have e : lm.drop k = [] := by rw [List.drop_eq_nil_iff, ← hlm.out]; simp [hlen.out]; omega
      rw [e] at HI
      go_wp2_with fail
      go_end0
      have e2 : owesB (hasB mem pr) all br lm = br' := HI.out
      rw [e2]
      exact Ret.fin _ rfl
end Go.Proofs.Ythijlgjfgliinaa
end
section
/- Closed facts: which struct types are compared field by field. -/
set_option linter.all false
namespace Go.Proofs.Ythijlgjfgliinaa
open Go.RowKit
variable [Env]
set_option maxRecDepth 100000
@[go_sem] theorem Try.stood30 : Try.prog.stoodInHeld 30 = false := by kernel_rfl
@[go_sem] theorem Try.guard30 : Try.prog.eqGuardType Try.prog.depth 30 = false := by kernel_rfl
@[go_sem] theorem Try.stood69 : Try.prog.stoodInHeld 69 = false := by kernel_rfl
@[go_sem] theorem Try.guard69 : Try.prog.eqGuardType Try.prog.depth 69 = false := by kernel_rfl
@[go_sem] theorem Try.stood71 : Try.prog.stoodInHeld 71 = false := by kernel_rfl
@[go_sem] theorem Try.guard71 : Try.prog.eqGuardType Try.prog.depth 71 = false := by kernel_rfl
@[go_sem] theorem Try.stood121 : Try.prog.stoodInHeld 121 = false := by kernel_rfl
@[go_sem] theorem Try.guard121 : Try.prog.eqGuardType Try.prog.depth 121 = false := by kernel_rfl
/-- Are two configurations the same? -/
def confEq (a b c d : Int) : Bool := a == c && b == d
theorem confEq_iff {a b c d : Int} : confEq a b c d = true ↔ a = c ∧ b = d := by simp [confEq]
theorem confEq_false {a b c d : Int} : confEq a b c d = false ↔ ¬ (a = c ∧ b = d) := by rw [← confEq_iff]; simp
@[go_sem high] theorem eq30 (w : World) (a b c d : Int) : (binOp .eql 30 (.agg #[.int .u64 a, .int .i64 b]) (.agg #[.int .u64 c, .int .i64 d])).run Try.prog w = .ok (.bool (confEq a b c d)) w := by
  simp [go_sem, confEq]
  by_cases h : a = c <;> by_cases h2 : b = d <;> simp [h, h2]
@[go_sem high] theorem neq30 (w : World) (a b c d : Int) : (binOp .neq 30 (.agg #[.int .u64 a, .int .i64 b]) (.agg #[.int .u64 c, .int .i64 d])).run Try.prog w = .ok (.bool (!confEq a b c d)) w := by
  simp [go_sem, confEq]
  by_cases h : a = c <;> by_cases h2 : b = d <;> simp [h, h2]
@[go_sem high] theorem neq121 (w : World) (a b c d a' b' c' d' : Int) : (binOp .neq 121 (.agg #[.int .u64 a, .int .i64 b, .int .u64 c, .int .i64 d]) (.agg #[.int .u64 a', .int .i64 b', .int .u64 c', .int .i64 d'])).run Try.prog w = .ok (.bool (!(confEq a b a' b' && confEq c d c' d'))) w := by
  simp [go_sem, confEq]
  by_cases h : a = a' <;> by_cases h2 : b = b' <;> by_cases h3 : c = c' <;> by_cases h4 : d = d' <;> simp [h, h2, h3, h4]

/-- A message's place: its configuration, its sender, its number. -/
structure Place where
  epoch : Int
  rep : Int
  frm : Int
  seq : Int
deriving DecidableEq
/-- A message that a process had. -/
structure Had where
  proc : Int
  place : Place
deriving DecidableEq
abbrev Place.key (p : Place) : Value := .agg #[.int .u64 p.epoch, .int .i64 p.rep, .int .i64 p.frm, .int .u32 p.seq]
abbrev Had.key (p : Had) : Value := .agg #[.int .i64 p.proc, .int .u64 p.place.epoch, .int .i64 p.place.rep, .int .i64 p.place.frm, .int .u32 p.place.seq]
abbrev confKey (p : Int × Int) : Value := .agg #[.int .u64 p.1, .int .i64 p.2]
theorem KL3 : KL Try.prog 3 (fun p : Int => Value.int .i64 p) := KL.of_int Try.underlying3
theorem check_int (em : Bool) (d : Nat) (t : TypeId) (k k' : IntKind) (a : Int) (w : World) (h : Try.prog.underlying t = some (.int k')) : (Instr.checkKey em (d + 1) t (.int k a)).run Try.prog w = .ok () w := by
  unfold Instr.checkKey
  simp [run_underlying h]
theorem check30 (em : Bool) (d : Nat) (a b : Int) (w : World) : (Instr.checkKey em (d + 2) 30 (.agg #[.int .u64 a, .int .i64 b])).run Try.prog w = .ok () w := by
  unfold Instr.checkKey
  simp [go_sem, check_int]
theorem KL30 : KL Try.prog 30 confKey := by
  refine KL.of_eq (d := _) Try.underlying30 (fun a b => rfl) (fun a b w => ?_) (fun em a w => check30 em 9998 a.1 a.2 w) (fun a => by simp [Instr.sameBits])
  obtain ⟨a1, a2⟩ := a
  obtain ⟨b1, b2⟩ := b
  simp [Op.equal, Op.maxDepth, go_sem]
  by_cases h : a1 = b1 <;> by_cases h2 : a2 = b2 <;> simp [h, h2, eq_comm]
theorem check69 (em : Bool) (d : Nat) (a b c e : Int) (w : World) : (Instr.checkKey em (d + 3) 69 (.agg #[.int .u64 a, .int .i64 b, .int .i64 c, .int .u32 e])).run Try.prog w = .ok () w := by
  unfold Instr.checkKey
  simp [go_sem, check_int, check30]
theorem KL69 : KL Try.prog 69 Place.key := by
  refine KL.of_eq (d := _) Try.underlying69 (fun a b => rfl) (fun a b w => ?_) (fun em a w => check69 em 9997 a.1 a.2 a.3 a.4 w) (fun a => by simp [Instr.sameBits])
  obtain ⟨a1, a2, a3, a4⟩ := a
  obtain ⟨b1, b2, b3, b4⟩ := b
  simp [Op.equal, Op.maxDepth, go_sem]
  by_cases h : a1 = b1 <;> by_cases h2 : a2 = b2 <;> by_cases h3 : a3 = b3 <;> by_cases h4 : a4 = b4 <;> simp [h, h2, h3, h4, eq_comm]
theorem check71 (em : Bool) (d : Nat) (f a b c e : Int) (w : World) : (Instr.checkKey em (d + 4) 71 (.agg #[.int .i64 f, .int .u64 a, .int .i64 b, .int .i64 c, .int .u32 e])).run Try.prog w = .ok () w := by
  unfold Instr.checkKey
  simp [go_sem, check_int, check69]
theorem KL71 : KL Try.prog 71 Had.key := by
  refine KL.of_eq (d := _) Try.underlying71 (fun a b => rfl) (fun a b w => ?_) (fun em a w => check71 em 9996 a.1 a.2.1 a.2.2 a.2.3 a.2.4 w) (fun a => by simp [Instr.sameBits])
  obtain ⟨a0, a1, a2, a3, a4⟩ := a
  obtain ⟨b0, b1, b2, b3, b4⟩ := b
  simp [Op.equal, Op.maxDepth, go_sem]
  by_cases h0 : a0 = b0 <;> by_cases h : a1 = b1 <;> by_cases h2 : a2 = b2 <;> by_cases h3 : a3 = b3 <;> by_cases h4 : a4 = b4 <;> simp [h0, h, h2, h3, h4, eq_comm]
/-- Are two places one? -/
def sameP (a b : Nat) : Bool := decide (a = b)
theorem ptr57 {L : Units} (x : St L) (a b : Nat) {c d : Array Value} {T U : TypeId} [Has L a (.cells c T)] [Has L b (.cells d U)] :
    (binOp .eql 57 (.pointer (some ⟨a, 0, none⟩)) (.pointer (some ⟨b, 0, none⟩))).run Try.prog x.w = .ok (.bool (sameP a b)) x.w := by
  have hi : ∃ i, Try.prog.info? 66 = some i ∧ i.size = 9 := ⟨_, rfl, rfl⟩
  obtain ⟨i, hi, hs⟩ := hi
  by_cases h : a = b
  · subst h
    rw [run_eql_ptr_same x.w _ Try.underlying57 hi]
    simp [sameP]
  · rw [run_eql_ptr_other x.w (ca := c) (cb := d) (ta := T) (tb := U) Try.underlying57 hi (by omega) (by intro e; cases e; exact h rfl) x.heap x.heap]
    simp [sameP, h]
attribute [go_sem high] ptr57
end Go.Proofs.Ythijlgjfgliinaa
end
section
/- A stay, as it lies in memory and as the laws see it; what a stay that goes on must agree on. -/
set_option linter.all false
namespace Go.Proofs.Ythijlgjfgliinaa
open Go.RowKit
variable [Env]
set_option maxRecDepth 100000

/-- What a stay owes: nothing, of no messages. -/
theorem owes_nil {m sb eb mb lb nb : Nat} {st : Value} {br ln at_ ru : Int} (bv oo : Value) (a : Option Addr) (c : Nat) (mem : Int) {R : Units} (x : St ([(m, monO sb eb mb st lb nb br ln at_ ru)] :: R)) :
    Calls Try.prog 38 #[.pointer (some ⟨m, 0, none⟩), bv, oo, .slice a 0 c, .int .u64 mem] x.w (Ret ([(m, monO sb eb mb st lb nb br ln at_ ru)] :: R) (.tuple #[])) := by
  go_enter Try.func38, Try.ntmps38
  go_wp2_with fail
  go_loopw [14] (fun v wr => v = .int .i64 0 ∧ ∃ y : St ([(m, monO sb eb mb st lb nb br ln at_ ru)] :: R), wr = y.w) (fun _ _ => 0)
  case atStart => exact ⟨rfl, x, rfl⟩
  case round =>
    obtain ⟨rfl, y, rfl⟩ := hrel
    go_wp2_with fail
    go_end0
    exact Ret.fin _ rfl
theorem owes38 {F U1 U2 U3 : Blocks} {m sb eb mb lb nb : Nat} {st : Value} {br ln at_ ru : Int} (bb n1 n2 c1 c2 cb n c : Nat) (pr ep re me mem : Int) (tr : Option Nat) (we : Bool) (a1 a2 a : Option Addr) (m1 m2 l : List GM)
    (all lm : List Mg) (hall : Hid ((m1 ++ m2).map GM.mg = all)) (hlm : Hid (l.map GM.mg = lm))
    (h1 : SlIn U1 a1 n1 6 (m1.map GM.cells)) (h2 : SlIn U2 a2 n2 6 (m2.map GM.cells)) (h3 : SlIn U3 a n 6 (l.map GM.cells)) (hn : n1 + n2 ≤ 1000000) (hn3 : n ≤ 1000000) (hm12 : ∀ g ∈ m1 ++ m2, g.ok F) (hl : ∀ g ∈ l, g.ok F) (oo : Value)
    {L R RF R1 R2 R3 : Units} [hp : Pick L m (monO sb eb mb st lb nb br ln at_ ru) R] [hF : Unit_ R F RF] [hU1 : Unit_ R U1 R1] [hU2 : Unit_ R U2 R2] [hU3 : Unit_ R U3 R3] [Has R bb (stayO pr ep re me (.slice a1 n1 c1) (.slice a2 n2 c2) cb tr we)] (x : St L) :
    Calls Try.prog 38 #[.pointer (some ⟨m, 0, none⟩), .pointer (some ⟨bb, 0, none⟩), oo, .slice a n c, .int .u64 mem] x.w
      (Ret ([(m, monO sb eb mb st lb nb (owesB (hasB mem pr) all br lm) ln at_ ru)] :: R) (.tuple #[])) := by
  rw [St.re_w x hp.ok]
  generalize x.re hp.ok = x
  have hlen : l.length = n := by simpa using h3.1
  rcases h3.2 with h0 | ⟨b, o, arr, T, fr, rfl, hb, hrow⟩
  · subst h0
    have : l = [] := List.eq_nil_of_length_eq_zero hlen
    subst this
    have : lm = [] := hlm.out.symm
    subst this
    exact owes_nil _ oo a c mem x
  · haveI : Has R b (.cells arr T fr) := ⟨hU3.ok.mem_iff.2 (by simp [hb])⟩
    exact owes_some (F := F) (U1 := U1) (U2 := U2) bb n1 n2 c1 c2 cb pr ep re me mem tr we a1 a2 m1 m2 l all lm hall hlm h1 h2 hn hm12 hl b o c n arr T fr (Lib.hid hlen) (by omega) hrow oo x

/-- Are two rows of messages the same? -/
def eqMgs (l m : List Mg) : Bool := decide (l = m)
theorem equalFunc46' {F U U' : Blocks} (a a' : Option Addr) (n n' c c' : Nat) (ms ms' : List GM) (h : SlIn U a n 6 (ms.map GM.cells)) (h' : SlIn U' a' n' 6 (ms'.map GM.cells)) (hn2 : n ≤ 9223372036854775807) (hms : ∀ m ∈ ms, m.ok F) (hms' : ∀ m ∈ ms', m.ok F)
    {L R R2 R3 : Units} [hF : Unit_ L F R] [hU : Unit_ L U R2] [hU' : Unit_ L U' R3] (x : St L) :
    Calls Try.prog 46 #[.slice a n c, .slice a' n' c', .func (.func 34) #[] #[]] x.w (Ret L (.bool (eqMgs (ms.map GM.mg) (ms'.map GM.mg)))) := equalFunc46 a a' n n' c c' ms ms' h h' hn2 hms hms' x
/-- A stay, as it lies in memory. -/
structure GStay where
  blk : Nat
  proc : Int
  epoch : Int
  rep : Int
  members : Int
  r0 : Row
  r1 : Row
  m0 : List GM
  m1 : List GM
  cb : Nat
  count : GMap Int Int
  tr : Option (Nat × Ev)
  went : Bool
abbrev ikey (k : Int) : Value := .int .i64 k
abbrev GStay.obj (s : GStay) : Obj := stayO s.proc s.epoch s.rep s.members (s.r0.val s.m0.length) (s.r1.val s.m1.length) s.cb (s.tr.map (·.1)) s.went
def GStay.u (s : GStay) : Blocks := (s.blk, s.obj) :: (s.cb, s.count.obj ikey ikey) :: (s.r0.u 34 ++ s.r1.u 34)
def SU (l : List GStay) : Blocks := l.flatMap GStay.u
/-- The block of an event. -/
abbrev evO (e : Ev) : Obj := .cells #[.int .i64 e.kind, .int .i64 e.proc, .int .u64 e.epoch, .int .i64 e.rep, .int .u64 e.nepoch, .int .i64 e.nrep, .int .u64 e.members, .int .i64 e.m.frm, .int .u32 e.m.seq, .int .u64 e.m.stamp, .int .i64 e.m.svc, .slice e.m.da e.m.dn e.m.dc, .string e.m.pay, .int .u64 e.vnum, .int .u64 e.vepoch, .int .i64 e.vrep, .int .u64 e.vmem, .slice e.na e.nn e.nc, .string e.state] 39
structure GStay.ok (F : Blocks) (s : GStay) : Prop where
  k0 : RowOk s.r0 6 (s.m0.map GM.cells)
  k1 : RowOk s.r1 6 (s.m1.map GM.cells)
  few : s.m0.length + s.m1.length ≤ 1000000
  msgs : ∀ g ∈ s.m0 ++ s.m1, g.ok F
  tr : ∀ t e, s.tr = some (t, e) → (t, evO e) ∈ F

/-- The way on of a stay, as the laws see it: its New, its Members. -/
structure ATr where
  nepoch : Int
  nrep : Int
  members : Int
deriving DecidableEq
/-- A stay, as the laws see it. -/
structure AStay where
  proc : Int
  epoch : Int
  rep : Int
  members : Int
  p0 : List Mg
  p1 : List Mg
  count : Int → Int
  tr : Option ATr
  went : Bool
def GStay.abs (s : GStay) : AStay := ⟨s.proc, s.epoch, s.rep, s.members, s.m0.map GM.mg, s.m1.map GM.mg, fun q => (s.count.get q).getD 0, s.tr.map fun t => ⟨t.2.nepoch, t.2.nrep, t.2.members⟩, s.went⟩
def AStay.all (s : AStay) : List Mg := s.p0 ++ s.p1
/-- Nothing to compare. -/
def skipB (o b : AStay) : Bool :=
  !o.went || (o.proc == b.proc || (o.tr.isNone || (b.tr.isNone || !(match o.tr, b.tr with | some s, some t => confEq o.epoch o.rep b.epoch b.rep && confEq s.nepoch s.nrep t.nepoch t.nrep | _, _ => true))))
def unlikeB (o b : AStay) : Bool := !((match o.tr, b.tr with | some s, some t => s.members == t.members | _, _ => true) && (eqMgs o.p0 b.p0 && eqMgs o.p1 b.p1))
/-- What a stay that goes on breaks, of one stay. -/
def closeStep (b : AStay) (br : Int) (o : AStay) : Int :=
  if o.epoch = b.epoch ∧ o.rep = b.rep then
    let br1 := owesB (hasB o.members b.proc) b.all br o.p0
    let br2 := match o.tr with | some t => owesB (hasB t.members b.proc) b.all br1 o.p1 | none => br1
    if skipB o b then br2 else brk br2 5 (unlikeB o b)
  else br
def closeB (b : AStay) (l : List AStay) (br : Int) : Int := l.foldl (closeStep b) br

theorem SU_focus {l : List GStay} {i : Nat} {s : GStay} (h : l[i]? = some s) : ∃ X : Blocks, (SU l).Perm (s.u ++ X) ∧ ∀ s', (SU (l.set i s')).Perm (s'.u ++ X) := by
  induction l generalizing i with
  | nil => simp at h
  | cons a l ih =>
    cases i with
    | zero =>
      simp only [List.getElem?_cons_zero, Option.some.injEq] at h
      subst h
      exact ⟨SU l, List.Perm.refl _, fun s' => List.Perm.refl _⟩
    | succ i =>
      simp only [List.getElem?_cons_succ] at h
      obtain ⟨X, h1, h2⟩ := ih h
      refine ⟨a.u ++ X, ?_, fun s' => ?_⟩
      · show (a.u ++ SU l).Perm _
        refine (List.Perm.append_left _ h1).trans ?_
        rw [← List.append_assoc, ← List.append_assoc]
        exact List.Perm.append_right _ List.perm_append_comm
      · show (a.u ++ SU (l.set i s')).Perm _
        refine (List.Perm.append_left _ (h2 s')).trans ?_
        rw [← List.append_assoc, ← List.append_assoc]
        exact List.Perm.append_right _ List.perm_append_comm
theorem mem_SU {l : List GStay} {s : GStay} (h : s ∈ l) {p : Nat × Obj} (hp : p ∈ s.u) : p ∈ SU l := List.mem_flatMap.2 ⟨s, h, hp⟩
theorem GStay.u_split (s : GStay) (L : Units) : Eqv (s.u :: L) ([(s.blk, s.obj)] :: [(s.cb, s.count.obj ikey ikey)] :: s.r0.u 34 :: s.r1.u 34 :: L) := by
  unfold Eqv GStay.u
  simp
end Go.Proofs.Ythijlgjfgliinaa
end
