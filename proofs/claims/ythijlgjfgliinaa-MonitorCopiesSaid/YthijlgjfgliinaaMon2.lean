/- The monitor's helpers: whether a row of messages has one, whether two rows are the same, two rows as one. -/
import Derived.Test.YthijlgjfgliinaaMon1
set_option linter.all false
namespace Go.Proofs.Ythijlgjfgliinaa
open Go.RowKit
variable [Env]
set_option maxRecDepth 100000

/-- The block of a message. -/
abbrev msgO (r : RM) : Obj := .cells #[.int .i64 r.frm, .int .u32 r.seq, .int .u64 r.stamp, .int .i64 r.svc, .slice r.da r.dn r.dc, .string r.pay] 34
set_option maxHeartbeats 400000 in
theorem index63_nil (a : Option Addr) (c xb : Nat) {L : Units} (x : St L) :
    Calls Try.prog 63 #[.slice a 0 c, .func (.func 57) #[] #[.pointer (some ⟨xb, 0, none⟩)]] x.w (Ret L (.int .i64 (-1))) := by
  go_enter Try.func63, Try.ntmps63
  go_wp2_with fail
  go_loopw [8] (fun v wr => v = .int .i64 0 ∧ ∃ y : St L, wr = y.w) (fun v _ => 0)
  case atStart => exact ⟨rfl, x, rfl⟩
  case round =>
    obtain ⟨rfl, y, rfl⟩ := hrel
    go_wp2_with fail
    go_ret
    exact Ret.fin _ rfl
theorem index63 {F U : Blocks} (xb n c : Nat) (a : Option Addr) (g : GM) (ms : List GM) (h : SlIn U a n 6 (ms.map GM.cells)) (hn2 : n ≤ 9223372036854775807) (hg : g.ok F) (hms : ∀ m ∈ ms, m.ok F)
    {L R R2 : Units} [hF : Unit_ L F R] [hU : Unit_ L U R2] [Has L xb (msgO g.r)] (x : St L) :
    Calls Try.prog 63 #[.slice a n c, .func (.func 57) #[] #[.pointer (some ⟨xb, 0, none⟩)]] x.w (Ret L (.int .i64 (ixOf g.mg (ms.map GM.mg) 0))) := by
  have hl : ms.length = n := by simpa using h.1
  rcases h.2 with h0 | ⟨b, o, arr, T, fr, rfl, hb, hrow⟩
  · subst h0
    have : ms = [] := List.eq_nil_of_length_eq_zero hl
    subst this
    exact index63_nil a c xb x
  · haveI : Has L b (.cells arr T fr) := ⟨hU.ok.mem_iff.2 (by simp [hb])⟩
    exact index63_some (F := F) xb b o c n arr T fr g ms (Lib.hid hl) hn2 hg hms hrow x
/-- Is a message in a list? -/
def hasMg (l : List Mg) (g : Mg) : Bool := l.contains g
set_option maxHeartbeats 400000 in
theorem contains56 {F U : Blocks} (xb n c : Nat) (a : Option Addr) (g : GM) (ms : List GM) (all : List Mg) (hall : Hid (ms.map GM.mg = all)) (h : SlIn U a n 6 (ms.map GM.cells)) (hn2 : n ≤ 9223372036854775807) (hg : g.ok F) (hms : ∀ m ∈ ms, m.ok F)
    {L R R2 : Units} [hF : Unit_ L F R] [hU : Unit_ L U R2] [Has L xb (msgO g.r)] (x : St L) :
    Calls Try.prog 56 #[.slice a n c, .func (.func 57) #[] #[.pointer (some ⟨xb, 0, none⟩)]] x.w (Ret L (.bool (hasMg all g.mg))) := by
  have H := Lib.hid h
  have Hg := Lib.hid hg
  have Hm := Lib.hid hms
  clear h hg hms
  go_enter Try.func56, Try.ntmps56
  go_wp2_with (go_at_call 63; refine (index63 (F := F) (U := U) xb n c a g ms H.out hn2 Hg.out Hm.out _).mono ?_; rintro e w' ⟨rfl, y, rfl⟩)
  go_ret
  exact Ret.fin _ (by unfold hasMg; rw [← hall.out, ← ixOf_nonneg g.mg (ms.map GM.mg) 0 (by omega)]; rfl)

def EqfInv (l m : List Mg) (n : Nat) (L : Units) (v : Value) (w : World) : Prop := ∃ k : Nat, k ≤ n ∧ v = .int .i64 k ∧ l.take k = m.take k ∧ ∃ y : St L, w = y.w
set_option maxHeartbeats 1000000 in
theorem equalFunc_some {F : Blocks} (b o c n b' o' c' : Nat) (arr arr' : Array Value) (T T' : TypeId) (fr fr' : Nat × Nat) (ms ms' : List GM) (hn : Hid (ms.length = n)) (hn' : Hid (ms'.length = n)) (hn2 : n ≤ 9223372036854775807) (hms : ∀ m ∈ ms, m.ok F) (hms' : ∀ m ∈ ms', m.ok F)
    (hrow : RowAt arr o 6 (ms.map GM.cells)) (hrow' : RowAt arr' o' 6 (ms'.map GM.cells)) {L R : Units} [hF : Unit_ L F R] [Has L b (.cells arr T fr)] [Has L b' (.cells arr' T' fr')] (x : St L) :
    Calls Try.prog 46 #[.slice (some ⟨b, o, none⟩) n c, .slice (some ⟨b', o', none⟩) n c', .func (.func 34) #[] #[]] x.w (Ret L (.bool (decide (ms.map GM.mg = ms'.map GM.mg)))) := by
  go_enter Try.func46, Try.ntmps46
  go_wp2_with fail
  go_loopw [17] (fun v wr => EqfInv (ms.map GM.mg) (ms'.map GM.mg) n L v wr) (fun v _ => n - (intOf v).toNat)
  case atStart => exact ⟨0, by omega, rfl, rfl, x, rfl⟩
  case round =>
    obtain ⟨k, hk, rfl, ht, y, rfl⟩ := hrel
    have HT := Lib.hid ht
    clear ht
    by_cases hlt : k < n
    · obtain ⟨m, hm⟩ : ∃ m, ms[k]? = some m := ⟨ms[k]'(by rw [hn.out]; exact hlt), List.getElem?_eq_getElem _⟩
      obtain ⟨m', hm'⟩ : ∃ m, ms'[k]? = some m := ⟨ms'[k]'(by rw [hn'.out]; exact hlt), List.getElem?_eq_getElem _⟩
      obtain ⟨c0, c1, c2, c3, c4, c5⟩ := row_msg hrow hm
      obtain ⟨d0, d1, d2, d3, d4, d5⟩ := row_msg hrow' hm'
      have Hm := Lib.hid (hms m (List.mem_of_getElem? hm))
      have Hm' := Lib.hid (hms' m' (List.mem_of_getElem? hm'))
      have HU : Hid ((ms.map GM.mg)[k]? = some m.mg) := Lib.hid (by simp [hm])
      have HV : Hid ((ms'.map GM.mg)[k]? = some m'.mg) := Lib.hid (by simp [hm'])
      clear hm hm' hms hms' hrow hrow'
      by_cases he : m.mg = m'.mg
      · have HE := Lib.hid he
        have hb : decide (m.mg = m'.mg) = true := by simp [he]
        clear he
        go_wp2_with (first | ((with_reducible refine wpList_alloc_st rfl (by simp only [Value.cells]; rfl) ?_); intro nb y) | (go_at_call 34; refine (same_spec (F := F) m m' Hm.out Hm'.out _).mono ?_; rintro e w' ⟨rfl, y, rfl⟩))
        go_roundw
        case rel => exact ⟨k + 1, by omega, by go_num, by rw [List.take_add_one, List.take_add_one, HT.out, HU.out, HV.out, HE.out], St.to _, rfl⟩
        case measure => simp [intOf]; omega
      · have HD : Hid (decide (ms.map GM.mg = ms'.map GM.mg) = false) := Lib.hid (by
          simp only [decide_eq_false_iff_not]
          intro e
          have h1 := HU.out; have h2 := HV.out
          rw [e, h2] at h1
          exact he (Option.some.inj h1).symm)
        have hb : decide (m.mg = m'.mg) = false := by simp [he]
        clear he
        go_wp2_with (first | ((with_reducible refine wpList_alloc_st rfl (by simp only [Value.cells]; rfl) ?_); intro nb y) | (go_at_call 34; refine (same_spec (F := F) m m' Hm.out Hm'.out _).mono ?_; rintro e w' ⟨rfl, y, rfl⟩))
        go_ret
        exact Ret.fin _ (by rw [HD.out]; rfl)
    · have HD : Hid (decide (ms.map GM.mg = ms'.map GM.mg) = true) := Lib.hid (by
        have hkl : k = n := by omega
        have e1 : (ms.map GM.mg).take n = ms.map GM.mg := by rw [← hn.out, show ms.length = (ms.map GM.mg).length by simp, List.take_length]
        have e2 : (ms'.map GM.mg).take n = ms'.map GM.mg := by rw [← hn'.out, show ms'.length = (ms'.map GM.mg).length by simp, List.take_length]
        have := HT.out
        rw [hkl, e1, e2] at this
        simp [this])
      clear hrow hrow' hms hms'
      go_wp2_with fail
      go_ret
      exact Ret.fin _ (by rw [HD.out]; rfl)
set_option maxHeartbeats 400000 in
theorem equalFunc_len (a a' : Option Addr) (n n' c c' : Nat) (hne : n ≠ n') {L : Units} (x : St L) :
    Calls Try.prog 46 #[.slice a n c, .slice a' n' c', .func (.func 34) #[] #[]] x.w (Ret L (.bool false)) := by
  have h1 : ((n : Int) != n') = true := by simp; omega
  go_enter Try.func46, Try.ntmps46
  go_wp2_with fail
  go_ret
  exact Ret.fin _ rfl
set_option maxHeartbeats 400000 in
theorem equalFunc_nil (a a' : Option Addr) (c c' : Nat) {L : Units} (x : St L) :
    Calls Try.prog 46 #[.slice a 0 c, .slice a' 0 c', .func (.func 34) #[] #[]] x.w (Ret L (.bool true)) := by
  go_enter Try.func46, Try.ntmps46
  go_wp2_with fail
  go_loopw [17] (fun v wr => v = .int .i64 0 ∧ ∃ y : St L, wr = y.w) (fun v _ => 0)
  case atStart => exact ⟨rfl, x, rfl⟩
  case round =>
    obtain ⟨rfl, y, rfl⟩ := hrel
    go_wp2_with fail
    go_ret
    exact Ret.fin _ rfl
theorem equalFunc46 {F U U' : Blocks} (a a' : Option Addr) (n n' c c' : Nat) (ms ms' : List GM) (h : SlIn U a n 6 (ms.map GM.cells)) (h' : SlIn U' a' n' 6 (ms'.map GM.cells)) (hn2 : n ≤ 9223372036854775807) (hms : ∀ m ∈ ms, m.ok F) (hms' : ∀ m ∈ ms', m.ok F)
    {L R R2 R3 : Units} [hF : Unit_ L F R] [hU : Unit_ L U R2] [hU' : Unit_ L U' R3] (x : St L) :
    Calls Try.prog 46 #[.slice a n c, .slice a' n' c', .func (.func 34) #[] #[]] x.w (Ret L (.bool (decide (ms.map GM.mg = ms'.map GM.mg)))) := by
  have hl : ms.length = n := by simpa using h.1
  have hl' : ms'.length = n' := by simpa using h'.1
  by_cases hne : n = n'
  · subst hne
    rcases h.2 with h0 | ⟨b, o, arr, T, fr, rfl, hb, hrow⟩
    · subst h0
      have : ms = [] := List.eq_nil_of_length_eq_zero hl
      subst this
      have : ms' = [] := List.eq_nil_of_length_eq_zero hl'
      subst this
      exact equalFunc_nil a a' c c' x
    · rcases h'.2 with h0 | ⟨b', o', arr', T', fr', rfl, hb', hrow'⟩
      · subst h0
        have : ms = [] := List.eq_nil_of_length_eq_zero hl
        subst this
        have : ms' = [] := List.eq_nil_of_length_eq_zero hl'
        subst this
        exact equalFunc_nil _ a' c c' x
      · haveI : Has L b (.cells arr T fr) := ⟨hU.ok.mem_iff.2 (by simp [hb])⟩
        haveI : Has L b' (.cells arr' T' fr') := ⟨hU'.ok.mem_iff.2 (by simp [hb'])⟩
        exact equalFunc_some (F := F) b o c n b' o' c' arr arr' T T' fr fr' ms ms' (Lib.hid hl) (Lib.hid hl') hn2 hms hms' hrow hrow' x
  · have : decide (ms.map GM.mg = ms'.map GM.mg) = false := by
      simp only [decide_eq_false_iff_not]
      intro e
      have := congrArg List.length e
      simp at this
      omega
    rw [this]
    exact equalFunc_len a a' n n' c c' hne x
end Go.Proofs.Ythijlgjfgliinaa
