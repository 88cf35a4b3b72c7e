/- The monitor's helpers: copies, rows, comparisons of messages. -/
import Derived.Test.YthijlgjfgliinaaSmall
import Derived.Test.YthijlgjfgliinaaRow
import Derived.WalkSpells
set_option linter.all false
namespace Go.Proofs.Ythijlgjfgliinaa
open Go.RowKit
variable [Env]
set_option maxRecDepth 100000

theorem Try.info31 : (Try.prog.info? 31).map (fun i => (i.zero, i.size, i.bytes)) = some (some (.int .u32 0), 1, 4) := by kernel_rfl

/-- A copy of a row of numbers, in a place of its own. -/
def CloneRet (F : Blocks) (R : Units) (n : Nat) (l : List Int) (e : Ending) (w' : World) : Prop :=
  ∃ a' c' F', e = .returned (.slice a' n c') ∧ DepsIn F' a' n l ∧ F ⊆ F' ∧ ∃ y : St (F' :: R), w' = y.w
theorem one_flatten (l : List Int) : (l.map fun v => [Value.int .u32 v]).flatten = l.map (Value.int .u32) := by
  induction l with
  | nil => rfl
  | cons a l ih => simp [ih]
theorem _root_.Go.SlIn.mono {U V : Blocks} {a : Option Addr} {n s : Nat} {els : List (List Value)} (h : SlIn U a n s els) (hs : U ⊆ V) : SlIn V a n s els := by
  refine ⟨h.1, ?_⟩
  rcases h.2 with h0 | ⟨b, o, arr, T, fr, ha, hb, hr⟩
  · exact .inl h0
  · exact .inr ⟨b, o, arr, T, fr, ha, hs hb, hr⟩
theorem DepsIn.mono {U V : Blocks} {a : Option Addr} {n : Nat} {l : List Int} (h : DepsIn U a n l) (hs : U ⊆ V) : DepsIn V a n l := by
  refine ⟨h.1, ?_⟩
  rcases h.2 with h0 | ⟨b, o, arr, T, fr, ha, hb, hr⟩
  · exact .inl h0
  · exact .inr ⟨b, o, arr, T, fr, ha, hs hb, hr⟩
theorem depsIn_of_sl {U : Blocks} {a : Option Addr} {n : Nat} {l : List Int} (h : SlIn U a n 1 (l.map fun v => [Value.int .u32 v])) : DepsIn U a n l := by
  refine ⟨by simpa using h.1, ?_⟩
  rcases h.2 with h0 | ⟨b, o, arr, T, fr, ha, hb, hr⟩
  · exact .inl h0
  · refine .inr ⟨b, o, arr, T, fr, ha, hb, fun i v hv => ?_⟩
    have := hr i [.int .u32 v] (by simp [hv]) 0 _ rfl
    simpa using this
theorem sl_of_depsIn {U : Blocks} {a : Option Addr} {n : Nat} {l : List Int} (h : DepsIn U a n l) : SlIn U a n 1 (l.map fun v => [Value.int .u32 v]) := by
  refine ⟨by simpa using h.1, ?_⟩
  rcases h.2 with h0 | ⟨b, o, arr, T, fr, ha, hb2, hu⟩
  · exact .inl h0
  · refine .inr ⟨b, o, arr, T, fr, ha, hb2, ?_⟩
    intro i c hc j v hv
    rw [List.getElem?_map] at hc
    obtain ⟨w, hw, rfl⟩ := Option.map_eq_some_iff.1 hc
    have hj : j = 0 := by have := (List.getElem?_eq_some_iff.1 hv).1; simp at this; exact this
    subst hj
    simp only [List.getElem?_cons_zero, Option.some.injEq] at hv
    subst hv
    simpa using hu i w hw
set_option maxHeartbeats 1000000 in
theorem clone15 {F : Blocks} (a : Option Addr) (n c : Nat) (l : List Int) (h : DepsIn F a n l) (hb : n * 4 ≤ 140737488355328) {L R : Units} [hF : Unit_ L F R] (x : St L) :
    Calls Try.prog 15 #[.slice a n c] x.w (CloneRet F R n l) := by
  obtain ⟨i0, hi, hz0, hz1, hz2⟩ := info_parts Try.info31
  have H := Lib.hid h
  clear h
  have heq := fun (w : World) (a : Option Addr) (n c : Nat) => Lib.run_eql_slice_nil (P := Try.prog) w 32 31 a n c 0 0 Try.underlying32
  cases a with
  | none =>
    have h0 : n = 0 := by
      rcases H.out.2 with h | ⟨b, o, arr, T, fr, h, _⟩
      · exact h
      · cases h
    go_enter Try.func15, Try.ntmps15
    go_wp2
    go_ret
    refine ⟨none, 0, F, ?_, H.out, List.Subset.refl _, x.re hF.ok, rfl⟩
    subst h0
    rfl
  | some a =>
    have hsl := sl_of_depsIn H.out
    go_enter Try.func15, Try.ntmps15
    go_wp2_with (first | ((with_reducible refine wpList_buildSlice_st (by intro w; simp [go_sem]; rfl) ?_); intro nb y; haveI hu0 : Unit_ ([(nb, Obj.cells #[] 31)] :: L) (Row.u ⟨some nb, 0, #[]⟩ 31) L := ⟨Eqv.refl _⟩) | (at_builtin; refine wpList_append_sl (P := Try.prog) ⟨some nb, 0, #[]⟩ [] (l.map fun v => [Value.int .u32 v]) 1 4 31 i0 (.int .u32 0) Try.underlying32 hi hz0 hz1 hz2 rfl F (some a) n c rfl rfl ?ok ?nl hsl ?one ?byt ?le ?k))
    case ok => exact ⟨fun h => (by cases h), by simp, fun _ => rfl, fun _ => Nat.le_refl _, fun _ => rfl⟩
    case nl => intro c hc; obtain ⟨v, _, rfl⟩ := List.mem_map.1 hc; rfl
    case one => intro u hu; rw [one_flatten] at hu; obtain ⟨v, _, rfl⟩ := List.mem_map.1 hu; rfl
    case byt => simpa using hb
    case le => simp; omega
    case k =>
      intro r' z hok
      go_wp2
      go_ret
      obtain ⟨a', c', hv, hs⟩ := r'.val_slice hok 31
      have he : ([] ++ l.map fun v => [Value.int .u32 v]).length = n := by simpa using H.out.1
      rw [he] at hv hs
      have hu : Eqv (r'.u 31 :: L) ((r'.u 31 ++ F) :: R) := (hF.ok.cons _).trans (Eqv.split _ _ _).symm
      refine ⟨a', c', r'.u 31 ++ F, ?_, depsIn_of_sl (hs.mono (List.subset_append_left _ _)), List.subset_append_right _ _, z.re hu, rfl⟩
      rw [← hv]
      rfl

/-- A message, as the laws see it. -/
structure Mg where
  frm : Int
  seq : Int
  stamp : Int
  svc : Int
  deps : List Int
  pay : List UInt8
deriving DecidableEq
/-- A message that lies somewhere: its cells, and its Deps. -/
structure GM where
  r : RM
  d : List Int
def GM.mg (g : GM) : Mg := ⟨g.r.frm, g.r.seq, g.r.stamp, g.r.svc, g.d, g.r.pay.toList⟩
def GM.ok (F : Blocks) (g : GM) : Prop := DepsIn F g.r.da g.r.dn g.d ∧ g.r.dn ≤ 35184372088832
def GM.cells (g : GM) : List Value := g.r.cells
theorem GM.ok.mono {U V : Blocks} {g : GM} (h : g.ok U) (hs : U ⊆ V) : g.ok V := ⟨h.1.mono hs, h.2⟩
theorem sameB_mg (a b : GM) : sameB a.r b.r a.d b.d = decide (a.mg = b.mg) := by
  rw [Bool.eq_iff_iff]
  simp only [sameB, Bool.and_eq_true, beq_iff_eq, decide_eq_true_eq, GM.mg, Mg.mk.injEq]
  constructor
  · rintro ⟨h1, h2, h3, h4, h5, h6⟩; exact ⟨h1, h2, h3, h4, h6, h5⟩
  · rintro ⟨h1, h2, h3, h4, h6, h5⟩; exact ⟨h1, h2, h3, h4, h5, h6⟩
theorem same_spec {F : Blocks} (a b : GM) (ha : a.ok F) (hb : b.ok F) {L R : Units} [hF : Unit_ L F R] (x : St L) :
    Calls Try.prog 34 #[.agg #[.int .i64 a.r.frm, .int .u32 a.r.seq, .int .u64 a.r.stamp, .int .i64 a.r.svc, .slice a.r.da a.r.dn a.r.dc, .string a.r.pay],
      .agg #[.int .i64 b.r.frm, .int .u32 b.r.seq, .int .u64 b.r.stamp, .int .i64 b.r.svc, .slice b.r.da b.r.dn b.r.dc, .string b.r.pay]] x.w (Ret L (.bool (decide (a.mg = b.mg)))) := by
  rw [← sameB_mg]
  exact same34 (F := F) a.r b.r a.d b.d ha.1 hb.1 (by have := ha.2; omega) x

/-- The cells of a message in a row. -/
theorem row_msg {arr : Array Value} {o k : Nat} {ms : List GM} {g : GM} (h : RowAt arr o 6 (ms.map GM.cells)) (hk : ms[k]? = some g) :
    arr[o + k * 6]? = some (.int .i64 g.r.frm) ∧ arr[o + k * 6 + 1]? = some (.int .u32 g.r.seq) ∧ arr[o + k * 6 + 2]? = some (.int .u64 g.r.stamp) ∧
    arr[o + k * 6 + 3]? = some (.int .i64 g.r.svc) ∧ arr[o + k * 6 + 4]? = some (.slice g.r.da g.r.dn g.r.dc) ∧ arr[o + k * 6 + 5]? = some (.string g.r.pay) := by
  have hr := fun j v => h k g.cells (by simp [hk]) j v
  exact ⟨hr 0 _ rfl, hr 1 _ rfl, hr 2 _ rfl, hr 3 _ rfl, hr 4 _ rfl, hr 5 _ rfl⟩

set_option maxHeartbeats 1000000 in
/-- The closure of owes: is it the message? -/
theorem same57 {F : Blocks} (xb : Nat) (g q : GM) (hg : g.ok F) (hy : q.ok F) {L R : Units} [hF : Unit_ L F R] [Has L xb (.cells #[.int .i64 g.r.frm, .int .u32 g.r.seq, .int .u64 g.r.stamp, .int .i64 g.r.svc, .slice g.r.da g.r.dn g.r.dc, .string g.r.pay] 34)] (x : St L) :
    Calls Try.prog 57 #[.agg #[.int .i64 q.r.frm, .int .u32 q.r.seq, .int .u64 q.r.stamp, .int .i64 q.r.svc, .slice q.r.da q.r.dn q.r.dc, .string q.r.pay], .pointer (some ⟨xb, 0, none⟩)] x.w (Ret L (.bool (decide (g.mg = q.mg)))) := by
  have Hg := Lib.hid hg
  have Hy := Lib.hid hy
  clear hg hy
  go_enter Try.func57, Try.ntmps57
  go_wp2_with (first | ((with_reducible refine wpList_box_st (by simp [go_sem]; rfl) ?_); intro nb y) | (go_at_call 34; refine (same_spec (F := F) g q Hg.out Hy.out _).mono ?_; rintro e w' ⟨rfl, y, rfl⟩))
  go_ret
  exact Ret.fin _ rfl

/-- Where a message stands first. -/
def ixOf (g : Mg) : List Mg → Int → Int
  | [], _ => -1
  | m :: l, i => if g = m then i else ixOf g l (i + 1)
theorem ixOf_nonneg (g : Mg) : ∀ (l : List Mg) (i : Int), 0 ≤ i → decide (0 ≤ ixOf g l i) = l.contains g
  | [], i, _ => by simp [ixOf]
  | m :: l, i, h => by
    by_cases e : g = m
    · simp [ixOf, e, h]
    · simp only [ixOf, if_neg e]
      rw [ixOf_nonneg g l (i + 1) (by omega)]
      simp [e]
def IxInv (g : Mg) (ms : List Mg) (n : Nat) (L : Units) (v : Value) (w : World) : Prop := ∃ k : Nat, k ≤ n ∧ v = .int .i64 k ∧ ixOf g ms 0 = ixOf g (ms.drop k) k ∧ ∃ y : St L, w = y.w
set_option maxHeartbeats 1000000 in
theorem index63_some {F : Blocks} (xb b o c n : Nat) (arr : Array Value) (T : TypeId) (fr : Nat × Nat) (g : GM) (ms : List GM) (hn : Hid (ms.length = n)) (hn2 : n ≤ 9223372036854775807) (hg : g.ok F) (hms : ∀ m ∈ ms, m.ok F) (hrow : RowAt arr o 6 (ms.map GM.cells))
    {L R : Units} [hF : Unit_ L F R] [Has L b (.cells arr T fr)] [Has L xb (.cells #[.int .i64 g.r.frm, .int .u32 g.r.seq, .int .u64 g.r.stamp, .int .i64 g.r.svc, .slice g.r.da g.r.dn g.r.dc, .string g.r.pay] 34)] (x : St L) :
    Calls Try.prog 63 #[.slice (some ⟨b, o, none⟩) n c, .func (.func 57) #[] #[.pointer (some ⟨xb, 0, none⟩)]] x.w (Ret L (.int .i64 (ixOf g.mg (ms.map GM.mg) 0))) := by
  have Hg := Lib.hid hg
  clear hg
  go_enter Try.func63, Try.ntmps63
  go_wp2_with fail
  go_loopw [8] (fun v wr => IxInv g.mg (ms.map GM.mg) n L v wr) (fun v _ => n - (intOf v).toNat)
  case atStart => exact ⟨0, by omega, rfl, rfl, x, rfl⟩
  case round =>
    obtain ⟨k, hk, rfl, hix, y, rfl⟩ := hrel
    by_cases hlt : k < n
    · obtain ⟨m, hm⟩ : ∃ m, ms[k]? = some m := ⟨ms[k]'(by rw [hn.out]; exact hlt), List.getElem?_eq_getElem _⟩
      obtain ⟨c0, c1, c2, c3, c4, c5⟩ := row_msg hrow hm
      have Hm := Lib.hid (hms m (List.mem_of_getElem? hm))
      have hd : (ms.map GM.mg).drop k = m.mg :: (ms.map GM.mg).drop (k + 1) := by
        have h1 : (ms.map GM.mg)[k]? = some m.mg := by simp [hm]
        obtain ⟨h2, h3⟩ := List.getElem?_eq_some_iff.1 h1
        rw [List.drop_eq_getElem_cons h2, h3]
      rw [hd, ixOf] at hix
      have HI := Lib.hid hix
      clear hix hd hm hms hrow
      by_cases he : g.mg = m.mg
      · have HE := Lib.hid he
        have hb : decide (g.mg = m.mg) = true := by simp [he]
        clear he
        go_wp2_with (go_at_call 57; refine (same57 (F := F) xb g m Hg.out Hm.out _).mono ?_; rintro e w' ⟨rfl, y, rfl⟩)
        go_ret
        exact Ret.fin _ (by rw [HI.out, if_pos HE.out]; rfl)
      · have HE := Lib.hid he
        have hb : decide (g.mg = m.mg) = false := by simp [he]
        clear he
        go_wp2_with (go_at_call 57; refine (same57 (F := F) xb g m Hg.out Hm.out _).mono ?_; rintro e w' ⟨rfl, y, rfl⟩)
        go_roundw
        case rel => exact ⟨k + 1, by omega, by go_num, by rw [HI.out, if_neg HE.out]; rfl, _, rfl⟩
        case measure => simp [intOf]; omega
    · have hkn : k = n := by omega
      subst hkn
      have HI := Lib.hid hix
      clear hix hrow hms
      go_wp2_with fail
      go_ret
      exact Ret.fin _ (by rw [HI.out, ← hn.out, show ms.length = (ms.map GM.mg).length by simp, List.drop_length]; rfl)
end Go.Proofs.Ythijlgjfgliinaa
