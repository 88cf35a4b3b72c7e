/- Events, read out of an argument. -/
import Derived.Test.YthijlgjfgliinaaMonW11
import Derived.Test.YthijlgjfgliinaaWT
set_option linter.all false
namespace Go.Proofs.Ythijlgjfgliinaa
open Go.RowKit Go.Deep Go.ChangeShapes Go.WideShapes
set_option maxRecDepth 100000
theorem c39 : Try.prog.cellsOf 39 = 19 := by kernel_rfl
theorem c34 : Try.prog.cellsOf 34 = 6 := by kernel_rfl
theorem c36 : Try.prog.cellsOf 36 = 4 := by kernel_rfl
theorem c30 : Try.prog.cellsOf 30 = 2 := by kernel_rfl
theorem c3 : Try.prog.cellsOf 3 = 1 := by kernel_rfl
theorem c9 : Try.prog.cellsOf 9 = 1 := by kernel_rfl
theorem c28 : Try.prog.cellsOf 28 = 1 := by kernel_rfl
theorem c31 : Try.prog.cellsOf 31 = 1 := by kernel_rfl
theorem c32 : Try.prog.cellsOf 32 = 1 := by kernel_rfl
theorem c37 : Try.prog.cellsOf 37 = 1 := by kernel_rfl
theorem b31 : Try.prog.bytesOf 31 = 4 := by kernel_rfl
section
variable {H : Type} {enc : TypeId × Value → H} {W : World} {base : Nat} {sp : Nat → Bool}
/-- A field of a struct, with what it weighs. -/
theorem trod_field {P : Program} {held : Bool} {fuel : Nat} {t T : TypeId} {k : Nat} {fs : Array Field} {cs : List Value} {x : DataW H × List MemPlace} (ht : P.underlying t = some (.struct fs)) (h : DataW.trod enc P W base sp held fuel t cs = some x) (ck : P.cellsOf T = k) (i off : Nat)
    (hi : (fs[i]?).map (fun f => (f.type, f.offset)) = some (T, off)) :
    ∃ (y : DataW H × List MemPlace) (n : Nat), DataW.trod enc P W base sp held n T ((cs.drop off).take k) = some y ∧ ∀ m ∈ y.1.weights P T, m ∈ x.1.weights P t := by
  obtain ⟨xs, n, _, rfl, hl, hlen, hf⟩ := DataW.trod_struct ht h
  obtain ⟨f, hif, hT⟩ := Option.map_eq_some_iff.1 hi
  clear hi
  simp only [Prod.mk.injEq] at hT
  obtain ⟨rfl, rfl⟩ := hT
  subst ck
  have hlt := (Array.getElem?_eq_some_iff.1 hif).1
  have hx : xs[i]? = some xs[i] := List.getElem?_eq_getElem (by omega)
  refine ⟨xs[i], n, (hf i f hif).trans hx, fun m hm => ?_⟩
  show m ∈ DataW.weights P t (.agg _)
  unfold DataW.weights
  rw [ht]
  refine DataW.weights_mem_each (j := i) (t := f.type) ?_ ?_ m hm
  · rw [List.getElem?_map]; simp [hif]
  · rw [List.getElem?_map, hx]; rfl
theorem trod_i {fuel : Nat} {t : TypeId} {k : IntKind} {v : Value} {y : DataW H × List MemPlace} (ht : Try.prog.underlying t = some (.int k)) (h : DataW.trod enc Try.prog W base sp true fuel t [v] = some y) : ∃ n, v = .int k n := by
  obtain ⟨n, h1, _⟩ := DataW.trod_int ht h
  simp only [List.cons.injEq, and_true] at h1
  exact ⟨n, h1⟩
theorem trod_str {fuel : Nat} {t : TypeId} {v : Value} {y : DataW H × List MemPlace} (ht : Try.prog.underlying t = some .string) (h : DataW.trod enc Try.prog W base sp true fuel t [v] = some y) : ∃ s, v = .string s := by
  obtain ⟨n, h1, _⟩ := DataW.trod_string ht h
  simp only [List.cons.injEq, and_true] at h1
  exact ⟨n, h1⟩
theorem trod_sl {fuel : Nat} {t e : TypeId} {v : Value} {y : DataW H × List MemPlace} (ht : Try.prog.underlying t = some (.slice e)) (h : DataW.trod enc Try.prog W base sp true fuel t [v] = some y) : ∃ a n c, v = .slice a n c := by
  rcases open_slice ht h with ⟨h1, _⟩ | ⟨a, len, cap, _, _, _, _, h1, _⟩ <;>
  · simp only [List.cons.injEq, and_true] at h1
    exact ⟨_, _, _, h1⟩
theorem trod_deps {fuel : Nat} {v : Value} {y : DataW H × List MemPlace} (h : DataW.trod enc Try.prog W base sp true fuel 32 [v] = some y) (hw : ∀ m ∈ y.1.weights Try.prog 32, m ≤ reachBytes) :
    ∃ a n c d, v = .slice a n c ∧ DepsIn (blocksOf W) a n d ∧ n ≤ 35184372088832 := by
  rcases open_ints Try.underlying32 Try.underlying31 c31 h with ⟨h1, rfl⟩ | ⟨a, len, cap, zs, h1, hb, hl, hm, hzl, rfl, hc, _⟩
  · simp only [List.cons.injEq, and_true] at h1
    exact ⟨_, _, _, [], h1, ⟨rfl, .inl rfl⟩, by omega⟩
  · simp only [List.cons.injEq, and_true] at h1
    have hlz : len ≤ zs.length := by rw [hzl]; split <;> omega
    refine ⟨_, _, _, zs.take len, h1, ⟨by simp; omega, ?_⟩, ?_⟩
    · rcases Nat.eq_zero_or_pos len with h0 | hp
      · exact .inl h0
      · right
        have g0 := hc 0 (by omega)
        obtain ⟨b, o, spt⟩ := a
        have hs : spt = none := by simpa [Addr.add] using World.cell?_spot g0
        subst hs
        have : ∃ arr T fr, W.heap[b]? = some (.cells arr T fr) := by
          unfold World.cell? at g0
          simp only [Addr.add] at g0
          cases hh : W.heap[b]? with
          | none => simp [hh] at g0
          | some ob => cases ob <;> simp_all
        obtain ⟨arr, T, fr, hh⟩ := this
        refine ⟨b, o, arr, T, fr, rfl, blocksOf_mem hh, fun i v hv => ?_⟩
        have hi : i < len := by have := (List.getElem?_eq_some_iff.1 hv).1; simp at this; omega
        have g := hc i (by omega)
        rw [add_plain] at g
        unfold World.cell? at g
        simp only [hh] at g
        have hv' : zs.getD i 0 = v := by
          rw [List.getElem?_take, if_pos hi] at hv
          simp [List.getD, hv]
        rw [hv'] at g
        simpa using g
    · have := hw ((len + (zs.length - len)) * 4) (by
        unfold DataW.weights
        rw [Try.underlying32]
        simp [lits, b31, List.length_take, List.length_drop, Nat.min_eq_left hlz])
      unfold reachBytes at this
      omega
theorem trod_event {fuel : Nat} {cs : List Value} {x : DataW H × List MemPlace} (h : DataW.trod enc Try.prog W base sp true fuel 39 cs = some x) (hw : ∀ m ∈ x.1.weights Try.prog 39, m ≤ reachBytes) :
    ∃ (e : Ev) (d : List Int), cs = e.cells ∧ GM.ok (blocksOf W) ⟨e.m, d⟩ := by
  have hl : cs.length = 19 := by
    obtain ⟨_, _, _, _, hl, _⟩ := DataW.trod_struct Try.underlying39 h
    rw [hl, c39]
  match cs, hl with
  | [v0, v1, v2, v3, v4, v5, v6, v7, v8, v9, v10, v11, v12, v13, v14, v15, v16, v17, v18], _ =>
    obtain ⟨y0, n0, f0, _⟩ := trod_field Try.underlying39 h c3 0 0 rfl
    obtain ⟨y1, n1, f1, _⟩ := trod_field Try.underlying39 h c3 1 1 rfl
    obtain ⟨y2, n2, f2, _⟩ := trod_field Try.underlying39 h c30 2 2 rfl
    obtain ⟨y3, n3, f3, _⟩ := trod_field Try.underlying39 h c30 3 4 rfl
    obtain ⟨y4, n4, f4, _⟩ := trod_field Try.underlying39 h c28 4 6 rfl
    obtain ⟨y5, n5, f5, w5⟩ := trod_field Try.underlying39 h c34 5 7 rfl
    obtain ⟨y6, n6, f6, _⟩ := trod_field Try.underlying39 h c36 6 13 rfl
    obtain ⟨y7, n7, f7, _⟩ := trod_field Try.underlying39 h c37 7 17 rfl
    obtain ⟨y8, n8, f8, _⟩ := trod_field Try.underlying39 h c9 8 18 rfl
    obtain ⟨_, _, g20, _⟩ := trod_field Try.underlying30 f2 c28 0 0 rfl
    obtain ⟨_, _, g21, _⟩ := trod_field Try.underlying30 f2 c3 1 1 rfl
    obtain ⟨_, _, g30, _⟩ := trod_field Try.underlying30 f3 c28 0 0 rfl
    obtain ⟨_, _, g31, _⟩ := trod_field Try.underlying30 f3 c3 1 1 rfl
    obtain ⟨_, _, g50, _⟩ := trod_field Try.underlying34 f5 c3 0 0 rfl
    obtain ⟨_, _, g51, _⟩ := trod_field Try.underlying34 f5 c31 1 1 rfl
    obtain ⟨_, _, g52, _⟩ := trod_field Try.underlying34 f5 c28 2 2 rfl
    obtain ⟨_, _, g53, _⟩ := trod_field Try.underlying34 f5 c3 3 3 rfl
    obtain ⟨_, _, g54, w54⟩ := trod_field Try.underlying34 f5 c32 4 4 rfl
    obtain ⟨_, _, g55, _⟩ := trod_field Try.underlying34 f5 c9 5 5 rfl
    obtain ⟨_, _, g60, _⟩ := trod_field Try.underlying36 f6 c28 0 0 rfl
    obtain ⟨_, _, g61, _⟩ := trod_field Try.underlying36 f6 c30 1 1 rfl
    obtain ⟨_, _, g62, _⟩ := trod_field Try.underlying36 f6 c28 2 3 rfl
    obtain ⟨_, _, g610, _⟩ := trod_field Try.underlying30 g61 c28 0 0 rfl
    obtain ⟨_, _, g611, _⟩ := trod_field Try.underlying30 g61 c3 1 1 rfl
    obtain ⟨i0, rfl⟩ := trod_i Try.underlying3 f0
    obtain ⟨i1, rfl⟩ := trod_i Try.underlying3 f1
    obtain ⟨i2, rfl⟩ := trod_i Try.underlying28 g20
    obtain ⟨i3, rfl⟩ := trod_i Try.underlying3 g21
    obtain ⟨i4, rfl⟩ := trod_i Try.underlying28 g30
    obtain ⟨i5, rfl⟩ := trod_i Try.underlying3 g31
    obtain ⟨i6, rfl⟩ := trod_i Try.underlying28 f4
    obtain ⟨i7, rfl⟩ := trod_i Try.underlying3 g50
    obtain ⟨i8, rfl⟩ := trod_i Try.underlying31 g51
    obtain ⟨i9, rfl⟩ := trod_i Try.underlying28 g52
    obtain ⟨i10, rfl⟩ := trod_i Try.underlying3 g53
    obtain ⟨a, n, c, d, rfl, hd, hn⟩ := trod_deps g54 (fun m hm => hw m (w5 m (w54 m hm)))
    obtain ⟨s12, rfl⟩ := trod_str Try.underlying9 g55
    obtain ⟨i13, rfl⟩ := trod_i Try.underlying28 g60
    obtain ⟨i14, rfl⟩ := trod_i Try.underlying28 g610
    obtain ⟨i15, rfl⟩ := trod_i Try.underlying3 g611
    obtain ⟨i16, rfl⟩ := trod_i Try.underlying28 g62
    obtain ⟨a', n', c', rfl⟩ := trod_sl Try.underlying37 f7
    obtain ⟨s18, rfl⟩ := trod_str Try.underlying9 f8
    exact ⟨⟨i0, i1, i2, i3, i4, i5, i6, ⟨i7, i8, i9, i10, a, n, c, s12⟩, i13, i14, i15, i16, a', n', c', s18⟩, d, rfl, hd, hn⟩
instance : Inhabited (Ev × List Int) := ⟨⟨0, 0, 0, 0, 0, 0, 0, ⟨0, 0, 0, 0, none, 0, 0, ByteArray.empty⟩, 0, 0, 0, 0, none, 0, 0, ByteArray.empty⟩, []⟩
/-- Events that an argument holds. -/
theorem trod_events {fuel : Nat} {v : Value} {x : DataW H × List MemPlace} (h : DataW.trod enc Try.prog W base sp true fuel 22 [v] = some x) (hw : ∀ m ∈ x.1.weights Try.prog 22, m ≤ reachBytes) :
    ∃ a n c evs ds, v = .slice a n c ∧ EvsIn (blocksOf W) a n evs ds := by
  rcases open_slice Try.underlying22 h with ⟨h1, rfl⟩ | ⟨a, len, cap, m, n, D, Pl, h1, hb, hl, hm, hmm, rfl, hc⟩
  · simp only [List.cons.injEq, and_true] at h1
    exact ⟨_, _, _, [], [], h1, ⟨rfl, .inl rfl⟩, fun i e h => by simp at h, by omega⟩
  · simp only [List.cons.injEq, and_true] at h1
    have hlm : len ≤ m := by rw [hmm]; split <;> omega
    have each : ∀ i, i < len → ∃ q : Ev × List Int, W.cells? base (a.add (i * 19)) 19 = some q.1.cells ∧ GM.ok (blocksOf W) ⟨q.1.m, q.2⟩ := by
      intro i hi
      obtain ⟨cs', h2, h3⟩ := hc i (by omega)
      rw [c39] at h2
      obtain ⟨e, d, rfl, hd⟩ := trod_event h3 (fun k hk => hw k (by
        unfold DataW.weights
        rw [Try.underlying22]
        refine List.mem_cons_of_mem _ (List.mem_append_left _ ?_)
        have : ∀ (l : List (DataW H)) (d0 : DataW H), d0 ∈ l → k ∈ d0.weights Try.prog 39 → k ∈ DataW.weightsAll Try.prog 39 l := by
          intro l
          induction l with
          | nil => intro d0 h0; cases h0
          | cons d1 l ih =>
            intro d0 h0 hk0
            unfold DataW.weightsAll
            rcases List.mem_cons.1 h0 with rfl | h0
            · exact List.mem_append_left _ hk0
            · exact List.mem_append_right _ (ih d0 h0 hk0)
        exact this _ (D i) (List.mem_map.2 ⟨i, List.mem_range.2 hi, rfl⟩) hk))
      exact ⟨(e, d), h2, hd⟩
    obtain ⟨f, hf⟩ := choose_lt each
    refine ⟨_, _, _, (List.range len).map fun i => (f i).1, (List.range len).map fun i => (f i).2, h1, ⟨by simp, ?_⟩, fun i e he => ?_, by unfold maxLen at hm; omega⟩
    · rcases Nat.eq_zero_or_pos len with h0 | hp
      · exact .inl h0
      · right
        obtain ⟨_, _, g0⟩ := World.cells?_some (hf 0 hp).1
        have g0 := g0 0 (by omega)
        obtain ⟨b, o, spt⟩ := a
        have hs : spt = none := by simpa [Addr.add] using World.cell?_spot (v := .int .i64 (f 0).1.kind) g0
        subst hs
        have : ∃ arr T fr, W.heap[b]? = some (.cells arr T fr) := by
          unfold World.cell? at g0
          simp only [Addr.add, Ev.cells] at g0
          cases hh : W.heap[b]? with
          | none => simp [hh] at g0
          | some ob => cases ob <;> simp_all
        obtain ⟨arr, T, fr, hh⟩ := this
        refine ⟨b, o, arr, T, fr, rfl, blocksOf_mem hh, fun i c hic j v hv => ?_⟩
        simp only [List.map_map, List.getElem?_map] at hic
        obtain ⟨i', hi', rfl⟩ := Option.map_eq_some_iff.1 hic
        have hlt : i < len := by have := (List.getElem?_eq_some_iff.1 hi').1; simpa using this
        have e1 : i' = i := by rw [List.getElem?_range hlt] at hi'; exact (Option.some.inj hi').symm
        subst e1
        obtain ⟨_, hlen, g⟩ := World.cells?_some (hf i' hlt).1
        have hj : j < 19 := by
          have := (List.getElem?_eq_some_iff.1 hv).1
          simp only [Function.comp] at this
          omega
        have g := g j hj
        rw [add_plain, add_plain] at g
        unfold World.cell? at g
        simp only [hh] at g
        simp only [Function.comp] at hv
        rw [hv] at g
        simpa using g
    · obtain ⟨i', hi', rfl⟩ := Option.map_eq_some_iff.1 ((List.getElem?_map).symm.trans he)
      have hlt : i < len := by have := (List.getElem?_eq_some_iff.1 hi').1; simpa using this
      have e1 : i' = i := by rw [List.getElem?_range hlt] at hi'; exact (Option.some.inj hi').symm
      subst e1
      exact ⟨(f i').2, by simp [hlt], (hf i' hlt).2⟩
end
end Go.Proofs.Ythijlgjfgliinaa
