/- Part 19 of the proof of what MonJudges says. -/
import Derived.Test.YthijlgjfgliinaaJg18
section
/- Events, read out of an argument. -/
set_option linter.all false
namespace Go.Proofs.Ythijlgjfgliinaa
open Go.RowKit Go.Deep Go.ChangeShapes Go.WideShapes
set_option maxRecDepth 100000
theorem c39 : Try.prog.cellsOf 39 = 19 := by kernel_rfl
theorem c34 : Try.prog.cellsOf 34 = 6 := by kernel_rfl
theorem c36 : Try.prog.cellsOf 36 = 4 := by kernel_rfl
theorem c30 : Try.prog.cellsOf 30 = 2 := by kernel_rfl
theorem c3 : Try.prog.cellsOf 3 = 1 := by kernel_rfl
theorem c9 : Try.prog.cellsOf 9 = 1 := by kernel_rfl
theorem c28 : Try.prog.cellsOf 28 = 1 := by kernel_rfl
theorem c31 : Try.prog.cellsOf 31 = 1 := by kernel_rfl
theorem c32 : Try.prog.cellsOf 32 = 1 := by kernel_rfl
theorem c37 : Try.prog.cellsOf 37 = 1 := by kernel_rfl
theorem b31 : Try.prog.bytesOf 31 = 4 := by kernel_rfl
section
variable {H : Type} {enc : TypeId × Value → H} {W : World} {base : Nat} {sp : Nat → Bool}
/-- A field of a struct, with what it weighs. -/
theorem trod_field {P : Program} {held : Bool} {fuel : Nat} {t T : TypeId} {k : Nat} {fs : Array Field} {cs : List Value} {x : DataW H × List MemPlace} (ht : P.underlying t = some (.struct fs)) (h : DataW.trod enc P W base sp held fuel t cs = some x) (ck : P.cellsOf T = k) (i off : Nat)
    (hi : (fs[i]?).map (fun f => (f.type, f.offset)) = some (T, off)) :
    ∃ (y : DataW H × List MemPlace) (n : Nat), DataW.trod enc P W base sp held n T ((cs.drop off).take k) = some y ∧ ∀ m ∈ y.1.weights P T, m ∈ x.1.weights P t := by
  obtain ⟨xs, n, _, rfl, hl, hlen, hf⟩ := DataW.trod_struct ht h
  obtain ⟨f, hif, hT⟩ := Option.map_eq_some_iff.1 hi
  clear hi
  simp only [Prod.mk.injEq] at hT
  obtain ⟨rfl, rfl⟩ := hT
  subst ck
  have hlt := (Array.getElem?_eq_some_iff.1 hif).1
  have hx : xs[i]? = some xs[i] := List.getElem?_eq_getElem (by omega)
  refine ⟨xs[i], n, (hf i f hif).trans hx, fun m hm => ?_⟩
  show m ∈ DataW.weights P t (.agg _)
  unfold DataW.weights
  rw [ht]
  refine DataW.weights_mem_each (j := i) (t := f.type) ?_ ?_ m hm
  · rw [List.getElem?_map]; simp [hif]
  · rw [List.getElem?_map, hx]; rfl
theorem trod_i {fuel : Nat} {t : TypeId} {k : IntKind} {v : Value} {y : DataW H × List MemPlace} (ht : Try.prog.underlying t = some (.int k)) (h : DataW.trod enc Try.prog W base sp true fuel t [v] = some y) : ∃ n, v = .int k n := by
  obtain ⟨n, h1, _⟩ := DataW.trod_int ht h
  simp only [List.cons.injEq, and_true] at h1
  exact ⟨n, h1⟩
theorem trod_str {fuel : Nat} {t : TypeId} {v : Value} {y : DataW H × List MemPlace} (ht : Try.prog.underlying t = some .string) (h : DataW.trod enc Try.prog W base sp true fuel t [v] = some y) : ∃ s, v = .string s := by
  obtain ⟨n, h1, _⟩ := DataW.trod_string ht h
  simp only [List.cons.injEq, and_true] at h1
  exact ⟨n, h1⟩
theorem trod_sl {fuel : Nat} {t e : TypeId} {v : Value} {y : DataW H × List MemPlace} (ht : Try.prog.underlying t = some (.slice e)) (h : DataW.trod enc Try.prog W base sp true fuel t [v] = some y) : ∃ a n c, v = .slice a n c := by
  rcases open_slice ht h with ⟨h1, _⟩ | ⟨a, len, cap, _, _, _, _, h1, _⟩ <;>
  · simp only [List.cons.injEq, and_true] at h1
    exact ⟨_, _, _, h1⟩
theorem trod_deps {fuel : Nat} {v : Value} {y : DataW H × List MemPlace} (h : DataW.trod enc Try.prog W base sp true fuel 32 [v] = some y) (hw : ∀ m ∈ y.1.weights Try.prog 32, m ≤ reachBytes) :
    ∃ a n c d, v = .slice a n c ∧ DepsIn (blocksOf W) a n d ∧ n ≤ 35184372088832 := by
  rcases open_ints Try.underlying32 Try.underlying31 c31 h with ⟨h1, rfl⟩ | ⟨a, len, cap, zs, h1, hb, hl, hm, hzl, rfl, hc, _⟩
  · simp only [List.cons.injEq, and_true] at h1
    exact ⟨_, _, _, [], h1, ⟨rfl, .inl rfl⟩, by omega⟩
  · simp only [List.cons.injEq, and_true] at h1
    have hlz : len ≤ zs.length := by rw [hzl]; split <;> omega
    refine ⟨_, _, _, zs.take len, h1, ⟨by simp; omega, ?_⟩, ?_⟩
    · rcases Nat.eq_zero_or_pos len with h0 | hp
      · exact .inl h0
      · right
        have g0 := hc 0 (by omega)
        obtain ⟨b, o, spt⟩ := a
        have hs : spt = none := by simpa [Addr.add] using World.cell?_spot g0
        subst hs
        have : ∃ arr T fr, W.heap[b]? = some (.cells arr T fr) := by
          unfold World.cell? at g0
          simp only [Addr.add] at g0
          cases hh : W.heap[b]? with
          | none => simp [hh] at g0
          | some ob => cases ob <;> simp_all
        obtain ⟨arr, T, fr, hh⟩ := this
        refine ⟨b, o, arr, T, fr, rfl, blocksOf_mem hh, fun i v hv => ?_⟩
        have hi : i < len := by have := (List.getElem?_eq_some_iff.1 hv).1; simp at this; omega
        have g := hc i (by omega)
        rw [add_plain] at g
        unfold World.cell? at g
        simp only [hh] at g
        have hv' : zs.getD i 0 = v := by
          rw [List.getElem?_take, if_pos hi] at hv
          simp [List.getD, hv]
        rw [hv'] at g
        simpa using g
    · have := hw ((len + (zs.length - len)) * 4) (by
        unfold DataW.weights
        rw [Try.underlying32]
        simp [lits, b31, List.length_take, List.length_drop, Nat.min_eq_left hlz])
      unfold reachBytes at this
      omega
theorem trod_event {fuel : Nat} {cs : List Value} {x : DataW H × List MemPlace} (h : DataW.trod enc Try.prog W base sp true fuel 39 cs = some x) (hw : ∀ m ∈ x.1.weights Try.prog 39, m ≤ reachBytes) :
    ∃ (e : Ev) (d : List Int), cs = e.cells ∧ GM.ok (blocksOf W) ⟨e.m, d⟩ := by
  have hl : cs.length = 19 := by
    obtain ⟨_, _, _, _, hl, _⟩ := DataW.trod_struct Try.underlying39 h
    rw [hl, c39]
  match cs, hl with
  | [v0, v1, v2, v3, v4, v5, v6, v7, v8, v9, v10, v11, v12, v13, v14, v15, v16, v17, v18], _ =>
    obtain ⟨y0, n0, f0, _⟩ := trod_field Try.underlying39 h c3 0 0 rfl
    obtain ⟨y1, n1, f1, _⟩ := trod_field Try.underlying39 h c3 1 1 rfl
    obtain ⟨y2, n2, f2, _⟩ := trod_field Try.underlying39 h c30 2 2 rfl
    obtain ⟨y3, n3, f3, _⟩ := trod_field Try.underlying39 h c30 3 4 rfl
    obtain ⟨y4, n4, f4, _⟩ := trod_field Try.underlying39 h c28 4 6 rfl
    obtain ⟨y5, n5, f5, w5⟩ := trod_field Try.underlying39 h c34 5 7 rfl
    obtain ⟨y6, n6, f6, _⟩ := trod_field Try.underlying39 h c36 6 13 rfl
    obtain ⟨y7, n7, f7, _⟩ := trod_field Try.underlying39 h c37 7 17 rfl
    obtain ⟨y8, n8, f8, _⟩ := trod_field Try.underlying39 h c9 8 18 rfl
    obtain ⟨_, _, g20, _⟩ := trod_field Try.underlying30 f2 c28 0 0 rfl
    obtain ⟨_, _, g21, _⟩ := trod_field Try.underlying30 f2 c3 1 1 rfl
    obtain ⟨_, _, g30, _⟩ := trod_field Try.underlying30 f3 c28 0 0 rfl
    obtain ⟨_, _, g31, _⟩ := trod_field Try.underlying30 f3 c3 1 1 rfl
    obtain ⟨_, _, g50, _⟩ := trod_field Try.underlying34 f5 c3 0 0 rfl
    obtain ⟨_, _, g51, _⟩ := trod_field Try.underlying34 f5 c31 1 1 rfl
    obtain ⟨_, _, g52, _⟩ := trod_field Try.underlying34 f5 c28 2 2 rfl
    obtain ⟨_, _, g53, _⟩ := trod_field Try.underlying34 f5 c3 3 3 rfl
    obtain ⟨_, _, g54, w54⟩ := trod_field Try.underlying34 f5 c32 4 4 rfl
    obtain ⟨_, _, g55, _⟩ := trod_field Try.underlying34 f5 c9 5 5 rfl
    obtain ⟨_, _, g60, _⟩ := trod_field Try.underlying36 f6 c28 0 0 rfl
    obtain ⟨_, _, g61, _⟩ := trod_field Try.underlying36 f6 c30 1 1 rfl
    obtain ⟨_, _, g62, _⟩ := trod_field Try.underlying36 f6 c28 2 3 rfl
    obtain ⟨_, _, g610, _⟩ := trod_field Try.underlying30 g61 c28 0 0 rfl
    obtain ⟨_, _, g611, _⟩ := trod_field Try.underlying30 g61 c3 1 1 rfl
    obtain ⟨i0, rfl⟩ := trod_i Try.underlying3 f0
    obtain ⟨i1, rfl⟩ := trod_i Try.underlying3 f1
    obtain ⟨i2, rfl⟩ := trod_i Try.underlying28 g20
    obtain ⟨i3, rfl⟩ := trod_i Try.underlying3 g21
    obtain ⟨i4, rfl⟩ := trod_i Try.underlying28 g30
    obtain ⟨i5, rfl⟩ := trod_i Try.underlying3 g31
    obtain ⟨i6, rfl⟩ := trod_i Try.underlying28 f4
    obtain ⟨i7, rfl⟩ := trod_i Try.underlying3 g50
    obtain ⟨i8, rfl⟩ := trod_i Try.underlying31 g51
    obtain ⟨i9, rfl⟩ := trod_i Try.underlying28 g52
    obtain ⟨i10, rfl⟩ := trod_i Try.underlying3 g53
    obtain ⟨a, n, c, d, rfl, hd, hn⟩ := trod_deps g54 (fun m hm => hw m (w5 m (w54 m hm)))
    obtain ⟨s12, rfl⟩ := trod_str Try.underlying9 g55
    obtain ⟨i13, rfl⟩ := trod_i Try.underlying28 g60
    obtain ⟨i14, rfl⟩ := trod_i Try.underlying28 g610
    obtain ⟨i15, rfl⟩ := trod_i Try.underlying3 g611
    obtain ⟨i16, rfl⟩ := trod_i Try.underlying28 g62
    obtain ⟨a', n', c', rfl⟩ := trod_sl Try.underlying37 f7
    obtain ⟨s18, rfl⟩ := trod_str Try.underlying9 f8
    exact ⟨⟨i0, i1, i2, i3, i4, i5, i6, ⟨i7, i8, i9, i10, a, n, c, s12⟩, i13, i14, i15, i16, a', n', c', s18⟩, d, rfl, hd, hn⟩
instance : Inhabited (Ev × List Int) := ⟨⟨0, 0, 0, 0, 0, 0, 0, ⟨0, 0, 0, 0, none, 0, 0, ByteArray.empty⟩, 0, 0, 0, 0, none, 0, 0, ByteArray.empty⟩, []⟩
/-- Events that an argument holds. -/
theorem trod_events {fuel : Nat} {v : Value} {x : DataW H × List MemPlace} (h : DataW.trod enc Try.prog W base sp true fuel 22 [v] = some x) (hw : ∀ m ∈ x.1.weights Try.prog 22, m ≤ reachBytes) :
    ∃ a n c evs ds, v = .slice a n c ∧ EvsIn (blocksOf W) a n evs ds := by
  rcases open_slice Try.underlying22 h with ⟨h1, rfl⟩ | ⟨a, len, cap, m, n, D, Pl, h1, hb, hl, hm, hmm, rfl, hc⟩
  · simp only [List.cons.injEq, and_true] at h1
    exact ⟨_, _, _, [], [], h1, ⟨rfl, .inl rfl⟩, fun i e h => by simp at h, by omega⟩
  · simp only [List.cons.injEq, and_true] at h1
    have hlm : len ≤ m := by rw [hmm]; split <;> omega
    have each : ∀ i, i < len → ∃ q : Ev × List Int, W.cells? base (a.add (i * 19)) 19 = some q.1.cells ∧ GM.ok (blocksOf W) ⟨q.1.m, q.2⟩ := by
      intro i hi
      obtain ⟨cs', h2, h3⟩ := hc i (by omega)
      rw [c39] at h2
      obtain ⟨e, d, rfl, hd⟩ := trod_event h3 (fun k hk => hw k (by
        unfold DataW.weights
        rw [Try.underlying22]
        refine List.mem_cons_of_mem _ (List.mem_append_left _ ?_)
        have : ∀ (l : List (DataW H)) (d0 : DataW H), d0 ∈ l → k ∈ d0.weights Try.prog 39 → k ∈ DataW.weightsAll Try.prog 39 l := by
          intro l
          induction l with
          | nil => intro d0 h0; cases h0
          | cons d1 l ih =>
            intro d0 h0 hk0
            unfold DataW.weightsAll
            rcases List.mem_cons.1 h0 with rfl | h0
            · exact List.mem_append_left _ hk0
            · exact List.mem_append_right _ (ih d0 h0 hk0)
        exact this _ (D i) (List.mem_map.2 ⟨i, List.mem_range.2 hi, rfl⟩) hk))
      exact ⟨(e, d), h2, hd⟩
    obtain ⟨f, hf⟩ := choose_lt each
    refine ⟨_, _, _, (List.range len).map fun i => (f i).1, (List.range len).map fun i => (f i).2, h1, ⟨by simp, ?_⟩, fun i e he => ?_, by unfold maxLen at hm; omega⟩
    · rcases Nat.eq_zero_or_pos len with h0 | hp
      · exact .inl h0
      · right
        obtain ⟨_, _, g0⟩ := World.cells?_some (hf 0 hp).1
        have g0 := g0 0 (by omega)
        obtain ⟨b, o, spt⟩ := a
        have hs : spt = none := by simpa [Addr.add] using World.cell?_spot (v := .int .i64 (f 0).1.kind) g0
        subst hs
        have : ∃ arr T fr, W.heap[b]? = some (.cells arr T fr) := by
          unfold World.cell? at g0
          simp only [Addr.add, Ev.cells] at g0
          cases hh : W.heap[b]? with
          | none => simp [hh] at g0
          | some ob => cases ob <;> simp_all
        obtain ⟨arr, T, fr, hh⟩ := this
        refine ⟨b, o, arr, T, fr, rfl, blocksOf_mem hh, fun i c hic j v hv => ?_⟩
        simp only [List.map_map, List.getElem?_map] at hic
        obtain ⟨i', hi', rfl⟩ := Option.map_eq_some_iff.1 hic
        have hlt : i < len := by have := (List.getElem?_eq_some_iff.1 hi').1; simpa using this
        have e1 : i' = i := by rw [List.getElem?_range hlt] at hi'; exact (Option.some.inj hi').symm
        subst e1
        obtain ⟨_, hlen, g⟩ := World.cells?_some (hf i' hlt).1
        have hj : j < 19 := by
          have := (List.getElem?_eq_some_iff.1 hv).1
          simp only [Function.comp] at this
          omega
        have g := g j hj
        rw [add_plain, add_plain] at g
        unfold World.cell? at g
        simp only [hh] at g
        simp only [Function.comp] at hv
        rw [hv] at g
        simpa using g
    · obtain ⟨i', hi', rfl⟩ := Option.map_eq_some_iff.1 ((List.getElem?_map).symm.trans he)
      have hlt : i < len := by have := (List.getElem?_eq_some_iff.1 hi').1; simpa using this
      have e1 : i' = i := by rw [List.getElem?_range hlt] at hi'; exact (Option.some.inj hi').symm
      subst e1
      exact ⟨(f i').2, by simp [hlt], (hf i' hlt).2⟩
end
end Go.Proofs.Ythijlgjfgliinaa
end
section
/- What a monitor breaks, event by event, as a list of checks; the least rule that is broken. -/
set_option linter.all false
namespace Go.Proofs.Ythijlgjfgliinaa
open Go.RowKit
variable [Env]
/-- A check: a rule, and whether it is broken. -/
abbrev Ck := Int × Bool
def brks (br : Int) (l : List Ck) : Int := l.foldl (fun b c => brk b c.1 c.2) br
theorem brks_app (br : Int) (l m : List Ck) : brks br (l ++ m) = brks (brks br l) m := by unfold brks; rw [List.foldl_append]
theorem brks_cons (br : Int) (c : Ck) (l : List Ck) : brks br (c :: l) = brks (brk br c.1 c.2) l := rfl
/-- What comes of checks. -/
structure Least (l : List Ck) (br : Int) : Prop where
  zero : br = 0 → ∀ c ∈ l, c.2 = false
  pos : br ≠ 0 → (br, true) ∈ l ∧ 0 < br
  le : ∀ c ∈ l, c.2 = true → br ≤ c.1
theorem Least.nil : Least [] 0 where
  zero _ c h := by cases h
  pos h := absurd rfl h
  le c h := by cases h
theorem Least.snoc {l : List Ck} {br : Int} (h : Least l br) (c : Ck) (hc : 0 < c.1) : Least (l ++ [c]) (brk br c.1 c.2) := by
  obtain ⟨r, b⟩ := c
  simp only at hc ⊢
  unfold Go.Proofs.Ythijlgjfgliinaa.brk
  split
  · rename_i hb
    obtain ⟨rfl, hb⟩ := hb
    refine ⟨fun h0 => by omega, fun _ => ⟨by simp, hc⟩, fun c hcm ht => ?_⟩
    simp only [List.mem_append, List.mem_singleton] at hcm
    rcases hcm with hcm | rfl
    · rcases hb with hb | hb
      · have := h.zero hb c hcm; rw [this] at ht; cases ht
      · have := h.le c hcm ht; omega
    · exact Int.le_refl _
  · rename_i hb
    refine ⟨fun h0 c hcm => ?_, fun h0 => ⟨List.mem_append_left _ (h.pos h0).1, (h.pos h0).2⟩, fun c hcm ht => ?_⟩
    · simp only [List.mem_append, List.mem_singleton] at hcm
      rcases hcm with hcm | rfl
      · exact h.zero h0 c hcm
      · cases b with
        | false => rfl
        | true => exact absurd ⟨rfl, Or.inl h0⟩ hb
    · simp only [List.mem_append, List.mem_singleton] at hcm
      rcases hcm with hcm | rfl
      · exact h.le c hcm ht
      · simp only at ht
        subst ht
        by_cases h0 : br = 0
        · exact absurd ⟨rfl, Or.inl h0⟩ hb
        · have : ¬ r < br := fun h1 => hb ⟨rfl, Or.inr h1⟩
          omega
theorem Least.app {l : List Ck} {br : Int} (h : Least l br) : ∀ (m : List Ck), (∀ c ∈ m, 0 < c.1) → Least (l ++ m) (brks br m)
  | [], _ => by rw [List.append_nil]; exact h
  | c :: m, hm => by
    have h1 := h.snoc c (hm c (by simp))
    have := Least.app h1 m (fun d hd => hm d (by simp [hd]))
    rw [List.append_assoc] at this
    exact this
theorem Least.of (m : List Ck) (hm : ∀ c ∈ m, 0 < c.1) : Least m (brks 0 m) := by
  have := Least.app Least.nil m hm
  simpa using this
/-- Two lists of checks that break the same rules come to the same. -/
theorem Least.eq {l m : List Ck} {a b : Int} (h : Least l a) (h' : Least m b) (hlm : ∀ r, (r, true) ∈ l ↔ (r, true) ∈ m) : a = b := by
  by_cases ha : a = 0
  · by_cases hb : b = 0
    · rw [ha, hb]
    · have := h.zero ha _ ((hlm b).2 (h'.pos hb).1)
      cases this
  · by_cases hb : b = 0
    · have := h'.zero hb _ ((hlm a).1 (h.pos ha).1)
      cases this
    · have h1 := h'.le _ ((hlm a).1 (h.pos ha).1) rfl
      have h2 := h.le _ ((hlm b).2 (h'.pos hb).1) rfl
      omega
/-- If rule 1 is broken it is the one. -/
theorem Least.one {l : List Ck} {a : Int} (h : Least l a) (hp : ∀ c ∈ l, 0 < c.1) (h1 : (1, true) ∈ l) : a = 1 := by
  by_cases ha : a = 0
  · have := h.zero ha _ h1; cases this
  · have h2 := h.le _ h1 rfl
    have h3 := (h.pos ha).2
    omega
/-! What events check -/
def owesCk (has : Bool) (all : List Mg) (l : List Mg) : List Ck := l.map fun x => (6, x.svc == 2 && (has && !hasMg all x))
theorem owes_brks (has : Bool) (all : List Mg) (l : List Mg) (br : Int) : owesB has all br l = brks br (owesCk has all l) := by
  unfold owesB brks owesCk
  rw [List.foldl_map]
  congr 1
  funext b x
  by_cases h1 : x.svc = 2
  · cases has
    · simp [h1, Go.Proofs.Ythijlgjfgliinaa.brk]
    · simp [h1]
  · simp [h1, Go.Proofs.Ythijlgjfgliinaa.brk]
def closeCk (b o : AStay) : List Ck :=
  if o.epoch = b.epoch ∧ o.rep = b.rep then
    owesCk (hasB o.members b.proc) b.all o.p0 ++ ((match o.tr with | some t => owesCk (hasB t.members b.proc) b.all o.p1 | none => []) ++ (if skipB o b then [] else [(5, unlikeB o b)]))
  else []
theorem close_brks (b o : AStay) (br : Int) : closeStep b br o = brks br (closeCk b o) := by
  unfold closeStep closeCk
  split
  · rw [brks_app, brks_app, ← owes_brks]
    simp only
    cases o.tr with
    | none => split <;> rfl
    | some t => simp only [← owes_brks]; split <;> rfl
  · rfl
theorem brks_flat {α : Type} (f : α → List Ck) (g : Int → α → Int) (hg : ∀ b x, g b x = brks b (f x)) : ∀ (l : List α) (br : Int), l.foldl g br = brks br (l.flatMap f)
  | [], _ => rfl
  | x :: l, br => by
    rw [List.foldl_cons, List.flatMap_cons, brks_app, hg]
    exact brks_flat f g hg l _
def twiceCk (e : AEv) (l : List AStay) : List Ck := l.map fun o => (1, atwice e.epoch e.rep e.proc o)
def depsCk (count : Int → Int) : Nat → List Int → List Ck
  | _, [] => []
  | q, n :: l => (4, decide (count q < wrap64 n)) :: depsCk count (q + 1) l
theorem deps_brks (count : Int → Int) : ∀ (l : List Int) (q : Nat) (br : Int), depsB count q l br = brks br (depsCk count q l)
  | [], _, _ => rfl
  | n :: l, q, br => by
    rw [depsB, depsCk, brks_cons]
    exact deps_brks count l (q + 1) _
def lastCk (all : List Mg) (x : Mg) : List Ck := match all.getLast? with
  | some l => [(3, decide (0 ≤ ord2 l.stamp l.frm x.stamp x.frm))]
  | none => []
theorem last_brks (br : Int) (all : List Mg) (x : Mg) : lastB br all x = brks br (lastCk all x) := by
  unfold lastB lastCk
  cases all.getLast? <;> rfl
def tellCk (ep rp mem : Int) (x : Mg) (o : AStay) : List Ck := if (confEq o.epoch o.rep ep rp && o.went) = true then owesCk (hasB mem o.proc) o.all [x] else []
/-- What the monitor checks at an event. -/
def AMon.checks (A : AMon) (e : AEv) : List Ck :=
  if e.kind = 5 ∨ e.kind = 6 then []
  else if e.kind = 3 then
    (1, !A.live e.proc || !hasB e.members e.proc) :: (1, toldB (A.mem (e.epoch, e.rep)) e.members) :: (twiceCk e A.stays ++
      (match (A.now e.proc).bind fun i => (A.stays[i]?).map fun b => (i, b) with
        | none => []
        | some (i, b) => (1, decide (ord2 e.epoch e.rep b.epoch b.rep ≤ 0)) :: (1, aleave b.tr e) :: (A.stays.set i { b with went := true }).flatMap (closeCk { b with went := true })))
  else if e.kind = 1 then [(1, match A.stay e with | some (_, s) => s.tr.isSome | none => true)]
  else if e.kind = 2 then
    (2, (cntMg e.m (A.sends e.place) : Int) != 1) :: (3, A.seen e.had) ::
      (match A.stay e with
        | none => [(1, true)]
        | some (i, s) => (2, !confEq e.nepoch e.nrep s.next.1 s.next.2) :: (lastCk s.all e.m ++ (depsCk s.count 0 e.m.deps ++ (A.stays.set i (s.take e.m)).flatMap (tellCk s.epoch s.rep s.told e.m))))
  else if e.kind = 4 then (match A.stay e with | none => [(1, true)] | some (_, s) => [(1, s.tr.isSome)])
  else []
theorem AMon.act_checks (A : AMon) (e : AEv) : (A.act e).br = brks A.br (A.checks e) := by
  unfold AMon.act AMon.checks
  split
  · rfl
  split
  · unfold AMon.regular
    simp only
    rw [brks_cons, brks_cons, brks_app]
    have ht : ∀ br, brks br (twiceCk e A.stays) = atwiceF e.epoch e.rep e.proc A.stays br := fun br => by
      unfold brks twiceCk atwiceF
      rw [List.foldl_map]
    rw [ht]
    cases ((A.now e.proc).bind fun i => (A.stays[i]?).map fun b => (i, b)) with
    | none => rfl
    | some p =>
      obtain ⟨i, b⟩ := p
      simp only
      rw [brks_cons, brks_cons]
      unfold closeB
      exact brks_flat _ _ (fun br o => close_brks _ o br) _ _
  split
  · rfl
  split
  · unfold AMon.deliver
    simp only
    rw [brks_cons, brks_cons]
    cases A.stay e with
    | none => rfl
    | some p =>
      obtain ⟨i, s⟩ := p
      simp only
      rw [brks_cons, brks_app, brks_app, ← last_brks, ← deps_brks]
      unfold tellB
      refine brks_flat _ _ (fun br o => ?_) _ _
      unfold tellStep tellCk
      split
      · exact owes_brks _ _ _ _
      · rfl
  split
  · unfold AMon.trans
    cases A.stay e with
    | none => rfl
    | some p => rfl
  · rfl
end Go.Proofs.Ythijlgjfgliinaa
end
section
/- The judge: two messages; a rule is broken. -/
set_option linter.all false
namespace Go.Proofs.Ythijlgjfgliinaa
open Go.RowKit
open Go.W
variable [Env]
set_option maxRecDepth 100000
set_option maxHeartbeats 1000000 in
theorem same44 {F : Blocks} (a b : RM) (l m : List Int) (h : DepsIn F a.da a.dn l) (h' : DepsIn F b.da b.dn m) (hn : a.dn ≤ 9223372036854775807) {L R : Units} [hF : Unit_ L F R] (x : St L) :
    Calls Try.prog 44 #[.agg #[.int .i64 a.frm, .int .u32 a.seq, .int .u64 a.stamp, .int .i64 a.svc, .slice a.da a.dn a.dc, .string a.pay],
      .agg #[.int .i64 b.frm, .int .u32 b.seq, .int .u64 b.stamp, .int .i64 b.svc, .slice b.da b.dn b.dc, .string b.pay]] x.w (Ret L (.bool (sameB a b l m))) := by
  have H := Lib.hid h
  have H' := Lib.hid h'
  clear h h'
  cases c0 : (a.frm == b.frm)
  · have HE : Hid (sameB a b l m = false) := Lib.hid (by simp only [sameB, c0, Bool.true_and, Bool.false_and])
    go_enter Try.func44, Try.ntmps44
    go_wp2_with (first | ((with_reducible refine wpList_box_st (by simp [go_sem]; rfl) ?_); intro nb y) | (go_at_call 54; refine (equal_spec (F := F) _ _ _ _ _ _ l m H.out H'.out hn _).mono ?_; rintro e w' ⟨rfl, y, rfl⟩))
    go_ret
    exact Ret.fin _ (by rw [HE.out]; rfl)
  cases c1 : (a.seq == b.seq)
  · have HE : Hid (sameB a b l m = false) := Lib.hid (by simp only [sameB, c0, c1, Bool.true_and, Bool.false_and])
    go_enter Try.func44, Try.ntmps44
    go_wp2_with (first | ((with_reducible refine wpList_box_st (by simp [go_sem]; rfl) ?_); intro nb y) | (go_at_call 54; refine (equal_spec (F := F) _ _ _ _ _ _ l m H.out H'.out hn _).mono ?_; rintro e w' ⟨rfl, y, rfl⟩))
    go_ret
    exact Ret.fin _ (by rw [HE.out]; rfl)
  cases c2 : (a.stamp == b.stamp)
  · have HE : Hid (sameB a b l m = false) := Lib.hid (by simp only [sameB, c0, c1, c2, Bool.true_and, Bool.false_and])
    go_enter Try.func44, Try.ntmps44
    go_wp2_with (first | ((with_reducible refine wpList_box_st (by simp [go_sem]; rfl) ?_); intro nb y) | (go_at_call 54; refine (equal_spec (F := F) _ _ _ _ _ _ l m H.out H'.out hn _).mono ?_; rintro e w' ⟨rfl, y, rfl⟩))
    go_ret
    exact Ret.fin _ (by rw [HE.out]; rfl)
  cases c3 : (a.svc == b.svc)
  · have HE : Hid (sameB a b l m = false) := Lib.hid (by simp only [sameB, c0, c1, c2, c3, Bool.true_and, Bool.false_and])
    go_enter Try.func44, Try.ntmps44
    go_wp2_with (first | ((with_reducible refine wpList_box_st (by simp [go_sem]; rfl) ?_); intro nb y) | (go_at_call 54; refine (equal_spec (F := F) _ _ _ _ _ _ l m H.out H'.out hn _).mono ?_; rintro e w' ⟨rfl, y, rfl⟩))
    go_ret
    exact Ret.fin _ (by rw [HE.out]; rfl)
  cases c4 : (a.pay.toList == b.pay.toList)
  · have HE : Hid (sameB a b l m = false) := Lib.hid (by simp only [sameB, c0, c1, c2, c3, c4, Bool.true_and, Bool.false_and])
    go_enter Try.func44, Try.ntmps44
    go_wp2_with (first | ((with_reducible refine wpList_box_st (by simp [go_sem]; rfl) ?_); intro nb y) | (go_at_call 54; refine (equal_spec (F := F) _ _ _ _ _ _ l m H.out H'.out hn _).mono ?_; rintro e w' ⟨rfl, y, rfl⟩))
    go_ret
    exact Ret.fin _ (by rw [HE.out]; rfl)
  · have HE : Hid (sameB a b l m = decide (l = m)) := Lib.hid (by simp only [sameB, c0, c1, c2, c3, c4, Bool.true_and])
    go_enter Try.func44, Try.ntmps44
    go_wp2_with (first | ((with_reducible refine wpList_box_st (by simp [go_sem]; rfl) ?_); intro nb y) | (go_at_call 54; refine (equal_spec (F := F) _ _ _ _ _ _ l m H.out H'.out hn _).mono ?_; rintro e w' ⟨rfl, y, rfl⟩))
    go_ret
    exact Ret.fin _ (by rw [HE.out]; rfl)
theorem same_spec44 {F : Blocks} (a b : GM) (ha : a.ok F) (hb : b.ok F) {L R : Units} [hF : Unit_ L F R] (x : St L) :
    Calls Try.prog 44 #[.agg #[.int .i64 a.r.frm, .int .u32 a.r.seq, .int .u64 a.r.stamp, .int .i64 a.r.svc, .slice a.r.da a.r.dn a.r.dc, .string a.r.pay],
      .agg #[.int .i64 b.r.frm, .int .u32 b.r.seq, .int .u64 b.r.stamp, .int .i64 b.r.svc, .slice b.r.da b.r.dn b.r.dc, .string b.r.pay]] x.w (Ret L (.bool (decide (a.mg = b.mg)))) := by
  rw [← sameB_mg]
  exact same44 (F := F) a.r b.r a.d b.d ha.1 hb.1 (by have := ha.2; omega) x
/-- The judge's trace, as it lies. -/
abbrev traceO (lv sv : Value) (bb : Nat) (nm : Int) : Obj := .cells #[lv, sv, .map (some bb), .int .i64 nm] 80
/-- A rule is noted. -/
def GMap.bad (g : GMap Int Bool) (r : Int) (c : Bool) : GMap Int Bool := if c then g.put r true else g
theorem GMap.bad_get (g : GMap Int Bool) (r : Int) (c : Bool) (q : Int) : ((GMap.bad g r c).get q).getD false = (((g.get q).getD false) || (q == r && c)) := by
  unfold GMap.bad
  cases c
  · simp
  · simp only [if_true, Bool.and_true]
    rw [GMap.get_put]
    by_cases h : q = r
    · simp [h]
    · simp [h]
theorem upd_bad {L M : Units} (r : Nat) (g : GMap Int Bool) (a : Int) [h : Has L r (g.obj ikey bval)] [Lay L r ((g.put a true).obj ikey bval) M] (x : St L) : (Instr.mapUpdate 51 (.map (some r)) (.int .i64 a) (.bool true)).run Try.prog x.w = .ok () (x.lay r ((g.put a true).obj ikey bval)).w :=
  run_mapUpdate_g (P := Try.prog) KL3 (T := 51) (et := 4) Try.underlying51 g (St.heap (h := h) x) a true
attribute [local irreducible] opsC wpC quietC LoopC DrawC CutC LoadC StoreC ReadC UpdC RunC CallC QCallC EndC thenC inBlockC
theorem breaks45 {t bb : Nat} {lv sv : Value} {nm : Int} {g : GMap Int Bool} (r : Int) (c : Bool) {L R : Units} [hp : Pick L bb (g.obj ikey bval) R] [ht : Has R t (traceO lv sv bb nm)] :
    Does Try.prog 45 #[.pointer (some ⟨t, 0, none⟩), .int .i64 r, .bool c] L (Gives ([(bb, (GMap.bad g r c).obj ikey bval)] :: R) (.tuple #[])) := by
  refine Does.incl (M := [(bb, g.obj ikey bval)] :: R) (Incl.eqv hp.ok) ?_
  cases c
  · refine does_of_wpC (args := [.pointer (some ⟨t, 0, none⟩), .int .i64 r, .bool false]) Try.func45 rfl (by kernel_rfl) ?_
    repeat (first | refine c_seq ?_ | refine c_reg ?_ | refine r_nil ?_ | refine e_n ?_ | refine CutC.go ?_ | refine r_val (by rfl) ?_ | refine c_no (by rfl) (by first | with_reducible assumption | decide) ?_ | refine c_skip ?_ | refine EndC.mk rfl ?_)
    exact Gives.mk rfl (Incl.refl _)
  · refine does_of_wpC (args := [.pointer (some ⟨t, 0, none⟩), .int .i64 r, .bool true]) Try.func45 rfl (by kernel_rfl) ?_
    repeat (first | (refine r_upd (by rfl) (by rfl) (by rfl) ?_; refine UpdC.of (fun x => ⟨_, upd_bad bb g r x⟩) ?_) | refine c_seq ?_ | refine c_reg ?_ | refine r_nil ?_ | refine e_n ?_ | refine CutC.go ?_ | refine r_field0 (by rfl) (by rfl) ?_ | refine r_val (by rfl) ?_ | (refine r_load (by rfl) ?_; refine LoadC.one (by rfl) (by rfl) ?_) | refine c_yes (by rfl) (by first | with_reducible assumption | decide) ?_ | refine EndC.mk rfl ?_)
    exact Gives.mk rfl (Incl.refl _)
end Go.Proofs.Ythijlgjfgliinaa
end
section
/- Maps and slices cloned. -/
set_option linter.all false
namespace Go.Proofs.Ythijlgjfgliinaa
open Go.RowKit
open Go.W
variable [Env]
theorem run_equalIn_map {P : Program} (w : World) (d : Nat) (t k e : TypeId) (p : Nat) (h : P.underlying t = some (.map k e)) :
    (Op.equalIn (d + 1) t (.map (some p)) (.map none)).run P w = .ok false w := by
  simp [Op.equalIn, run_underlying h]
theorem run_eql_map {P : Program} (w : World) (t k e : TypeId) (p : Nat) (h : P.underlying t = some (.map k e)) :
    (binOp .eql t (.map (some p)) (.map none)).run P w = .ok (.bool false) w := by
  simp only [binOp]
  simp [show Op.equal t (.map (some p)) (.map none) = Op.equalIn (9999 + 1) t (.map (some p)) (.map none) from rfl, run_equalIn_map w 9999 t k e p h]
theorem run_clone {P : Program} {w : World} {r : Nat} {es : Array MapEntry} {clock : Nat} (t : TypeId) (hb : w.heap[r]? = some (.map es clock)) :
    (Extern.MapsClone.clone #[.iface t (.map (some r))]).run P w = .ok (.iface t (.map (some w.heap.size))) (w.alloc (.map es clock)) := by
  have e : Extern.MapsClone.clone #[.iface t (.map (some r))] = (getObj r >>= fun o => match o with
      | .map entries clock => (newObj (.map entries clock) >>= fun n => pure (.iface t (.map (some n))))
      | _ => stuck "maps.clone: a map expected") := rfl
  rw [e]
  simp [MapKept.run_getObj_map hb, Result.andThen, go_sem]
/-- A new block, and the map that it is. -/
def NewM (ob : Obj) (L : Units) (en : Ending) (M : Units) : Prop := ∃ nb, Gives ([(nb, ob)] :: L) (.map (some nb)) en M
theorem CallC.newm {P : Program} {g : FuncId} {args : Array Value} {L : Units} {ob : Obj} {K : Value → Units → Prop} {E : List PanicEntry → Units → Prop} (h : Does P g args L (NewM ob L)) (kk : ∀ nb, K (.map (some nb)) ([(nb, ob)] :: L)) : CallC P g args L K E := by
  intro x
  refine (h x).mono ?_
  rintro e w ⟨M, hM, nb, rfl, hgi⟩
  exact ⟨_, hM.incl hgi, kk nb⟩
/-- A row of messages, new. -/
def RowM (els : List (List Value)) (n : Nat) (L : Units) (en : Ending) (M : Units) : Prop := ∃ r : Row, RowOk r 6 els ∧ Gives (r.u 34 :: L) (r.val n) en M
theorem CallC.rowm {P : Program} {g : FuncId} {args : Array Value} {L : Units} {els : List (List Value)} {n : Nat} {K : Value → Units → Prop} {E : List PanicEntry → Units → Prop} (h : Does P g args L (RowM els n L)) (hl : els.length = n)
    (kk : ∀ (r : Row) (a : Option Addr) (c : Nat), RowOk r 6 els → r.val n = .slice a n c → K (.slice a n c) (r.u 34 :: L)) : CallC P g args L K E := by
  intro x
  refine (h x).mono ?_
  rintro e w ⟨M, hM, r, hok, rfl, hgi⟩
  obtain ⟨a, c, hv, _⟩ := r.val_slice hok 34
  rw [hl] at hv
  refine ⟨_, hM.incl hgi, ?_⟩
  rw [hv]
  exact kk r a c hok hv
attribute [local irreducible] opsC wpC quietC LoopC DrawC CutC LoadC StoreC ReadC UpdC RunC CallC QCallC EndC thenC inBlockC
set_option maxRecDepth 100000
theorem clone21 {b : Nat} {es : Array MapEntry} {clk : Nat} {ob : Obj} (hob : ob = .map es clk) {L : Units} [H : Has L b ob] : Does Try.prog 21 #[.map (some b)] L (NewM ob L) := by
  subst hob
  refine does_of_wpC (args := [.map (some b)]) Try.func21 rfl (by kernel_rfl) ?_
  repeat (first | (refine r_eq (by rfl) (by rfl) (by kernel_rfl) (fun x => run_eql_map x.w _ _ _ _ Try.underlying46) ?_) | (refine r_extern (ex := Extern.MapsClone.clone) (v := fun n => .iface 46 (.map (some n))) (ob := .map es clk) Try.func39 (by kernel_rfl) (by kernel_rfl) (by kernel_rfl) (by kernel_rfl) (by rfl) (fun x => run_clone 46 (St.heap (h := H) x)) (fun nb => ?_)) | refine c_seq ?_ | refine c_reg ?_ | refine r_nil ?_ | refine e_n ?_ | refine CutC.go ?_ | refine r_val (by rfl) ?_ | refine c_no (by rfl) (by first | with_reducible assumption | decide) ?_ | refine c_skip ?_ | refine c_ret ?_ | refine EndC.mk rfl ?_)
  exact ⟨_, Gives.mk rfl (Incl.refl _)⟩
theorem clone22 {b : Nat} {es : Array MapEntry} {clk : Nat} {ob : Obj} (hob : ob = .map es clk) {L : Units} [H : Has L b ob] : Does Try.prog 22 #[.map (some b)] L (NewM ob L) := by
  subst hob
  refine does_of_wpC (args := [.map (some b)]) Try.func22 rfl (by kernel_rfl) ?_
  repeat (first | (refine r_eq (by rfl) (by rfl) (by kernel_rfl) (fun x => run_eql_map x.w _ _ _ _ Try.underlying47) ?_) | (refine r_extern (ex := Extern.MapsClone.clone) (v := fun n => .iface 47 (.map (some n))) (ob := .map es clk) Try.func39 (by kernel_rfl) (by kernel_rfl) (by kernel_rfl) (by kernel_rfl) (by rfl) (fun x => run_clone 47 (St.heap (h := H) x)) (fun nb => ?_)) | refine c_seq ?_ | refine c_reg ?_ | refine r_nil ?_ | refine e_n ?_ | refine CutC.go ?_ | refine r_val (by rfl) ?_ | refine c_no (by rfl) (by first | with_reducible assumption | decide) ?_ | refine c_skip ?_ | refine c_ret ?_ | refine EndC.mk rfl ?_)
  exact ⟨_, Gives.mk rfl (Incl.refl _)⟩
theorem clone23 {b : Nat} {es : Array MapEntry} {clk : Nat} {ob : Obj} (hob : ob = .map es clk) {L : Units} [H : Has L b ob] : Does Try.prog 23 #[.map (some b)] L (NewM ob L) := by
  subst hob
  refine does_of_wpC (args := [.map (some b)]) Try.func23 rfl (by kernel_rfl) ?_
  repeat (first | (refine r_eq (by rfl) (by rfl) (by kernel_rfl) (fun x => run_eql_map x.w _ _ _ _ Try.underlying51) ?_) | (refine r_extern (ex := Extern.MapsClone.clone) (v := fun n => .iface 51 (.map (some n))) (ob := .map es clk) Try.func39 (by kernel_rfl) (by kernel_rfl) (by kernel_rfl) (by kernel_rfl) (by rfl) (fun x => run_clone 51 (St.heap (h := H) x)) (fun nb => ?_)) | refine c_seq ?_ | refine c_reg ?_ | refine r_nil ?_ | refine e_n ?_ | refine CutC.go ?_ | refine r_val (by rfl) ?_ | refine c_no (by rfl) (by first | with_reducible assumption | decide) ?_ | refine c_skip ?_ | refine c_ret ?_ | refine EndC.mk rfl ?_)
  exact ⟨_, Gives.mk rfl (Incl.refl _)⟩
theorem clone40 {b : Nat} {es : Array MapEntry} {clk : Nat} {ob : Obj} (hob : ob = .map es clk) {L : Units} [H : Has L b ob] : Does Try.prog 40 #[.map (some b)] L (NewM ob L) := by
  subst hob
  refine does_of_wpC (args := [.map (some b)]) Try.func40 rfl (by kernel_rfl) ?_
  repeat (first | (refine r_eq (by rfl) (by rfl) (by kernel_rfl) (fun x => run_eql_map x.w _ _ _ _ Try.underlying63) ?_) | (refine r_extern (ex := Extern.MapsClone.clone) (v := fun n => .iface 63 (.map (some n))) (ob := .map es clk) Try.func39 (by kernel_rfl) (by kernel_rfl) (by kernel_rfl) (by kernel_rfl) (by rfl) (fun x => run_clone 63 (St.heap (h := H) x)) (fun nb => ?_)) | refine c_seq ?_ | refine c_reg ?_ | refine r_nil ?_ | refine e_n ?_ | refine CutC.go ?_ | refine r_val (by rfl) ?_ | refine c_no (by rfl) (by first | with_reducible assumption | decide) ?_ | refine c_skip ?_ | refine c_ret ?_ | refine EndC.mk rfl ?_)
  exact ⟨_, Gives.mk rfl (Incl.refl _)⟩
theorem RowOk.empty (nb s : Nat) : RowOk ⟨some nb, 0, #[]⟩ s [] := ⟨fun h => (by cases h), by simp, fun _ => (by simp), fun _ => Nat.le_refl _, fun _ => by simp⟩
theorem clone24 {U : Blocks} {a : Option Addr} {n c : Nat} {els : List (List Value)} (h : SlIn U a n 6 els) (hl : ∀ c ∈ els, c.length = 6) (h1 : ∀ u ∈ els.flatten, u.oneCell' = true) (hn : n ≤ 1000) {z : Value} (hz : (Try.prog.info? 34).map (fun i => (i.zero, i.size, i.bytes)) = some (some z, 6, 72)) (hzs : z.cells.size = 6) {L R : Units} [hU : Unit_ L U R] : Does Try.prog 24 #[.slice a n c] L (RowM els n L) := by
  have hln := h.1
  cases a with
  | none =>
    have h0 : n = 0 := by
      rcases h.2 with h | ⟨b, o, arr, T, fr, h, _⟩
      · exact h
      · cases h
    subst h0
    have he : els = [] := List.eq_nil_of_length_eq_zero hln
    subst he
    refine does_of_wpC (args := [.slice none 0 c]) Try.func24 rfl (by kernel_rfl) ?_
    repeat (first | (refine r_eq (v := .bool true) (by rfl) (by rfl) (by kernel_rfl) (fun x => Lib.run_eql_slice_nil (P := Try.prog) x.w 61 34 none 0 c 0 0 Try.underlying61) ?_) | refine c_seq ?_ | refine c_reg ?_ | refine r_nil ?_ | refine e_n ?_ | refine CutC.go ?_ | refine r_val (by rfl) ?_ | refine c_yes (by rfl) (by first | with_reducible assumption | decide) ?_ | refine c_ret ?_ | refine e_r ?_ | refine EndC.mk rfl ?_)
    exact ⟨Row.nil, RowOk.mkNil 6, Gives.mk rfl (Incl.eqv (Eqv.nil _).symm)⟩
  | some a =>
    refine does_of_wpC (args := [.slice (some a) n c]) Try.func24 rfl (by kernel_rfl) ?_
    repeat (first | (refine r_eq (v := .bool false) (by rfl) (by rfl) (by kernel_rfl) (fun x => Lib.run_eql_slice_nil (P := Try.prog) x.w 61 34 (some a) n c 0 0 Try.underlying61) ?_) | refine c_seq ?_ | refine c_reg ?_ | refine r_nil ?_ | refine e_n ?_ | refine CutC.go ?_ | refine r_val (by rfl) ?_ | refine c_no (by rfl) (by first | with_reducible assumption | decide) ?_ | refine c_skip ?_)
    refine r_slice0 (E := 34) (by intro w; simp [go_sem]) (fun nb => ?_)
    haveI hu0 : Unit_ ([(nb, Obj.cells #[] 34)] :: L) (Row.u ⟨some nb, 0, #[]⟩ 34) L := ⟨Eqv.refl _⟩
    repeat (first | (refine r_app (by rfl) (by rfl) ?_; refine RunC.appS (P := Try.prog) (e := 34) (s := 6) (bytes := 72) (n := 0) (z := z) ⟨some nb, 0, #[]⟩ [] els U (by rfl) (by rfl) hz hzs rfl (RowOk.empty nb 6) hl h h1 (by omega) (by omega) (fun r' a' c' hok' hv' hs' => ?_)) | refine r_nil ?_ | refine e_n ?_ | refine CutC.go ?_ | refine r_val (by rfl) ?_ | refine c_ret ?_ | refine EndC.mk rfl ?_)
    rw [Nat.zero_add] at hv'
    refine ⟨r', hok', Gives.mk ?_ (Incl.refl _)⟩
    rw [hv']
    show Value.slice a' (0 + n) c' = _
    rw [Nat.zero_add]
end Go.Proofs.Ythijlgjfgliinaa
end
section
/- The judge: what a stay got. -/
set_option linter.all false
namespace Go.Proofs.Ythijlgjfgliinaa
open Go.RowKit
open Go.W
variable [Env]
/-- A call that hands back some z of which this holds. -/
theorem _root_.Go.CallC.ex {P : Program} {g : FuncId} {args : Array Value} {L L0 : Units} {α : Type} {φ : α → Prop} {N : α → Units} {v : α → Value} {K : Value → Units → Prop} {E : List PanicEntry → Units → Prop}
    (h : Does P g args L0 (fun en M => ∃ z, φ z ∧ Gives (N z) (v z) en M)) (hi : Incl L L0) (kk : ∀ z, φ z → K (v z) (N z)) : CallC P g args L K E := by
  intro x
  refine (Does.incl hi h x).mono ?_
  rintro e w ⟨M, hM, z, hz, rfl, hgi⟩
  exact ⟨_, hM.incl hgi, kk z hz⟩
/-- A message that a stay delivered: where, which, behind its way on or ahead. -/
structure JGot where
  at_ : Int
  g : GM
  tr : Bool
def JGot.cells (j : JGot) : List Value := [.int .i64 j.at_, .int .i64 j.g.r.frm, .int .u32 j.g.r.seq, .int .u64 j.g.r.stamp, .int .i64 j.g.r.svc, .slice j.g.r.da j.g.r.dn j.g.r.dc, .string j.g.r.pay, .bool j.tr]
def hasJ (l : List JGot) (x : Mg) : Bool := l.any fun j => decide (j.g.mg = x)
attribute [local irreducible] opsC wpC quietC LoopC DrawC CutC LoadC StoreC ReadC UpdC RunC CallC QCallC EndC thenC inBlockC
set_option maxRecDepth 100000
theorem same67 {F : Blocks} (xb : Nat) (j : JGot) (x : GM) (hj : j.g.ok F) (hx : x.ok F) {L R : Units} [hF : Unit_ L F R] [H : Has L xb (msgO x.r)] :
    Does Try.prog 67 #[.agg j.cells.toArray, .pointer (some ⟨xb, 0, none⟩)] L (Gives L (.bool (decide (j.g.mg = x.mg)))) := by
  refine does_of_wpC (args := [.agg j.cells.toArray, .pointer (some ⟨xb, 0, none⟩)]) Try.func67 rfl (by kernel_rfl) ?_
  repeat (first | (refine r_fun (by rfl) (by rfl) ?_; refine CallC.ret (g := 44) (fun y => same_spec44 (F := F) j.g x hj hx y) ?_) | refine c_seq ?_ | refine c_reg ?_ | refine r_nil ?_ | refine e_n ?_ | refine CutC.go ?_ | refine r_field0 (by rfl) (by rfl) ?_ | refine r_val (by rfl) ?_ | refine c_ret ?_ | refine EndC.mk rfl ?_ | refine r_box (by rfl) (by rfl) (fun _ => ?_) | (refine r_load (by rfl) ?_; refine LoadC.agg (by rfl) (by rfl) ?_))
  exact Gives.mk rfl Incl.of
theorem index69 {F U : Blocks} (xb : Nat) (x : GM) (hx : x.ok F) (a : Option Addr) (n c : Nat) (gs : List JGot) (hs : SlIn U a n 8 (gs.map JGot.cells)) (hg : ∀ j ∈ gs, j.g.ok F) (hn : n ≤ 1000) {L R R2 : Units} [hF : Unit_ L F R] [hU : Unit_ L U R2] [H : Has L xb (msgO x.r)] :
    Does Try.prog 69 #[.slice a n c, .func (.func 67) #[] #[.pointer (some ⟨xb, 0, none⟩)]] L (fun en M => ∃ z : Int, (decide (0 ≤ z) = hasJ gs x.mg) ∧ Gives L (.int .i64 z) en M) := by
  have hl : gs.length = n := by have := hs.1; simpa using this
  refine does_of_wpC (args := [.slice a n c, .func (.func 67) #[] #[.pointer (some ⟨xb, 0, none⟩)]]) Try.func69 rfl (by kernel_rfl) ?_
  repeat (first | refine c_seq ?_ | refine c_reg ?_ | refine r_nil ?_ | refine e_n ?_ | refine CutC.go ?_ | refine r_lenS (by rfl) (by rfl) ?_ | refine r_val (by rfl) ?_ | refine c_block ?_ | refine c_loop ?_)
  refine LoopC.inv (γ := Nat) (fun k => k ≤ n ∧ hasJ gs x.mg = hasJ (gs.drop k) x.mg) (fun k => [(0, .slice a n c), (1, .func (.func 67) #[] #[.pointer (some ⟨xb, 0, none⟩)]), (7, .int .i64 n), (8, .int .i64 (k : Nat))]) (fun _ => L) (fun k => n - k)
    (MeetC.mk 0 ⟨by omega, rfl⟩ ⟨rfl, rfl, rfl, rfl, rfl⟩ (Incl.refl _)) ?_
  rintro k ⟨hk, hh⟩ f0
  by_cases hlt : k < n
  · have hd1 : decide ((k : Int) < (n : Int)) = true := by simp; omega
    obtain ⟨j, hj⟩ : ∃ j, gs[k]? = some j := ⟨gs[k]'(by omega), List.getElem?_eq_getElem _⟩
    have hjo := hg j (List.mem_of_getElem? hj)
    rcases hs.2 with h0 | ⟨b, o, arr, T, fr, rfl, hm, hrow⟩
    · omega
    haveI hS : ∀ {L R : Units} [Unit_ L U R], Has L b (.cells arr T fr) := fun {L R} h => ⟨h.ok.mem_iff.2 (by simp [hm])⟩
    have hjc : (gs.map JGot.cells)[k]? = some j.cells := by simp [hj]
    have hdr : gs.drop k = j :: gs.drop (k + 1) := by
      obtain ⟨h2, h3⟩ := List.getElem?_eq_some_iff.1 hj
      rw [List.drop_eq_getElem_cons h2, h3]
    have hst : hasJ (gs.drop k) x.mg = (decide (j.g.mg = x.mg) || hasJ (gs.drop (k + 1)) x.mg) := by rw [hdr]; rfl
    have hsm := same67 (F := F) xb j x hjo hx (L := L)
    cases he : decide (j.g.mg = x.mg)
    · rw [he] at hsm hst
      repeat (first | (refine r_index (by rfl) (by rfl) (by rfl) hlt ?_) | (refine r_load (by rfl) ?_; refine LoadC.row (b := b) hrow hjc rfl (by rfl) ?_) | (refine r_call (first := #[]) (cap := #[.pointer (some ⟨xb, 0, none⟩)]) (g := 67) (by rfl) (by rfl) (by rfl) (by rfl) ?_; refine CallC.gives hsm ?_) | refine c_seq ?_ | refine c_reg ?_ | refine r_nil ?_ | refine e_n ?_ | refine CutC.go ?_ | refine r_val (by rfl) ?_ | refine c_yes (by rfl) (by first | with_reducible assumption | decide) ?_ | refine c_no (by rfl) (by first | with_reducible assumption | decide) ?_ | refine c_skip ?_ | refine c_block ?_ | refine b_n ?_)
      exact MeetC.mk (k + 1) ⟨⟨by omega, by rw [hh, hst]; rfl⟩, by omega⟩ ⟨rfl, rfl, rfl, i64_succ (by omega), rfl⟩ (Incl.refl _)
    · rw [he] at hsm hst
      repeat (first | (refine r_index (by rfl) (by rfl) (by rfl) hlt ?_) | (refine r_load (by rfl) ?_; refine LoadC.row (b := b) hrow hjc rfl (by rfl) ?_) | (refine r_call (first := #[]) (cap := #[.pointer (some ⟨xb, 0, none⟩)]) (g := 67) (by rfl) (by rfl) (by rfl) (by rfl) ?_; refine CallC.gives hsm ?_) | refine c_seq ?_ | refine c_reg ?_ | refine r_nil ?_ | refine e_n ?_ | refine CutC.go ?_ | refine r_val (by rfl) ?_ | refine c_yes (by rfl) (by first | with_reducible assumption | decide) ?_ | refine c_skip ?_ | refine c_ret ?_ | refine e_r ?_ | refine c_block ?_ | refine b_r ?_ | refine EndC.mk rfl ?_)
      exact ⟨(k : Int), by rw [hh, hst]; simp, Gives.mk rfl (Incl.refl _)⟩
  · have hd1 : decide ((k : Int) < (n : Int)) = false := by simp; omega
    have hkn : gs.drop k = [] := by rw [List.drop_eq_nil_iff]; omega
    repeat (first | refine c_seq ?_ | refine c_reg ?_ | refine r_nil ?_ | refine e_n ?_ | refine CutC.go ?_ | refine r_val (by rfl) ?_ | refine c_no (by rfl) (by first | with_reducible assumption | decide) ?_ | refine c_ret ?_ | refine c_exit ?_ | refine e_x ?_ | refine b_x1 ?_ | refine EndC.mk rfl ?_)
    exact ⟨-1, by rw [hh, hkn]; rfl, Gives.mk rfl (Incl.refl _)⟩
theorem contains66 {F U : Blocks} (xb : Nat) (x : GM) (hx : x.ok F) (a : Option Addr) (n c : Nat) (gs : List JGot) (hs : SlIn U a n 8 (gs.map JGot.cells)) (hg : ∀ j ∈ gs, j.g.ok F) (hn : n ≤ 1000) {L R R2 : Units} [hF : Unit_ L F R] [hU : Unit_ L U R2] [H : Has L xb (msgO x.r)] :
    Does Try.prog 66 #[.slice a n c, .func (.func 67) #[] #[.pointer (some ⟨xb, 0, none⟩)]] L (Gives L (.bool (hasJ gs x.mg))) := by
  refine does_of_wpC (args := [.slice a n c, .func (.func 67) #[] #[.pointer (some ⟨xb, 0, none⟩)]]) Try.func66 rfl (by kernel_rfl) ?_
  repeat (first | (refine r_fun (by rfl) (by rfl) ?_; refine CallC.ex (g := 69) (index69 (F := F) (U := U) xb x hx a n c gs hs hg hn) (Incl.refl _) (fun z hz => ?_)) | refine c_seq ?_ | refine c_reg ?_ | refine r_nil ?_ | refine e_n ?_ | refine CutC.go ?_ | refine r_val (by rfl) ?_ | refine c_ret ?_ | refine EndC.mk rfl ?_)
  exact Gives.mk (congrArg Value.bool hz) (Incl.refl _)
end Go.Proofs.Ythijlgjfgliinaa
end
