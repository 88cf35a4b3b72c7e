/- Part 1 of the proof of what MonJudges says. -/
import Derived.StillTail
import Derived.Deep.Quiet
import Derived.WalkKit
import Derived.Deep.QuietTactic
import Derived.BigQuiet
section
/- A region that draws its order: quiet operations in a class of worlds, then a chain of operations in the text's order: one walk of the text's order serves every order. -/
set_option linter.all false
namespace Go
section
variable {P : Program} {ops : Array Oper} {md : Region.Mode} {C : World → Prop}

/-- Whatever order the head takes. -/
def wpAnyT (P : Program) (md : Region.Mode) (ops : Array Oper) (C : World → Prop) (n : Nat) (L : Array Bool → Act → Prop) : Nat → Array Bool → Act → Prop
  | 0, listed, a => L listed a
  | f + 1, listed, a =>
    Region.ready md ops listed ≠ [] ∧ ∀ i ∈ Region.ready md ops listed, i < n ∧ qOp P ops C i (wpAnyT P md ops C n L f (listed.setIfInBounds i true)) a

theorem wpAny_of_headT {n g : Nat} {L : Array Bool → Act → Prop} {Q' : Exit → Act → World → Prop} (hL : ∀ listed a w, C w → L listed a → wpAny P md ops Q' g listed a w) :
    ∀ (f : Nat) (listed : Array Bool) (a : Act) (w : World), C w → wpAnyT P md ops C n L f listed a → wpAny P md ops Q' (f + g) listed a w
  | 0, listed, a, w, hw, h => by rw [Nat.zero_add]; exact hL _ _ _ hw h
  | f + 1, listed, a, w, hw, h => by
    rw [show f + 1 + g = (f + g) + 1 by omega]
    exact ⟨fun h0 => absurd h0 h.1, fun i hi => wpOp_of_qOp hw (fun a' w' hw' h' => wpAny_of_headT hL f _ a' w' hw' h') (h.2 i hi).2⟩

theorem wpAnyT_first {n i : Nat} {oi : Oper} {v : Value} {L : Array Bool → Act → Prop} (hi : ops[i]? = some oi) (hsel : ∀ (j : Nat) (o : Oper) cs b, ops[j]? = some o → o.op ≠ .select cs b)
    (hs : Region.sinkB md ops n = true) (hc : Region.chainB md ops n = true) (hn : n < ops.size) (hin : i < n)
    (hdone : ∀ listed a, L listed a → ∀ j ∈ Region.ready md ops listed, n ≤ j) :
    ∀ (f : Nat) (listed : Array Bool) (a : Act), HeadInv md ops n listed →
      (∀ j oj, ops[j]? = some oj → j ≠ i → listed.getD j true = false → (∀ e ∈ oj.after, Region.binds md e = true → e.on ≠ i) → oi.apart ops oj = true) →
      i ∈ Region.ready md ops listed → YieldsIn P ops C oi v a →
      wpAnyT P md ops C n L f (listed.setIfInBounds i true) (a.put oi.dst v) → wpAnyT P md ops C n L (f + 1) listed a := by
  intro f
  induction f with
  | zero =>
    intro listed a inv _ hr hy H
    have hun := (mem_ready.1 hr).1
    refine ⟨fun h => (by rw [h] at hr; cases hr), fun j hj => ?_⟩
    have hjn : j < n := by
      rcases Nat.lt_or_ge j n with h | h
      · exact h
      · exact absurd hj (tail_waits hs hc hn inv _ i rfl hin hun j h)
    refine ⟨hjn, ?_⟩
    by_cases hji : j = i
    · subst hji; exact hy.qOp hi H
    · have := hdone _ _ H j (ready_mono hj hji)
      omega
  | succ f ih =>
    intro listed a inv hfree hr hy H
    have hun := (mem_ready.1 hr).1
    refine ⟨fun h => (by rw [h] at hr; cases hr), fun j hj => ?_⟩
    have hjn : j < n := by
      rcases Nat.lt_or_ge j n with h | h
      · exact h
      · exact absurd hj (tail_waits hs hc hn inv _ i rfl hin hun j h)
    refine ⟨hjn, ?_⟩
    by_cases hji : j = i
    · subst hji; exact hy.qOp hi H
    · have h1 := (H.2 j (ready_mono hj hji)).2
      obtain ⟨hjun, oj, hoj, hall⟩ := mem_ready.1 hj
      have hnot : ∀ e ∈ oj.after, Region.binds md e = true → e.on ≠ i := fun e he hb heq => by
        have h1 := hall e he hb
        rw [heq, getD_both hun] at h1
        cases h1
      have h2 := qOp_put hoj (hfree j oj hoj hji hjun hnot) (fun cs b => hsel i oi cs b hi) (fun cs b => hsel j oj cs b hoj) hy h1
      have hfree' : ∀ k ok, ops[k]? = some ok → k ≠ i → (listed.setIfInBounds j true).getD k true = false →
          (∀ e ∈ ok.after, Region.binds md e = true → e.on ≠ i) → oi.apart ops ok = true := fun k ok hk hki hun hno => by
        refine hfree k ok hk hki ?_ hno
        by_cases hjk : j = k
        · subst hjk; exact hjun
        · rw [getD_set_ne true hjk] at hun; exact hun
      refine qOp_mono (fun a' h3 => ih (listed.setIfInBounds j true) a' (inv.set hj hjn) hfree' (ready_mono hr (Ne.symm hji)) h3.1 ?_) h2
      rw [Array.setIfInBounds_comm _ _ hji]
      exact h3.2

theorem wpAnyT_lex {n g : Nat} {Lq : Act → Prop} (hsel : Region.noSelect ops = true) (hs : Region.sinkB md ops n = true) (hc : Region.chainB md ops n = true) (hn : n < ops.size) :
    ∀ (l : List Oper) (k : Nat) (listed : Array Bool) (a : Act), (∀ j, j < l.length → l[j]? = ops[k + j]?) → k + l.length = n → HeadInv md ops n listed →
    Region.lexHead md ops g l.length k listed = true → wpQuiet P ops C Lq l a →
    wpAnyT P md ops C n (fun listed' a' => Region.seqB md ops g n listed' = true ∧ Lq a') l.length listed a
  | [], k, listed, a, _, hk, _, hB, h => by
    have : k = n := by simpa using hk
    subst this
    exact ⟨by simpa [Region.lexHead] using hB, h⟩
  | o :: l, k, listed, a, hl, hk, inv, hB, h => by
    have h0 : ops[k]? = some o := by simpa using (hl 0 (by simp)).symm
    simp only [List.length_cons, Region.lexHead, Bool.and_eq_true] at hB
    obtain ⟨⟨hr, hf⟩, hB'⟩ := hB
    have hkn : k < n := by simp only [List.length_cons] at hk; omega
    have hr' : k ∈ Region.ready md ops listed := by simpa using hr
    have hst : qOp P ops C k (wpQuiet P ops C Lq l) a := by unfold qOp; simp only [h0]; exact h
    obtain ⟨v, hy, hK⟩ := yieldsIn_of_qOp h0 hst
    exact wpAnyT_first h0 (Region.noSelect_spec hsel) hs hc hn hkn (fun listed' a' hL => seqB_ready hL.1) l.length listed a inv (Region.free_spec h0 hf) hr' hy
      (wpAnyT_lex hsel hs hc hn l (k + 1) _ _ (fun j hj => by have := hl (j + 1) (by simp; omega); simpa [Nat.add_assoc, Nat.add_comm 1 j] using this) (by simp only [List.length_cons] at hk; omega) (inv.set hr' hkn) hB' hK)

/-- The head quiet in the class, the tail in the text's order, in every world of the class. -/
theorem wp_region_quiet_tail {id : Nat} {Q : Exit → Act → World → Prop} {a : Act} {w : World} {l : List Oper} (n : Nat) (hm : P.follows .mixedOrders = true) (hB : Region.lexTailB .any l.toArray n = true)
    (hC : C { w with drawn := w.drawn + 1 })
    (h : wpQuiet P l.toArray C (fun a' => ∀ w', C w' → wpList P l.toArray Q (l.drop n) a' w') (l.take n) a) : (Code.region id l.toArray true).wp P Q a w := by
  simp only [Region.lexTailB, Bool.and_eq_true, decide_eq_true_eq] at hB
  obtain ⟨⟨⟨⟨hsel, hn⟩, hs⟩, hc⟩, hlex⟩ := hB
  have hn' : n < l.length := by simpa using hn
  have htl : (l.take n).length = n := by simp; omega
  have hdl : (l.drop n).length = l.toArray.size - n := by simp
  have inv0 : HeadInv .any l.toArray n (Array.replicate l.toArray.size false) :=
    ⟨by simp, fun j oj _ hl => (by rw [getD_replicate_false] at hl; cases hl), fun t _ ht => getD_in (by simpa using ht) (getD_replicate_false _ _)⟩
  have H := wpAnyT_lex (md := .any) (g := l.toArray.size - n) hsel hs hc hn (l.take n) 0 _ a (fun j hj => by
    have hj' : j < n := by rw [htl] at hj; exact hj
    simp [hj']) (by simpa using htl) inv0 (by rw [htl]; exact hlex) h
  refine wp_region_any hm ?_
  have := wpAny_of_headT (Q' := Q) (g := l.toArray.size - n) (fun listed a' w' hw' hL => by
    have := wpAny_of_seq (md := .any) (Q' := Q) (l.drop n) n listed a' w' (fun j => by simp [List.getElem?_drop]) (by rw [hdl]; exact hL.1) (hL.2 w' hw')
    rwa [hdl] at this) _ _ _ _ hC H
  rw [htl, show n + (l.toArray.size - n) = l.toArray.size by omega] at this
  exact this
end
end Go
end
section
/- What is known of a world, unit by unit: the world behind a name whose type lists blocks; the walk's rules over such names. -/
set_option linter.all false
namespace Go

/-- What no step here turns: the outer world, what is printed. -/
class Env where
  os : Os
  output : Array (Nat × ByteArray)
variable [Env]

abbrev Blocks := List (Nat × Obj)
abbrev Units := List Blocks
/-- These blocks hold these objects; each is named once. -/
structure SatB (w : World) (l : Blocks) : Prop where
  nd : (l.map (·.1)).Nodup
  at_ : ∀ p ∈ l, w.heap[p.1]? = some p.2
  os : w.os = Env.os
  out : w.output = Env.output
def Sat (w : World) (L : Units) : Prop := SatB w L.flatten

/-- A world of which this is known. -/
structure St (L : Units) where
  w : World
  ok : Sat w L

theorem SatB.perm {w : World} {l m : Blocks} (h : l.Perm m) (s : SatB w l) : SatB w m :=
  ⟨(h.map _).nodup_iff.1 s.nd, fun p hp => s.at_ p (h.mem_iff.2 hp), s.os, s.out⟩
theorem SatB.sub {w : World} {l m : Blocks} (h : m.Sublist l) (s : SatB w l) : SatB w m :=
  ⟨(h.map _).nodup s.nd, fun p hp => s.at_ p (h.subset hp), s.os, s.out⟩
theorem SatB.drew {w : World} {l : Blocks} (s : SatB w l) : SatB w.drew l := ⟨s.nd, s.at_, s.os, s.out⟩
theorem SatB.lt {w : World} {l : Blocks} (s : SatB w l) {p : Nat × Obj} (h : p ∈ l) : p.1 < w.heap.size := by
  have := s.at_ p h
  exact (Array.getElem?_eq_some_iff.1 this).1
theorem SatB.alloc {w : World} {l : Blocks} (s : SatB w l) (o : Obj) : SatB (w.alloc o) ((w.heap.size, o) :: l) := by
  refine ⟨?_, fun p hp => ?_, s.os, s.out⟩
  · simp only [List.map_cons, List.nodup_cons]
    refine ⟨fun h => ?_, s.nd⟩
    obtain ⟨p, hp, he⟩ := List.mem_map.1 h
    have := s.lt hp
    omega
  · rcases List.mem_cons.1 hp with rfl | hp
    · simp [World.alloc, -World.alloc_eq]
    · have h1 := s.lt hp
      have h2 := s.at_ p hp
      simp only [World.alloc, Array.getElem?_push]
      rw [if_neg (by omega)]
      exact h2
theorem SatB.set {w : World} {l : Blocks} {b : Nat} {o : Obj} (s : SatB w ((b, o) :: l)) (o' : Obj) {w' : World} (hb : w'.heap[b]? = some o') (hk : ∀ c, c ≠ b → w'.heap[c]? = w.heap[c]?) (he : w'.os = w.os := by rfl) (ho : w'.output = w.output := by rfl) : SatB w' ((b, o') :: l) := by
  refine ⟨by simpa using s.nd, fun p hp => ?_, he.trans s.os, ho.trans s.out⟩
  have hn := s.nd
  simp only [List.map_cons, List.nodup_cons, List.mem_map] at hn
  rcases List.mem_cons.1 hp with rfl | h
  · exact hb
  · have : p.1 ≠ b := fun e => hn.1 ⟨p, h, e⟩
    rw [hk _ this]
    exact s.at_ p (by simp [h])

/-- The same blocks, otherwise laid out. -/
def Eqv (L M : Units) : Prop := L.flatten.Perm M.flatten
theorem Eqv.refl (L : Units) : Eqv L L := List.Perm.refl _
theorem Eqv.symm {L M : Units} (h : Eqv L M) : Eqv M L := List.Perm.symm h
theorem Eqv.trans {L M N : Units} (h : Eqv L M) (h' : Eqv M N) : Eqv L N := List.Perm.trans h h'
theorem Eqv.cons (u : Blocks) {L M : Units} (h : Eqv L M) : Eqv (u :: L) (u :: M) := by
  unfold Eqv; simp only [List.flatten_cons]; exact List.Perm.append_left u h
theorem Eqv.swap (u v : Blocks) (L : Units) : Eqv (u :: v :: L) (v :: u :: L) := by
  unfold Eqv; simp only [List.flatten_cons, ← List.append_assoc]
  exact List.Perm.append_right _ List.perm_append_comm
theorem Eqv.head {u v : Blocks} (h : u.Perm v) (L : Units) : Eqv (u :: L) (v :: L) := by
  unfold Eqv; simp only [List.flatten_cons]; exact List.Perm.append_right _ h
theorem Eqv.split (u v : Blocks) (L : Units) : Eqv ((u ++ v) :: L) (u :: v :: L) := by
  unfold Eqv; simp only [List.flatten_cons, List.append_assoc]; exact List.Perm.refl _
theorem Eqv.nil (L : Units) : Eqv ([] :: L) L := by unfold Eqv; simp only [List.flatten_cons, List.nil_append]; exact List.Perm.refl _
theorem Sat.eqv {w : World} {L M : Units} (h : Eqv L M) (s : Sat w L) : Sat w M := SatB.perm h s

def St.re {L M : Units} (x : St L) (h : Eqv L M) : St M := ⟨x.w, x.ok.eqv h⟩
theorem St.re_w {L M : Units} (x : St L) (h : Eqv L M) : x.w = (x.re h).w := rfl
/-- A unit is let go. -/
def St.drop {u : Blocks} {L : Units} (x : St (u :: L)) : St L := ⟨x.w, SatB.sub (by simp only [List.flatten_cons]; exact List.sublist_append_right _ _) x.ok⟩

/-- Block b is listed with o. -/
class Has (L : Units) (b : Nat) (o : outParam Obj) : Prop where
  mem : (b, o) ∈ L.flatten
instance (priority := 1100) Has.here {L : Units} {b : Nat} {o : Obj} : Has ([(b, o)] :: L) b o := ⟨by simp⟩
instance (priority := 900) Has.there {L : Units} {b : Nat} {o : Obj} {u : Blocks} [h : Has L b o] : Has (u :: L) b o := ⟨by rw [List.flatten_cons]; exact List.mem_append_right _ h.mem⟩
/-- Block b is listed with o; R is the rest. -/
class Pick (L : Units) (b : Nat) (o : outParam Obj) (R : outParam Units) : Prop where
  ok : Eqv L ([(b, o)] :: R)
instance (priority := 1100) Pick.here {L : Units} {b : Nat} {o : Obj} : Pick ([(b, o)] :: L) b o L := ⟨Eqv.refl _⟩
instance (priority := 900) Pick.there {L R : Units} {b : Nat} {o : Obj} {u : Blocks} [h : Pick L b o R] : Pick (u :: L) b o (u :: R) := ⟨(h.ok.cons u).trans (Eqv.swap _ _ _)⟩
/-- The unit u is listed; R is the rest. -/
class Unit_ (L : Units) (u : Blocks) (R : outParam Units) : Prop where
  ok : Eqv L (u :: R)
instance (priority := 1100) Unit_.here {L : Units} {u : Blocks} : Unit_ (u :: L) u L := ⟨Eqv.refl _⟩
instance (priority := 900) Unit_.there {L R : Units} {u v : Blocks} [h : Unit_ L u R] : Unit_ (v :: L) u (v :: R) := ⟨(h.ok.cons v).trans (Eqv.swap _ _ _)⟩
/-- The same units, in another order. -/
class Same (L M : Units) : Prop where
  ok : Eqv L M
instance (priority := 1100) Same.rfl_ {L : Units} : Same L L := ⟨Eqv.refl _⟩
instance (priority := 900) Same.step {L M R : Units} {u : Blocks} [h : Unit_ L u R] [h' : Same R M] : Same L (u :: M) := ⟨h.ok.trans (h'.ok.cons u)⟩

theorem Has.of_pick {L R : Units} {b : Nat} {o : Obj} (h : Pick L b o R) : Has L b o := ⟨h.ok.mem_iff.2 (by simp)⟩

/-- M is L but for block b, which holds o. -/
class Lay (L : Units) (b : Nat) (o : Obj) (M : outParam Units) : Prop where
  ok : ∃ o0 R, Eqv L ([(b, o0)] :: R) ∧ Eqv ([(b, o)] :: R) M
instance (priority := 1100) Lay.here {L : Units} {b : Nat} {o o' : Obj} : Lay ([(b, o)] :: L) b o' ([(b, o')] :: L) := ⟨o, L, Eqv.refl _, Eqv.refl _⟩
instance (priority := 900) Lay.there {L M : Units} {b : Nat} {o : Obj} {u : Blocks} [h : Lay L b o M] : Lay (u :: L) b o (u :: M) :=
  ⟨let ⟨o0, R, h1, h2⟩ := h.ok; ⟨o0, u :: R, (h1.cons u).trans (Eqv.swap _ _ _), (Eqv.swap _ _ _).trans (h2.cons u)⟩⟩

@[simp, go_sem] theorem St.heap {L : Units} {b : Nat} {o : Obj} [h : Has L b o] (x : St L) : x.w.heap[b]? = some o := x.ok.at_ _ h.mem
theorem St.lt {L : Units} (x : St L) (b : Nat) {o : Obj} [h : Has L b o] : b < x.w.heap.size := SatB.lt x.ok h.mem

/-- A cell of an object. -/
def cellOf : Option Obj → Addr → Option Value
  | some (.cells c _ _), a => if a.spot.isSome then none else c[a.off]?
  | _, _ => none
/-- Is a cell of an object frozen? -/
def frozenOf : Option Obj → Addr → Bool
  | some (.cells _ _ (lo, hi)), a => lo ≤ a.off && a.off < hi
  | _, _ => false
@[go_sem] theorem cellOf_cells (c : Array Value) (T : TypeId) (f : Nat × Nat) (b o : Nat) : cellOf (some (.cells c T f)) ⟨b, o, none⟩ = c[o]? := rfl
@[go_sem] theorem frozenOf_cells (c : Array Value) (T : TypeId) (b o : Nat) : frozenOf (some (.cells c T (0, 0))) ⟨b, o, none⟩ = false := by simp [frozenOf]
@[go_sem] theorem St.cell {L : Units} (x : St L) (b o : Nat) : x.w.cell? ⟨b, o, none⟩ = cellOf x.w.heap[b]? ⟨b, o, none⟩ := by
  simp only [World.cell?, cellOf]
  cases x.w.heap[b]? with
  | none => rfl
  | some o => cases o <;> rfl
@[go_sem] theorem St.frozen {L : Units} (x : St L) (b o : Nat) : x.w.frozen? ⟨b, o, none⟩ = frozenOf x.w.heap[b]? ⟨b, o, none⟩ := by
  simp only [World.frozen?, frozenOf]
  cases x.w.heap[b]? with
  | none => rfl
  | some o => cases o <;> rfl

def St.drew {L : Units} (x : St L) : St L := ⟨x.w.drew, x.ok.drew⟩
@[go_sem] theorem St.drew_w {L : Units} (x : St L) : x.w.drew = x.drew.w := rfl

def St.alloc {L : Units} (x : St L) (o : Obj) : St ([(x.w.heap.size, o)] :: L) := ⟨x.w.alloc o, by unfold Sat; simp only [List.flatten_cons, List.singleton_append]; exact SatB.alloc x.ok o⟩
@[go_sem] theorem St.alloc_w {L : Units} (x : St L) (o : Obj) : x.w.alloc o = (x.alloc o).w := rfl

/-- One block is laid anew. -/
def World.setBlk (w : World) (b : Nat) (o : Obj) : World := { w with heap := w.heap.setIfInBounds b o }
theorem Sat.lay {w : World} {L M : Units} {b : Nat} {o : Obj} (s : Sat w L) [H : Lay L b o M] {w' : World} (hb : w'.heap[b]? = some o) (hk : ∀ c, c ≠ b → w'.heap[c]? = w.heap[c]?) (he : w'.os = w.os := by rfl) (ho : w'.output = w.output := by rfl) : Sat w' M := by
  obtain ⟨o0, R, h1, h2⟩ := H.ok
  have s1 := s.eqv h1
  exact Sat.eqv h2 (SatB.set s1 o hb hk he ho)
theorem setCell_blk (w : World) (b off : Nat) (v : Value) {c : Array Value} {T : TypeId} {f : Nat × Nat} (h : w.heap[b]? = some (.cells c T f)) :
    (w.setCell ⟨b, off, none⟩ v).heap[b]? = some (.cells (c.setIfInBounds off v) T f) := by
  simp [World.setCell, Array.getElem?_modify, h]
theorem setCell_other (w : World) (b off : Nat) (v : Value) (c : Nat) (h : c ≠ b) : (w.setCell ⟨b, off, none⟩ v).heap[c]? = w.heap[c]? := by
  simp only [World.setCell, Array.getElem?_modify]
  rw [if_neg (Ne.symm h)]
theorem setBlk_blk (w : World) (b : Nat) (o' : Obj) {o : Obj} (h : w.heap[b]? = some o) : (w.setBlk b o').heap[b]? = some o' := by
  have := (Array.getElem?_eq_some_iff.1 h).1
  simp [World.setBlk, this]
theorem setBlk_other (w : World) (b : Nat) (o' : Obj) (c : Nat) (h : c ≠ b) : (w.setBlk b o').heap[c]? = w.heap[c]? := by
  simp only [World.setBlk]
  rw [Array.getElem?_setIfInBounds_ne (Ne.symm h)]
def St.store {L M : Units} {b : Nat} {c : Array Value} {T : TypeId} {f : Nat × Nat} [Has L b (.cells c T f)] (x : St L) (off : Nat) (v : Value) [Lay L b (.cells (c.setIfInBounds off v) T f) M] : St M :=
  ⟨x.w.setCell ⟨b, off, none⟩ v, x.ok.lay (b := b) (setCell_blk _ _ _ _ x.heap) (setCell_other _ _ _ _)⟩
@[go_sem] theorem St.store_w {L M : Units} {b : Nat} {c : Array Value} {T : TypeId} {f : Nat × Nat} [Has L b (.cells c T f)] (x : St L) (off : Nat) (v : Value) [Lay L b (.cells (c.setIfInBounds off v) T f) M] :
    x.w.setCell ⟨b, off, none⟩ v = (x.store (b := b) off v).w := rfl
def St.lay {L M : Units} (x : St L) (b : Nat) {o : Obj} [Has L b o] (o' : Obj) [Lay L b o' M] : St M :=
  ⟨x.w.setBlk b o', x.ok.lay (b := b) (setBlk_blk _ _ _ x.heap) (setBlk_other _ _ _)⟩
theorem St.lay_w {L M : Units} (x : St L) (b : Nat) {o : Obj} [Has L b o] (o' : Obj) [Lay L b o' M] : x.w.setBlk b o' = (x.lay b o').w := rfl

/-- The call hands back v, and these blocks are known of the world. -/
def Ret (L : Units) (v : Value) (e : Ending) (w' : World) : Prop := e = .returned v ∧ ∃ y : St L, w' = y.w
theorem Ret.mk {L M : Units} {v v' : Value} {w : World} (y : St M) (hw : w = y.w) (hv : v = v') (h : M = L) : Ret L v' (.returned v) w := by
  subst hv; subst h; exact ⟨rfl, y, hw⟩
theorem Ret.mkS {L M : Units} {v v' : Value} {w : World} (y : St M) (hw : w = y.w) (hv : v = v') (h : Eqv M L) : Ret L v' (.returned v) w := by
  subst hv; exact ⟨rfl, y.re h, hw⟩

/-- L is M, and more. -/
class Fits (L M : Units) : Prop where
  ok : ∃ X : Blocks, L.flatten.Perm (M.flatten ++ X)
instance (priority := 1200) Fits.rfl_ {L : Units} : Fits L L := ⟨[], by simp⟩
instance (priority := 1000) Fits.step {L M R : Units} {u : Blocks} [h : Unit_ L u R] [h' : Fits R M] : Fits L (u :: M) :=
  ⟨let ⟨X, hX⟩ := h'.ok; ⟨X, List.Perm.trans (show L.flatten.Perm (u :: R).flatten from h.ok) (by simp only [List.flatten_cons, List.append_assoc]; exact List.Perm.append_left u hX)⟩⟩
instance (priority := 800) Fits.drop {L M : Units} {u : Blocks} [h' : Fits L M] : Fits (u :: L) M :=
  ⟨let ⟨X, hX⟩ := h'.ok; ⟨X ++ u, by
    simp only [List.flatten_cons]
    refine (List.Perm.append_left u hX).trans ?_
    refine List.perm_append_comm.trans ?_
    rw [List.append_assoc]⟩⟩
theorem Sat.fits {w : World} {L M : Units} (h : Fits L M) (s : Sat w L) : Sat w M :=
  let ⟨_, hX⟩ := h.ok
  SatB.sub (List.sublist_append_left _ _) (SatB.perm hX s)
def St.to {L M : Units} (x : St L) [h : Fits L M] : St M := ⟨x.w, x.ok.fits h⟩
theorem St.to_w {L M : Units} (x : St L) [h : Fits L M] : x.w = (x.to (M := M)).w := rfl
theorem toSt {L M : Units} (y : St L) [h : Fits L M] : ∃ z : St M, y.w = z.w := ⟨y.to, rfl⟩
theorem Ret.fin {L M : Units} {v v' : Value} (y : St M) [h : Fits M L] (hv : v = v') : Ret L v' (.returned v) y.w := by
  subst hv; exact ⟨rfl, y.to, rfl⟩
theorem Ret.to {L M : Units} {v : Value} {e : Ending} {w : World} (h : Ret L v e w) [Fits L M] : Ret M v e w := by
  obtain ⟨he, y, hy⟩ := h
  exact ⟨he, y.to, hy⟩

/-- The class of worlds of which this is known. -/
def InSt (L : Units) (w : World) : Prop := ∃ y : St L, w = y.w
@[go_sem] theorem InSt_w {L : Units} (y : St L) : InSt L y.w ↔ True := ⟨fun _ => trivial, fun _ => ⟨y, rfl⟩⟩
@[go_sem] theorem all_InSt {L : Units} {p : World → Prop} : (∀ w, InSt L w → p w) ↔ ∀ y : St L, p y.w := ⟨fun h y => h _ ⟨y, rfl⟩, fun h _ ⟨y, hy⟩ => hy ▸ h y⟩
theorem wp_region_st {P : Program} {id : Nat} {Q : Exit → Act → World → Prop} {a : Act} {L : Units} {x : St L} {l : List Oper} (hm : P.follows .mixedOrders = true) (hB : Region.lexB .any l.toArray = true)
    (h : wpQuiet P l.toArray (InSt L) (fun a' => ∀ y : St L, Q .normal a' y.w) l a) : (Code.region id l.toArray true).wp P Q a x.w := by
  refine wp_region_quiet (C := InSt L) hm hB ⟨x.drew, rfl⟩ ?_
  have e : (fun a' => ∀ w', InSt L w' → Q .normal a' w') = fun a' => ∀ y : St L, Q .normal a' y.w := by funext a'; exact propext all_InSt
  rw [e]
  exact h
theorem wp_region_st_tail {P : Program} {id : Nat} {Q : Exit → Act → World → Prop} {a : Act} {L : Units} {x : St L} {l : List Oper} (n : Nat) (hm : P.follows .mixedOrders = true) (hB : Region.lexTailB .any l.toArray n = true)
    (h : wpQuiet P l.toArray (InSt L) (fun a' => ∀ y : St L, wpList P l.toArray Q (l.drop n) a' y.w) (l.take n) a) : (Code.region id l.toArray true).wp P Q a x.w := by
  refine wp_region_quiet_tail (C := InSt L) n hm hB ⟨x.drew, rfl⟩ ?_
  have e : (fun a' => ∀ w', InSt L w' → wpList P l.toArray Q (l.drop n) a' w') = fun a' => ∀ y : St L, wpList P l.toArray Q (l.drop n) a' y.w := by funext a'; exact propext all_InSt
  rw [e]
  exact h
end Go
end
