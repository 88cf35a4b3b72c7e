/- Part 3 of the proof of what MonJudges says. -/
import Derived.Test.YthijlgjfgliinaaJg01
section
/- Maps as lists of entries: what Go's operations on them come to, over names of worlds. -/
set_option linter.all false
namespace Go
open Instr
variable [Env]

/-- A map: its entries, with the moments of their births; the clock. -/
structure GMap (κ β : Type) where
  l : List (κ × β × Nat)
  clk : Nat
  keys : (l.map (·.1)).Nodup
  born : (l.map (·.2.2)).Nodup
  lt : ∀ e ∈ l, e.2.2 < clk

section
variable {κ β : Type} [DecidableEq κ]

def GMap.empty (κ β : Type) : GMap κ β := ⟨[], 0, by simp, by simp, by simp⟩
def GMap.get (g : GMap κ β) (k : κ) : Option β := (g.l.find? fun e => decide (e.1 = k)).map (·.2.1)
/-- The stamp of an entry. -/
def GMap.stamp (g : GMap κ β) (k : κ) : Nat := ((g.l.find? fun e => decide (e.1 = k)).map (·.2.2)).getD g.clk
def has_ (l : List (κ × β × Nat)) (k : κ) : Bool := l.any fun e => decide (e.1 = k)

theorem has_iff {l : List (κ × β × Nat)} {k : κ} : has_ l k = true ↔ k ∈ l.map (·.1) := by
  simp only [has_, List.any_eq_true, List.mem_map, decide_eq_true_eq]

def GMap.put (g : GMap κ β) (k : κ) (b : β) : GMap κ β :=
  if h : has_ g.l k = true then
    { l := g.l.map fun e => if e.1 = k then (k, b, e.2.2) else e, clk := g.clk
      keys := by
        have : (g.l.map fun e => if e.1 = k then (k, b, e.2.2) else e).map (·.1) = g.l.map (·.1) := by
          rw [List.map_map]; apply List.map_congr_left; intro e _; simp only [Function.comp]; split <;> simp [*]
        rw [this]; exact g.keys
      born := by
        have : (g.l.map fun e => if e.1 = k then (k, b, e.2.2) else e).map (·.2.2) = g.l.map (·.2.2) := by
          rw [List.map_map]; apply List.map_congr_left; intro e _; simp only [Function.comp]; split <;> simp
        rw [this]; exact g.born
      lt := by
        intro e he
        obtain ⟨e', h', rfl⟩ := List.mem_map.1 he
        have := g.lt e' h'
        split <;> exact this }
  else
    { l := g.l ++ [(k, b, g.clk)], clk := g.clk + 1
      keys := by
        rw [has_iff] at h
        simp only [List.map_append, List.map_cons, List.map_nil]
        refine List.nodup_append.2 ⟨g.keys, by simp, ?_⟩
        intro a ha c hc e
        simp at hc; subst hc; subst e; exact h ha
      born := by
        simp only [List.map_append, List.map_cons, List.map_nil]
        refine List.nodup_append.2 ⟨g.born, by simp, ?_⟩
        intro a ha c hc e
        simp only [List.mem_singleton] at hc; subst hc; subst e
        obtain ⟨e', h', h2⟩ := List.mem_map.1 ha
        have := g.lt e' h'
        omega
      lt := by
        intro e he
        rcases List.mem_append.1 he with h1 | h1
        · have := g.lt e h1; omega
        · simp only [List.mem_singleton] at h1; subst h1; exact Nat.lt_succ_self _ }

def GMap.del (g : GMap κ β) (k : κ) : GMap κ β :=
  { l := g.l.filter fun e => !decide (e.1 = k), clk := g.clk
    keys := (List.filter_sublist.map _).nodup g.keys
    born := (List.filter_sublist.map _).nodup g.born
    lt := fun e he => g.lt e (List.mem_filter.1 he).1 }

theorem GMap.get_empty (k : κ) : (GMap.empty κ β).get k = none := rfl

theorem find_map_put (l : List (κ × β × Nat)) (k c : κ) (b : β) :
    ((l.map fun e => if e.1 = k then (k, b, e.2.2) else e).find? fun e => decide (e.1 = c)).map (·.2.1) = if c = k then (if has_ l k then some b else none) else (l.find? fun e => decide (e.1 = c)).map (·.2.1) := by
  induction l with
  | nil => simp [has_]
  | cons e l ih =>
    simp only [List.map_cons, List.find?_cons]
    by_cases he : e.1 = k
    · rw [if_pos he]
      by_cases hc : c = k
      · subst hc; simp [has_, he]
      · have h1 : ¬ k = c := fun h => hc h.symm
        have h2 : ¬ e.1 = c := fun h => h1 (he ▸ h)
        simp only [h1, h2, decide_false]
        rw [ih, if_neg hc, if_neg hc]
    · rw [if_neg he]
      by_cases hec : e.1 = c
      · have h1 : ¬ c = k := fun h => he (hec.trans h)
        simp [hec, h1]
      · simp only [hec, decide_false]
        rw [ih]
        by_cases hc : c = k
        · have h3 : decide (e.1 = k) = false := by simpa using he
          have h4 : has_ (e :: l) k = has_ l k := by simp only [has_, List.any_cons, h3, Bool.false_or]
          rw [if_pos hc, if_pos hc, h4]
        · simp [hc]

theorem GMap.get_put (g : GMap κ β) (k c : κ) (b : β) : (g.put k b).get c = if c = k then some b else g.get c := by
  unfold GMap.put
  split
  · rename_i h
    show ((g.l.map fun e => if e.1 = k then (k, b, e.2.2) else e).find? fun e => decide (e.1 = c)).map (·.2.1) = _
    rw [find_map_put, h]
    rfl
  · rename_i h
    show ((g.l ++ [(k, b, g.clk)]).find? fun e => decide (e.1 = c)).map (·.2.1) = _
    rw [List.find?_append]
    by_cases hc : c = k
    · subst hc
      have : g.l.find? (fun e => decide (e.1 = c)) = none := by
        rw [List.find?_eq_none]
        intro e he h2
        exact h (has_iff.2 (List.mem_map.2 ⟨e, he, by simpa using h2⟩))
      simp [this]
    · have hk : ¬ k = c := fun h => hc h.symm
      simp [hk, hc, GMap.get]

theorem GMap.get_del (g : GMap κ β) (k c : κ) : (g.del k).get c = if c = k then none else g.get c := by
  show ((g.l.filter fun e => !decide (e.1 = k)).find? fun e => decide (e.1 = c)).map (·.2.1) = _
  rw [List.find?_filter]
  by_cases hc : c = k
  · subst hc
    rw [if_pos rfl]
    simp
  · rw [if_neg hc]
    have : (fun e : κ × β × Nat => decide ((!decide (e.1 = k)) = true ∧ decide (e.1 = c) = true)) = fun e => decide (e.1 = c) := by
      funext e
      by_cases h : e.1 = c
      · have : ¬ e.1 = k := fun h2 => hc (h.symm.trans h2)
        simp [h, hc]
      · simp [h]
    rw [this]
    rfl

theorem GMap.has_of_get {g : GMap κ β} {k : κ} {b : β} (h : g.get k = some b) : has_ g.l k = true := by
  unfold GMap.get at h
  obtain ⟨e, he, _⟩ := Option.map_eq_some_iff.1 h
  have h1 := List.find?_some he
  have h2 := List.mem_of_find?_eq_some he
  exact has_iff.2 (List.mem_map.2 ⟨e, h2, by simpa using h1⟩)
theorem GMap.hasnt_of_get {g : GMap κ β} {k : κ} (h : g.get k = none) : has_ g.l k = false := by
  cases hh : has_ g.l k with
  | false => rfl
  | true =>
    obtain ⟨e, he, rfl⟩ := List.mem_map.1 (has_iff.1 hh)
    unfold GMap.get at h
    rw [Option.map_eq_none_iff, List.find?_eq_none] at h
    have := h e he
    simp at this

/-- As the machine has it. -/
def ent (ek : κ → Value) (ev : β → Value) (e : κ × β × Nat) : MapEntry := ⟨ek e.1, ev e.2.1, e.2.2⟩
def GMap.obj (g : GMap κ β) (ek : κ → Value) (ev : β → Value) : Obj := .map (g.l.map (ent ek ev)).toArray g.clk

/-- Where a key stands first. -/
def ixF (ev : β → Value) (k : κ) : List (κ × β × Nat) → Nat → Option (Nat × Value)
  | [], _ => none
  | e :: l, i => if e.1 = k then some (i, ev e.2.1) else ixF ev k l (i + 1)

/-- What a key's type must give. -/
structure KL (P : Program) (kt : TypeId) (ek : κ → Value) : Prop where
  check : ∀ (em : Bool) (a : κ) (w : World), (checkKey em 10000 kt (ek a)).run P w = .ok () w
  find : ∀ {β : Type} (ev : β → Value) (l : List (κ × β × Nat)) (a : κ) (w : World), (findKey kt (ek a) (l.map (ent ek ev))).run P w = .ok (ixF ev a l 0) w
  stays : ∀ (a : κ) (w : World), (keyThatStays (ek a) (ek a)).run P w = .ok (ek a) w

theorem KL.of_int {P : Program} {kt : TypeId} {k : IntKind} (h : P.underlying kt = some (.int k)) : KL P kt (fun p : Int => Value.int k p) where
  check em a w := by
    show (checkKey em (9999 + 1) kt (.int k a)).run P w = _
    unfold checkKey
    simp [run_underlying h]
  find ev l a w := by
    have aux : ∀ (l : List (Int × _ × Nat)) (i : Nat), findNow (.int k) (.int k a) (l.map (ent (fun p : Int => Value.int k p) ev)) i = some (ixF ev a l i) := by
      intro l
      induction l with
      | nil => intro i; rfl
      | cons e l ih =>
        intro i
        simp only [List.map_cons, findNow, ent, sameNow, ixF, if_true]
        by_cases he : e.1 = a
        · simp [he]
        · have : (a == e.1) = false := by simpa using fun h => he h.symm
          simp only [this, if_neg he]
          exact ih (i + 1)
    unfold findKey
    simp [run_underlying h, aux]
  stays a w := by
    unfold keyThatStays
    have : sameBits 10000 (.int k a) (.int k a) = true := by unfold sameBits; simp
    simp [this]

theorem KL.of_eq {P : Program} {kt : TypeId} {ek : κ → Value} {d : TypeDesc} (hd : P.underlying kt = some d) (hn : ∀ a b, sameNow d (ek a) (ek b) = none)
    (heq : ∀ a b w, (Op.equal kt (ek a) (ek b)).run P w = .ok (decide (b = a)) w)
    (hc : ∀ (em : Bool) (a : κ) (w : World), (checkKey em 10000 kt (ek a)).run P w = .ok () w) (hs : ∀ a, sameBits 10000 (ek a) (ek a) = true) : KL P kt ek where
  check := hc
  find ev l a w := by
    have aux : ∀ (l : List (κ × _ × Nat)) (i : Nat), (findAsking kt (ek a) (l.map (ent ek ev)) i).run P w = .ok (ixF ev a l i) w := by
      intro l
      induction l with
      | nil => intro i; simp [findAsking, ixF]
      | cons e l ih =>
        intro i
        simp only [List.map_cons, findAsking, ixF]
        by_cases he : e.1 = a
        · simp [heq, ent, he]
        · simp [heq, ent, he, ih]
    unfold findKey
    cases l with
    | nil => simp [run_underlying hd, findNow, ixF]
    | cons e l =>
      have h1 : findNow d (ek a) ((e :: l).map (ent ek ev)) 0 = none := by
        simp [findNow, ent, hn]
      have h2 := aux (e :: l) 0
      rw [List.map_cons] at h1 h2
      simp [run_underlying hd, h1, h2]
  stays a w := by
    unfold keyThatStays
    simp [hs a]

theorem ixF_none {ev : β → Value} {k : κ} : ∀ (l : List (κ × β × Nat)) (i : Nat), has_ l k = false → ixF ev k l i = none
  | [], _, _ => rfl
  | e :: l, i, h => by
    simp only [has_, List.any_cons, Bool.or_eq_false_iff, decide_eq_false_iff_not] at h
    rw [ixF, if_neg h.1]
    exact ixF_none l (i + 1) h.2
theorem ixF_get {ev : β → Value} {k : κ} : ∀ (l : List (κ × β × Nat)) (i : Nat), (ixF ev k l i).map (·.2) = (l.find? fun e => decide (e.1 = k)).map fun e => ev e.2.1
  | [], _ => rfl
  | e :: l, i => by
    by_cases h : e.1 = k
    · simp [ixF, h]
    · simp only [ixF, List.find?_cons, h, decide_false]
      exact ixF_get l (i + 1)
/-- What stands first. -/
theorem ixF_split {ev : β → Value} {k : κ} : ∀ (l : List (κ × β × Nat)) (i : Nat), has_ l k = true → ∃ l1 e l2, l = l1 ++ e :: l2 ∧ e.1 = k ∧ has_ l1 k = false ∧ ixF ev k l i = some (i + l1.length, ev e.2.1)
  | [], _, h => by simp [has_] at h
  | e :: l, i, h => by
    by_cases he : e.1 = k
    · exact ⟨[], e, l, rfl, he, rfl, by simp [ixF, he]⟩
    · have h' : has_ l k = true := by simpa [has_, he] using h
      obtain ⟨l1, e1, l2, h1, h2, h3, h4⟩ := ixF_split (ev := ev) l (i + 1) h'
      refine ⟨e :: l1, e1, l2, by rw [h1]; rfl, h2, by simp [has_, he]; simpa [has_] using h3, ?_⟩
      rw [ixF, if_neg he, h4]
      simp; omega

theorem has_append {l m : List (κ × β × Nat)} {k : κ} : has_ (l ++ m) k = (has_ l k || has_ m k) := by simp [has_]
theorem hasnt_of_nodup {l1 l2 : List (κ × β × Nat)} {e : κ × β × Nat} (h : ((l1 ++ e :: l2).map (·.1)).Nodup) : has_ l2 e.1 = false := by
  cases hh : has_ l2 e.1 with
  | false => rfl
  | true =>
    have := has_iff.1 hh
    simp only [List.map_append, List.map_cons] at h
    have h2 := (List.nodup_append.1 h).2.1
    rw [List.nodup_cons] at h2
    exact absurd this h2.1
theorem map_put_hasnt {l : List (κ × β × Nat)} {k : κ} {b : β} (h : has_ l k = false) : (l.map fun e => if e.1 = k then (k, b, e.2.2) else e) = l := by
  induction l with
  | nil => rfl
  | cons e l ih =>
    simp only [has_, List.any_cons, Bool.or_eq_false_iff, decide_eq_false_iff_not] at h
    rw [List.map_cons, if_neg h.1, ih h.2]
theorem modify_ents (ek : κ → Value) (ev : β → Value) (f : MapEntry → MapEntry) (l1 : List (κ × β × Nat)) (e : κ × β × Nat) (l2 : List (κ × β × Nat)) :
    ((l1 ++ e :: l2).map (ent ek ev)).toArray.modify l1.length f = (l1.map (ent ek ev) ++ f (ent ek ev e) :: l2.map (ent ek ev)).toArray := by
  apply Array.ext'
  have h : l1.length < ((l1 ++ e :: l2).map (ent ek ev)).length := by simp
  rw [Array.toList_modify, List.modify_eq_take_cons_drop h]
  simp [List.getElem_append_right, List.take_append, List.drop_append]
theorem ents_get (ek : κ → Value) (ev : β → Value) (l1 : List (κ × β × Nat)) (e : κ × β × Nat) (l2 : List (κ × β × Nat)) :
    ((l1 ++ e :: l2).map (ent ek ev)).toArray[l1.length]? = some (ent ek ev e) := by
  simp [List.getElem?_append_right]

theorem GMap.put_split {g : GMap κ β} {l1 l2 : List (κ × β × Nat)} {e : κ × β × Nat} {k : κ} (b : β) (h : g.l = l1 ++ e :: l2) (hk : e.1 = k) (hn : has_ l1 k = false) :
    (g.put k b).l = l1 ++ (k, b, e.2.2) :: l2 ∧ (g.put k b).clk = g.clk := by
  have hh : has_ g.l k = true := by rw [h, has_append]; simp [has_, hk]
  have h2 : has_ l2 k = false := by rw [← hk]; exact hasnt_of_nodup (h ▸ g.keys)
  unfold GMap.put
  rw [dif_pos hh]
  refine ⟨?_, rfl⟩
  show g.l.map _ = _
  rw [h, List.map_append, List.map_cons, if_pos hk, map_put_hasnt hn, map_put_hasnt h2]
theorem GMap.ext {g h : GMap κ β} (h1 : g.l = h.l) (h2 : g.clk = h.clk) : g = h := by
  cases g; cases h; simp only at h1 h2; subst h1; subst h2; rfl

variable {P : Program} {ek : κ → Value} {ev : β → Value} {kt : TypeId}
theorem run_lookup_g (K : KL P kt ek) {T et : TypeId} {z : Value} {w : World} {r : Nat} (hT : P.underlying T = some (.map kt et)) (hz : ∀ w, (zeroValue et).run P w = .ok z w)
    (g : GMap κ β) (hr : w.heap[r]? = some (g.obj ek ev)) (a : κ) (ok : Bool) :
    (lookup T (.map (some r)) (ek a) ok).run P w = .ok (if ok then .tuple #[((g.get a).map ev).getD z, .bool (g.get a).isSome] else ((g.get a).map ev).getD z) w := by
  have hg : ∀ w : World, w.heap[r]? = some (g.obj ek ev) → (getObj r).run P w = .ok (g.obj ek ev) w := by
    intro w hr
    simp [getObj, Sem.run, hr, GMap.obj]
  have hix : (ixF ev a g.l 0).map (·.2) = (g.get a).map ev := by rw [ixF_get]; simp [GMap.get, Option.map_map, Function.comp_def]
  have hf := K.find ev g.l a w
  simp only [GMap.obj] at hg
  unfold lookup
  cases hx : ixF ev a g.l 0 with
  | none =>
    rw [hx] at hix hf
    have hn : g.get a = none := by
      cases hga : g.get a with
      | none => rfl
      | some _ => rw [hga] at hix; simp at hix
    cases ok <;> simp [run_underlying hT, hg w hr, K.check, hf, hz, hn]
  | some p =>
    rw [hx] at hix hf
    simp only [Option.map_some] at hix
    have h2 : (g.get a).isSome = true := by
      cases hga : g.get a with
      | none => rw [hga] at hix; simp at hix
      | some _ => rfl
    cases ok <;> simp [run_underlying hT, hg w hr, K.check, hf, hz, ← hix, h2]

theorem run_getMap {w : World} {r : Nat} (g : GMap κ β) (hr : w.heap[r]? = some (g.obj ek ev)) : (getObj r).run P w = .ok (.map (g.l.map (ent ek ev)).toArray g.clk) w := by
  simp [getObj, Sem.run, hr, GMap.obj]
theorem run_setMap {w : World} {r : Nat} {es : Array MapEntry} {c : Nat} (o : Obj) (hr : w.heap[r]? = some (.map es c)) : (setObj r o).run P w = .ok () (w.setBlk r o) := by
  simp [setObj, Sem.run, hr, World.setBlk]

theorem run_mapUpdate_g (K : KL P kt ek) {T et : TypeId} {w : World} {r : Nat} (hT : P.underlying T = some (.map kt et))
    (g : GMap κ β) (hr : w.heap[r]? = some (g.obj ek ev)) (a : κ) (b : β) :
    (mapUpdate T (.map (some r)) (ek a) (ev b)).run P w = .ok () (w.setBlk r ((g.put a b).obj ek ev)) := by
  have hf := K.find ev g.l a w
  have hg := run_getMap (P := P) g hr
  unfold mapUpdate
  cases hh : has_ g.l a with
  | false =>
    rw [ixF_none _ _ hh] at hf
    have e : (g.put a b).obj ek ev = .map ((g.l.map (ent ek ev)).toArray.push ⟨ek a, ev b, g.clk⟩) (g.clk + 1) := by
      unfold GMap.put
      rw [dif_neg (by simp [hh])]
      simp [GMap.obj, ent]
    rw [e]
    simp [run_underlying hT, hg, K.check, hf, run_setMap _ hr]
  | true =>
    obtain ⟨l1, e, l2, h1, h2, h3, h4⟩ := ixF_split (ev := ev) g.l 0 hh
    rw [h4] at hf
    obtain ⟨p1, p2⟩ := GMap.put_split b h1 h2 h3
    have e1 : (g.put a b).obj ek ev = .map ((g.l.map (ent ek ev)).toArray.modify l1.length fun e => { e with key := ek a, val := ev b }) g.clk := by
      unfold GMap.obj
      rw [p1, p2, h1, modify_ents]
      simp [ent]
    have e2 : ((g.l.map (ent ek ev)).toArray[l1.length]?) = some (ent ek ev e) := by rw [h1]; exact ents_get ..
    rw [e1]
    simp only [Nat.zero_add] at hf
    have e3 : ((Option.map (fun x => x.key) (g.l.map (ent ek ev)).toArray[l1.length]?).getD (ek a)) = ek a := by rw [e2]; simp [ent, h2]
    simp only [Sem.run_bind, run_underlying hT, Result.andThen_ok, hg, K.check, hf, e3, K.stays, run_setMap _ hr]

theorem run_delete_g (K : KL P kt ek) {T et ty : TypeId} {ts : Array TypeId} {w : World} {r : Nat} (hT : P.underlying T = some (.map kt et))
    (g : GMap κ β) (hr : w.heap[r]? = some (g.obj ek ev)) (a : κ) (ht : ts[0]? = some T) :
    (Builtin.delete_ ts ty #[.map (some r), ek a]).run P w = .ok (.tuple #[]) (w.setBlk r ((g.del a).obj ek ev)) := by
  have hf := K.find ev g.l a w
  have hg := run_getMap (P := P) g hr
  unfold Builtin.delete_
  cases hh : has_ g.l a with
  | false =>
    rw [ixF_none _ _ hh] at hf
    have e : (g.del a).obj ek ev = .map (g.l.map (ent ek ev)).toArray g.clk := by
      unfold GMap.del GMap.obj
      have : (g.l.filter fun e => !decide (e.1 = a)) = g.l := by
        rw [List.filter_eq_self]
        intro e he
        simp only [Bool.not_eq_true', decide_eq_false_iff_not]
        intro h
        have : has_ g.l a = true := has_iff.2 (List.mem_map.2 ⟨e, he, h⟩)
        rw [hh] at this; cases this
      simp only [this]
    rw [e]
    simp [ht, run_underlying hT, hg, K.check, hf, run_setMap _ hr]
  | true =>
    obtain ⟨l1, e, l2, h1, h2, h3, h4⟩ := ixF_split (ev := ev) g.l 0 hh
    rw [h4] at hf
    have hd : has_ l2 a = false := by rw [← h2]; exact hasnt_of_nodup (h1 ▸ g.keys)
    have filt : ∀ l : List (κ × β × Nat), has_ l a = false → (l.filter fun e => !decide (e.1 = a)) = l := by
      intro l hl
      rw [List.filter_eq_self]
      intro e he
      simp only [Bool.not_eq_true', decide_eq_false_iff_not]
      intro h
      have : has_ l a = true := has_iff.2 (List.mem_map.2 ⟨e, he, h⟩)
      rw [hl] at this; cases this
    have e1 : (g.del a).obj ek ev = .map ((g.l.map (ent ek ev)).toArray.eraseIdxIfInBounds l1.length) g.clk := by
      unfold GMap.del GMap.obj
      have e0 : (g.l.filter fun e => !decide (e.1 = a)) = l1 ++ l2 := by
        rw [h1, List.filter_append, List.filter_cons, filt _ h3, filt _ hd]
        simp [h2]
      simp only [e0]
      congr 1
      apply Array.ext'
      have hlt : l1.length < (g.l.map (ent ek ev)).toArray.size := by rw [h1]; simp
      rw [Array.eraseIdxIfInBounds, dif_pos hlt, Array.toList_eraseIdx]
      simp only [h1, List.map_append, List.map_cons]
      have : l1.length = (l1.map (ent ek ev)).length := by simp
      rw [List.eraseIdx_append_of_length_le (by simp)]
      simp
    rw [e1]
    simp only [Nat.zero_add] at hf
    simp [ht, run_underlying hT, hg, K.check, hf, run_setMap _ hr]

/-- An entry is there. -/
def GMap.touch (g : GMap κ β) (a : κ) (z : β) : GMap κ β := if has_ g.l a = true then g else g.put a z
theorem GMap.touch_put (g : GMap κ β) (a : κ) (z b : β) : (g.touch a z).put a b = g.put a b := by
  unfold GMap.touch
  split
  · rfl
  · rename_i h
    have h' : has_ g.l a = false := by simpa using h
    have e1 : (g.put a z).l = g.l ++ [(a, z, g.clk)] := by unfold GMap.put; rw [dif_neg (by simp [h'])]
    have e2 : (g.put a z).clk = g.clk + 1 := by unfold GMap.put; rw [dif_neg (by simp [h'])]
    have e3 : (g.put a b).l = g.l ++ [(a, b, g.clk)] := by unfold GMap.put; rw [dif_neg (by simp [h'])]
    have e4 : (g.put a b).clk = g.clk + 1 := by unfold GMap.put; rw [dif_neg (by simp [h'])]
    obtain ⟨p1, p2⟩ := GMap.put_split (g := g.put a z) (l1 := g.l) (l2 := []) (e := (a, z, g.clk)) b e1 rfl h'
    exact GMap.ext (by rw [p1, e3]) (by rw [p2, e2, e4])
theorem GMap.get_touch (g : GMap κ β) (a : κ) (z : β) : (g.touch a z).get a = some ((g.get a).getD z) := by
  unfold GMap.touch
  split
  · rename_i h
    cases hg : g.get a with
    | none => rw [GMap.hasnt_of_get hg] at h; cases h
    | some b => rfl
  · rename_i h
    have hg : g.get a = none := by
      cases hg : g.get a with
      | none => rfl
      | some b => exact absurd (GMap.has_of_get hg) h
    rw [GMap.get_put, if_pos rfl, hg]; rfl

theorem run_mapEntry_g (K : KL P kt ek) {T et : TypeId} {w : World} {r : Nat} (hT : P.underlying T = some (.map kt et)) (zb : β) (hz : ∀ w, (zeroValue et).run P w = .ok (ev zb) w)
    (g : GMap κ β) (hr : w.heap[r]? = some (g.obj ek ev)) (a : κ) :
    (mapEntry T (.map (some r)) (ek a)).run P w = .ok (.tuple #[ev ((g.get a).getD zb), goInt (g.stamp a)]) (w.setBlk r ((g.touch a zb).obj ek ev)) := by
  have hf := K.find ev g.l a w
  have hg := run_getMap (P := P) g hr
  unfold mapEntry
  cases hh : has_ g.l a with
  | false =>
    rw [ixF_none _ _ hh] at hf
    have hga : g.get a = none := by
      cases hg : g.get a with
      | none => rfl
      | some b => have := GMap.has_of_get hg; rw [hh] at this; cases this
    have hst : g.stamp a = g.clk := by
      unfold GMap.get at hga
      rw [Option.map_eq_none_iff] at hga
      simp [GMap.stamp, hga]
    have e : (g.touch a zb).obj ek ev = .map ((g.l.map (ent ek ev)).toArray.push ⟨ek a, ev zb, g.clk⟩) (g.clk + 1) := by
      unfold GMap.touch
      rw [if_neg (by simp [hh])]
      unfold GMap.put
      rw [dif_neg (by simp [hh])]
      simp [GMap.obj, ent]
    rw [e]
    simp [run_underlying hT, hg, K.check, hf, run_setMap _ hr, hz, hga, hst]
  | true =>
    obtain ⟨l1, e, l2, h1, h2, h3, h4⟩ := ixF_split (ev := ev) g.l 0 hh
    rw [h4] at hf
    have hfind : g.l.find? (fun e => decide (e.1 = a)) = some e := by
      rw [h1, List.find?_append]
      have : l1.find? (fun e => decide (e.1 = a)) = none := by
        rw [List.find?_eq_none]
        intro e' he'
        simp only [decide_eq_true_eq]
        intro h
        have : has_ l1 a = true := has_iff.2 (List.mem_map.2 ⟨e', he', h⟩)
        rw [h3] at this; cases this
      simp [this, h2]
    have e1 : (g.touch a zb).obj ek ev = .map ((g.l.map (ent ek ev)).toArray.modify l1.length fun e => { e with key := ek a }) g.clk := by
      unfold GMap.touch
      rw [if_pos hh]
      unfold GMap.obj
      rw [h1, modify_ents]
      simp [ent, h2]
    have e2 : ((g.l.map (ent ek ev)).toArray[l1.length]?) = some (ent ek ev e) := by rw [h1]; exact ents_get ..
    rw [e1]
    simp only [Nat.zero_add] at hf
    have e3 : ((Option.map (fun x => x.key) (g.l.map (ent ek ev)).toArray[l1.length]?).getD (ek a)) = ek a := by rw [e2]; simp [ent, h2]
    have e4 : ((Option.map (fun x => (x.born : Int)) (g.l.map (ent ek ev)).toArray[l1.length]?).getD 0) = (e.2.2 : Int) := by rw [e2]; simp [ent]
    simp only [Sem.run_bind, run_underlying hT, Result.andThen_ok, hg, K.check, hf, e3, e4, K.stays, run_setMap _ hr, Sem.run_pure]
    simp [GMap.get, GMap.stamp, hfind]

theorem run_entryStore_g {T : TypeId} {w : World} {r : Nat} (g : GMap κ β) (a : κ) (zb b : β) (hr : w.heap[r]? = some ((g.touch a zb).obj ek ev)) :
    (entryStore T (.map (some r)) (goInt (g.stamp a)) (ev b)).run P w = .ok () (w.setBlk r ((g.put a b).obj ek ev)) := by
  have hg := run_getMap (P := P) (g.touch a zb) hr
  rw [← GMap.touch_put g a zb b]
  have hst : (g.touch a zb).stamp a = g.stamp a := by
    unfold GMap.touch
    split
    · rfl
    · rename_i h
      have h' : has_ g.l a = false := by simpa using h
      have e1 : (g.put a zb).l = g.l ++ [(a, zb, g.clk)] := by unfold GMap.put; rw [dif_neg (by simp [h'])]
      have hn : g.l.find? (fun e => decide (e.1 = a)) = none := by
        rw [List.find?_eq_none]
        intro e' he'
        simp only [decide_eq_true_eq]
        intro h
        have : has_ g.l a = true := has_iff.2 (List.mem_map.2 ⟨e', he', h⟩)
        rw [h'] at this; cases this
      simp [GMap.stamp, e1, List.find?_append, hn]
  rw [← hst]
  have hh : has_ (g.touch a zb).l a = true := GMap.has_of_get (GMap.get_touch g a zb)
  generalize g.touch a zb = g at *
  obtain ⟨l1, e, l2, h1, h2, h3, h4⟩ := ixF_split (ev := ev) g.l 0 hh
  have hfind : g.l.find? (fun e => decide (e.1 = a)) = some e := by
    rw [h1, List.find?_append]
    have : l1.find? (fun e => decide (e.1 = a)) = none := by
      rw [List.find?_eq_none]
      intro e' he'
      simp only [decide_eq_true_eq]
      intro h
      have : has_ l1 a = true := has_iff.2 (List.mem_map.2 ⟨e', he', h⟩)
      rw [h3] at this; cases this
    simp [this, h2]
  have hstv : g.stamp a = e.2.2 := by simp [GMap.stamp, hfind]
  obtain ⟨p1, p2⟩ := GMap.put_split b h1 h2 h3
  have e1 : (g.put a b).obj ek ev = .map ((g.l.map (ent ek ev)).toArray.modify l1.length fun e => { e with val := ev b }) g.clk := by
    unfold GMap.obj
    rw [p1, p2, h1, modify_ents]
    simp [ent, h2]
  have hix : (g.l.map (ent ek ev)).toArray.findIdx? (fun x => (x.born : Int) == (e.2.2 : Int)) = some l1.length := by
    rw [List.findIdx?_toArray, List.findIdx?_eq_some_iff_getElem]
    refine ⟨by rw [h1]; simp, ?_, ?_⟩
    · simp [h1, ent]
    · intro j hj
      have hb := g.born
      rw [h1] at hb
      simp only [List.map_append, List.map_cons] at hb
      have hne := (List.nodup_append.1 hb).2.2 (l1[j].2.2) (List.mem_map.2 ⟨l1[j], List.getElem_mem hj, rfl⟩) e.2.2 (by simp)
      simp [h1, List.getElem_append_left, hj, ent]
      omega
  rw [e1, hstv]
  unfold entryStore goInt
  simp [hg, asInt, asIntOf, hix, run_setMap _ hr]

theorem run_len_g {T kt et ty : TypeId} {ts : Array TypeId} {w : World} {r : Nat} (hT : P.underlying T = some (.map kt et)) (g : GMap κ β) (hr : w.heap[r]? = some (g.obj ek ev)) (ht : ts[0]? = some T) :
    (Builtin.len_ ts ty #[.map (some r)]).run P w = .ok (goInt g.l.length) w := by
  have hg := run_getMap (P := P) g hr
  unfold Builtin.len_
  simp [ht, run_underlying hT, hg]
end
end Go
end
section
/- Operations that make memory: the new block behind a name of its own. -/
set_option linter.all false
namespace Go
variable [Env]
section
variable {P : Program} {ops : Array Oper} {Q : Exit → Act → World → Prop} {rest : List Oper} {a : Act} {L : Units} {x : St L} {d : Option Tmp} {ty : TypeId} {pos : String} {af : Array Edge}

theorem wpList_new_st {o : Oper} {v : Nat → Value} {ob : Obj} (hg : o.guard = none) (hrun : ∀ w, (execOp a.eval o).run P w = .ok (.value (v w.heap.size)) (w.alloc ob))
    (h : ∀ (nb : Nat) (y : St ([(nb, ob)] :: L)), wpList P ops Q rest (a.put o.dst (v nb)) y.w) : wpList P ops Q (o :: rest) a x.w :=
  wpList_plain hg fun K hK => by
    unfold Oper.wp
    rw [hrun]
    exact hK _ _ (h _ (x.alloc ob))
theorem wpList_box_st {T : TypeId} {v : Operand} {cs : Array Value} (hv : (a.eval v).cells = cs)
    (h : ∀ (nb : Nat) (y : St ([(nb, .cells cs T)] :: L)), wpList P ops Q rest (a.put d (.pointer (some ⟨nb, 0, none⟩))) y.w) :
    wpList P ops Q ({ dst := d, op := .box T v, type := ty, pos := pos, after := af, guard := none } :: rest) a x.w :=
  wpList_new_st (v := fun nb => .pointer (some ⟨nb, 0, none⟩)) rfl (fun w => by simp [execOp, Instr.box, newVar, newRow, hv]) h
theorem wpList_alloc_st {T : TypeId} {z : Value} {cs : Array Value} (hz : (P.info? T).bind (·.zero) = some z) (hc : z.cells = cs)
    (h : ∀ (nb : Nat) (y : St ([(nb, .cells cs T)] :: L)), wpList P ops Q rest (a.put d (.pointer (some ⟨nb, 0, none⟩))) y.w) :
    wpList P ops Q ({ dst := d, op := .alloc T, type := ty, pos := pos, after := af, guard := none } :: rest) a x.w :=
  wpList_new_st (v := fun nb => .pointer (some ⟨nb, 0, none⟩)) rfl (fun w => by
    cases hi : P.info? T with
    | none => simp [hi] at hz
    | some i =>
      simp only [hi, Option.bind_some] at hz
      simp [execOp, Instr.alloc, zeroValue, typeInfo, hi, hz, newVar, newRow, hc]) h
theorem wpList_makeMap_st {κ β : Type} {T : TypeId} (ek : κ → Value) (ev : β → Value)
    (h : ∀ (nb : Nat) (y : St ([(nb, (GMap.empty κ β).obj ek ev)] :: L)), wpList P ops Q rest (a.put d (.map (some nb))) y.w) :
    wpList P ops Q ({ dst := d, op := .makeMap T none, type := ty, pos := pos, after := af, guard := none } :: rest) a x.w :=
  wpList_new_st (v := fun nb => .map (some nb)) (ob := (GMap.empty κ β).obj ek ev) rfl (fun w => by simp [execOp, Instr.makeMap, GMap.empty, GMap.obj]) h
theorem wpList_buildSlice_st {T E : TypeId} {n : Nat} {parts : Array (Nat × Operand)} {cs : Array Value}
    (hv : ∀ w, (Instr.buildSlice T n (parts.map fun (i, x) => (i, a.eval x))).run P w = .ok (.slice (some ⟨w.heap.size, 0, none⟩) n n) (w.alloc (.cells cs E)))
    (h : ∀ (nb : Nat) (y : St ([(nb, .cells cs E)] :: L)), wpList P ops Q rest (a.put d (.slice (some ⟨nb, 0, none⟩) n n)) y.w) :
    wpList P ops Q ({ dst := d, op := .buildSlice T n parts, type := ty, pos := pos, after := af, guard := none } :: rest) a x.w :=
  wpList_new_st (v := fun nb => .slice (some ⟨nb, 0, none⟩) n n) rfl (fun w => by simp [execOp, hv]) h
end
end Go
end
