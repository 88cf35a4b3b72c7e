/- Two monitors side by side: plain facts. -/
import Derived.Test.YthijlgjfgliinaaMonC2
set_option linter.all false
namespace Go.Proofs.Ythijlgjfgliinaa
open Go.RowKit
variable [Env]
/-- What now says of a process is a stay of its own. -/
def AMon.Own (A : AMon) : Prop := ∀ p i, A.now p = some i → ∃ s, A.stays[i]? = some s ∧ s.proc = p
theorem AMon.Own.set {A : AMon} (h : A.Own) {i : Nat} {s s' : AStay} (hi : A.stays[i]? = some s) (hp : s'.proc = s.proc) : ∀ p j, A.now p = some j → ∃ t, (A.stays.set i s')[j]? = some t ∧ t.proc = p := by
  intro p j hj
  obtain ⟨t, h1, h2⟩ := h p j hj
  rw [List.getElem?_set]
  by_cases hij : i = j
  · subst hij
    rw [h1] at hi
    cases hi
    rw [if_pos rfl, if_pos (List.getElem?_eq_some_iff.1 h1).1]
    exact ⟨s', rfl, hp.trans h2⟩
  · rw [if_neg hij]; exact ⟨t, h1, h2⟩
theorem AMon.stay_at {A : AMon} {e : AEv} {i : Nat} {s : AStay} (h : A.stay e = some (i, s)) : A.stays[i]? = some s := by
  unfold AMon.stay at h
  split at h
  · cases h
  · split at h
    · cases h
    · rename_i j hj s' hs
      split at h
      · simp only [Option.some.injEq, Prod.mk.injEq] at h
        obtain ⟨rfl, rfl⟩ := h
        exact hs
      · cases h
theorem AMon.act_own {A : AMon} (h : A.Own) (e : AEv) : (A.act e).Own := by
  unfold AMon.act
  repeat' split
  · intro p i hi
    simp only [upd] at hi
    split at hi
    · cases hi
    · exact h p i hi
  · intro p i hi
    unfold AMon.regular at hi ⊢
    simp only [upd] at hi ⊢
    cases hc : ((A.now e.proc).bind fun i => (A.stays[i]?).map fun b => (i, b)) with
    | none =>
      simp only
      split at hi
      · rename_i hp
        simp only [Option.some.injEq] at hi
        subst hi
        exact ⟨AStay.fresh e, by simp, hp.symm⟩
      · obtain ⟨s, h1, h2⟩ := h p i hi
        refine ⟨s, ?_, h2⟩
        rw [List.getElem?_append_left (List.getElem?_eq_some_iff.1 h1).1]; exact h1
    | some q =>
      obtain ⟨j, b⟩ := q
      have hb : A.stays[j]? = some b := by
        cases hn : A.now e.proc with
        | none => rw [hn] at hc; cases hc
        | some j' =>
          rw [hn] at hc
          simp only [Option.bind_some] at hc
          cases hs : A.stays[j']? with
          | none => rw [hs] at hc; cases hc
          | some s' => rw [hs] at hc; simp only [Option.map_some, Option.some.injEq, Prod.mk.injEq] at hc; rw [← hc.1, ← hc.2, hs]
      simp only
      split at hi
      · rename_i hp
        simp only [Option.some.injEq] at hi
        subst hi
        exact ⟨AStay.fresh e, by simp, hp.symm⟩
      · obtain ⟨t, h1, h2⟩ := AMon.Own.set h (s' := { b with went := true }) hb rfl p i hi
        refine ⟨t, ?_, h2⟩
        rw [List.getElem?_append_left (List.getElem?_eq_some_iff.1 h1).1]; exact h1
  · exact h
  · unfold AMon.deliver
    simp only
    split
    · exact h
    · rename_i i s hs
      intro p j hj
      refine AMon.Own.set h (s' := s.take e.m) (AMon.stay_at hs) ?_ p j hj
      unfold AStay.take; split <;> rfl
  · unfold AMon.trans
    split
    · exact h
    · rename_i i s hs
      exact AMon.Own.set h (AMon.stay_at hs) rfl
  · exact h
theorem AMon.add_own {A : AMon} (h : A.Own) (e : AEv) : (A.add e).Own := by
  have h1 : ({ A with ln := A.ln + 1 } : AMon).Own := h
  have h2 := AMon.act_own h1 e
  unfold AMon.add AMon.first
  split
  · exact h2
  · exact h2
theorem AMon.fresh_own : AMon.fresh.Own := fun p i h => by cases h
theorem GMon.own {G : GMon} (h : G.abs.Own) {p : Int} {i : Nat} {s : GStay} (hn : G.now p = some i) (hs : G.stays[i]? = some s) : s.proc = p := by
  obtain ⟨t, h1, h2⟩ := h p i hn
  have : (G.stays.map GStay.abs)[i]? = some t := h1
  rw [List.getElem?_map, hs] at this
  simp only [Option.map_some, Option.some.injEq] at this
  rw [← h2, ← this]; rfl
/-- All blocks of a monitor. -/
def GMon.B (G : GMon) : Blocks := (G.L [] []).flatten
theorem GMon.split (G : GMon) (F : Blocks) (R : Units) : Eqv (G.L F R) (G.B :: F :: R) := by
  unfold Eqv GMon.B GMon.L
  simp only [List.flatten_cons, List.flatten_nil, List.append_nil, List.append_assoc, List.nil_append]
  refine List.Perm.append_left _ (List.Perm.append_left _ (List.Perm.append_left _ (List.Perm.append_left _ (List.Perm.append_left _ (List.Perm.append_left _ (List.Perm.append_left _ (List.Perm.append_left _ ?_)))))))
  rw [← List.append_assoc, ← List.append_assoc]
  exact List.Perm.append_right _ List.perm_append_comm
/-- One of two monitors, the other one aside. -/
theorem GMon.turn (G G' : GMon) (F : Blocks) (R : Units) : Eqv (G.L F (G'.B :: R)) (G'.L F (G.B :: R)) :=
  (G.split F _).trans ((Eqv.cons _ (Eqv.swap _ _ _)).trans ((Eqv.swap _ _ _).trans ((Eqv.cons _ (Eqv.swap _ _ _)).trans (G'.split F _).symm)))
/-- Blocks of stays are distinct. -/
theorem SU_inj {L : Units} {l : List GStay} {R : Units} [h : Unit_ L (SU l) R] (hn : (L.flatten.map (·.1)).Nodup) {i j : Nat} {s t : GStay} (hi : l[i]? = some s) (hj : l[j]? = some t) (hb : s.blk = t.blk) : i = j := by
  have h1 : ((SU l).map (·.1)).Nodup := by
    have := (h.ok.map (·.1)).nodup_iff.1 hn
    simp only [List.flatten_cons, List.map_append] at this
    exact (List.nodup_append.1 this).1
  clear hn h
  induction l generalizing i j with
  | nil => simp at hi
  | cons a l ih =>
    have e : (SU (a :: l)).map (·.1) = (a.u.map (·.1)) ++ (SU l).map (·.1) := by unfold SU; simp
    rw [e] at h1
    obtain ⟨_, h3, h4⟩ := List.nodup_append.1 h1
    have hmem : ∀ (k : Nat) (q : GStay), l[k]? = some q → q.blk ∈ (SU l).map (·.1) := fun k q hq => List.mem_map.2 ⟨(q.blk, q.obj), mem_SU (List.mem_of_getElem? hq) (by simp [GStay.u]), rfl⟩
    have ha : a.blk ∈ a.u.map (·.1) := by simp [GStay.u]
    cases i with
    | zero =>
      cases j with
      | zero => rfl
      | succ j =>
        simp only [List.getElem?_cons_zero, Option.some.injEq] at hi
        simp only [List.getElem?_cons_succ] at hj
        subst hi
        exact absurd hb (h4 _ ha _ (hmem j t hj))
    | succ i =>
      cases j with
      | zero =>
        simp only [List.getElem?_cons_zero, Option.some.injEq] at hj
        simp only [List.getElem?_cons_succ] at hi
        subst hj
        exact absurd hb.symm (h4 _ ha _ (hmem i s hi))
      | succ j =>
        simp only [List.getElem?_cons_succ] at hi hj
        rw [ih hi hj h3]
/-! The messages, map entry by map entry -/
theorem _root_.Go.GMap.get_of_mem {κ β : Type} [DecidableEq κ] (g : GMap κ β) {e : κ × β × Nat} (h : e ∈ g.l) : g.get e.1 = some e.2.1 := by
  have hk := g.keys
  unfold GMap.get
  generalize g.l = l at h hk
  induction l with
  | nil => cases h
  | cons a l ih =>
    simp only [List.map_cons, List.nodup_cons] at hk
    rcases List.mem_cons.1 h with rfl | h
    · simp
    · have hne : ¬ a.1 = e.1 := fun he => hk.1 (he ▸ List.mem_map.2 ⟨e, h, rfl⟩)
      rw [List.find?_cons, decide_eq_false hne]
      exact ih h hk.2
theorem _root_.Go.GMap.mem_of_get {κ β : Type} [DecidableEq κ] (g : GMap κ β) {k : κ} {b : β} (h : g.get k = some b) : ∃ st, (k, b, st) ∈ g.l := by
  unfold GMap.get at h
  obtain ⟨e, h1, h2⟩ := Option.map_eq_some_iff.1 h
  have h3 := List.find?_some h1
  have h4 := List.mem_of_find?_eq_some h1
  simp only [decide_eq_true_eq] at h3
  subst h3; subst h2
  exact ⟨e.2.2, h4⟩
theorem _root_.Go.GMap.inj_born {κ β : Type} [DecidableEq κ] (g : GMap κ β) {a b : κ × β × Nat} (ha : a ∈ g.l) (hb : b ∈ g.l) (h : a.2.2 = b.2.2) : a = b := by
  have hn := g.born
  generalize g.l = l at ha hb hn
  induction l with
  | nil => cases ha
  | cons c l ih =>
    simp only [List.map_cons, List.nodup_cons] at hn
    rcases List.mem_cons.1 ha with ha1 | ha1
    · rcases List.mem_cons.1 hb with hb1 | hb1
      · rw [ha1, hb1]
      · exact absurd (List.mem_map.2 ⟨b, hb1, by rw [← h, ha1]⟩) hn.1
    · rcases List.mem_cons.1 hb with hb1 | hb1
      · exact absurd (List.mem_map.2 ⟨a, ha1, by rw [h, hb1]⟩) hn.1
      · exact ih ha1 hb1 hn.2
theorem left_mem {κ β : Type} [DecidableEq κ] {ek : κ → Value} {ev : β → Value} {g : GMap κ β} {seen : Array Nat} {e : MapEntry} (h : e ∈ (leftOf (g.l.map (ent ek ev)).toArray seen).toList) : ∃ x ∈ g.l, e = ent ek ev x ∧ ¬ x.2.2 ∈ seen.toList := by
  unfold leftOf at h
  simp only [Array.toList_filter, List.mem_filter, List.mem_map, Bool.not_eq_true'] at h
  obtain ⟨⟨x, hx, rfl⟩, h2⟩ := h
  refine ⟨x, hx, rfl, fun hm => ?_⟩
  have : seen.contains (ent ek ev x).born = true := by simp [ent]; simpa using hm
  rw [this] at h2; cases h2
theorem left_none {κ β : Type} [DecidableEq κ] {ek : κ → Value} {ev : β → Value} {g : GMap κ β} {seen : Array Nat} (h : (leftOf (g.l.map (ent ek ev)).toArray seen).size = 0) : ∀ x ∈ g.l, x.2.2 ∈ seen.toList := by
  intro x hx
  have h0 : (leftOf (g.l.map (ent ek ev)).toArray seen).toList = [] := List.eq_nil_of_length_eq_zero (by simpa using h)
  unfold leftOf at h0
  simp only [Array.toList_filter, List.filter_eq_nil_iff, List.mem_map] at h0
  have := h0 (ent ek ev x) ⟨x, hx, rfl⟩
  simpa [ent] using this
theorem left_less {κ β : Type} [DecidableEq κ] {ek : κ → Value} {ev : β → Value} {g : GMap κ β} {seen : Array Nat} {x : κ × β × Nat} (hx : x ∈ g.l) (hs : ¬ x.2.2 ∈ seen.toList) : (leftOf (g.l.map (ent ek ev)).toArray (seen.push x.2.2)).size < (leftOf (g.l.map (ent ek ev)).toArray seen).size := by
  have e : ∀ sn : Array Nat, (leftOf (g.l.map (ent ek ev)).toArray sn).size = ((g.l.map (ent ek ev)).filter fun e => !sn.contains e.born).length := by
    intro sn
    rw [← Array.length_toList]
    congr 1
    simp [leftOf]
  rw [e, e]
  clear e
  generalize g.l = l at hx
  have hle : ∀ l : List (κ × β × Nat), ((l.map (ent ek ev)).filter fun e => !(seen.push x.2.2).contains e.born).length ≤ ((l.map (ent ek ev)).filter fun e => !seen.contains e.born).length := by
    intro l
    induction l with
    | nil => exact Nat.le_refl _
    | cons a l ih =>
      simp only [List.map_cons, List.filter_cons]
      by_cases h1 : seen.contains (ent ek ev a).born = true
      · have h2 : (seen.push x.2.2).contains (ent ek ev a).born = true := by simp at h1 ⊢; exact .inl h1
        simp only [h1, h2, Bool.not_true, Bool.false_eq_true, if_false]; exact ih
      · simp only [Bool.not_eq_true] at h1
        simp only [h1, Bool.not_false, if_true]
        split
        · simp only [List.length_cons]; omega
        · simp only [List.length_cons]; omega
  induction l with
  | nil => cases hx
  | cons a l ih =>
    simp only [List.map_cons, List.filter_cons]
    rcases List.mem_cons.1 hx with rfl | hx
    · have h1 : seen.contains (ent ek ev x).born = false := by simp [ent]; simpa using hs
      have h2 : (seen.push x.2.2).contains (ent ek ev x).born = true := by simp [ent]
      simp only [h1, h2, Bool.not_true, Bool.not_false, Bool.false_eq_true, if_false, if_true, List.length_cons]
      have := hle l; omega
    · have := ih hx
      by_cases h1 : seen.contains (ent ek ev a).born = true
      · have h2 : (seen.push x.2.2).contains (ent ek ev a).born = true := by simp at h1 ⊢; exact .inl h1
        simp only [h1, h2, Bool.not_true, Bool.false_eq_true, if_false]; exact this
      · simp only [Bool.not_eq_true] at h1
        simp only [h1, Bool.not_false, if_true]
        split
        · simp only [List.length_cons]; omega
        · simp only [List.length_cons]; omega
/-- The messages that are copied so far. -/
structure SendsInv (g g' : GMap Place SV) (seen : Array Nat) : Prop where
  some : ∀ p r' ms, g'.get p = some (r', ms) → RowOk r' 6 (ms.map GM.cells) ∧ ∃ r, g.get p = some (r, ms)
  seen : ∀ e ∈ g.l, (e.2.2 ∈ seen.toList ↔ (g'.get e.1).isSome)
theorem SendsInv.start (g : GMap Place SV) : SendsInv g (GMap.empty _ _) #[] where
  some p r' ms h := by rw [GMap.get_empty] at h; cases h
  seen e _ := by rw [GMap.get_empty]; simp
theorem SendsInv.next {g g' : GMap Place SV} {seen : Array Nat} (h : SendsInv g g' seen) {x : Place × SV × Nat} (hx : x ∈ g.l) {r' : Row} (hr : RowOk r' 6 (x.2.1.2.map GM.cells)) : SendsInv g (g'.put x.1 (r', x.2.1.2)) (seen.push x.2.2) where
  some p q ms hq := by
    rw [GMap.get_put] at hq
    split at hq
    · rename_i hp
      simp only [Option.some.injEq, Prod.mk.injEq] at hq
      obtain ⟨rfl, rfl⟩ := hq
      exact ⟨hr, x.2.1.1, by rw [hp]; exact g.get_of_mem hx⟩
    · exact h.some p q ms hq
  seen e he := by
    rw [GMap.get_put]
    simp only [Array.toList_push, List.mem_append, List.mem_singleton]
    by_cases hk : e.1 = x.1
    · rw [if_pos hk]
      have : e = x := by
        have h1 := g.get_of_mem he
        have hn := g.keys
        generalize g.l = l at he hx hn
        induction l with
        | nil => cases he
        | cons c l ih =>
          simp only [List.map_cons, List.nodup_cons] at hn
          rcases List.mem_cons.1 he with he1 | he1
          · rcases List.mem_cons.1 hx with hx1 | hx1
            · rw [he1, hx1]
            · exact absurd (List.mem_map.2 ⟨x, hx1, by rw [← hk, he1]⟩) hn.1
          · rcases List.mem_cons.1 hx with hx1 | hx1
            · exact absurd (List.mem_map.2 ⟨e, he1, by rw [hk, hx1]⟩) hn.1
            · exact ih he1 hx1 hn.2
      subst this
      simp
    · rw [if_neg hk]
      have hne : ¬ e.2.2 = x.2.2 := fun h1 => hk (congrArg (·.1) (g.inj_born he hx h1))
      rw [← h.seen e he]
      constructor
      · rintro (h1 | h1)
        · exact h1
        · exact absurd h1 hne
      · exact .inl
theorem SendsInv.fresh {g g' : GMap Place SV} {seen : Array Nat} (h : SendsInv g g' seen) {x : Place × SV × Nat} (hx : x ∈ g.l) (hs : ¬ x.2.2 ∈ seen.toList) : g'.get x.1 = none := by
  cases hg : g'.get x.1 with
  | none => rfl
  | some v => exact absurd ((h.seen x hx).2 (by rw [hg]; rfl)) hs
theorem SendsInv.done {g g' : GMap Place SV} {seen : Array Nat} (h : SendsInv g g' seen) (hd : ∀ x ∈ g.l, x.2.2 ∈ seen.toList) (p : Place) : ((g'.get p).getD (Row.nil, [])).2 = ((g.get p).getD (Row.nil, [])).2 ∧ RowOk ((g'.get p).getD (Row.nil, [])).1 6 (((g'.get p).getD (Row.nil, [])).2.map GM.cells) := by
  cases hg' : g'.get p with
  | some v =>
    obtain ⟨r', ms⟩ := v
    obtain ⟨h1, r, h2⟩ := h.some p r' ms hg'
    rw [h2]
    exact ⟨rfl, h1⟩
  | none =>
    cases hg : g.get p with
    | none => exact ⟨rfl, RowOk.mkNil 6⟩
    | some v =>
      obtain ⟨st, hm⟩ := g.mem_of_get hg
      have := (h.seen _ hm).1 (hd _ hm)
      simp only [hg'] at this
      cases this
/-! The stays, one by one -/
def CopyOf (s s' : GStay) : Prop := ∃ (nb cb : Nat) (r0 r1 : Row), s' = s.copied nb cb r0 r1 ∧ RowOk r0 6 (s.m0.map GM.cells) ∧ RowOk r1 6 (s.m1.map GM.cells)
theorem CopyOf.abs {s s' : GStay} (h : CopyOf s s') : s'.abs = s.abs := by
  obtain ⟨_, _, _, _, rfl, _⟩ := h; rfl
theorem CopyOf.ok {F : Blocks} {s s' : GStay} (h : CopyOf s s') (hs : s.ok F) : s'.ok F := by
  obtain ⟨_, _, _, _, rfl, h0, h1⟩ := h
  exact ⟨h0, h1, hs.few, hs.msgs, hs.tr⟩
structure StaysInv (G : GMon) (i : Nat) (r : Row) (st : List GStay) (nw : GMap Int Nat) : Prop where
  le : i ≤ G.stays.length
  len : st.length = i
  all : ∀ (j : Nat) (s' : GStay), st[j]? = some s' → ∃ s, G.stays[j]? = some s ∧ CopyOf s s'
  row : RowOk r 1 (st.map ptrCell)
  now : ∀ q, nw.get q = (G.now q).bind fun j => (st[j]?).map GStay.blk
theorem StaysInv.start (G : GMon) : StaysInv G 0 Row.nil [] (GMap.empty _ _) where
  le := Nat.zero_le _
  len := rfl
  all j s' h := by simp at h
  row := RowOk.mkNil 1
  now q := by rw [GMap.get_empty]; cases G.now q <;> rfl
theorem StaysInv.all_next {G : GMon} {i : Nat} {r : Row} {st : List GStay} {nw : GMap Int Nat} (h : StaysInv G i r st nw) {s s' : GStay} (hs : G.stays[i]? = some s) (hc : CopyOf s s') : ∀ (j : Nat) (t' : GStay), (st ++ [s'])[j]? = some t' → ∃ t, G.stays[j]? = some t ∧ CopyOf t t' := by
  intro j t' hj
  by_cases hlt : j < st.length
  · rw [List.getElem?_append_left hlt] at hj; exact h.all j t' hj
  · rw [List.getElem?_append_right (by omega)] at hj
    have hji : j = i := by
      have := (List.getElem?_eq_some_iff.1 hj).1
      simp only [List.length_singleton] at this
      have := h.len
      omega
    subst hji
    rw [h.len] at hj
    simp only [Nat.sub_self, List.getElem?_cons_zero, Option.some.injEq] at hj
    subst hj
    exact ⟨s, hs, hc⟩
theorem app_at {st : List GStay} {s' : GStay} {i j : Nat} (hl : st.length = i) (hj : j ≠ i) : (st ++ [s'])[j]? = st[j]? := by
  by_cases hlt : j < st.length
  · rw [List.getElem?_append_left hlt]
  · rw [List.getElem?_append_right (by omega), List.getElem?_eq_none (by simp; omega), List.getElem?_eq_none (by omega)]
theorem StaysInv.yes {G : GMon} {i : Nat} {r r' : Row} {st : List GStay} {nw : GMap Int Nat} (h : StaysInv G i r st nw) (hown : G.abs.Own) {s s' : GStay} (hs : G.stays[i]? = some s) (hc : CopyOf s s') (hrow : RowOk r' 1 (st.map ptrCell ++ [ptrCell s'])) (hn : G.now s.proc = some i) : StaysInv G (i + 1) r' (st ++ [s']) (nw.put s.proc s'.blk) where
  le := (List.getElem?_eq_some_iff.1 hs).1
  len := by simp [h.len]
  all := h.all_next hs hc
  row := by rw [List.map_append]; exact hrow
  now q := by
    rw [GMap.get_put]
    split
    · rename_i hq
      subst hq
      rw [hn]
      simp [← h.len]
    · rename_i hq
      rw [h.now]
      cases hj : G.now q with
      | none => rfl
      | some j =>
        have hne : j ≠ i := fun e => by subst e; exact hq (GMon.own hown hj hs).symm
        simp only [Option.bind_some]
        rw [app_at h.len hne]
theorem StaysInv.no {G : GMon} {i : Nat} {r r' : Row} {st : List GStay} {nw : GMap Int Nat} (h : StaysInv G i r st nw) (hown : G.abs.Own) {s s' : GStay} (hs : G.stays[i]? = some s) (hc : CopyOf s s') (hrow : RowOk r' 1 (st.map ptrCell ++ [ptrCell s'])) (hn : ¬ G.now s.proc = some i) : StaysInv G (i + 1) r' (st ++ [s']) nw where
  le := (List.getElem?_eq_some_iff.1 hs).1
  len := by simp [h.len]
  all := h.all_next hs hc
  row := by rw [List.map_append]; exact hrow
  now q := by
    rw [h.now]
    cases hj : G.now q with
    | none => rfl
    | some j =>
      have hne : j ≠ i := fun e => by
        subst e
        have := GMon.own hown hj hs
        subst this
        exact hn hj
      simp only [Option.bind_some]
      rw [app_at h.len hne]
theorem StaysInv.done {F : Blocks} {k : Nat} {G : GMon} (hG : G.ok F k) {r : Row} {st : List GStay} {nw : GMap Int Nat} (h : StaysInv G G.stays.length r st nw) {g' : GMap Place SV} (hd : ∀ p, ((g'.get p).getD (Row.nil, [])).2 = ((G.sends.get p).getD (Row.nil, [])).2 ∧ RowOk ((g'.get p).getD (Row.nil, [])).1 6 (((g'.get p).getD (Row.nil, [])).2.map GM.cells)) (m sb eb mb lb nb : Nat) :
    ({ m := m, sb := sb, eb := eb, mb := mb, lb := lb, nb := nb, stR := r, stays := st, sends := g', seen := G.seen, mem := G.mem, lv := G.lv, nw := nw, now := G.now, br := G.br, ln := G.ln, at_ := G.at_, ru := G.ru } : GMon).ok F k ∧
    ({ m := m, sb := sb, eb := eb, mb := mb, lb := lb, nb := nb, stR := r, stays := st, sends := g', seen := G.seen, mem := G.mem, lv := G.lv, nw := nw, now := G.now, br := G.br, ln := G.ln, at_ := G.at_, ru := G.ru } : GMon).abs = G.abs := by
  have hmem : ∀ s' ∈ st, ∃ s ∈ G.stays, CopyOf s s' := by
    intro s' hs'
    obtain ⟨j, hj⟩ := List.mem_iff_getElem?.1 hs'
    obtain ⟨s, h1, h2⟩ := h.all j s' hj
    exact ⟨s, List.mem_of_getElem? h1, h2⟩
  have habs : st.map GStay.abs = G.stays.map GStay.abs := by
    apply List.ext_getElem?
    intro j
    rw [List.getElem?_map, List.getElem?_map]
    cases hj : st[j]? with
    | none =>
      have : G.stays[j]? = none := by
        rw [List.getElem?_eq_none_iff] at hj ⊢
        have := h.len; omega
      rw [this]
    | some s' =>
      obtain ⟨s, h1, h2⟩ := h.all j s' hj
      rw [h1]
      simp only [Option.map_some, h2.abs]
  refine ⟨⟨h.row, fun s' hs' => ?_, ?_, fun s' hs' => ?_, fun s' hs' => ?_, fun p => ?_, h.now, fun p i hi => ?_⟩, ?_⟩
  · obtain ⟨s, h1, h2⟩ := hmem s' hs'
    exact h2.ok (hG.stays s h1)
  · show st.length ≤ k
    rw [h.len]; exact hG.len
  · obtain ⟨s, h1, _, _, _, _, rfl, _⟩ := hmem s' hs'
    exact hG.few s h1
  · obtain ⟨s, h1, _, _, _, _, rfl, _⟩ := hmem s' hs'
    exact hG.count s h1
  · obtain ⟨h1, h2⟩ := hd p
    refine ⟨h2, ?_⟩
    show (∀ q ∈ ((g'.get p).getD (Row.nil, [])).2, q.ok F) ∧ ((g'.get p).getD (Row.nil, [])).2.length ≤ k
    rw [h1]
    exact (hG.sends p).2
  · show i < st.length
    rw [h.len]; exact hG.nowlt p i hi
  · unfold GMon.abs
    simp only [habs]
    congr 1
    funext p
    rw [(hd p).1]
end Go.Proofs.Ythijlgjfgliinaa
