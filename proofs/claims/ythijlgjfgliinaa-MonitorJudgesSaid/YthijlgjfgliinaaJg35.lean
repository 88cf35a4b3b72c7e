/- Part 35 of the proof of what MonJudges says. -/
import Derived.Test.YthijlgjfgliinaaJg34
section
/- The monitor and the judge break the same rules: what is checked, rule by rule. -/
set_option linter.all false
namespace Go.Proofs.Ythijlgjfgliinaa
open Go.RowKit
variable [Env]
theorem owesCk_iff {r : Int} {has : Bool} {all l : List Mg} : (r, true) ∈ owesCk has all l ↔ r = 6 ∧ ∃ x ∈ l, x.svc = 2 ∧ has = true ∧ hasMg all x = false := by
  unfold owesCk
  simp only [List.mem_map, Prod.mk.injEq, Bool.and_eq_true, beq_iff_eq, Bool.not_eq_true']
  constructor
  · rintro ⟨x, hx, rfl, h1, h2, h3⟩
    exact ⟨rfl, x, hx, h1, h2, h3⟩
  · rintro ⟨rfl, x, hx, h1, h2, h3⟩
    exact ⟨x, hx, rfl, h1, h2, h3⟩
theorem lastCk_rule {c : Ck} {all : List Mg} {x : Mg} (h : c ∈ lastCk all x) : c.1 = 3 := by
  unfold lastCk at h
  split at h
  · simp only [List.mem_singleton] at h; rw [h]
  · cases h
theorem depsCk_rule {c : Ck} {f : Int → Int} : ∀ {l : List Int} {q : Nat}, c ∈ depsCk f q l → c.1 = 4
  | [], _, h => by cases h
  | n :: l, q, h => by
    rcases List.mem_cons.1 h with rfl | h
    · rfl
    · exact depsCk_rule h
theorem owesCk_rule {c : Ck} {has : Bool} {all l : List Mg} (h : c ∈ owesCk has all l) : c.1 = 6 := by
  unfold owesCk at h
  obtain ⟨x, _, rfl⟩ := List.mem_map.1 h
  rfl
theorem tellCk_rule {c : Ck} {ep rp mem : Int} {x : Mg} {o : AStay} (h : c ∈ tellCk ep rp mem x o) : c.1 = 6 := by
  unfold tellCk at h
  split at h
  · exact owesCk_rule h
  · cases h
theorem safe6_rule {c : Ck} {a b : AStay} (h : c ∈ safe6 a b) : c.1 = 6 := by
  unfold safe6 at h
  rcases List.mem_append.1 h with h | h
  · exact owesCk_rule h
  · split at h
    · exact owesCk_rule h
    · cases h
theorem safeAt_rule {c : Ck} {a b : AStay} (h : c ∈ safeAt a b) : c.1 = 6 := by
  unfold safeAt at h
  split at h
  · exact safe6_rule h
  · cases h
theorem pair5_rule {c : Ck} {a b : AStay} (h : c ∈ pair5 a b) : c.1 = 5 := by
  unfold pair5 at h
  split at h
  · split at h
    · split at h
      · simp only [List.mem_singleton] at h; rw [h]
      · cases h
    · cases h
  · cases h
theorem closeCk_rule {c : Ck} {b o : AStay} (h : c ∈ closeCk b o) : c.1 = 5 ∨ c.1 = 6 := by
  unfold closeCk at h
  split at h
  · rcases List.mem_append.1 h with h | h
    · exact .inr (owesCk_rule h)
    · rcases List.mem_append.1 h with h | h
      · split at h
        · exact .inr (owesCk_rule h)
        · cases h
      · split at h
        · cases h
        · simp only [List.mem_singleton] at h; rw [h]; exact .inl rfl
  · cases h
theorem ordCk_rule {c : Ck} : ∀ {l pre : List Mg}, c ∈ ordCk pre l → c.1 = 3 ∨ c.1 = 4
  | [], _, h => by cases h
  | x :: l, pre, h => by
    rcases List.mem_append.1 h with h | h
    · exact .inl (lastCk_rule h)
    · rcases List.mem_append.1 h with h | h
      · exact .inr (depsCk_rule h)
      · exact ordCk_rule h
/-- Two stays that went on together, and differ. -/
structure Unlike (a b : AStay) : Prop where
  ep : a.epoch = b.epoch
  rp : a.rep = b.rep
  pr : a.proc ≠ b.proc
  w1 : a.went = true
  w2 : b.went = true
  tr : ∃ t u, a.tr = some t ∧ b.tr = some u ∧ t.nepoch = u.nepoch ∧ t.nrep = u.nrep ∧ ¬ (t.members = u.members ∧ a.p0 = b.p0 ∧ a.p1 = b.p1)
theorem Unlike.symm {a b : AStay} (h : Unlike a b) : Unlike b a := by
  obtain ⟨h1, h2, h3, h4, h5, t, u, h6, h7, h8, h9, h10⟩ := h
  exact ⟨h1.symm, h2.symm, fun e => h3 e.symm, h5, h4, u, t, h7, h6, h8.symm, h9.symm, fun ⟨e1, e2, e3⟩ => h10 ⟨e1.symm, e2.symm, e3.symm⟩⟩
theorem pair5_iff {a b : AStay} : (5, true) ∈ pair5 a b ↔ Unlike a b := by
  unfold pair5
  constructor
  · intro h
    split at h
    · rename_i hc
      simp only [Bool.and_eq_true, confEq_iff, bne_iff_ne, ne_eq] at hc
      obtain ⟨⟨h1, h2⟩, h3, h4, h5⟩ := hc
      split at h
      · rename_i t u ht hu
        split at h
        · rename_i hn
          rw [confEq_iff] at hn
          simp only [List.mem_singleton, Prod.mk.injEq, true_and] at h
          refine ⟨h1, h2, h3, h4, h5, t, u, ht, hu, hn.1, hn.2, ?_⟩
          rintro ⟨e1, e2, e3⟩
          rw [e1, e2, e3] at h
          simp [eqMgs] at h
        · cases h
      · cases h
    · cases h
  · rintro ⟨h1, h2, h3, h4, h5, t, u, h6, h7, h8, h9, h10⟩
    have hc : (confEq a.epoch a.rep b.epoch b.rep && (a.proc != b.proc && (a.went && b.went))) = true := by
      simp only [Bool.and_eq_true, confEq_iff, bne_iff_ne, ne_eq]
      exact ⟨⟨h1, h2⟩, h3, h4, h5⟩
    have hn : confEq t.nepoch t.nrep u.nepoch u.nrep = true := confEq_iff.2 ⟨h8, h9⟩
    rw [if_pos hc]
    simp only [h6, h7, if_pos hn, List.mem_singleton, Prod.mk.injEq, true_and]
    by_cases e1 : t.members = u.members
    · by_cases e2 : a.p0 = b.p0
      · have e3 : ¬ a.p1 = b.p1 := fun e3 => h10 ⟨e1, e2, e3⟩
        simp [eqMgs, e3]
      · simp [eqMgs, e2]
    · simp [e1]
theorem closeCk5 {b o : AStay} (hw : b.went = true) : (5, true) ∈ closeCk b o ↔ Unlike o b := by
  unfold closeCk
  have n1 : ∀ {has all l}, ¬ ((5, true) : Ck) ∈ owesCk has all l := fun h => by have := owesCk_rule h; simp at this
  split
  · rename_i hc
    constructor
    · intro h
      rcases List.mem_append.1 h with h | h
      · exact absurd h n1
      rcases List.mem_append.1 h with h | h
      · split at h
        · exact absurd h n1
        · cases h
      split at h
      · cases h
      · rename_i hs
        simp only [List.mem_singleton, Prod.mk.injEq, true_and] at h
        unfold skipB at hs
        unfold unlikeB at h
        cases ht : o.tr with
        | none => rw [ht] at hs; simp at hs
        | some t =>
          cases hu : b.tr with
          | none => rw [ht, hu] at hs; simp at hs
          | some u =>
            rw [ht, hu] at hs h
            simp only [Option.isNone_some, Bool.false_or, Bool.or_eq_true, Bool.not_eq_true', beq_iff_eq, not_or, Bool.not_eq_false, Bool.and_eq_true, confEq_iff] at hs
            refine ⟨hc.1, hc.2, hs.2.1, hs.1, hw, t, u, ht, hu, hs.2.2.2.1, hs.2.2.2.2, ?_⟩
            rintro ⟨e1, e2, e3⟩
            rw [e2, e3] at h
            simp [eqMgs, e1] at h
    · rintro ⟨h1, h2, h3, h4, h5, t, u, h6, h7, h8, h9, h10⟩
      have hs : skipB o b = false := by
        unfold skipB
        rw [h6, h7, h4]
        simp only [Option.isNone_some, Bool.false_or, Bool.not_true, Bool.or_eq_false_iff, Bool.not_eq_false', beq_eq_false_iff_ne, ne_eq, Bool.and_eq_true, confEq_iff]
        exact ⟨h3, ⟨h1, h2⟩, h8, h9⟩
      refine List.mem_append_right _ (List.mem_append_right _ ?_)
      rw [hs]
      simp only [Bool.false_eq_true, if_false, List.mem_singleton, Prod.mk.injEq, true_and]
      unfold unlikeB
      rw [h6, h7]
      by_cases e1 : t.members = u.members
      · by_cases e2 : o.p0 = b.p0
        · have e3 : ¬ o.p1 = b.p1 := fun e3 => h10 ⟨e1, e2, e3⟩
          simp [eqMgs, e3]
        · simp [eqMgs, e2]
      · simp [e1]
  · rename_i hc
    constructor
    · intro h; cases h
    · intro h; exact absurd ⟨h.ep, h.rp⟩ hc
theorem closeCk6 {b o : AStay} (hw : b.went = true) : (6, true) ∈ closeCk b o ↔ (6, true) ∈ safeAt o b := by
  unfold closeCk safeAt safe6
  rw [hw, Bool.and_true]
  by_cases hc : o.epoch = b.epoch ∧ o.rep = b.rep
  · rw [if_pos hc, if_pos (confEq_iff.2 hc)]
    simp only [List.mem_append]
    have n5 : ¬ ((6, true) : Ck) ∈ (if skipB o b then [] else [(5, unlikeB o b)]) := by split <;> simp
    simp only [n5, or_false]
    exact Iff.rfl
  · rw [if_neg hc, if_neg (by rw [confEq_iff]; exact hc)]
theorem tellCk6 {ep rp mem : Int} {x : Mg} {o : AStay} : (6, true) ∈ tellCk ep rp mem x o ↔ o.epoch = ep ∧ o.rep = rp ∧ o.went = true ∧ (6, true) ∈ owesCk (hasB mem o.proc) o.all [x] := by
  unfold tellCk
  split
  · rename_i h
    simp only [Bool.and_eq_true, confEq_iff] at h
    exact ⟨fun h' => ⟨h.1.1, h.1.2, h.2, h'⟩, fun h' => h'.2.2.2⟩
  · rename_i h
    simp only [Bool.and_eq_true, confEq_iff] at h
    exact ⟨fun h' => (by cases h'), fun h' => absurd ⟨⟨h'.1, h'.2.1⟩, h'.2.2.1⟩ h⟩
theorem safeAt_iff {a b : AStay} : (6, true) ∈ safeAt a b ↔ a.epoch = b.epoch ∧ a.rep = b.rep ∧ b.went = true ∧ (6, true) ∈ safe6 a b := by
  unfold safeAt
  split
  · rename_i h
    simp only [Bool.and_eq_true, confEq_iff] at h
    exact ⟨fun h' => ⟨h.1.1, h.1.2, h.2, h'⟩, fun h' => h'.2.2.2⟩
  · rename_i h
    simp only [Bool.and_eq_true, confEq_iff] at h
    exact ⟨fun h' => (by cases h'), fun h' => absurd ⟨⟨h'.1, h'.2.1⟩, h'.2.2.1⟩ h⟩
theorem safe6_take {s b : AStay} {x : Mg} (hp : s.tr = none → s.p1 = []) : (6, true) ∈ safe6 (s.take x) b ↔ (6, true) ∈ safe6 s b ∨ (6, true) ∈ owesCk (hasB s.told b.proc) b.all [x] := by
  have oapp : ∀ {has all l m}, ((6, true) : Ck) ∈ owesCk has all (l ++ m) ↔ (6, true) ∈ owesCk has all l ∨ (6, true) ∈ owesCk has all m := by
    intro has all l m
    unfold owesCk
    rw [List.map_append, List.mem_append]
  unfold safe6 AStay.take AStay.told
  cases ht : s.tr with
  | none => simp only [List.mem_append, ht, oapp, List.not_mem_nil, or_false]
  | some t => simp only [List.mem_append, ht, oapp, or_assoc]
/-- Stays that differ; safe messages that lack. -/
def Five (L : List AStay) : Prop := ∃ a ∈ L, ∃ b ∈ L, Unlike a b
def Six (L : List AStay) : Prop := ∃ a ∈ L, ∃ b ∈ L, (6, true) ∈ safeAt a b
theorem togCk5 : ∀ {l pre all : List AStay}, (5, true) ∈ togCk all pre l ↔ (∃ a ∈ l, ∃ b ∈ pre, Unlike a b) ∨ Five l
  | [], pre, all => by
    unfold togCk Five
    simp
  | a :: l, pre, all => by
    unfold togCk
    simp only [List.mem_append, List.mem_flatMap, pair5_iff, togCk5 (l := l)]
    have n6 : ¬ ∃ b ∈ all, ((5, true) : Ck) ∈ safeAt a b := fun ⟨b, _, h⟩ => by have := safeAt_rule h; simp at this
    simp only [n6, false_or]
    constructor
    · rintro (⟨b, hb, hu⟩ | ⟨c, hc, b, hb, hu⟩ | ⟨c, hc, b, hb, hu⟩)
      · exact .inl ⟨a, by simp, b, hb, hu⟩
      · rcases hb with hb | hb
        · exact .inl ⟨c, by simp [hc], b, hb, hu⟩
        · exact .inr ⟨c, by simp [hc], b, by rw [List.mem_singleton.1 hb]; simp, hu⟩
      · exact .inr ⟨c, by simp [hc], b, by simp [hb], hu⟩
    · rintro (⟨c, hc, b, hb, hu⟩ | ⟨c, hc, b, hb, hu⟩)
      · rcases List.mem_cons.1 hc with rfl | hc'
        · exact .inl ⟨b, hb, hu⟩
        · exact .inr (.inl ⟨c, hc', b, .inl hb, hu⟩)
      · rcases List.mem_cons.1 hc with rfl | hc'
        · rcases List.mem_cons.1 hb with rfl | hb'
          · exact absurd rfl hu.pr
          · exact .inr (.inl ⟨b, hb', c, .inr (by simp), hu.symm⟩)
        · rcases List.mem_cons.1 hb with hb' | hb'
          · exact .inr (.inl ⟨c, hc', b, .inr (by simp [hb']), hu⟩)
          · exact .inr (.inr ⟨c, hc', b, hb', hu⟩)
theorem togCk6 : ∀ {l pre all : List AStay}, (6, true) ∈ togCk all pre l ↔ ∃ a ∈ l, ∃ b ∈ all, (6, true) ∈ safeAt a b
  | [], pre, all => by
    unfold togCk
    simp
  | a :: l, pre, all => by
    unfold togCk
    simp only [List.mem_append, List.mem_flatMap, togCk6 (l := l)]
    have n5 : ¬ ∃ b ∈ pre, ((6, true) : Ck) ∈ pair5 a b := fun ⟨b, _, h⟩ => by have := pair5_rule h; simp at this
    simp only [n5, false_or]
    constructor
    · rintro (⟨b, hb, h⟩ | ⟨c, hc, b, hb, h⟩)
      · exact ⟨a, by simp, b, hb, h⟩
      · exact ⟨c, by simp [hc], b, hb, h⟩
    · rintro ⟨c, hc, b, hb, h⟩
      rcases List.mem_cons.1 hc with rfl | hc
      · exact .inl ⟨b, hb, h⟩
      · exact .inr ⟨c, hc, b, hb, h⟩
theorem togCk_rule {c : Ck} : ∀ {l pre all : List AStay}, c ∈ togCk all pre l → c.1 = 5 ∨ c.1 = 6
  | [], _, _, h => by cases h
  | a :: l, pre, all, h => by
    unfold togCk at h
    rcases List.mem_append.1 h with h | h
    · obtain ⟨b, _, h⟩ := List.mem_flatMap.1 h
      exact .inl (pair5_rule h)
    · rcases List.mem_append.1 h with h | h
      · obtain ⟨b, _, h⟩ := List.mem_flatMap.1 h
        exact .inr (safeAt_rule h)
      · exact togCk_rule h
/-! ### Five and Six, as the stays change -/
theorem Unlike.congr {a a' b b' : AStay} (ha : a'.epoch = a.epoch ∧ a'.rep = a.rep ∧ a'.proc = a.proc ∧ a'.went = a.went ∧ a'.tr = a.tr ∧ a'.p0 = a.p0 ∧ a'.p1 = a.p1) (hb : b'.epoch = b.epoch ∧ b'.rep = b.rep ∧ b'.proc = b.proc ∧ b'.went = b.went ∧ b'.tr = b.tr ∧ b'.p0 = b.p0 ∧ b'.p1 = b.p1) (h : Unlike a b) : Unlike a' b' := by
  obtain ⟨a1, a2, a3, a4, a5, a6, a7⟩ := ha
  obtain ⟨b1, b2, b3, b4, b5, b6, b7⟩ := hb
  obtain ⟨h1, h2, h3, h4, h5, t, u, h6, h7, h8⟩ := h
  exact ⟨by rw [a1, b1, h1], by rw [a2, b2, h2], by rw [a3, b3]; exact h3, a4.trans h4, b4.trans h5, t, u, a5.trans h6, b5.trans h7, by rw [a6, a7, b6, b7]; exact h8⟩
/-- A stay that did not go on, and does not: Five stays. -/
theorem Five.set {L : List AStay} {i : Nat} {s s' : AStay} (h : L[i]? = some s) (hw : s.went = false) (hw' : s'.went = false) : Five (L.set i s') ↔ Five L := by
  unfold Five
  constructor
  · rintro ⟨a, ha, b, hb, hu⟩
    rcases (mem_set_iff h).1 ha with rfl | ⟨j, _, hj⟩
    · have := hu.w1; rw [hw'] at this; cases this
    · rcases (mem_set_iff h).1 hb with rfl | ⟨k, _, hk⟩
      · have := hu.w2; rw [hw'] at this; cases this
      · exact ⟨a, List.mem_of_getElem? hj, b, List.mem_of_getElem? hk, hu⟩
  · rintro ⟨a, ha, b, hb, hu⟩
    have key : ∀ x ∈ L, x.went = true → x ∈ L.set i s' := fun x hx hxw => by
      obtain ⟨j, hj⟩ := List.mem_iff_getElem?.1 hx
      by_cases hij : j = i
      · subst hij
        rw [h] at hj
        cases hj
        rw [hw] at hxw; cases hxw
      · exact (mem_set_iff h).2 (.inr ⟨j, hij, hj⟩)
    exact ⟨a, key a ha hu.w1, b, key b hb hu.w2, hu⟩
theorem Five.push {L : List AStay} {s : AStay} (hw : s.went = false) : Five (L ++ [s]) ↔ Five L := by
  unfold Five
  constructor
  · rintro ⟨a, ha, b, hb, hu⟩
    rcases List.mem_append.1 ha with ha | ha
    · rcases List.mem_append.1 hb with hb | hb
      · exact ⟨a, ha, b, hb, hu⟩
      · rw [List.mem_singleton.1 hb] at hu; have := hu.w2; rw [hw] at this; cases this
    · rw [List.mem_singleton.1 ha] at hu; have := hu.w1; rw [hw] at this; cases this
  · rintro ⟨a, ha, b, hb, hu⟩
    exact ⟨a, List.mem_append_left _ ha, b, List.mem_append_left _ hb, hu⟩
/-- A stay goes on. -/
theorem Five.goes {L : List AStay} {i : Nat} {b : AStay} (h : L[i]? = some b) (hw : b.went = false) : Five (L.set i { b with went := true }) ↔ Five L ∨ ∃ o ∈ L.set i { b with went := true }, Unlike o { b with went := true } := by
  unfold Five
  constructor
  · rintro ⟨x, hx, y, hy, hu⟩
    rcases (mem_set_iff h).1 hy with rfl | ⟨k, _, hk⟩
    · exact .inr ⟨x, hx, hu⟩
    · rcases (mem_set_iff h).1 hx with rfl | ⟨j, _, hj⟩
      · exact .inr ⟨y, hy, hu.symm⟩
      · exact .inl ⟨x, List.mem_of_getElem? hj, y, List.mem_of_getElem? hk, hu⟩
  · rintro (⟨x, hx, y, hy, hu⟩ | ⟨o, ho, hu⟩)
    · have key : ∀ x ∈ L, x.went = true → x ∈ L.set i { b with went := true } := fun x hx hxw => by
        obtain ⟨j, hj⟩ := List.mem_iff_getElem?.1 hx
        by_cases hij : j = i
        · subst hij
          rw [h] at hj
          cases hj
          rw [hw] at hxw; cases hxw
        · exact (mem_set_iff h).2 (.inr ⟨j, hij, hj⟩)
      exact ⟨x, key x hx hu.w1, y, key y hy hu.w2, hu⟩
    · exact ⟨o, ho, _, (mem_set_iff h).2 (.inl rfl), hu⟩
theorem safe6_left {a a' b : AStay} (h : a'.members = a.members ∧ a'.tr = a.tr ∧ a'.p0 = a.p0 ∧ a'.p1 = a.p1) : safe6 a' b = safe6 a b := by
  obtain ⟨h1, h2, h3, h4⟩ := h
  unfold safe6
  rw [h1, h2, h3, h4]
/-- What a stay does that did not go on: only as the one that delivers it counts. -/
theorem Six.set {L : List AStay} {i : Nat} {s s' : AStay} (h : L[i]? = some s) (hw : s.went = false) (hw' : s'.went = false) (N : AStay → Prop) (hN : ∀ b, b.went = true → ((6, true) ∈ safeAt s' b ↔ (6, true) ∈ safeAt s b ∨ N b)) :
    Six (L.set i s') ↔ Six L ∨ ∃ o ∈ L.set i s', o.went = true ∧ N o := by
  unfold Six
  have keep : ∀ x ∈ L, x.went = true → x ∈ L.set i s' := fun x hx hxw => by
    obtain ⟨j, hj⟩ := List.mem_iff_getElem?.1 hx
    by_cases hij : j = i
    · subst hij
      rw [h] at hj
      cases hj
      rw [hw] at hxw; cases hxw
    · exact (mem_set_iff h).2 (.inr ⟨j, hij, hj⟩)
  constructor
  · rintro ⟨a, ha, b, hb, hs⟩
    have hbw := (safeAt_iff.1 hs).2.2.1
    have hb' : b ∈ L := by
      rcases (mem_set_iff h).1 hb with rfl | ⟨k, _, hk⟩
      · rw [hw'] at hbw; cases hbw
      · exact List.mem_of_getElem? hk
    rcases (mem_set_iff h).1 ha with rfl | ⟨j, _, hj⟩
    · rcases (hN b hbw).1 hs with hs | hs
      · exact .inl ⟨s, List.mem_of_getElem? h, b, hb', hs⟩
      · exact .inr ⟨b, hb, hbw, hs⟩
    · exact .inl ⟨a, List.mem_of_getElem? hj, b, hb', hs⟩
  · rintro (⟨a, ha, b, hb, hs⟩ | ⟨o, ho, how, hn⟩)
    · have hbw := (safeAt_iff.1 hs).2.2.1
      obtain ⟨j, hj⟩ := List.mem_iff_getElem?.1 ha
      by_cases hij : j = i
      · subst hij
        rw [h] at hj
        cases hj
        exact ⟨s', (mem_set_iff h).2 (.inl rfl), b, keep b hb hbw, (hN b hbw).2 (.inl hs)⟩
      · exact ⟨a, (mem_set_iff h).2 (.inr ⟨j, hij, hj⟩), b, keep b hb hbw, hs⟩
    · exact ⟨s', (mem_set_iff h).2 (.inl rfl), o, ho, (hN o how).2 (.inr hn)⟩
theorem Six.push {L : List AStay} {e : AEv} : Six (L ++ [AStay.fresh e]) ↔ Six L := by
  unfold Six
  constructor
  · rintro ⟨a, ha, b, hb, hs⟩
    have hbw := (safeAt_iff.1 hs).2.2.1
    rcases List.mem_append.1 hb with hb | hb
    · rcases List.mem_append.1 ha with ha | ha
      · exact ⟨a, ha, b, hb, hs⟩
      · rw [List.mem_singleton.1 ha] at hs
        have := (safeAt_iff.1 hs).2.2.2
        unfold safe6 AStay.fresh at this
        simp [owesCk] at this
    · rw [List.mem_singleton.1 hb] at hbw; cases hbw
  · rintro ⟨a, ha, b, hb, hs⟩
    exact ⟨a, List.mem_append_left _ ha, b, List.mem_append_left _ hb, hs⟩
theorem Six.goes {L : List AStay} {i : Nat} {b : AStay} (h : L[i]? = some b) (hw : b.went = false) : Six (L.set i { b with went := true }) ↔ Six L ∨ ∃ o ∈ L.set i { b with went := true }, (6, true) ∈ safeAt o { b with went := true } := by
  have hl : ∀ c, (6, true) ∈ safeAt { b with went := true } c ↔ (6, true) ∈ safeAt b c := fun c => by
    rw [safeAt_iff, safeAt_iff, safe6_left (a := b) (a' := { b with went := true }) ⟨rfl, rfl, rfl, rfl⟩]
  unfold Six
  constructor
  · rintro ⟨x, hx, y, hy, hs⟩
    rcases (mem_set_iff h).1 hy with rfl | ⟨k, _, hk⟩
    · exact .inr ⟨x, hx, hs⟩
    · rcases (mem_set_iff h).1 hx with rfl | ⟨j, _, hj⟩
      · exact .inl ⟨b, List.mem_of_getElem? h, y, List.mem_of_getElem? hk, (hl y).1 hs⟩
      · exact .inl ⟨x, List.mem_of_getElem? hj, y, List.mem_of_getElem? hk, hs⟩
  · rintro (⟨x, hx, y, hy, hs⟩ | ⟨o, ho, hs⟩)
    · have hyw := (safeAt_iff.1 hs).2.2.1
      have hy' : y ∈ L.set i { b with went := true } := by
        obtain ⟨j, hj⟩ := List.mem_iff_getElem?.1 hy
        by_cases hij : j = i
        · subst hij
          rw [h] at hj
          cases hj
          rw [hw] at hyw; cases hyw
        · exact (mem_set_iff h).2 (.inr ⟨j, hij, hj⟩)
      obtain ⟨j, hj⟩ := List.mem_iff_getElem?.1 hx
      by_cases hij : j = i
      · subst hij
        rw [h] at hj
        cases hj
        exact ⟨_, (mem_set_iff h).2 (.inl rfl), y, hy', (hl y).2 hs⟩
      · exact ⟨x, (mem_set_iff h).2 (.inr ⟨j, hij, hj⟩), y, hy', hs⟩
    · exact ⟨o, ho, _, (mem_set_iff h).2 (.inl rfl), hs⟩
end Go.Proofs.Ythijlgjfgliinaa
end
