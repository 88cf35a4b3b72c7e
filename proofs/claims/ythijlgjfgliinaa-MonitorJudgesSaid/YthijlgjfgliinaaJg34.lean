/- Part 34 of the proof of what MonJudges says. -/
import Derived.Test.YthijlgjfgliinaaJg33
section
/- The monitor and the judge break the same rules: steps of the stays. -/
set_option linter.all false
namespace Go.Proofs.Ythijlgjfgliinaa
open Go.RowKit
variable [Env]
theorem snoc_ind {α : Type} {P : List α → Prop} (h0 : P []) (hs : ∀ l a, P l → P (l ++ [a])) (l : List α) : P l := by
  have : ∀ l : List α, P l.reverse := by
    intro l
    induction l with
    | nil => exact h0
    | cons a l ih => rw [List.reverse_cons]; exact hs _ _ ih
  have h := this l.reverse
  rwa [List.reverse_reverse] at h
theorem set_get {α : Type} {l : List α} {i : Nat} {a b : α} (h : l[i]? = some b) (j : Nat) : (l.set i a)[j]? = if i = j then some a else l[j]? := by
  rw [List.getElem?_set]
  split
  · rename_i hij
    subst hij
    rw [if_pos (List.getElem?_eq_some_iff.1 h).1]
  · rfl
theorem mem_set_iff {α : Type} {l : List α} {i : Nat} {a b x : α} (h : l[i]? = some b) : x ∈ l.set i a ↔ x = a ∨ ∃ j, j ≠ i ∧ l[j]? = some x := by
  rw [List.mem_iff_getElem?]
  constructor
  · rintro ⟨j, hj⟩
    rw [set_get h] at hj
    split at hj
    · left; exact (Option.some.inj hj).symm
    · rename_i hij
      right; exact ⟨j, fun e => hij e.symm, hj⟩
  · rintro (rfl | ⟨j, hj, hx⟩)
    · exact ⟨i, by rw [set_get h, if_pos rfl]⟩
    · exact ⟨j, by rw [set_get h, if_neg (fun e => hj e.symm)]; exact hx⟩
theorem flat_set {α β : Type} {l : List α} {i : Nat} {a b : α} {f : α → List β} {new : List β} (h : l[i]? = some b) (hf : f a = f b ++ new) (c : β) : c ∈ (l.set i a).flatMap f ↔ c ∈ l.flatMap f ∨ c ∈ new := by
  simp only [List.mem_flatMap]
  constructor
  · rintro ⟨x, hx, hc⟩
    rcases (mem_set_iff h).1 hx with rfl | ⟨j, _, hj⟩
    · rw [hf] at hc
      rcases List.mem_append.1 hc with hc | hc
      · exact .inl ⟨b, List.mem_of_getElem? h, hc⟩
      · exact .inr hc
    · exact .inl ⟨x, List.mem_of_getElem? hj, hc⟩
  · rintro (⟨x, hx, hc⟩ | hc)
    · obtain ⟨j, hj⟩ := List.mem_iff_getElem?.1 hx
      by_cases hij : j = i
      · subst hij
        rw [h] at hj
        cases hj
        exact ⟨a, (mem_set_iff h).2 (.inl rfl), by rw [hf]; exact List.mem_append_left _ hc⟩
      · exact ⟨x, (mem_set_iff h).2 (.inr ⟨j, hij, hj⟩), hc⟩
    · exact ⟨a, (mem_set_iff h).2 (.inl rfl), by rw [hf]; exact List.mem_append_right _ hc⟩
/-- What an event does to the stays. -/
inductive SStep (A : AMon) (e : AEv) (B : AMon) : Prop
  | same (hk : e.kind ≠ 3) (hs : B.stays = A.stays) (hn : ∀ p i, B.now p = some i → A.now p = some i) (hm : B.mem = A.mem) (h2 : e.kind = 2 ∨ e.kind = 4 → A.stay e = none)
  | take (i : Nat) (s : AStay) (hk : e.kind = 2) (h : A.stay e = some (i, s)) (hs : B.stays = A.stays.set i (s.take e.m)) (hn : B.now = A.now) (hm : B.mem = A.mem)
  | way (i : Nat) (s : AStay) (hk : e.kind = 4) (h : A.stay e = some (i, s)) (hs : B.stays = A.stays.set i { s with tr := some ⟨e.nepoch, e.nrep, e.members⟩ }) (hn : B.now = A.now) (hm : B.mem = A.mem)
  | reg0 (hk : e.kind = 3) (h : ((A.now e.proc).bind fun i => (A.stays[i]?).map fun b => (i, b)) = none) (hs : B.stays = A.stays ++ [AStay.fresh e]) (hn : B.now = upd A.now e.proc (some A.stays.length)) (hm : B.mem = upd A.mem (e.epoch, e.rep) (some e.members))
  | reg1 (i : Nat) (b : AStay) (hk : e.kind = 3) (h : ((A.now e.proc).bind fun i => (A.stays[i]?).map fun b => (i, b)) = some (i, b)) (h1 : A.now e.proc = some i) (h2 : A.stays[i]? = some b) (hs : B.stays = A.stays.set i { b with went := true } ++ [AStay.fresh e]) (hn : B.now = upd A.now e.proc (some A.stays.length)) (hm : B.mem = upd A.mem (e.epoch, e.rep) (some e.members))
theorem AMon.act_step (A : AMon) (e : AEv) : SStep A e (A.act e) := by
  by_cases h5 : e.kind = 5 ∨ e.kind = 6
  · have ha : A.act e = { A with live := upd A.live e.proc (e.kind == 5), now := upd A.now e.proc none } := by unfold AMon.act; rw [if_pos h5]
    rw [ha]
    refine .same (by omega) rfl (fun p i h => ?_) rfl (by omega)
    simp only [upd] at h
    split at h
    · cases h
    · exact h
  by_cases h3 : e.kind = 3
  · have ha : A.act e = A.regular e := by unfold AMon.act; rw [if_neg h5, if_pos h3]
    rw [ha]
    cases hb : (A.now e.proc).bind fun i => (A.stays[i]?).map fun b => (i, b) with
    | none =>
      refine .reg0 h3 hb ?_ rfl rfl
      unfold AMon.regular
      simp only [hb]
    | some p =>
      obtain ⟨i, b⟩ := p
      have h' := hb
      obtain ⟨j, hj, hm⟩ := Option.bind_eq_some_iff.1 h'
      obtain ⟨b', hb', he⟩ := Option.map_eq_some_iff.1 hm
      simp only [Prod.mk.injEq] at he
      obtain ⟨rfl, rfl⟩ := he
      refine .reg1 _ _ h3 hb hj hb' ?_ rfl rfl
      unfold AMon.regular
      simp only [hb]
  by_cases h1 : e.kind = 1
  · have ha : A.act e = A.send e := by unfold AMon.act; rw [if_neg h5, if_neg h3, if_pos h1]
    rw [ha]
    exact .same h3 rfl (fun p i h => h) rfl (by omega)
  by_cases h2 : e.kind = 2
  · have ha : A.act e = A.deliver e := by unfold AMon.act; rw [if_neg h5, if_neg h3, if_neg h1, if_pos h2]
    rw [ha]
    unfold AMon.deliver
    cases hs : A.stay e with
    | none => exact .same h3 rfl (fun p i h => h) rfl (fun _ => hs)
    | some p => exact .take p.1 p.2 h2 hs rfl rfl rfl
  by_cases h4 : e.kind = 4
  · have ha : A.act e = A.trans e := by unfold AMon.act; rw [if_neg h5, if_neg h3, if_neg h1, if_neg h2, if_pos h4]
    rw [ha]
    unfold AMon.trans
    cases hs : A.stay e with
    | none => exact .same h3 rfl (fun p i h => h) rfl (fun _ => hs)
    | some p => exact .way p.1 p.2 h4 hs rfl rfl rfl
  · have ha : A.act e = A := by unfold AMon.act; rw [if_neg h5, if_neg h3, if_neg h1, if_neg h2, if_neg h4]
    rw [ha]
    exact .same h3 rfl (fun p i h => h) rfl (by omega)
theorem AMon.add_step (A : AMon) (e : AEv) : SStep A e (A.add e) := by
  obtain ⟨a1, _, a3, _, _, a6, _⟩ := AMon.add_f A e
  rcases AMon.act_step A e with ⟨hk, hs, hn, hm, h2⟩ | ⟨i, s, hk, h, hs, hn, hm⟩ | ⟨i, s, hk, h, hs, hn, hm⟩ | ⟨hk, h, hs, hn, hm⟩ | ⟨i, b, hk, h, h1, h2, hs, hn, hm⟩
  · exact .same hk (a1.trans hs) (by rw [a3]; exact hn) (a6.trans hm) h2
  · exact .take i s hk h (a1.trans hs) (a3.trans hn) (a6.trans hm)
  · exact .way i s hk h (a1.trans hs) (a3.trans hn) (a6.trans hm)
  · exact .reg0 hk h (a1.trans hs) (a3.trans hn) (a6.trans hm)
  · exact .reg1 i b hk h h1 h2 (a1.trans hs) (a3.trans hn) (a6.trans hm)
theorem AStay.take_all (s : AStay) (x : Mg) (h : s.tr = none → s.p1 = []) : (s.take x).all = s.all ++ [x] := by
  unfold AStay.take AStay.all
  cases ht : s.tr with
  | none => simp [h ht]
  | some t => simp
theorem AStay.take_f (s : AStay) (x : Mg) : (s.take x).proc = s.proc ∧ (s.take x).epoch = s.epoch ∧ (s.take x).rep = s.rep ∧ (s.take x).members = s.members ∧ (s.take x).tr = s.tr ∧ (s.take x).went = s.went ∧ (s.take x).count = upd s.count x.frm (s.count x.frm + 1) := by
  unfold AStay.take
  cases ht : s.tr <;> exact ⟨rfl, rfl, rfl, rfl, by simp [ht], rfl, rfl⟩
theorem cntOf_snoc (l : List Mg) (x : Mg) (q : Int) : cntOf (l ++ [x]) q = if q = x.frm then cntOf l q + 1 else cntOf l q := by
  unfold cntOf
  rw [List.filter_append, List.length_append]
  by_cases h : q = x.frm
  · subst h; simp [List.filter_cons]
  · have : (x.frm == q) = false := by simp; exact fun e => h e.symm
    rw [if_neg h]
    simp [List.filter_cons, this]
/-- What holds of the stays. -/
structure SInv (A : AMon) : Prop where
  now : ∀ p i, A.now p = some i → ∃ s, A.stays[i]? = some s ∧ s.proc = p ∧ s.went = false
  p1 : ∀ s ∈ A.stays, s.tr = none → s.p1 = []
  cnt : ∀ s ∈ A.stays, ∀ q, s.count q = cntOf s.all q
  mem : ∀ c m, A.mem c = some m → ∃ o ∈ A.stays, o.epoch = c.1 ∧ o.rep = c.2 ∧ o.members = m
theorem SInv.fresh : SInv AMon.fresh where
  now p i h := by cases h
  p1 s h := by cases h
  cnt s h := by cases h
  mem c m h := by cases h
theorem AStay.fresh_all (e : AEv) : (AStay.fresh e).all = [] := rfl
theorem SInv.step {A B : AMon} {e : AEv} (h : SInv A) (hs : SStep A e B) : SInv B := by
  rcases hs with ⟨hk, hs, hn, hm, h2⟩ | ⟨i, s, hk, hst, hs, hn, hm⟩ | ⟨i, s, hk, hst, hs, hn, hm⟩ | ⟨hk, hb, hs, hn, hm⟩ | ⟨i, b, hk, hb, h1, h2, hs, hn, hm⟩
  · exact ⟨fun p i hi => by rw [hs]; exact h.now p i (hn p i hi), by rw [hs]; exact h.p1, by rw [hs]; exact h.cnt, by rw [hs, hm]; exact h.mem⟩
  · obtain ⟨g1, g2, g3, g4, g5⟩ := AMon.stay_some hst
    obtain ⟨t1, t2, t3, t4, t5, t6, t7⟩ := s.take_f e.m
    have hsm := List.mem_of_getElem? g2
    refine ⟨fun p j hj => ?_, fun x hx => ?_, fun x hx => ?_, fun c m hc => ?_⟩
    · rw [hn] at hj
      obtain ⟨s', q1, q2, q3⟩ := h.now p j hj
      rw [hs, set_get g2]
      split
      · rename_i hij
        subst hij
        rw [g2] at q1
        cases q1
        exact ⟨_, rfl, t1.trans q2, t6.trans q3⟩
      · exact ⟨s', q1, q2, q3⟩
    · rw [hs] at hx
      rcases (mem_set_iff g2).1 hx with rfl | ⟨j, _, hj⟩
      · intro ht
        rw [t5] at ht
        unfold AStay.take
        rw [ht]
        exact h.p1 s hsm ht
      · exact h.p1 x (List.mem_of_getElem? hj)
    · rw [hs] at hx
      rcases (mem_set_iff g2).1 hx with rfl | ⟨j, _, hj⟩
      · intro q
        rw [t7, s.take_all e.m (h.p1 s hsm), cntOf_snoc]
        unfold upd
        split
        · rename_i hq; rw [hq, h.cnt s hsm]
        · exact h.cnt s hsm q
      · exact h.cnt x (List.mem_of_getElem? hj)
    · rw [hm] at hc
      obtain ⟨o, ho, q1, q2, q3⟩ := h.mem c m hc
      obtain ⟨j, hj⟩ := List.mem_iff_getElem?.1 ho
      rw [hs]
      by_cases hij : j = i
      · subst hij
        rw [g2] at hj
        cases hj
        exact ⟨_, (mem_set_iff g2).2 (.inl rfl), t2.trans q1, t3.trans q2, t4.trans q3⟩
      · exact ⟨o, (mem_set_iff g2).2 (.inr ⟨j, hij, hj⟩), q1, q2, q3⟩
  · obtain ⟨g1, g2, g3, g4, g5⟩ := AMon.stay_some hst
    have hsm := List.mem_of_getElem? g2
    refine ⟨fun p j hj => ?_, fun x hx => ?_, fun x hx => ?_, fun c m hc => ?_⟩
    · rw [hn] at hj
      obtain ⟨s', q1, q2, q3⟩ := h.now p j hj
      rw [hs, set_get g2]
      split
      · rename_i hij
        subst hij
        rw [g2] at q1
        cases q1
        exact ⟨_, rfl, q2, q3⟩
      · exact ⟨s', q1, q2, q3⟩
    · rw [hs] at hx
      rcases (mem_set_iff g2).1 hx with rfl | ⟨j, _, hj⟩
      · intro ht; cases ht
      · exact h.p1 x (List.mem_of_getElem? hj)
    · rw [hs] at hx
      rcases (mem_set_iff g2).1 hx with rfl | ⟨j, _, hj⟩
      · exact h.cnt s hsm
      · exact h.cnt x (List.mem_of_getElem? hj)
    · rw [hm] at hc
      obtain ⟨o, ho, q1, q2, q3⟩ := h.mem c m hc
      obtain ⟨j, hj⟩ := List.mem_iff_getElem?.1 ho
      rw [hs]
      by_cases hij : j = i
      · subst hij
        rw [g2] at hj
        cases hj
        exact ⟨_, (mem_set_iff g2).2 (.inl rfl), q1, q2, q3⟩
      · exact ⟨o, (mem_set_iff g2).2 (.inr ⟨j, hij, hj⟩), q1, q2, q3⟩
  · have hno : A.now e.proc = none := by
      cases hq : A.now e.proc with
      | none => rfl
      | some j =>
        obtain ⟨s, q1, _⟩ := h.now _ _ hq
        rw [hq] at hb
        simp [q1] at hb
    refine ⟨fun p j hj => ?_, fun x hx => ?_, fun x hx => ?_, fun c m hc => ?_⟩
    · rw [hn] at hj
      rw [hs]
      unfold upd at hj
      split at hj
      · rename_i hp
        cases hj
        exact ⟨AStay.fresh e, by simp, hp.symm, rfl⟩
      · obtain ⟨s', q1, q2, q3⟩ := h.now p j hj
        exact ⟨s', by rw [List.getElem?_append_left (List.getElem?_eq_some_iff.1 q1).1]; exact q1, q2, q3⟩
    · rw [hs] at hx
      rcases List.mem_append.1 hx with hx | hx
      · exact h.p1 x hx
      · rw [List.mem_singleton.1 hx]; intro _; rfl
    · rw [hs] at hx
      rcases List.mem_append.1 hx with hx | hx
      · exact h.cnt x hx
      · rw [List.mem_singleton.1 hx]; intro _; rfl
    · rw [hm] at hc
      rw [hs]
      unfold upd at hc
      split at hc
      · rename_i hp
        cases hc
        exact ⟨AStay.fresh e, by simp, by rw [hp]; rfl, by rw [hp]; rfl, rfl⟩
      · obtain ⟨o, ho, q⟩ := h.mem c m hc
        exact ⟨o, List.mem_append_left _ ho, q⟩
  · refine ⟨fun p j hj => ?_, fun x hx => ?_, fun x hx => ?_, fun c m hc => ?_⟩
    · rw [hn] at hj
      rw [hs]
      unfold upd at hj
      split at hj
      · rename_i hp
        cases hj
        exact ⟨AStay.fresh e, by simp, hp.symm, rfl⟩
      · rename_i hp
        obtain ⟨s', q1, q2, q3⟩ := h.now p j hj
        obtain ⟨b', r1, r2, r3⟩ := h.now _ _ h1
        rw [h2] at r1
        cases r1
        have hij : ¬ i = j := by
          intro hij
          subst hij
          rw [h2] at q1
          cases q1
          exact hp (q2.symm.trans r2)
        refine ⟨s', ?_, q2, q3⟩
        rw [List.getElem?_append_left (by simpa using (List.getElem?_eq_some_iff.1 q1).1), set_get h2, if_neg hij]
        exact q1
    · rw [hs] at hx
      rcases List.mem_append.1 hx with hx | hx
      · rcases (mem_set_iff h2).1 hx with rfl | ⟨j, _, hj⟩
        · exact h.p1 b (List.mem_of_getElem? h2)
        · exact h.p1 x (List.mem_of_getElem? hj)
      · rw [List.mem_singleton.1 hx]; intro _; rfl
    · rw [hs] at hx
      rcases List.mem_append.1 hx with hx | hx
      · rcases (mem_set_iff h2).1 hx with rfl | ⟨j, _, hj⟩
        · exact h.cnt b (List.mem_of_getElem? h2)
        · exact h.cnt x (List.mem_of_getElem? hj)
      · rw [List.mem_singleton.1 hx]; intro _; rfl
    · rw [hm] at hc
      rw [hs]
      unfold upd at hc
      split at hc
      · rename_i hp
        cases hc
        exact ⟨AStay.fresh e, by simp, by rw [hp]; rfl, by rw [hp]; rfl, rfl⟩
      · obtain ⟨o, ho, q1, q2, q3⟩ := h.mem c m hc
        obtain ⟨j, hj⟩ := List.mem_iff_getElem?.1 ho
        by_cases hij : j = i
        · subst hij
          rw [h2] at hj
          cases hj
          exact ⟨_, List.mem_append_left _ ((mem_set_iff h2).2 (.inl rfl)), q1, q2, q3⟩
        · exact ⟨o, List.mem_append_left _ ((mem_set_iff h2).2 (.inr ⟨j, hij, hj⟩)), q1, q2, q3⟩
theorem sinv (l : List AEv) : SInv (arun l) := by
  induction l using snoc_ind with
  | h0 => exact SInv.fresh
  | hs l e ih => rw [arun_snoc]; exact ih.step (AMon.add_step _ _)
end Go.Proofs.Ythijlgjfgliinaa
end
