/- Part 36 of the proof of what MonJudges says. -/
import Derived.Test.YthijlgjfgliinaaJg35
section
/- The monitor and the judge break the same rules. -/
set_option linter.all false
namespace Go.Proofs.Ythijlgjfgliinaa
open Go.RowKit
variable [Env]
/-! ### The checks of an event, by its kind -/
theorem checks5 {A : AMon} {e : AEv} (h : e.kind = 5 ∨ e.kind = 6) : A.checks e = [] ∧ A.jchecks e = [] := by
  unfold AMon.checks AMon.jchecks; rw [if_pos h, if_pos h]; exact ⟨rfl, rfl⟩
theorem checks1 {A : AMon} {e : AEv} (h : e.kind = 1) : A.jchecks e = A.checks e ∧ ∀ c ∈ A.checks e, c.1 = 1 := by
  have h5 : ¬ (e.kind = 5 ∨ e.kind = 6) := by omega
  have h3 : ¬ e.kind = 3 := by omega
  unfold AMon.checks AMon.jchecks
  rw [if_neg h5, if_neg h3, if_pos h, if_neg h5, if_neg h3, if_pos h]
  exact ⟨rfl, fun c hc => by rw [List.mem_singleton.1 hc]⟩
theorem checks4 {A : AMon} {e : AEv} (h : e.kind = 4) : A.jchecks e = A.checks e ∧ ∀ c ∈ A.checks e, c.1 = 1 := by
  have h5 : ¬ (e.kind = 5 ∨ e.kind = 6) := by omega
  have h3 : ¬ e.kind = 3 := by omega
  have h1 : ¬ e.kind = 1 := by omega
  have h2 : ¬ e.kind = 2 := by omega
  unfold AMon.checks AMon.jchecks
  simp only [if_neg h5, if_neg h3, if_neg h1, if_neg h2, if_pos h]
  cases A.stay e with
  | none => exact ⟨rfl, fun c hc => by rw [List.mem_singleton.1 hc]⟩
  | some p => exact ⟨rfl, fun c hc => by rw [List.mem_singleton.1 hc]⟩
theorem checks0 {A : AMon} {e : AEv} (h : ¬ (e.kind = 5 ∨ e.kind = 6)) (h3 : e.kind ≠ 3) (h1 : e.kind ≠ 1) (h2 : e.kind ≠ 2) (h4 : e.kind ≠ 4) : A.checks e = [] ∧ A.jchecks e = [] := by
  unfold AMon.checks AMon.jchecks
  simp only [if_neg h, if_neg h3, if_neg h1, if_neg h2, if_neg h4]
  exact ⟨trivial, trivial⟩
theorem checks2 {A : AMon} {e : AEv} (h : e.kind = 2) : A.checks e = (2, (cntMg e.m (A.sends e.place) : Int) != 1) :: (3, A.seen e.had) ::
      (match A.stay e with
        | none => [(1, true)]
        | some (i, s) => (2, !confEq e.nepoch e.nrep s.next.1 s.next.2) :: (lastCk s.all e.m ++ (depsCk s.count 0 e.m.deps ++ (A.stays.set i (s.take e.m)).flatMap (tellCk s.epoch s.rep s.told e.m)))) ∧
    A.jchecks e = (match A.stay e with | none => [(1, true)] | some (_, s) => [(2, !confEq e.nepoch e.nrep s.next.1 s.next.2)]) := by
  have h5 : ¬ (e.kind = 5 ∨ e.kind = 6) := by omega
  have h3 : ¬ e.kind = 3 := by omega
  have h1 : ¬ e.kind = 1 := by omega
  unfold AMon.checks AMon.jchecks
  simp only [if_neg h5, if_neg h3, if_neg h1, if_pos h]
  refine ⟨?_, ?_⟩ <;> first | rfl | trivial
theorem checks3 {A : AMon} {e : AEv} (h : e.kind = 3) : A.checks e = (1, !A.live e.proc || !hasB e.members e.proc) :: (1, toldB (A.mem (e.epoch, e.rep)) e.members) :: (twiceCk e A.stays ++
      (match (A.now e.proc).bind fun i => (A.stays[i]?).map fun b => (i, b) with
        | none => []
        | some (i, b) => (1, decide (ord2 e.epoch e.rep b.epoch b.rep ≤ 0)) :: (1, aleave b.tr e) :: (A.stays.set i { b with went := true }).flatMap (closeCk { b with went := true }))) ∧
    A.jchecks e = ((1 : Int), !A.live e.proc || !hasB e.members e.proc) :: (A.stays.map (fun o => ((1 : Int), confEq o.epoch o.rep e.epoch e.rep && (o.members != e.members || o.proc == e.proc))) ++
      (match (A.now e.proc).bind fun i => (A.stays[i]?).map fun b => (i, b) with
        | none => []
        | some (_, b) => [(1, decide (ord2 e.epoch e.rep b.epoch b.rep ≤ 0)), (1, aleave b.tr e)] : List Ck)) := by
  have h5 : ¬ (e.kind = 5 ∨ e.kind = 6) := by omega
  unfold AMon.checks AMon.jchecks
  simp only [if_neg h5, if_pos h]
  refine ⟨?_, ?_⟩ <;> first | rfl | trivial
/-- Which rules there are. -/
def InR (c : Ck) : Prop := 1 ≤ c.1 ∧ c.1 ≤ 6
theorem inR (c : Ck) (r : Int) (h : c.1 = r) (h1 : 1 ≤ r := by omega) (h6 : r ≤ 6 := by omega) : InR c := by unfold InR; omega
theorem checks_rule {A : AMon} {e : AEv} {c : Ck} (h : c ∈ A.checks e) : InR c := by
  by_cases h5 : e.kind = 5 ∨ e.kind = 6
  · rw [(checks5 h5).1] at h; cases h
  by_cases h1 : e.kind = 1
  · exact inR c 1 ((checks1 h1).2 c h)
  by_cases h4 : e.kind = 4
  · exact inR c 1 ((checks4 h4).2 c h)
  by_cases h2 : e.kind = 2
  · rw [(checks2 h2).1] at h
    rcases List.mem_cons.1 h with rfl | h
    · exact inR _ 2 rfl
    rcases List.mem_cons.1 h with rfl | h
    · exact inR _ 3 rfl
    cases hs : A.stay e with
    | none => rw [hs] at h; rw [List.mem_singleton.1 h]; exact inR _ 1 rfl
    | some p =>
      obtain ⟨i, s⟩ := p
      rw [hs] at h
      simp only at h
      rcases List.mem_cons.1 h with rfl | h
      · exact inR _ 2 rfl
      rcases List.mem_append.1 h with h | h
      · exact inR _ 3 (lastCk_rule h)
      rcases List.mem_append.1 h with h | h
      · exact inR _ 4 (depsCk_rule h)
      · obtain ⟨o, _, h⟩ := List.mem_flatMap.1 h
        exact inR _ 6 (tellCk_rule h)
  by_cases h3 : e.kind = 3
  · rw [(checks3 h3).1] at h
    rcases List.mem_cons.1 h with rfl | h
    · exact inR _ 1 rfl
    rcases List.mem_cons.1 h with rfl | h
    · exact inR _ 1 rfl
    rcases List.mem_append.1 h with h | h
    · unfold twiceCk at h
      obtain ⟨o, _, rfl⟩ := List.mem_map.1 h
      exact inR _ 1 rfl
    · split at h
      · cases h
      · rcases List.mem_cons.1 h with rfl | h
        · exact inR _ 1 rfl
        rcases List.mem_cons.1 h with rfl | h
        · exact inR _ 1 rfl
        obtain ⟨o, _, h⟩ := List.mem_flatMap.1 h
        rcases closeCk_rule h with h | h
        · exact inR _ 5 h
        · exact inR _ 6 h
  · rw [(checks0 h5 h3 h1 h2 h4).1] at h; cases h
theorem mcks_rule : ∀ (l : List AEv) {c : Ck}, c ∈ mcks l → InR c := by
  intro l
  induction l using snoc_ind with
  | h0 => intro c h; cases h
  | hs l e ih =>
    intro c h
    rw [mcks_snoc] at h
    rcases List.mem_append.1 h with h | h
    · exact ih h
    · exact checks_rule h
/-! ### What was sent, what was seen -/
theorem sentOf_snoc (l : List AEv) (e : AEv) (p : Place) : sentOf (l ++ [e]) p = sentOf l p ++ (if e.kind = 1 ∧ e.proc = e.m.frm ∧ e.place = p then [e.m] else []) := by
  unfold sentOf
  rw [List.filter_append, List.map_append]
  congr 1
  by_cases h : e.kind = 1 ∧ e.proc = e.m.frm ∧ e.place = p
  · rw [if_pos h]
    obtain ⟨h1, h2, h3⟩ := h
    simp [List.filter_cons, h1, h2, h3]
  · rw [if_neg h]
    have : (e.kind == 1 && (e.proc == e.m.frm && decide (e.place = p))) = false := by
      cases hb : (e.kind == 1 && (e.proc == e.m.frm && decide (e.place = p))) with
      | false => rfl
      | true =>
        simp only [Bool.and_eq_true, beq_iff_eq, decide_eq_true_eq] at hb
        exact absurd hb h
    simp [List.filter_cons, this]
theorem act_sends (A : AMon) (e : AEv) (p : Place) : (A.add e).sends p = A.sends p ++ (if e.kind = 1 ∧ e.proc = e.m.frm ∧ e.place = p then [e.m] else []) := by
  rw [(AMon.add_f A e).2.2.2.1]
  unfold AMon.act
  by_cases h5 : e.kind = 5 ∨ e.kind = 6
  · rw [if_pos h5, if_neg (by omega)]; simp
  rw [if_neg h5]
  by_cases h3 : e.kind = 3
  · rw [if_pos h3, if_neg (by omega)]; simp [AMon.regular]
  rw [if_neg h3]
  by_cases h1 : e.kind = 1
  · rw [if_pos h1]
    unfold AMon.send
    simp only
    by_cases h2 : e.proc = e.m.frm
    · rw [if_pos h2]
      unfold upd
      by_cases hp : e.place = p
      · subst hp; rw [if_pos rfl, if_pos ⟨h1, h2, rfl⟩]
      · rw [if_neg (fun e => hp e.symm), if_neg (fun h => hp h.2.2)]; simp
    · rw [if_neg h2, if_neg (fun h => h2 h.2.1)]; simp
  rw [if_neg h1]
  have hno : ¬ (e.kind = 1 ∧ e.proc = e.m.frm ∧ e.place = p) := fun h => h1 h.1
  rw [if_neg hno, List.append_nil]
  repeat' split
  · unfold AMon.deliver
    simp only
    split <;> rfl
  · unfold AMon.trans
    split <;> rfl
  · rfl
theorem run_sends (l : List AEv) : ∀ p, (arun l).sends p = sentOf l p := by
  induction l using snoc_ind with
  | h0 => intro p; rfl
  | hs l e ih => intro p; rw [arun_snoc, act_sends, ih, sentOf_snoc]
def seenIn (l : List AEv) (h : Had) : Bool := l.any fun x => x.kind == 2 && decide (x.had = h)
theorem act_seen (A : AMon) (e : AEv) (h : Had) : (A.add e).seen h = (A.seen h || (e.kind == 2 && decide (e.had = h))) := by
  rw [(AMon.add_f A e).2.2.2.2.1]
  unfold AMon.act
  by_cases h2 : e.kind = 2
  · have h5 : ¬ (e.kind = 5 ∨ e.kind = 6) := by omega
    have h3 : ¬ e.kind = 3 := by omega
    have h1 : ¬ e.kind = 1 := by omega
    rw [if_neg h5, if_neg h3, if_neg h1, if_pos h2]
    have hu : ∀ (f : Had → Bool), upd f e.had true h = (f h || (e.kind == 2 && decide (e.had = h))) := fun f => by
      unfold upd
      by_cases hh : e.had = h
      · subst hh; simp [h2]
      · rw [if_neg (fun e => hh e.symm)]; simp [hh]
    unfold AMon.deliver
    simp only
    split <;> exact hu _
  · have hf : (e.kind == 2 && decide (e.had = h)) = false := by simp [h2]
    rw [hf, Bool.or_false]
    repeat' split
    all_goals first | rfl | contradiction | (unfold AMon.trans; split <;> rfl)
theorem run_seen (l : List AEv) : ∀ h, (arun l).seen h = seenIn l h := by
  induction l using snoc_ind with
  | h0 => intro p; rfl
  | hs l e ih =>
    intro h
    rw [arun_snoc, act_seen, ih]
    unfold seenIn
    rw [List.any_append]
    simp
/-! ### Rule by rule -/
theorem one_cons {r : Int} {b : Bool} {l : List Ck} : (r, true) ∈ ((r, b) :: l : List Ck) ↔ b = true ∨ (r, true) ∈ l := by
  rw [List.mem_cons, Prod.mk.injEq]
  constructor
  · rintro (⟨_, h⟩ | h)
    · exact .inl h.symm
    · exact .inr h
  · rintro (h | h)
    · exact .inl ⟨rfl, h.symm⟩
    · exact .inr h
theorem other_cons {r q : Int} {b : Bool} {l : List Ck} (h : r ≠ q) : (r, true) ∈ ((q, b) :: l : List Ck) ↔ (r, true) ∈ l := by
  rw [List.mem_cons, Prod.mk.injEq]
  constructor
  · rintro (⟨h', _⟩ | h')
    · exact absurd h' h
    · exact h'
  · exact .inr
theorem not_rule {P : Ck → Prop} {r : Int} (L : List Ck) (h : ∀ c ∈ L, c.1 ≠ r) : ¬ ((r, true) : Ck) ∈ L := fun hm => h _ hm rfl
def MemInv (l : List AEv) : Prop := (1, true) ∉ mcks l → ∀ o ∈ (arun l).stays, (arun l).mem (o.epoch, o.rep) = some o.members
def OneInv (l : List AEv) : Prop := (1, true) ∈ mcks l ↔ (1, true) ∈ jthr l
theorem twice_iff {e : AEv} {L : List AStay} : (1, true) ∈ twiceCk e L ↔ ∃ o ∈ L, o.epoch = e.epoch ∧ o.rep = e.rep ∧ o.proc = e.proc := by
  unfold twiceCk atwice
  simp only [List.mem_map, Prod.mk.injEq, true_and, Bool.and_eq_true, confEq_iff, beq_iff_eq, and_assoc]
theorem jtwice_iff {e : AEv} {L : List AStay} : (1, true) ∈ L.map (fun o => ((1 : Int), confEq o.epoch o.rep e.epoch e.rep && (o.members != e.members || o.proc == e.proc))) ↔ ∃ o ∈ L, o.epoch = e.epoch ∧ o.rep = e.rep ∧ (o.members ≠ e.members ∨ o.proc = e.proc) := by
  simp only [List.mem_map, Prod.mk.injEq, true_and, Bool.and_eq_true, confEq_iff, Bool.or_eq_true, bne_iff_ne, ne_eq, beq_iff_eq, and_assoc]
theorem close_no1 {b : AStay} {L : List AStay} : ¬ ((1, true) : Ck) ∈ L.flatMap (closeCk b) := fun h => by
  obtain ⟨o, _, h⟩ := List.mem_flatMap.1 h
  rcases closeCk_rule h with h | h <;> simp at h
theorem mem_step {A B : AMon} {e : AEv} (hS : SInv A) (hst : SStep A e B) (hm : ∀ o ∈ A.stays, A.mem (o.epoch, o.rep) = some o.members) (hc : ((1, true) : Ck) ∉ A.checks e) : ∀ o ∈ B.stays, B.mem (o.epoch, o.rep) = some o.members := by
  rcases hst with ⟨hk, hs, hn, hmm, h2⟩ | ⟨i, s, hk, hst, hs, hn, hmm⟩ | ⟨i, s, hk, hst, hs, hn, hmm⟩ | ⟨hk, hb, hs, hn, hmm⟩ | ⟨i, b, hk, hb, h1, h2, hs, hn, hmm⟩
  · rw [hs, hmm]; exact hm
  · obtain ⟨g1, g2, g3, g4, g5⟩ := AMon.stay_some hst
    obtain ⟨t1, t2, t3, t4, t5, t6, t7⟩ := s.take_f e.m
    rw [hs, hmm]
    intro o ho
    rcases (mem_set_iff g2).1 ho with rfl | ⟨j, _, hj⟩
    · rw [t2, t3, t4]; exact hm s (List.mem_of_getElem? g2)
    · exact hm o (List.mem_of_getElem? hj)
  · obtain ⟨g1, g2, g3, g4, g5⟩ := AMon.stay_some hst
    rw [hs, hmm]
    intro o ho
    rcases (mem_set_iff g2).1 ho with rfl | ⟨j, _, hj⟩
    · exact hm s (List.mem_of_getElem? g2)
    · exact hm o (List.mem_of_getElem? hj)
  all_goals
    rw [(checks3 hk).1] at hc
    rw [one_cons, one_cons, not_or, not_or] at hc
    have ht := hc.2.1
    have old : ∀ o ∈ A.stays, upd A.mem (e.epoch, e.rep) (some e.members) (o.epoch, o.rep) = some o.members := by
      intro o ho
      have h0 := hm o ho
      unfold upd
      split
      · rename_i he
        rw [he] at h0
        rw [h0] at ht
        have : o.members = e.members := by
          by_cases hq : o.members = e.members
          · exact hq
          · exact absurd (by simp [toldB, hq]) ht
        rw [this]
      · exact h0
    rw [hs, hmm]
    intro o ho
    rcases List.mem_append.1 ho with ho | ho
  · exact old o ho
  · rw [List.mem_singleton.1 ho]; simp [upd, AStay.fresh]
  · rcases (mem_set_iff h2).1 ho with rfl | ⟨j, _, hj⟩
    · exact old b (List.mem_of_getElem? h2)
    · exact old o (List.mem_of_getElem? hj)
  · rw [List.mem_singleton.1 ho]; simp [upd, AStay.fresh]
theorem one_step {A : AMon} {e : AEv} (hS : SInv A) (hm : ∀ o ∈ A.stays, A.mem (o.epoch, o.rep) = some o.members) : ((1, true) : Ck) ∈ A.checks e ↔ ((1, true) : Ck) ∈ A.jchecks e := by
  by_cases h5 : e.kind = 5 ∨ e.kind = 6
  · rw [(checks5 h5).1, (checks5 h5).2]
  by_cases h1 : e.kind = 1
  · rw [(checks1 h1).1]
  by_cases h4 : e.kind = 4
  · rw [(checks4 h4).1]
  by_cases h2 : e.kind = 2
  · rw [(checks2 h2).1, (checks2 h2).2, other_cons (by omega), other_cons (by omega)]
    cases hs : A.stay e with
    | none => exact Iff.rfl
    | some p =>
      obtain ⟨i, s⟩ := p
      simp only
      rw [other_cons (by omega), other_cons (by omega)]
      simp only [List.not_mem_nil, iff_false]
      intro h
      rcases List.mem_append.1 h with h | h
      · have := lastCk_rule h; simp at this
      rcases List.mem_append.1 h with h | h
      · have := depsCk_rule h; simp at this
      · obtain ⟨o, _, h⟩ := List.mem_flatMap.1 h
        have := tellCk_rule h; simp at this
  by_cases h3 : e.kind = 3
  · rw [(checks3 h3).1, (checks3 h3).2, one_cons, one_cons, one_cons, List.mem_append, List.mem_append, twice_iff, jtwice_iff]
    have ht : toldB (A.mem (e.epoch, e.rep)) e.members = true ↔ ∃ o ∈ A.stays, o.epoch = e.epoch ∧ o.rep = e.rep ∧ o.members ≠ e.members := by
      constructor
      · intro h
        cases hq : A.mem (e.epoch, e.rep) with
        | none => rw [hq] at h; simp [toldB] at h
        | some m =>
          rw [hq] at h
          obtain ⟨o, ho, q1, q2, q3⟩ := hS.mem _ _ hq
          simp only [toldB, bne_iff_ne, ne_eq] at h
          exact ⟨o, ho, q1, q2, by rw [q3]; exact h⟩
      · rintro ⟨o, ho, q1, q2, q3⟩
        have := hm o ho
        rw [q1, q2] at this
        rw [this]
        simp [toldB, q3]
    have hrest : ((1, true) : Ck) ∈ (match (A.now e.proc).bind fun i => (A.stays[i]?).map fun b => (i, b) with
        | none => []
        | some (i, b) => (1, decide (ord2 e.epoch e.rep b.epoch b.rep ≤ 0)) :: (1, aleave b.tr e) :: (A.stays.set i { b with went := true }).flatMap (closeCk { b with went := true })) ↔
      ((1, true) : Ck) ∈ (match (A.now e.proc).bind fun i => (A.stays[i]?).map fun b => (i, b) with
        | none => []
        | some (_, b) => [(1, decide (ord2 e.epoch e.rep b.epoch b.rep ≤ 0)), (1, aleave b.tr e)] : List Ck) := by
      cases (A.now e.proc).bind fun i => (A.stays[i]?).map fun b => (i, b) with
      | none => exact Iff.rfl
      | some p =>
        obtain ⟨i, b⟩ := p
        simp only
        rw [one_cons, one_cons, one_cons, one_cons]
        simp only [close_no1, List.not_mem_nil]
    rw [ht, hrest]
    constructor
    · rintro (h | ⟨o, ho, q1, q2, q3⟩ | ⟨o, ho, q1, q2, q3⟩ | h)
      · exact .inl h
      · exact .inr (.inl ⟨o, ho, q1, q2, .inl q3⟩)
      · exact .inr (.inl ⟨o, ho, q1, q2, .inr q3⟩)
      · exact .inr (.inr h)
    · rintro (h | ⟨o, ho, q1, q2, q3 | q3⟩ | h)
      · exact .inl h
      · exact .inr (.inl ⟨o, ho, q1, q2, q3⟩)
      · exact .inr (.inr (.inl ⟨o, ho, q1, q2, q3⟩))
      · exact .inr (.inr (.inr h))
  · rw [(checks0 h5 h3 h1 h2 h4).1, (checks0 h5 h3 h1 h2 h4).2]
theorem run_one (l : List AEv) : MemInv l ∧ OneInv l := by
  induction l using snoc_ind with
  | h0 => exact ⟨fun _ o ho => (by cases ho), Iff.rfl⟩
  | hs l e ih =>
    obtain ⟨i1, i2⟩ := ih
    unfold MemInv OneInv at *
    rw [mcks_snoc, jthr_snoc, arun_snoc, List.mem_append, List.mem_append]
    constructor
    · intro h
      rw [not_or] at h
      exact mem_step (sinv l) (AMon.add_step _ _) (i1 h.1) h.2
    · by_cases h1 : (1, true) ∈ mcks l
      · simp only [h1, i2.1 h1, true_or]
      · have h1' : (1, true) ∉ jthr l := fun h => h1 (i2.2 h)
        simp only [h1, h1', false_or]
        exact one_step (sinv l) (i1 h1)
theorem behind_rule {pre : List AEv} {e : AEv} {c : Ck} (h : c ∈ behindAt pre e) : c.1 = 2 := by
  unfold behindAt at h
  split at h
  · rw [List.mem_singleton.1 h]
  · cases h
theorem once_rule {pre : List AEv} {e : AEv} {c : Ck} (h : c ∈ onceAt pre e) : c.1 = 3 := by
  unfold onceAt at h
  split at h
  · rw [List.mem_singleton.1 h]
  · cases h
theorem each_rule {f : List AEv → AEv → List Ck} {r : Int} (hf : ∀ pre e, ∀ c ∈ f pre e, c.1 = r) {c : Ck} : ∀ {l pre : List AEv}, c ∈ eachCk f pre l → c.1 = r
  | [], _, h => by cases h
  | e :: l, pre, h => by
    rcases List.mem_append.1 h with h | h
    · exact hf _ _ _ h
    · exact each_rule hf h
theorem kind_cases {P : Prop} {e : AEv} (A : AMon) (h3 : e.kind = 3 → P) (h2 : e.kind = 2 → P) (h1 : e.kind ≠ 3 → e.kind ≠ 2 → (∀ c ∈ A.checks e, c.1 = 1) → (∀ c ∈ A.jchecks e, c.1 = 1) → P) : P := by
  by_cases k3 : e.kind = 3
  · exact h3 k3
  by_cases k2 : e.kind = 2
  · exact h2 k2
  by_cases k5 : e.kind = 5 ∨ e.kind = 6
  · exact h1 k3 k2 (by rw [(checks5 k5).1]; intro c hc; cases hc) (by rw [(checks5 k5).2]; intro c hc; cases hc)
  by_cases k1 : e.kind = 1
  · exact h1 k3 k2 (checks1 k1).2 (by rw [(checks1 k1).1]; exact (checks1 k1).2)
  by_cases k4 : e.kind = 4
  · exact h1 k3 k2 (checks4 k4).2 (by rw [(checks4 k4).1]; exact (checks4 k4).2)
  · exact h1 k3 k2 (by rw [(checks0 k5 k3 k1 k2 k4).1]; intro c hc; cases hc) (by rw [(checks0 k5 k3 k1 k2 k4).2]; intro c hc; cases hc)
theorem jrule3 {A : AMon} {e : AEv} (h : e.kind = 3) : ∀ c ∈ A.jchecks e, c.1 = 1 := by
  rw [(checks3 h).2]
  intro c hc
  rcases List.mem_cons.1 hc with rfl | hc
  · rfl
  rcases List.mem_append.1 hc with hc | hc
  · obtain ⟨o, _, rfl⟩ := List.mem_map.1 hc; rfl
  · split at hc
    · cases hc
    · simp only [List.mem_cons, List.not_mem_nil, or_false] at hc
      rcases hc with rfl | rfl <;> rfl
theorem mrule3 {A : AMon} {e : AEv} (h : e.kind = 3) : ∀ c ∈ A.checks e, c.1 = 1 ∨ c.1 = 5 ∨ c.1 = 6 := by
  rw [(checks3 h).1]
  intro c hc
  rcases List.mem_cons.1 hc with rfl | hc
  · exact .inl rfl
  rcases List.mem_cons.1 hc with rfl | hc
  · exact .inl rfl
  rcases List.mem_append.1 hc with hc | hc
  · unfold twiceCk at hc
    obtain ⟨o, _, rfl⟩ := List.mem_map.1 hc; exact .inl rfl
  · split at hc
    · cases hc
    · rcases List.mem_cons.1 hc with rfl | hc
      · exact .inl rfl
      rcases List.mem_cons.1 hc with rfl | hc
      · exact .inl rfl
      obtain ⟨o, _, hc⟩ := List.mem_flatMap.1 hc
      exact .inr (closeCk_rule hc)
theorem run_two (l : List AEv) : (2, true) ∈ mcks l ↔ (2, true) ∈ jthr l ∨ (2, true) ∈ eachCk behindAt [] l := by
  induction l using snoc_ind with
  | h0 => simp [mcks, jthr, runCk, eachCk]
  | hs l e ih =>
    rw [mcks_snoc, jthr_snoc, behind_snoc, List.mem_append, List.mem_append, List.mem_append, ih]
    have key : (2, true) ∈ (arun l).checks e ↔ (2, true) ∈ (arun l).jchecks e ∨ (2, true) ∈ behindAt l e := by
      refine kind_cases (arun l) (e := e) (fun h3 => ?_) (fun h2 => ?_) (fun k3 k2 h1 h1' => ?_)
      · have n1 : ¬ ((2, true) : Ck) ∈ (arun l).checks e := fun h => by have := mrule3 h3 _ h; simp at this
        have n2 : ¬ ((2, true) : Ck) ∈ (arun l).jchecks e := fun h => by have := jrule3 h3 _ h; simp at this
        have n3 : ¬ ((2, true) : Ck) ∈ behindAt l e := by unfold behindAt; rw [if_neg (by omega)]; simp
        simp only [n1, n2, n3, or_self]
      · rw [(checks2 h2).1, (checks2 h2).2, one_cons, other_cons (by omega)]
        unfold behindAt
        rw [if_pos h2, one_cons, run_sends]
        cases hs : (arun l).stay e with
        | none => simp
        | some p =>
          obtain ⟨i, s⟩ := p
          simp only
          rw [one_cons, one_cons]
          have n1 : ¬ ((2, true) : Ck) ∈ lastCk s.all e.m ++ (depsCk s.count 0 e.m.deps ++ ((arun l).stays.set i (s.take e.m)).flatMap (tellCk s.epoch s.rep s.told e.m)) := by
            intro h
            rcases List.mem_append.1 h with h | h
            · have := lastCk_rule h; simp at this
            rcases List.mem_append.1 h with h | h
            · have := depsCk_rule h; simp at this
            · obtain ⟨o, _, h⟩ := List.mem_flatMap.1 h
              have := tellCk_rule h; simp at this
          simp only [n1, or_false, List.not_mem_nil]
          exact Or.comm
      · have n1 : ¬ ((2, true) : Ck) ∈ (arun l).checks e := fun h => by have := h1 _ h; simp at this
        have n2 : ¬ ((2, true) : Ck) ∈ (arun l).jchecks e := fun h => by have := h1' _ h; simp at this
        have n3 : ¬ ((2, true) : Ck) ∈ behindAt l e := by unfold behindAt; rw [if_neg k2]; simp
        simp only [n1, n2, n3, or_self]
    rw [key]
    constructor
    · rintro ((h | h) | (h | h))
      · exact .inl (.inl h)
      · exact .inr (.inl h)
      · exact .inl (.inr h)
      · exact .inr (.inr h)
    · rintro ((h | h) | (h | h))
      · exact .inl (.inl h)
      · exact .inr (.inl h)
      · exact .inl (.inr h)
      · exact .inr (.inr h)
/-- The orders of the stays. -/
def ordAll (L : List AStay) : List Ck := L.flatMap fun s => ordCk [] s.all
theorem ord_step {A B : AMon} {e : AEv} (hS : SInv A) (hst : SStep A e B) (c : Ck) : c ∈ ordAll B.stays ↔ c ∈ ordAll A.stays ∨ ∃ i s, e.kind = 2 ∧ A.stay e = some (i, s) ∧ c ∈ lastCk s.all e.m ++ depsCk s.count 0 e.m.deps := by
  unfold ordAll
  have push : ∀ L : List AStay, c ∈ (L ++ [AStay.fresh e]).flatMap (fun s => ordCk [] s.all) ↔ c ∈ L.flatMap fun s => ordCk [] s.all := fun L => by
    rw [List.flatMap_append, List.mem_append]
    simp [AStay.fresh_all, ordCk]
  rcases hst with ⟨hk, hs, hn, hmm, h2⟩ | ⟨i, s, hk, hst, hs, hn, hmm⟩ | ⟨i, s, hk, hst, hs, hn, hmm⟩ | ⟨hk, hb, hs, hn, hmm⟩ | ⟨i, b, hk, hb, h1, h2, hs, hn, hmm⟩
  · rw [hs]
    constructor
    · exact .inl
    · rintro (h | ⟨i, s, hk2, h, _⟩)
      · exact h
      · rw [h2 (.inl hk2)] at h; cases h
  · obtain ⟨g1, g2, g3, g4, g5⟩ := AMon.stay_some hst
    have hsm := List.mem_of_getElem? g2
    rw [hs, flat_set (f := fun s : AStay => ordCk [] s.all) (new := lastCk s.all e.m ++ depsCk s.count 0 e.m.deps) g2 ?_ c]
    · constructor
      · rintro (h | h)
        · exact .inl h
        · exact .inr ⟨i, s, hk, hst, h⟩
      · rintro (h | ⟨i', s', _, h', h⟩)
        · exact .inl h
        · rw [hst] at h'
          cases h'
          exact .inr h
    · have hc : cntOf s.all = s.count := by funext q; exact (hS.cnt s hsm q).symm
      rw [s.take_all e.m (hS.p1 s hsm), ordCk_snoc, List.nil_append, hc]
  · obtain ⟨g1, g2, g3, g4, g5⟩ := AMon.stay_some hst
    rw [hs, flat_set (f := fun s : AStay => ordCk [] s.all) (new := []) g2 (by simp [AStay.all]) c]
    constructor
    · rintro (h | h)
      · exact .inl h
      · cases h
    · rintro (h | ⟨i, s, hk2, _, _⟩)
      · exact .inl h
      · omega
  · rw [hs, push]
    constructor
    · exact .inl
    · rintro (h | ⟨i, s, hk2, _, _⟩)
      · exact h
      · omega
  · rw [hs, push, flat_set (f := fun s : AStay => ordCk [] s.all) (new := []) h2 (by simp [AStay.all]) c]
    constructor
    · rintro (h | h)
      · exact .inl h
      · cases h
    · rintro (h | ⟨i, s, hk2, _, _⟩)
      · exact .inl h
      · omega
theorem run_three (l : List AEv) : (3, true) ∈ mcks l ↔ (3, true) ∈ eachCk onceAt [] l ∨ (3, true) ∈ ordAll (arun l).stays := by
  induction l using snoc_ind with
  | h0 => simp [mcks, runCk, eachCk, ordAll, arun, AMon.fresh]
  | hs l e ih =>
    rw [mcks_snoc, once_snoc, arun_snoc, List.mem_append, List.mem_append, ih, ord_step (sinv l) (AMon.add_step _ _)]
    have key : (3, true) ∈ (arun l).checks e ↔ (3, true) ∈ onceAt l e ∨ ∃ i s, e.kind = 2 ∧ (arun l).stay e = some (i, s) ∧ ((3, true) : Ck) ∈ lastCk s.all e.m ++ depsCk s.count 0 e.m.deps := by
      refine kind_cases (arun l) (e := e) (fun h3 => ?_) (fun h2 => ?_) (fun k3 k2 h1 h1' => ?_)
      · have n1 : ¬ ((3, true) : Ck) ∈ (arun l).checks e := fun h => by have := mrule3 h3 _ h; simp at this
        have n3 : ¬ ((3, true) : Ck) ∈ onceAt l e := by unfold onceAt; rw [if_neg (by omega)]; simp
        simp only [n1, n3, false_or, false_iff]
        rintro ⟨i, s, hk, _⟩
        omega
      · rw [(checks2 h2).1, other_cons (by omega), one_cons]
        unfold onceAt
        rw [if_pos h2, one_cons, run_seen]
        simp only [List.not_mem_nil, or_false]
        refine or_congr Iff.rfl ?_
        cases hs : (arun l).stay e with
        | none => simp
        | some p =>
          obtain ⟨i, s⟩ := p
          simp only
          rw [other_cons (by omega)]
          constructor
          · intro h
            refine ⟨i, s, h2, rfl, ?_⟩
            rcases List.mem_append.1 h with h | h
            · exact List.mem_append_left _ h
            rcases List.mem_append.1 h with h | h
            · exact List.mem_append_right _ h
            · obtain ⟨o, _, h⟩ := List.mem_flatMap.1 h
              have := tellCk_rule h; simp at this
          · rintro ⟨i', s', _, he, h⟩
            cases he
            rcases List.mem_append.1 h with h | h
            · exact List.mem_append_left _ h
            · exact List.mem_append_right _ (List.mem_append_left _ h)
      · have n1 : ¬ ((3, true) : Ck) ∈ (arun l).checks e := fun h => by have := h1 _ h; simp at this
        have n3 : ¬ ((3, true) : Ck) ∈ onceAt l e := by unfold onceAt; rw [if_neg k2]; simp
        simp only [n1, n3, false_or, false_iff]
        rintro ⟨i, s, hk, _⟩
        exact k2 hk
    rw [key]
    constructor
    · rintro ((h | h) | (h | h))
      · exact .inl (.inl h)
      · exact .inr (.inl h)
      · exact .inl (.inr h)
      · exact .inr (.inr h)
    · rintro ((h | h) | (h | h))
      · exact .inl (.inl h)
      · exact .inr (.inl h)
      · exact .inl (.inr h)
      · exact .inr (.inr h)
theorem run_four (l : List AEv) : (4, true) ∈ mcks l ↔ (4, true) ∈ ordAll (arun l).stays := by
  induction l using snoc_ind with
  | h0 => simp [mcks, runCk, eachCk, ordAll, arun, AMon.fresh]
  | hs l e ih =>
    rw [mcks_snoc, arun_snoc, List.mem_append, ih, ord_step (sinv l) (AMon.add_step _ _)]
    refine or_congr Iff.rfl ?_
    refine kind_cases (arun l) (e := e) (fun h3 => ?_) (fun h2 => ?_) (fun k3 k2 h1 h1' => ?_)
    · have n1 : ¬ ((4, true) : Ck) ∈ (arun l).checks e := fun h => by have := mrule3 h3 _ h; simp at this
      simp only [n1, false_iff]
      rintro ⟨i, s, hk, _⟩
      omega
    · rw [(checks2 h2).1, other_cons (by omega), other_cons (by omega)]
      cases hs : (arun l).stay e with
      | none => simp
      | some p =>
        obtain ⟨i, s⟩ := p
        simp only
        rw [other_cons (by omega)]
        constructor
        · intro h
          refine ⟨i, s, h2, rfl, ?_⟩
          rcases List.mem_append.1 h with h | h
          · exact List.mem_append_left _ h
          rcases List.mem_append.1 h with h | h
          · exact List.mem_append_right _ h
          · obtain ⟨o, _, h⟩ := List.mem_flatMap.1 h
            have := tellCk_rule h; simp at this
        · rintro ⟨i', s', _, he, h⟩
          cases he
          rcases List.mem_append.1 h with h | h
          · exact List.mem_append_left _ h
          · exact List.mem_append_right _ (List.mem_append_left _ h)
    · have n1 : ¬ ((4, true) : Ck) ∈ (arun l).checks e := fun h => by have := h1 _ h; simp at this
      simp only [n1, false_iff]
      rintro ⟨i, s, hk, _⟩
      exact k2 hk
theorem five_step {A B : AMon} {e : AEv} (hS : SInv A) (hst : SStep A e B) : Five B.stays ↔ Five A.stays ∨ (5, true) ∈ A.checks e := by
  have nox : e.kind ≠ 3 → ¬ ((5, true) : Ck) ∈ A.checks e := fun k3 => by
    refine kind_cases A (e := e) (fun h3 => absurd h3 k3) (fun h2 => ?_) (fun _ k2 h1 h1' => fun h => by have := h1 _ h; simp at this)
    rw [(checks2 h2).1, other_cons (by omega), other_cons (by omega)]
    cases hs : A.stay e with
    | none => simp
    | some p =>
      obtain ⟨i, s⟩ := p
      simp only
      rw [other_cons (by omega)]
      intro h
      rcases List.mem_append.1 h with h | h
      · have := lastCk_rule h; simp at this
      rcases List.mem_append.1 h with h | h
      · have := depsCk_rule h; simp at this
      · obtain ⟨o, _, h⟩ := List.mem_flatMap.1 h
        have := tellCk_rule h; simp at this
  rcases hst with ⟨hk, hs, hn, hmm, h2⟩ | ⟨i, s, hk, hst, hs, hn, hmm⟩ | ⟨i, s, hk, hst, hs, hn, hmm⟩ | ⟨hk, hb, hs, hn, hmm⟩ | ⟨i, b, hk, hb, h1, h2, hs, hn, hmm⟩
  · simp only [nox hk, or_false, hs]
  · obtain ⟨g1, g2, g3, g4, g5⟩ := AMon.stay_some hst
    obtain ⟨t1, t2, t3, t4, t5, t6, t7⟩ := s.take_f e.m
    obtain ⟨s', q1, _, q3⟩ := hS.now _ _ g1
    rw [g2] at q1
    cases q1
    simp only [nox (by omega), or_false]
    rw [hs, Five.set g2 q3 (t6.trans q3)]
  · obtain ⟨g1, g2, g3, g4, g5⟩ := AMon.stay_some hst
    obtain ⟨s', q1, _, q3⟩ := hS.now _ _ g1
    rw [g2] at q1
    cases q1
    simp only [nox (by omega), or_false]
    rw [hs, Five.set (s' := { s with tr := some ⟨e.nepoch, e.nrep, e.members⟩ }) g2 q3 q3]
  · rw [hs, Five.push rfl, (checks3 hk).1, hb, other_cons (by omega), other_cons (by omega)]
    have n1 : ¬ ((5, true) : Ck) ∈ twiceCk e A.stays := by
      unfold twiceCk
      intro h
      obtain ⟨o, _, h⟩ := List.mem_map.1 h
      cases h
    simp only [List.mem_append, n1, List.not_mem_nil, or_false, false_or, or_self]
  · obtain ⟨b', q1, _, q3⟩ := hS.now _ _ h1
    rw [h2] at q1
    cases q1
    rw [hs, Five.push rfl, Five.goes h2 q3, (checks3 hk).1, hb, other_cons (by omega), other_cons (by omega)]
    have n1 : ¬ ((5, true) : Ck) ∈ twiceCk e A.stays := by
      unfold twiceCk
      intro h
      obtain ⟨o, _, h⟩ := List.mem_map.1 h
      cases h
    simp only [List.mem_append, n1, false_or]
    rw [other_cons (by omega), other_cons (by omega), List.mem_flatMap]
    simp only [closeCk5 (b := { b with went := true }) rfl]
theorem six_step {A B : AMon} {e : AEv} (hS : SInv A) (hst : SStep A e B) (hno : ((1, true) : Ck) ∉ A.checks e) : Six B.stays ↔ Six A.stays ∨ (6, true) ∈ A.checks e := by
  have nox : e.kind ≠ 3 → (e.kind = 2 → A.stay e = none) → ¬ ((6, true) : Ck) ∈ A.checks e := fun k3 hst => by
    refine kind_cases A (e := e) (fun h3 => absurd h3 k3) (fun h2 => ?_) (fun _ k2 h1 h1' => fun h => by have := h1 _ h; simp at this)
    rw [(checks2 h2).1, other_cons (by omega), other_cons (by omega), hst h2]
    simp
  rcases hst with ⟨hk, hs, hn, hmm, h2⟩ | ⟨i, s, hk, hst, hs, hn, hmm⟩ | ⟨i, s, hk, hst, hs, hn, hmm⟩ | ⟨hk, hb, hs, hn, hmm⟩ | ⟨i, b, hk, hb, h1, h2, hs, hn, hmm⟩
  · simp only [nox hk (fun k => h2 (.inl k)), or_false, hs]
  · obtain ⟨g1, g2, g3, g4, g5⟩ := AMon.stay_some hst
    obtain ⟨t1, t2, t3, t4, t5, t6, t7⟩ := s.take_f e.m
    obtain ⟨s', q1, _, q3⟩ := hS.now _ _ g1
    rw [g2] at q1
    cases q1
    have hp := hS.p1 s (List.mem_of_getElem? g2)
    rw [hs, Six.set g2 q3 (t6.trans q3) (fun b => b.epoch = s.epoch ∧ b.rep = s.rep ∧ (6, true) ∈ owesCk (hasB s.told b.proc) b.all [e.m]) (fun b hbw => ?_)]
    · refine or_congr Iff.rfl ?_
      rw [(checks2 hk).1, other_cons (by omega), other_cons (by omega), hst]
      simp only
      rw [other_cons (by omega)]
      have n1 : ¬ ((6, true) : Ck) ∈ lastCk s.all e.m := fun h => by have := lastCk_rule h; simp at this
      have n2 : ¬ ((6, true) : Ck) ∈ depsCk s.count 0 e.m.deps := fun h => by have := depsCk_rule h; simp at this
      simp only [List.mem_append, n1, n2, false_or, List.mem_flatMap, tellCk6]
      constructor
      · rintro ⟨o, ho, h1, h2, h3, h4⟩
        exact ⟨o, ho, h2, h3, h1, h4⟩
      · rintro ⟨o, ho, h2, h3, h1, h4⟩
        exact ⟨o, ho, h1, h2, h3, h4⟩
    · rw [safeAt_iff, safeAt_iff, t2, t3, safe6_take hp]
      constructor
      · rintro ⟨h1, h2, h3, h4 | h4⟩
        · exact .inl ⟨h1, h2, h3, h4⟩
        · exact .inr ⟨h1.symm, h2.symm, h4⟩
      · rintro (⟨h1, h2, h3, h4⟩ | ⟨h1, h2, h4⟩)
        · exact ⟨h1, h2, h3, .inl h4⟩
        · exact ⟨h1.symm, h2.symm, hbw, .inr h4⟩
  · obtain ⟨g1, g2, g3, g4, g5⟩ := AMon.stay_some hst
    obtain ⟨s', q1, _, q3⟩ := hS.now _ _ g1
    rw [g2] at q1
    cases q1
    have htn : s.tr = none := by
      cases ht : s.tr with
      | none => rfl
      | some t =>
        exfalso
        apply hno
        have h5 : ¬ (e.kind = 5 ∨ e.kind = 6) := by omega
        have h3 : ¬ e.kind = 3 := by omega
        have h1 : ¬ e.kind = 1 := by omega
        have h2 : ¬ e.kind = 2 := by omega
        unfold AMon.checks
        simp only [if_neg h5, if_neg h3, if_neg h1, if_neg h2, if_pos hk, hst, ht]
        simp
    have hp := hS.p1 s (List.mem_of_getElem? g2) htn
    simp only [nox (by omega) (by omega), or_false]
    rw [hs, Six.set (s' := { s with tr := some ⟨e.nepoch, e.nrep, e.members⟩ }) g2 q3 q3 (fun _ => False) (fun b _ => ?_)]
    · simp
    · rw [safeAt_iff, safeAt_iff]
      unfold safe6
      simp only [hp, htn, owesCk, List.map_nil, List.append_nil, or_false]
  · rw [hs, Six.push, (checks3 hk).1, hb, other_cons (by omega), other_cons (by omega)]
    have n1 : ¬ ((6, true) : Ck) ∈ twiceCk e A.stays := by
      unfold twiceCk
      intro h
      obtain ⟨o, _, h⟩ := List.mem_map.1 h
      cases h
    simp only [List.mem_append, n1, List.not_mem_nil, or_false, false_or, or_self]
  · obtain ⟨b', q1, _, q3⟩ := hS.now _ _ h1
    rw [h2] at q1
    cases q1
    rw [hs, Six.push, Six.goes h2 q3, (checks3 hk).1, hb, other_cons (by omega), other_cons (by omega)]
    have n1 : ¬ ((6, true) : Ck) ∈ twiceCk e A.stays := by
      unfold twiceCk
      intro h
      obtain ⟨o, _, h⟩ := List.mem_map.1 h
      cases h
    simp only [List.mem_append, n1, false_or]
    rw [other_cons (by omega), other_cons (by omega), List.mem_flatMap]
    simp only [closeCk6 (b := { b with went := true }) rfl]
theorem run_five (l : List AEv) : (5, true) ∈ mcks l ↔ Five (arun l).stays := by
  induction l using snoc_ind with
  | h0 => simp [mcks, runCk, Five, arun, AMon.fresh]
  | hs l e ih => rw [mcks_snoc, arun_snoc, List.mem_append, ih, five_step (sinv l) (AMon.add_step _ _)]
theorem run_six (l : List AEv) : (1, true) ∉ mcks l → ((6, true) ∈ mcks l ↔ Six (arun l).stays) := by
  induction l using snoc_ind with
  | h0 => intro _; simp [mcks, runCk, Six, arun, AMon.fresh]
  | hs l e ih =>
    rw [mcks_snoc, arun_snoc, List.mem_append, List.mem_append, not_or]
    rintro ⟨h1, h2⟩
    rw [ih h1, six_step (sinv l) (AMon.add_step _ _) h2]
/-- The judge's rule: the least that its checks break. -/
def leastJ (l : List Ck) : List Int → Int
  | [] => 0
  | r :: rs => if ((r, true) : Ck) ∈ l then r else leastJ l rs
def judgeOf (l : List AEv) : Int := leastJ (jcks l) [1, 2, 3, 4, 5, 6]
theorem jthr_rule (l : List AEv) {c : Ck} (h : c ∈ jthr l) : c.1 = 1 ∨ c.1 = 2 := by
  revert c
  induction l using snoc_ind with
  | h0 => intro c h; cases h
  | hs l e ih =>
    intro c h
    rw [jthr_snoc] at h
    rcases List.mem_append.1 h with h | h
    · exact ih h
    · refine kind_cases (arun l) (e := e) (fun h3 => .inl (jrule3 h3 c h)) (fun h2 => ?_) (fun _ _ _ h1' => .inl (h1' c h))
      rw [(checks2 h2).2] at h
      cases hs : (arun l).stay e with
      | none => rw [hs] at h; rw [List.mem_singleton.1 h]; exact .inl rfl
      | some p => rw [hs] at h; rw [List.mem_singleton.1 h]; exact .inr rfl
theorem jcks_iff (l : List AEv) : ((1, true) ∈ mcks l ↔ (1, true) ∈ jcks l) ∧ ((1, true) ∉ mcks l → ∀ r : Int, 1 ≤ r → r ≤ 6 → ((r, true) ∈ mcks l ↔ (r, true) ∈ jcks l)) := by
  have hj : ∀ r : Int, (r, true) ∈ jcks l ↔ (r, true) ∈ jthr l ∨ (r, true) ∈ eachCk behindAt [] l ∨ (r, true) ∈ eachCk onceAt [] l ∨ (r, true) ∈ ordAll (arun l).stays ∨ (r, true) ∈ togCk (arun l).stays [] (arun l).stays := fun r => by
    unfold jcks ordAll
    simp only [List.mem_append]
  have nt : ∀ r : Int, r ≠ 1 → r ≠ 2 → ¬ ((r, true) : Ck) ∈ jthr l := fun r h1 h2 h => by have := jthr_rule l h; simp at this; omega
  have nb : ∀ r : Int, r ≠ 2 → ¬ ((r, true) : Ck) ∈ eachCk behindAt [] l := fun r h1 h => by have := each_rule (r := 2) (fun _ _ _ h => behind_rule h) h; simp at this; omega
  have no : ∀ r : Int, r ≠ 3 → ¬ ((r, true) : Ck) ∈ eachCk onceAt [] l := fun r h1 h => by have := each_rule (r := 3) (fun _ _ _ h => once_rule h) h; simp at this; omega
  have nr : ∀ r : Int, r ≠ 3 → r ≠ 4 → ¬ ((r, true) : Ck) ∈ ordAll (arun l).stays := fun r h1 h2 h => by
    obtain ⟨s, _, h⟩ := List.mem_flatMap.1 h
    have := ordCk_rule h; simp at this; omega
  have ng : ∀ r : Int, r ≠ 5 → r ≠ 6 → ¬ ((r, true) : Ck) ∈ togCk (arun l).stays [] (arun l).stays := fun r h1 h2 h => by have := togCk_rule h; simp at this; omega
  constructor
  · rw [hj, show (1, true) ∈ mcks l ↔ (1, true) ∈ jthr l from (run_one l).2]
    simp only [nb 1 (by omega), no 1 (by omega), nr 1 (by omega) (by omega), ng 1 (by omega) (by omega), or_false]
  · intro hno r h1 h6
    rw [hj]
    have hr : r = 1 ∨ r = 2 ∨ r = 3 ∨ r = 4 ∨ r = 5 ∨ r = 6 := by omega
    rcases hr with rfl | rfl | rfl | rfl | rfl | rfl
    · rw [show (1, true) ∈ mcks l ↔ (1, true) ∈ jthr l from (run_one l).2]
      simp only [nb 1 (by omega), no 1 (by omega), nr 1 (by omega) (by omega), ng 1 (by omega) (by omega), or_false]
    · rw [run_two]
      simp only [no 2 (by omega), nr 2 (by omega) (by omega), ng 2 (by omega) (by omega), or_false]
    · rw [run_three]
      simp only [nt 3 (by omega) (by omega), nb 3 (by omega), ng 3 (by omega) (by omega), or_false, false_or]
    · rw [run_four]
      simp only [nt 4 (by omega) (by omega), nb 4 (by omega), no 4 (by omega), ng 4 (by omega) (by omega), or_false, false_or]
    · rw [run_five, togCk5]
      simp only [nt 5 (by omega) (by omega), nb 5 (by omega), no 5 (by omega), nr 5 (by omega) (by omega), false_or]
      simp
    · rw [run_six l hno, togCk6]
      simp only [nt 6 (by omega) (by omega), nb 6 (by omega), no 6 (by omega), nr 6 (by omega) (by omega), false_or]
      rfl
/-- What a monitor that was told all says is what the judge says. -/
theorem judge_eq (l : List AEv) : (arun l).br = judgeOf l := by
  have hbr : (arun l).br = brks 0 (mcks l) := by
    have := arun_br l AMon.fresh
    exact this
  have hL : Least (mcks l) (arun l).br := by rw [hbr]; exact Least.of _ fun c hc => by have := mcks_rule l hc; unfold InR at this; omega
  obtain ⟨h1, h2⟩ := jcks_iff l
  unfold judgeOf
  by_cases hone : (1, true) ∈ mcks l
  · rw [hL.one (fun c hc => by have := mcks_rule l hc; unfold InR at this; omega) hone]
    unfold leastJ
    rw [if_pos (h1.1 hone)]
  · have h3 := h2 hone
    have key : ∀ (rs : List Int) (lo : Int), 1 ≤ lo → (∀ r ∈ rs, 1 ≤ r ∧ r ≤ 6) → ((arun l).br = 0 ∨ (arun l).br ∈ rs) → (rs.Pairwise (· < ·)) → leastJ (jcks l) rs = (arun l).br := by
      intro rs
      induction rs with
      | nil =>
        intro lo _ _ h _
        rcases h with h | h
        · exact h.symm
        · cases h
      | cons r rs ih =>
        intro lo hlo hb h hp
        unfold leastJ
        have hr := hb r (by simp)
        split
        · rename_i hm
          have hm' := (h3 r hr.1 hr.2).2 hm
          have hle := hL.le _ hm' rfl
          rcases h with h | h
          · have := hL.zero h _ hm'; cases this
          · rcases List.mem_cons.1 h with h | h
            · exact h.symm
            · have := (List.pairwise_cons.1 hp).1 _ h
              simp only at hle
              omega
        · rename_i hm
          refine ih lo hlo (fun x hx => hb x (by simp [hx])) ?_ (List.pairwise_cons.1 hp).2
          rcases h with h | h
          · exact .inl h
          · rcases List.mem_cons.1 h with h | h
            · by_cases h0 : (arun l).br = 0
              · exact .inl h0
              · have := (hL.pos h0).1
                rw [h] at this
                exact absurd ((h3 r hr.1 hr.2).1 this) hm
            · exact .inr h
    refine (key [1, 2, 3, 4, 5, 6] 1 (by omega) (by decide) ?_ (by decide)).symm
    by_cases h0 : (arun l).br = 0
    · exact .inl h0
    · right
      have := mcks_rule l (hL.pos h0).1
      unfold InR at this
      simp only at this
      have hr : (arun l).br = 1 ∨ (arun l).br = 2 ∨ (arun l).br = 3 ∨ (arun l).br = 4 ∨ (arun l).br = 5 ∨ (arun l).br = 6 := by omega
      simp only [List.mem_cons, List.not_mem_nil, or_false]
      exact hr
end Go.Proofs.Ythijlgjfgliinaa
end
