/- Part 38 of the proof of what MonJudges says. -/
import Derived.Test.YthijlgjfgliinaaJg37
import Derived.Test.YthijlgjfgliinaaJg18
section
/- The judge: through (26). -/
set_option linter.all false
namespace Go.Proofs.Ythijlgjfgliinaa
open Go.RowKit
open Go.W
variable [Env]
def absL (evs : List Ev) (ds : List (List Int)) : List AEv := List.zipWith Ev.abs evs ds
theorem absL_at {evs : List Ev} {ds : List (List Int)} {i : Nat} {e : Ev} {d : List Int} (he : evs[i]? = some e) (hd : ds[i]? = some d) : (absL evs ds)[i]? = some (e.abs d) := by
  unfold absL
  rw [List.getElem?_zipWith, he, hd]
/-- Each event's names. -/
def NamesIn (F : Blocks) (evs : List Ev) (ns : List (List Nm)) : Prop := ∀ (i : Nat) (e : Ev), evs[i]? = some e → ∃ l, ns[i]? = some l ∧ SlIn F e.na e.nn 2 (l.map Nm.cells) ∧ e.nn ≤ 140737488355328
theorem del_jnow {L M : Units} (r : Nat) (g : GMap Int Nat) (a : Int) {ty : TypeId} [h : Has L r (g.obj ikey pval)] [Lay L r ((g.del a).obj ikey pval) M] (x : St L) : (Builtin.delete_ #[95, 3] ty #[.map (some r), .int .i64 a]).run Try.prog x.w = .ok (.tuple #[]) (x.lay r ((g.del a).obj ikey pval)).w :=
  run_delete_g (P := Try.prog) KL3 (T := 95) (ts := #[95, 3]) Try.underlying95 g (St.heap (h := h) x) a rfl
/-! ### Steps -/
section
variable {F : Blocks} {evs : List Ev} {ns : List (List Nm)} {k : Nat} {A : AMon} {J : JTr}
theorem add_power {A : AMon} {e : Ev} {d : List Int} (hk : e.kind = 5 ∨ e.kind = 6) : (A.add (e.abs d)).stays = A.stays ∧ (A.add (e.abs d)).live = upd A.live e.proc (e.kind == 5) ∧ (A.add (e.abs d)).now = upd A.now e.proc none := by
  obtain ⟨h1, h2, h3, _⟩ := AMon.add_f A (e.abs d)
  have ha : A.act (e.abs d) = { A with live := upd A.live e.proc (e.kind == 5), now := upd A.now e.proc none } := by
    unfold AMon.act; rw [if_pos (show (e.abs d).kind = 5 ∨ (e.abs d).kind = 6 from hk)]; rfl
  rw [ha] at h1 h2 h3
  exact ⟨h1, h2, h3⟩
theorem add_live {A : AMon} {e : AEv} (hk : ¬ (e.kind = 5 ∨ e.kind = 6)) : (A.add e).live = A.live := by
  rw [(AMon.add_f A e).2.1]
  unfold AMon.act
  rw [if_neg hk]
  repeat' split
  all_goals first
    | rfl
    | (unfold AMon.deliver; simp only; split <;> rfl)
    | (unfold AMon.trans; split <;> rfl)
theorem JTr.ok.inner {e : Ev} {d : List Int} (h : J.ok F evs k A) (hS : SInv A) (he : evs[k]? = some e) (hd : GM.ok F ⟨e.m, d⟩) (hk : e.kind = 1 ∨ e.kind = 2 ∨ e.kind = 4) {st' : List JSt} (hst : InnerTo k e d (J.cur A e.proc) (A.live e.proc) J.stays st') (g : GMap Int Bool) :
    ({ J with stays := st', bad := g } : JTr).ok F evs (k + 1) (A.add (e.abs d)) ∧ innerCk evs (J.cur A e.proc) (A.live e.proc) e = A.jchecks (e.abs d) := by
  have h5 : ¬ ((e.abs d).kind = 5 ∨ (e.abs d).kind = 6) := by show ¬ (e.kind = 5 ∨ e.kind = 6); omega
  have h3 : ¬ (e.abs d).kind = 3 := by show ¬ e.kind = 3; omega
  have hl := add_live (A := A) h5
  have hkl : k < evs.length := (List.getElem?_eq_some_iff.1 he).1
  rcases JTr.stay_eq h e d with ⟨h1, h2⟩ | ⟨j, s, a, h1, h2, hj, ha, hr⟩
  · unfold InnerTo at hst
    unfold innerCk AMon.jchecks
    rw [h1] at hst ⊢
    simp only at hst
    subst hst
    have hstep := AMon.add_step A (e.abs d)
    refine ⟨?_, ?_⟩
    · rcases hstep with ⟨_, hs, hn, _, _⟩ | ⟨i, s, _, hst, _⟩ | ⟨i, s, _, hst, _⟩ | ⟨hk3, _⟩ | ⟨i, b, hk3, _⟩
      · have hn' : (A.add (e.abs d)).now = A.now := by
          rw [(AMon.add_f A (e.abs d)).2.2.1]
          unfold AMon.act
          rw [if_neg h5, if_neg h3]
          repeat' split
          all_goals first
            | rfl
            | (unfold AMon.deliver; simp only; split <;> rfl)
            | (unfold AMon.trans; split <;> rfl)
        exact h.keep hs hl hn' g J.nm
      · rw [h2] at hst; cases hst
      · rw [h2] at hst; cases hst
      · exact absurd hk3 h3
      · exact absurd hk3 h3
    · rw [if_neg h5, if_neg h3, h2]
      rcases hk with hk | hk | hk
      · rw [if_pos (show (e.abs d).kind = 1 from hk)]
      · rw [if_neg (show ¬ (e.abs d).kind = 1 by show ¬ e.kind = 1; omega), if_pos (show (e.abs d).kind = 2 from hk)]
      · rw [if_neg (show ¬ (e.abs d).kind = 1 by show ¬ e.kind = 1; omega), if_neg (show ¬ (e.abs d).kind = 2 by show ¬ e.kind = 2; omega), if_pos (show (e.abs d).kind = 4 from hk)]
  · have hsok := h.sok s (List.mem_of_getElem? hj)
    have hp1 := hS.p1 a (List.mem_of_getElem? ha)
    obtain ⟨g1, _⟩ := AMon.stay_some h2
    have htrn : a.tr.isSome = s.tr.isSome := by
      rw [hr.tr]
      cases hq : s.tr with
      | none => rfl
      | some q =>
        have := hsok.tr q hq
        simp [List.getElem?_eq_getElem this]
    have hnext : s.tr = s.tr ∧ a.next = nextOf evs s.tr := by
      refine ⟨rfl, ?_⟩
      unfold AStay.next nextOf
      rw [hr.tr]
      cases s.tr.bind fun q => evs[q]? <;> rfl
    unfold InnerTo at hst
    unfold innerCk AMon.jchecks
    rw [h1] at hst ⊢
    simp only at hst
    have hstep := AMon.add_step A (e.abs d)
    rcases hk with hk | hk | hk
    · rw [if_neg (by omega), if_neg (by omega)] at hst
      subst hst
      refine ⟨?_, ?_⟩
      · rcases hstep with ⟨_, hs, hn, _, _⟩ | ⟨i, s, hk', _⟩ | ⟨i, s, hk', _⟩ | ⟨hk3, _⟩ | ⟨i, b, hk3, _⟩
        · have hn' : (A.add (e.abs d)).now = A.now := by
            rw [(AMon.add_f A (e.abs d)).2.2.1]
            unfold AMon.act
            rw [if_neg h5, if_neg h3, if_pos (show (e.abs d).kind = 1 from hk)]
            rfl
          exact h.keep hs hl hn' g J.nm
        · exact absurd (show e.kind = 2 from hk') (by omega)
        · exact absurd (show e.kind = 4 from hk') (by omega)
        · exact absurd hk3 h3
        · exact absurd hk3 h3
      · rw [if_neg h5, if_neg h3, h2, if_pos (show (e.abs d).kind = 1 from hk)]
        simp only [hk, htrn]
        rfl
    · rw [if_pos hk] at hst
      obtain ⟨r', hr', rfl⟩ := hst
      refine ⟨?_, ?_⟩
      · rcases hstep with ⟨_, _, _, _, hno⟩ | ⟨i', s', hk', hst', hs, hn, _⟩ | ⟨i, s, hk', _⟩ | ⟨hk3, _⟩ | ⟨i, b, hk3, _⟩
        · rw [hno (.inl hk)] at h2; cases h2
        · rw [h2] at hst'
          cases hst'
          have hbnd : s.gots.length + 1 ≤ k + 1 := by have := hsok.gl; omega
          refine h.set (s' := { s with gr := r', gots := s.gots ++ [⟨k, ⟨e.m, d⟩, s.tr.isSome⟩] }) hj ha rfl rfl ?_ ?_ hs hl hn g J.nm
          · refine ⟨hr', by simpa using hbnd, ?_, ?_, hsok.ur, Nat.le_trans hsok.ul (by omega), hsok.um, hsok.tr, hsok.nx, hsok.vw, hsok.rd⟩
            · intro x hx
              rcases List.mem_append.1 hx with hx | hx
              · exact hsok.gm x hx
              · rw [List.mem_singleton.1 hx]; exact hd
            · intro x hx hxt
              rcases List.mem_append.1 hx with hx | hx
              · exact hsok.gt x hx hxt
              · rw [List.mem_singleton.1 hx] at hxt
                intro hn
                simp only at hn
                rw [hn] at hxt; cases hxt
          · obtain ⟨t1, t2, t3, t4, t5, t6, _⟩ := a.take_f (e.abs d).m
            refine ⟨t1.trans hr.proc, t2.trans hr.epoch, t3.trans hr.rep, t4.trans hr.members, ?_, t5.trans hr.tr, t6.trans hr.went⟩
            simp only [List.map_append, List.map_cons, List.map_nil, hr.gots]
            unfold AStay.take
            cases hat : a.tr with
            | none =>
              have : s.tr.isSome = false := by rw [← htrn, hat]; rfl
              rw [this, hp1 hat]
              simp
              rfl
            | some t =>
              have : s.tr.isSome = true := by rw [← htrn, hat]; rfl
              rw [this]
              simp
              rfl
        · exact absurd (show e.kind = 4 from hk') (by omega)
        · exact absurd hk3 h3
        · exact absurd hk3 h3
      · rw [if_neg h5, if_neg h3, h2, if_neg (show ¬ (e.abs d).kind = 1 by show ¬ e.kind = 1; omega), if_pos (show (e.abs d).kind = 2 from hk)]
        simp only [if_pos hk, hnext.2]
        rfl
    · rw [if_neg (by omega), if_pos hk] at hst
      subst hst
      refine ⟨?_, ?_⟩
      · rcases hstep with ⟨_, _, _, _, hno⟩ | ⟨i, s, hk', _⟩ | ⟨i', s', hk', hst', hs, hn, _⟩ | ⟨hk3, _⟩ | ⟨i, b, hk3, _⟩
        · rw [hno (.inr hk)] at h2; cases h2
        · exact absurd (show e.kind = 2 from hk') (by omega)
        · rw [h2] at hst'
          cases hst'
          refine h.set (s' := { s with tr := some k }) hj ha rfl rfl ?_ ?_ hs hl hn g J.nm
          · have := hsok.mono (Nat.le_succ k)
            exact ⟨this.gr, this.gl, this.gm, fun _ _ _ => by simp, this.ur, this.ul, this.um, fun q hq => by cases hq; exact hkl, this.nx, this.vw, this.rd⟩
          · exact ⟨hr.proc, hr.epoch, hr.rep, hr.members, hr.gots, by simp [he]; exact ⟨rfl, rfl, rfl⟩, hr.went⟩
        · exact absurd hk3 h3
        · exact absurd hk3 h3
      · rw [if_neg h5, if_neg h3, h2, if_neg (show ¬ (e.abs d).kind = 1 by show ¬ e.kind = 1; omega), if_neg (show ¬ (e.abs d).kind = 2 by show ¬ e.kind = 2; omega), if_pos (show (e.abs d).kind = 4 from hk)]
        simp only [if_neg (show ¬ e.kind = 2 by omega), htrn]
theorem JTr.ok.upper {e : Ev} {d : List Int} {l : List Nm} (h : J.ok F evs k A) (he : evs[k]? = some e) (hd : GM.ok F ⟨e.m, d⟩) (hk : e.kind < 1 ∨ 6 < e.kind) {st' : List JSt} {nm' : Int} (hst : UpperTo evs ns k e d l (J.cur A e.proc) J.stays J.nm st' nm') :
    ({ J with stays := st', nm := nm' } : JTr).ok F evs (k + 1) (A.add (e.abs d)) ∧ A.jchecks (e.abs d) = [] := by
  have h5 : ¬ ((e.abs d).kind = 5 ∨ (e.abs d).kind = 6) := by show ¬ (e.kind = 5 ∨ e.kind = 6); omega
  have h3 : ¬ (e.abs d).kind = 3 := by show ¬ e.kind = 3; omega
  have h1 : ¬ (e.abs d).kind = 1 := by show ¬ e.kind = 1; omega
  have h2 : ¬ (e.abs d).kind = 2 := by show ¬ e.kind = 2; omega
  have h4 : ¬ (e.abs d).kind = 4 := by show ¬ e.kind = 4; omega
  have hkl : k < evs.length := (List.getElem?_eq_some_iff.1 he).1
  have hact : A.act (e.abs d) = A := by unfold AMon.act; rw [if_neg h5, if_neg h3, if_neg h1, if_neg h2, if_neg h4]
  obtain ⟨f1, f2, f3, _⟩ := AMon.add_f A (e.abs d)
  rw [hact] at f1 f2 f3
  refine ⟨?_, (checks0 h5 h3 h1 h2 h4).2⟩
  have one : ∀ {j : Nat} {s s' : JSt}, J.stays[j]? = some s → s'.blk = s.blk ∧ s'.proc = s.proc ∧ s'.epoch = s.epoch ∧ s'.rep = s.rep ∧ s'.members = s.members ∧ s'.gr = s.gr ∧ s'.gots = s.gots ∧ s'.tr = s.tr ∧ s'.nx = s.nx ∧ s'.bf = s.bf → RowOk s'.ur 6 (s'.ups.map GM.cells) → s'.ups.length ≤ k + 1 → (∀ g ∈ s'.ups, g.ok F) → (∀ q, s'.vw = some q → q < evs.length) → (∀ q, s'.rd = some q → q < evs.length) → st' = J.stays.set j s' → ({ J with stays := st', nm := nm' } : JTr).ok F evs (k + 1) (A.add (e.abs d)) := by
    rintro j s s' hj ⟨c1, c2, c3, c4, c5, c6, c7, c8, c9, c10⟩ hur hul hum hvw hrd rfl
    have hlt := (List.getElem?_eq_some_iff.1 hj).1
    obtain ⟨a, ha⟩ : ∃ a, A.stays[j]? = some a := ⟨A.stays[j]'(by rw [← h.alen]; exact hlt), List.getElem?_eq_getElem _⟩
    have hr := h.rel j s a hj ha
    have hsok := (h.sok s (List.mem_of_getElem? hj)).mono (Nat.le_succ k)
    have haset : A.stays = A.stays.set j a := by
      refine List.ext_getElem? fun i => ?_
      rw [set_get ha]
      split
      · rename_i e; rw [← e, ha]
      · rfl
    refine h.set (s' := s') hj ha c1 c10 ?_ ?_ (f1.trans haset) f2 f3 J.bad nm'
    · exact ⟨by rw [c6, c7]; exact hsok.gr, by rw [c7]; exact hsok.gl, by rw [c7]; exact hsok.gm, by rw [c7, c8]; exact hsok.gt, hur, hul, hum, by rw [c8]; exact hsok.tr, by rw [c9]; exact hsok.nx, hvw, hrd⟩
    · exact ⟨by rw [c2]; exact hr.proc, by rw [c3]; exact hr.epoch, by rw [c4]; exact hr.rep, by rw [c5]; exact hr.members, by rw [c7]; exact hr.gots, by rw [c8]; exact hr.tr, by rw [c9]; exact hr.went⟩
  unfold UpperTo at hst
  split at hst
  · obtain ⟨rfl, hst⟩ := hst
    cases hc : J.cur A e.proc with
    | none =>
      rw [hc] at hst
      simp only at hst
      subst hst
      exact h.keep f1 f2 f3 J.bad J.nm
    | some p =>
      obtain ⟨j, s⟩ := p
      rw [hc] at hst
      simp only at hst
      obtain ⟨_, hj⟩ := JTr.cur_at hc
      have hsok := h.sok s (List.mem_of_getElem? hj)
      exact one (s' := s.view k) hj ⟨rfl, rfl, rfl, rfl, rfl, rfl, rfl, rfl, rfl, rfl⟩ hsok.ur (Nat.le_trans hsok.ul (by omega)) hsok.um (fun q hq => by cases hq; exact hkl) (fun q hq => by cases hq) hst
  · split at hst
    · cases hc : J.cur A e.proc with
      | none =>
        rw [hc] at hst
        obtain ⟨rfl, rfl⟩ := hst
        exact h.keep f1 f2 f3 J.bad _
      | some p =>
        obtain ⟨j, s⟩ := p
        rw [hc] at hst
        obtain ⟨j', b, s', hj', _, hm, hst⟩ := hst
        have hsok := h.sok b (List.mem_of_getElem? hj')
        obtain ⟨c1, c2, c3, c4, c5, c6, c7, c8, c9, c10, c11, c12⟩ := hm.core
        refine one (s' := s') hj' ⟨c1, c2, c3, c4, c5, c6, c7, c8, c9, c10⟩ hm.ur ?_ ?_ (by rw [c11]; exact hsok.vw) ?_ hst
        · rw [hm.ups]
          have := hsok.ul
          split
          · simp; omega
          · omega
        · rw [hm.ups]
          intro g hg
          split at hg
          · rcases List.mem_append.1 hg with hg | hg
            · exact hsok.um g hg
            · rw [List.mem_singleton.1 hg]; exact hd
          · exact hsok.um g hg
        · intro q hq
          rw [hm.rd] at hq
          split at hq
          · cases hq; exact hkl
          · exact hsok.rd q hq
    · obtain ⟨rfl, rfl⟩ := hst
      exact h.keep f1 f2 f3 J.bad J.nm
theorem JTr.ok.regular {e : Ev} {d : List Int} {sb : Nat} {r' : Row} (h : J.ok F evs k A) (hS : SInv A) (he : evs[k]? = some e) (hk : e.kind = 3) (hr' : RowOk r' 1 ((regStays J.stays (J.cur A e.proc) k e sb).map jptr)) (g : GMap Int Bool) :
    ({ J with stR := r', stays := regStays J.stays (J.cur A e.proc) k e sb, bad := g, nw := J.nw.put e.proc sb } : JTr).ok F evs (k + 1) (A.add (e.abs d)) ∧ GMap.bads J.bad (regCk evs J.stays (J.cur A e.proc) (A.live e.proc) e) = GMap.bads J.bad (A.jchecks (e.abs d)) := by
  have h5 : ¬ ((e.abs d).kind = 5 ∨ (e.abs d).kind = 6) := by show ¬ (e.kind = 5 ∨ e.kind = 6); omega
  have hkl : k < evs.length := (List.getElem?_eq_some_iff.1 he).1
  have hl := add_live (A := A) h5
  have hbind : ((A.now (e.abs d).proc).bind fun i => (A.stays[i]?).map fun b => (i, b)) = (J.cur A e.proc).bind fun p => (A.stays[p.1]?).map fun b => (p.1, b) := by
    show ((A.now e.proc).bind fun i => (A.stays[i]?).map fun b => (i, b)) = _
    unfold JTr.cur
    cases hn : A.now e.proc with
    | none => rfl
    | some i =>
      obtain ⟨y, hy, _⟩ := hS.now _ _ hn
      have hlt := (List.getElem?_eq_some_iff.1 hy).1
      have : J.stays[i]? = some (J.stays[i]'(by rw [h.alen]; exact hlt)) := List.getElem?_eq_getElem _
      simp only [Option.bind_some, this, Option.map_some, hy]
  constructor
  · have hstep := AMon.add_step A (e.abs d)
    have hsn : (A.add (e.abs d)).stays = (match J.cur A e.proc with | none => A.stays | some (j, _) => A.stays.modify j fun a => { a with went := true }) ++ [AStay.fresh (e.abs d)] ∧ (A.add (e.abs d)).now = upd A.now e.proc (some A.stays.length) := by
      rcases hstep with ⟨hk', _⟩ | ⟨i, s, hk', _⟩ | ⟨i, s, hk', _⟩ | ⟨_, hb, hs, hn, _⟩ | ⟨i, b, _, hb, h1, h2, hs, hn, _⟩
      · exact absurd (show (e.abs d).kind = 3 from hk) hk'
      · exact absurd (show e.kind = 2 from hk') (by omega)
      · exact absurd (show e.kind = 4 from hk') (by omega)
      · refine ⟨?_, hn⟩
        rw [hs]
        rw [hbind] at hb
        cases hc : J.cur A e.proc with
        | none => rfl
        | some p =>
          obtain ⟨j, s⟩ := p
          rw [hc] at hb
          obtain ⟨_, hj⟩ := JTr.cur_at hc
          have hlt := (List.getElem?_eq_some_iff.1 hj).1
          have : A.stays[j]? = some (A.stays[j]'(by rw [← h.alen]; exact hlt)) := List.getElem?_eq_getElem _
          simp [this] at hb
      · refine ⟨?_, hn⟩
        rw [hs]
        rw [hbind] at hb
        cases hc : J.cur A e.proc with
        | none => rw [hc] at hb; cases hb
        | some p =>
          obtain ⟨j, s⟩ := p
          rw [hc] at hb
          simp only [Option.bind_some] at hb
          obtain ⟨b', hb', heq⟩ := Option.map_eq_some_iff.1 hb
          cases heq
          simp only
          congr 1
          refine List.ext_getElem? fun q => ?_
          rw [set_get hb', List.getElem?_modify]
          split
          · rename_i e; subst e; rw [hb']; simp
          · cases A.stays[q]? <;> simp [*]
    exact h.push hS hr' hkl hsn.1 hl hsn.2 g
  · rw [(checks3 (show (e.abs d).kind = 3 from hk)).2, hbind]
    have htw : twCk e J.stays = A.stays.map (fun o => ((1 : Int), confEq o.epoch o.rep (e.abs d).epoch (e.abs d).rep && (o.members != (e.abs d).members || o.proc == (e.abs d).proc))) := by
      unfold twCk
      refine List.ext_getElem? fun i => ?_
      rw [List.getElem?_map, List.getElem?_map]
      cases hi : J.stays[i]? with
      | none =>
        have : A.stays[i]? = none := by
          rw [List.getElem?_eq_none_iff] at hi ⊢
          have := h.alen; omega
        rw [this]; rfl
      | some s =>
        have hlt := (List.getElem?_eq_some_iff.1 hi).1
        obtain ⟨a, ha⟩ : ∃ a, A.stays[i]? = some a := ⟨A.stays[i]'(by rw [← h.alen]; exact hlt), List.getElem?_eq_getElem _⟩
        have hr := h.rel i s a hi ha
        rw [ha]
        simp only [Option.map_some, twB, hr.epoch, hr.rep, hr.members, hr.proc]
        rfl
    unfold regCk
    rw [htw]
    congr 2
    congr 1
    cases hc : J.cur A e.proc with
    | none => rfl
    | some p =>
      obtain ⟨j, s⟩ := p
      obtain ⟨_, hj⟩ := JTr.cur_at hc
      have hlt := (List.getElem?_eq_some_iff.1 hj).1
      obtain ⟨a, ha⟩ : ∃ a, A.stays[j]? = some a := ⟨A.stays[j]'(by rw [← h.alen]; exact hlt), List.getElem?_eq_getElem _⟩
      have hr := h.rel j s a hj ha
      simp only [Option.bind_some, ha, Option.map_some]
      unfold goesCk
      rw [hr.epoch, hr.rep]
      have hlv : leaveJ evs s.tr e = aleave a.tr (e.abs d) := by
        unfold leaveJ aleave
        rw [hr.tr]
        cases s.tr.bind fun q => evs[q]? <;> rfl
      rw [hlv]
      rfl
end
end Go.Proofs.Ythijlgjfgliinaa
end
