/- Part 16 of the proof of what MonJudges says. -/
import Derived.Test.YthijlgjfgliinaaJg15
section
/- A message is delivered: what becomes of the monitor. -/
set_option linter.all false
namespace Go.Proofs.Ythijlgjfgliinaa
open Go.RowKit
open Go.W
variable [Env]
set_option maxRecDepth 100000
theorem gives_to {N N' : Units} {v : Value} {e : Ending} {M : Units} (h : Gives N v e M) (hi : Incl N N') : Gives N' v e M := ⟨h.1, h.2.trans hi⟩
/-- One stay anew. -/
theorem GMon.ok.setStay {F : Blocks} {k : Nat} {G : GMon} (hG : G.ok F k) {i : Nat} {s s' : GStay} (hi : G.stays[i]? = some s) (hb : s'.blk = s.blk) (hok : s'.ok F) (hf : s'.m0.length + s'.m1.length ≤ k + 1) (hc : ∀ p, 0 ≤ (s'.count.get p).getD 0 ∧ (s'.count.get p).getD 0 ≤ ((k + 1 : Nat) : Int)) (sn : GMap Had Bool) (b : Int) :
    ({ G with stays := G.stays.set i s', seen := sn, br := b } : GMon).ok F (k + 1) where
  row := by
    show RowOk G.stR 1 ((G.stays.set i s').map ptrCell)
    rw [ptr_set2 hi hb]; exact hG.row
  stays := by
    intro o ho
    rcases List.mem_or_eq_of_mem_set ho with h | h
    · exact hG.stays o h
    · subst h; exact hok
  len := by
    show (G.stays.set i s').length ≤ _
    rw [List.length_set]; exact Nat.le_succ_of_le hG.len
  few := by
    intro o ho
    rcases List.mem_or_eq_of_mem_set ho with h | h
    · exact Nat.le_succ_of_le (hG.few o h)
    · subst h; exact hf
  count := by
    intro o ho p
    rcases List.mem_or_eq_of_mem_set ho with h | h
    · have := hG.count o h p; omega
    · subst h; exact hc p
  sends := fun p => ⟨(hG.sends p).1, (hG.sends p).2.1, Nat.le_succ_of_le (hG.sends p).2.2⟩
  now := by
    intro p
    show G.nw.get p = (G.now p).bind fun j => ((G.stays.set i s')[j]?).map GStay.blk
    rw [hG.now]
    cases G.now p with
    | none => rfl
    | some j =>
      simp only [Option.bind_some]
      rw [List.getElem?_set]
      split
      · rename_i h; subst h
        have hl := (List.getElem?_eq_some_iff.1 hi).1
        rw [if_pos hl, hi]
        simp [hb]
      · rfl
  nowlt := by
    intro p j h
    show j < (G.stays.set i s').length
    rw [List.length_set]; exact hG.nowlt p j h
theorem GStay.count_put {s : GStay} {k : Nat} (h : ∀ p, 0 ≤ (s.count.get p).getD 0 ∧ (s.count.get p).getD 0 ≤ k) (a : Int) (p : Int) : 0 ≤ ((s.count.put a ((s.count.get a).getD 0 + 1)).get p).getD 0 ∧ ((s.count.put a ((s.count.get a).getD 0 + 1)).get p).getD 0 ≤ ((k + 1 : Nat) : Int) := by
  rw [GMap.get_put]
  split
  · have := h a; simp only [Option.getD_some]; omega
  · have := h p; omega
theorem count_upd (s : GStay) (a : Int) : (fun p => ((s.count.put a ((s.count.get a).getD 0 + 1)).get p).getD 0) = upd (fun p => (s.count.get p).getD 0) a ((s.count.get a).getD 0 + 1) := by
  funext p
  rw [GMap.get_put]
  unfold upd
  split <;> rfl
theorem seen_upd (g : GMap Had Bool) (h : Had) : (fun c => ((g.put h true).get c).getD false) = upd (fun c => (g.get c).getD false) h true := by
  funext p
  rw [GMap.get_put]
  unfold upd
  split <;> rfl
theorem deliver_case {F : Blocks} (G : GMon) (k : Nat) (hG : G.ok F k) (hk : k < 500) (e : Ev) (d : List Int) (hd : GM.ok F ⟨e.m, d⟩) {R : Units} :
    Does Try.prog 18 #[.pointer (some ⟨G.m, 0, none⟩), evV e] (G.L F R) (StepTo F (k + 1) R G (G.abs.deliver (e.abs d))) := by
  have hnw := hG.cur e.proc
  have hS : ∀ b, (G.cur e.proc).map (·.2) = some b → b ∈ G.stays := fun b hb => by
    obtain ⟨⟨i, s⟩, h1, h2⟩ := Option.map_eq_some_iff.1 hb
    simp only at h2; subst h2
    exact List.mem_of_getElem? (cur_mem h1).1
  obtain ⟨r, ms, hg⟩ : ∃ r ms, (G.sends.get e.place).getD (Row.nil, []) = (r, ms) := ⟨_, _, rfl⟩
  obtain ⟨hr, hms, hml⟩ := SR_get hg hG
  have hgs : G.abs.sends (e.abs d).place = ms.map GM.mg := by
    show ((G.sends.get e.place).getD (Row.nil, [])).2.map GM.mg = _
    rw [hg]
  rcases hso : stayOk ((G.lv.get e.proc).getD false) ((G.cur e.proc).map (·.2)) e with _ | s
  · intro x
    refine (deliver_dead (F := F) e d hd G.sends r ms _ (Lib.hid rfl) (by omega) hg hr hms G.seen _ rfl G.lv G.nw G.stays _ _ rfl hnw hS hso (x.to (M := DelL G.m G.sb G.eb G.mb G.lb G.nb (G.stR.val G.stays.length) G.br G.ln G.at_ G.ru G.sends G.seen G.lv G.nw G.stays F ([(G.mb, G.mem.obj confKey setV)] :: G.stR.u 57 :: R)))).mono ?_
    rintro en w ⟨rfl, y, rfl⟩
    have hA : G.abs.stay (e.abs d) = none := by
      rw [GMon.abs_stay]
      rcases hc : G.cur e.proc with _ | ⟨i, s⟩
      · rfl
      · rw [hc] at hso
        simp only [Option.map_some, stayOk] at hso
        split at hso
        · cases hso
        · rename_i h; simp only; rw [if_neg h]
    refine ⟨_, ⟨y, rfl⟩, { G with seen := G.seen.put e.had true, br := brk (del1 G.br (GM.mg ⟨e.m, d⟩) (ms.map GM.mg) ((G.seen.get e.had).getD false)) 1 true }, ?_, rfl, ?_, Gives.mk rfl Incl.of⟩
    · have := hG.mono (List.Subset.refl F) (Nat.le_succ k)
      exact ⟨this.row, this.stays, this.len, this.few, this.count, this.sends, this.now, this.nowlt⟩
    · unfold AMon.deliver
      rw [hA, hgs]
      simp only [GMon.abs, seen_upd]
      rfl
  · obtain ⟨hs1, hlv, hse, hsr⟩ := stayOk_some hso
    obtain ⟨⟨i, s'⟩, hc, h2⟩ := Option.map_eq_some_iff.1 hs1
    simp only at h2; subst h2
    obtain ⟨hsi, hnow⟩ := cur_mem hc
    have hsm := List.mem_of_getElem? hsi
    have hks := hG.stays s' hsm
    rw [hlv, hc] at hso
    rw [hc] at hnw
    have hA : G.abs.stay (e.abs d) = some (i, s'.abs) := by
      rw [GMon.abs_stay, hc]
      simp only
      rw [if_pos]
      rw [hlv, hse, hsr]
      simp [confEq]
    obtain ⟨ra, rc, hrv, hrs⟩ := r.val_slice hr 34
    rw [List.length_map] at hrv hrs
    obtain ⟨sa, sc, hsv, hsl⟩ := G.stR.val_slice hG.row 57
    rw [List.length_map] at hsv hsl
    obtain ⟨a0, c0', hv0, hs0⟩ := s'.r0.val_slice hks.k0 34
    rw [List.length_map] at hv0 hs0
    obtain ⟨a1, c1', hv1, hs1⟩ := s'.r1.val_slice hks.k1 34
    rw [List.length_map] at hv1 hs1
    obtain ⟨X, hX1, hX2⟩ := SU_focus hsi
    have hrU : SlIn (SR G.sends) ra ms.length 6 (ms.map GM.cells) := hrs.mono fun p hp => by
      obtain ⟨X, hX1, _⟩ := SR_focus hg
      exact hX1.mem_iff.2 (by simp [hp])
    have h1 : ∀ {L : Units} [Has L G.sb (sendsO G.sends)] (x : St L), (Instr.lookup 45 (.map (some G.sb)) (.agg #[.int .u64 e.epoch, .int .i64 e.rep, .int .i64 e.m.frm, .int .u32 e.m.seq]) false).run Try.prog x.w = .ok (.slice ra ms.length rc) x.w :=
      fun x => by rw [← hrv]; exact look_sends G.sb G.sends e.place (r, ms) hg x
    have hfew := hG.few s' hsm
    have hcnt := hG.count s' hsm
    have hlen := hG.len
    have hpre : ∀ so, s'.obj = so → Incl (G.L F R) (DelG G.m G.sb G.eb G.mb G.lb G.nb (.slice sa G.stays.length sc) G.br G.ln G.at_ G.ru G.sends G.seen G.lv G.nw so s' X F (G.stR.u 57 :: [(G.mb, G.mem.obj confKey setV)] :: R)) := by
      intro so hso
      subst hso
      have e1 : Incl (G.L F R) ([(G.m, monO G.sb G.eb G.mb (G.stR.val G.stays.length) G.lb G.nb G.br G.ln G.at_ G.ru)] :: [(G.sb, sendsO G.sends)] :: [(G.eb, seenO G.seen)] :: [(G.lb, G.lv.obj ikey bval)] :: [(G.nb, G.nw.obj ikey pval)] :: SR G.sends :: SU G.stays :: F :: G.stR.u 57 :: [(G.mb, G.mem.obj confKey setV)] :: R) := Incl.of
      refine e1.trans ?_
      rw [hsv]
      exact Incl.eqv (Eqv.cons _ (Eqv.cons _ (Eqv.cons _ (Eqv.cons _ (Eqv.cons _ (Eqv.cons _ (((Eqv.head hX1 _).trans (Eqv.split _ _ _)).trans (s'.u_split _))))))))
    have hpost : ∀ (s2 : GStay) (b : Int), Incl (DelL G.m G.sb G.eb G.mb G.lb G.nb (.slice sa G.stays.length sc) b G.ln G.at_ G.ru G.sends (G.seen.put e.had true) G.lv G.nw (G.stays.set i s2) F (G.stR.u 57 :: [(G.mb, G.mem.obj confKey setV)] :: R))
        (({ G with stays := G.stays.set i s2, seen := G.seen.put e.had true, br := b } : GMon).L F R) := by
      intro s2 b
      show Incl _ ([(G.m, monO G.sb G.eb G.mb (G.stR.val (G.stays.set i s2).length) G.lb G.nb b G.ln G.at_ G.ru)] :: [(G.sb, sendsO G.sends)] :: [(G.eb, seenO (G.seen.put e.had true))] :: [(G.mb, G.mem.obj confKey setV)] :: [(G.lb, G.lv.obj ikey bval)] :: [(G.nb, G.nw.obj ikey pval)] :: SR G.sends :: SU (G.stays.set i s2) :: F :: G.stR.u 57 :: R)
      rw [List.length_set, hsv]
      exact Incl.of
    rcases htr : s'.tr with _ | ⟨xt, te⟩
    · have hobj : s'.obj = stayO s'.proc s'.epoch s'.rep s'.members (.slice a0 s'.m0.length c0') (.slice a1 s'.m1.length c1') s'.cb none s'.went := by
        unfold GStay.obj; rw [htr, hv0, hv1]; rfl
      refine Does.incl (hpre _ rfl) (Does.mono (deliver_go0 (F := F) (X := X) e d hd G.sends ra rc ms _ rfl (by omega) h1 hrU hms G.seen _ rfl G.lv G.nw sa sc s' _ _ rfl hlv hnw hso a0 a1 _ _ c0' c1' _ rfl (by omega) hs0 hs1 hobj htr rfl rfl hv0 hv1 hks G.stays i hsi hX2 hG.stays rfl (by omega) G.stR hsl _ rfl (by have := hcnt e.m.frm; omega) _ _ rfl) ?_)
      rintro en M ⟨r', hr', hgv⟩
      refine ⟨_, hG.setStay (s' := s'.take0 ⟨e.m, d⟩ r' (s'.count.put e.m.frm ((s'.count.get e.m.frm).getD 0 + 1))) hsi rfl (take0_ok hks hd hr' (by omega)) ?_ ?_ _ _, rfl, ?_, gives_to hgv (hpost _ _)⟩
      · show (s'.m0 ++ [(⟨e.m, d⟩ : GM)]).length + s'.m1.length ≤ _
        simp; omega
      · exact fun p => GStay.count_put hcnt e.m.frm p
      · have hta : (s'.take0 ⟨e.m, d⟩ r' (s'.count.put e.m.frm ((s'.count.get e.m.frm).getD 0 + 1))).abs = s'.abs.take (e.abs d).m := by
          unfold AStay.take
          have : s'.abs.tr = none := by unfold GStay.abs; rw [htr]; rfl
          rw [this]
          unfold GStay.take0 GStay.abs
          simp only [count_upd, List.map_append, List.map_cons, List.map_nil, htr]
          rfl
        have hn : s'.abs.next = (0, 0) := by unfold AStay.next GStay.abs; rw [htr]; rfl
        have ht : s'.abs.told = s'.members := by unfold AStay.told GStay.abs; rw [htr]; rfl
        have hall : s'.abs.all = (s'.m0 ++ s'.m1).map GM.mg := by simp [AStay.all, GStay.abs]
        unfold AMon.deliver
        rw [hA, hgs]
        simp only [hn, ht, hall, ← hta]
        simp only [GMon.abs, seen_upd, List.map_set]
        rfl
    · have hobj : s'.obj = stayO s'.proc s'.epoch s'.rep s'.members (.slice a0 s'.m0.length c0') (.slice a1 s'.m1.length c1') s'.cb (some xt) s'.went := by
        unfold GStay.obj; rw [htr, hv0, hv1]; rfl
      refine Does.incl (hpre _ rfl) (Does.mono (deliver_go1 (F := F) (X := X) e d hd xt te G.sends ra rc ms _ rfl (by omega) h1 hrU hms G.seen _ rfl G.lv G.nw sa sc s' _ _ rfl hlv hnw hso a0 a1 _ _ c0' c1' _ rfl (by omega) hs0 hs1 hobj htr rfl rfl hv0 hv1 hks G.stays i hsi hX2 hG.stays rfl (by omega) G.stR hsl _ rfl (by have := hcnt e.m.frm; omega) _ _ rfl) ?_)
      rintro en M ⟨r', hr', hgv⟩
      refine ⟨_, hG.setStay (s' := s'.take1 ⟨e.m, d⟩ r' (s'.count.put e.m.frm ((s'.count.get e.m.frm).getD 0 + 1))) hsi rfl (take1_ok hks hd hr' (by omega)) ?_ ?_ _ _, rfl, ?_, gives_to hgv (hpost _ _)⟩
      · show s'.m0.length + (s'.m1 ++ [(⟨e.m, d⟩ : GM)]).length ≤ _
        simp; omega
      · exact fun p => GStay.count_put hcnt e.m.frm p
      · have hta : (s'.take1 ⟨e.m, d⟩ r' (s'.count.put e.m.frm ((s'.count.get e.m.frm).getD 0 + 1))).abs = s'.abs.take (e.abs d).m := by
          unfold AStay.take
          have : s'.abs.tr = some ⟨te.nepoch, te.nrep, te.members⟩ := by unfold GStay.abs; rw [htr]; rfl
          rw [this]
          unfold GStay.take1 GStay.abs
          simp only [count_upd, List.map_append, List.map_cons, List.map_nil, htr]
          rfl
        have hn : s'.abs.next = (te.nepoch, te.nrep) := by unfold AStay.next GStay.abs; rw [htr]; rfl
        have ht : s'.abs.told = te.members := by unfold AStay.told GStay.abs; rw [htr]; rfl
        have hall : s'.abs.all = (s'.m0 ++ s'.m1).map GM.mg := by simp [AStay.all, GStay.abs]
        unfold AMon.deliver
        rw [hA, hgs]
        simp only [hn, ht, hall, ← hta]
        simp only [GMon.abs, seen_upd, List.map_set]
        rfl
end Go.Proofs.Ythijlgjfgliinaa
end
