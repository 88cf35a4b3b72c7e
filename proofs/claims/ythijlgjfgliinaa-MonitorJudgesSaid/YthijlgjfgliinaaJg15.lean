/- Part 15 of the proof of what MonJudges says. -/
import Derived.Test.YthijlgjfgliinaaJg14
section
/- A configuration begins, a message is sent: what becomes of the monitor. -/
set_option linter.all false
namespace Go.Proofs.Ythijlgjfgliinaa
open Go.RowKit
variable [Env]
set_option maxRecDepth 100000
theorem fresh_ok (F : Blocks) (sbk cb : Nat) (e : Ev) : (GStay.fresh sbk cb e).ok F where
  k0 := RowOk.mkNil 6
  k1 := RowOk.mkNil 6
  few := by simp [GStay.fresh]
  msgs := by intro g hg; simp [GStay.fresh] at hg
  tr := by intro t e' h; simp [GStay.fresh] at h
theorem get_upd {κ β : Type} [DecidableEq κ] (g : GMap κ β) (k : κ) (b : β) : (fun c => (g.put k b).get c) = upd (fun c => g.get c) k (some b) := by
  funext c
  rw [GMap.get_put]
  rfl
theorem fresh_abs (sbk cb : Nat) (e : Ev) (d : List Int) : (GStay.fresh sbk cb e).abs = AStay.fresh (e.abs d) := rfl
/-- The post of a step of the monitor. -/
def StepTo (F : Blocks) (k : Nat) (R : Units) (G : GMon) (A : AMon) (en : Ending) (M : Units) : Prop := ∃ G' : GMon, G'.ok F k ∧ G'.m = G.m ∧ G'.abs = A ∧ Gives (G'.L F R) (.tuple #[]) en M
theorem reg_none {F : Blocks} (G : GMon) (k : Nat) (hG : G.ok F k) (hk : k < 500) (e : Ev) (d : List Int) (hc : G.cur e.proc = none) {R : Units} :
    Does Try.prog 16 #[.pointer (some ⟨G.m, 0, none⟩), evV e] (G.L F R) (StepTo F (k + 1) R G (G.abs.regular (e.abs d))) := by
  intro x
  have hnw : G.nw.get e.proc = none := by rw [hG.cur, hc]; rfl
  refine (regular_none (F := F) e G.stR G.stays G.mem G.lv G.nw _ rfl _ rfl hnw hG.row _ (Lib.hid rfl) (by have := hG.len; omega) (x.to (M := RegL F G.m G.sb G.eb G.mb G.lb G.nb G.br G.ln G.at_ G.ru G.stR (G.stR.val G.stays.length) G.stays G.mem G.lv G.nw ([(G.sb, sendsO G.sends)] :: [(G.eb, seenO G.seen)] :: SR G.sends :: R)))).mono ?_
  rintro en w ⟨rfl, stR', sbk, cb, hrow', y, rfl⟩
  have hl : G.stays.length + 1 = (G.stays ++ [GStay.fresh sbk cb e]).length := by simp
  revert y
  rw [hl]
  intro y
  refine ⟨_, ⟨y, rfl⟩, { G with stR := stR', stays := G.stays ++ [GStay.fresh sbk cb e], mem := G.mem.put (e.epoch, e.rep) e.members, nw := G.nw.put e.proc sbk, now := upd G.now e.proc (some G.stays.length), br := reg1 G.br e ((G.lv.get e.proc).getD false) (G.mem.get (e.epoch, e.rep)) G.stays }, ?_, rfl, ?_, Gives.mk rfl Incl.of⟩
  · refine ⟨hrow', ?_, ?_, ?_, ?_, ?_, ?_, ?_⟩
    · intro s hs
      rcases List.mem_append.1 hs with h | h
      · exact hG.stays s h
      · simp only [List.mem_singleton] at h; subst h; exact fresh_ok F sbk cb e
    · simp only [List.length_append, List.length_singleton]; have := hG.len; omega
    · intro s hs
      rcases List.mem_append.1 hs with h | h
      · have := hG.few s h; omega
      · simp only [List.mem_singleton] at h; subst h; simp [GStay.fresh]
    · intro s hs p
      rcases List.mem_append.1 hs with h | h
      · have := hG.count s h p; omega
      · simp only [List.mem_singleton] at h; subst h; simp [GStay.fresh, GMap.get_empty]; omega
    · intro p; have := hG.sends p; exact ⟨this.1, this.2.1, Nat.le_succ_of_le this.2.2⟩
    · intro p
      show (G.nw.put e.proc sbk).get p = (upd G.now e.proc (some G.stays.length) p).bind _
      rw [GMap.get_put]
      unfold upd
      by_cases hp : p = e.proc
      · rw [if_pos hp, if_pos hp]; simp [GStay.fresh]
      · rw [if_neg hp, if_neg hp, hG.now]
        cases hn : G.now p with
        | none => rfl
        | some i =>
          have := hG.nowlt p i hn
          simp only [Option.bind_some]
          rw [List.getElem?_append_left this]
    · intro p i h
      simp only [upd] at h
      simp only [List.length_append, List.length_singleton]
      split at h
      · simp only [Option.some.injEq] at h; omega
      · have := hG.nowlt p i h; omega
  · unfold AMon.regular
    rw [show (e.abs d).proc = e.proc from rfl, GMon.abs_cur, hc]
    simp only [GMon.abs, Option.map_none, List.map_append, List.map_cons, List.map_nil, fresh_abs sbk cb e d, get_upd, List.length_map, AMon.mk.injEq, true_and, and_true]
    unfold reg1
    rw [twice_abs]
    exact ⟨rfl, rfl⟩
theorem reg_some {F : Blocks} (G : GMon) (k : Nat) (hG : G.ok F k) (hk : k < 500) (e : Ev) (d : List Int) (i : Nat) (b : GStay) (hc : G.cur e.proc = some (i, b)) {R : Units} :
    Does Try.prog 16 #[.pointer (some ⟨G.m, 0, none⟩), evV e] (G.L F R) (StepTo F (k + 1) R G (G.abs.regular (e.abs d))) := by
  intro x
  have hnw : G.nw.get e.proc = some b.blk := by rw [hG.cur, hc]; rfl
  have hbi : G.stays[i]? = some b := by
    unfold GMon.cur at hc
    cases hn : G.now e.proc with
    | none => rw [hn] at hc; cases hc
    | some j =>
      rw [hn] at hc
      simp only [Option.bind_some] at hc
      cases hs : G.stays[j]? with
      | none => rw [hs] at hc; cases hc
      | some s => rw [hs] at hc; simp only [Option.map_some, Option.some.injEq, Prod.mk.injEq] at hc; rw [← hc.1, ← hc.2, hs]
  have hbm : b ∈ G.stays := List.mem_of_getElem? hbi
  refine (regular_some (F := F) e G.stR G.stays G.mem G.lv G.nw _ rfl _ rfl i b hbi hnw hG.stays hG.row _ (Lib.hid rfl) (by have := hG.len; omega) (x.to (M := RegL F G.m G.sb G.eb G.mb G.lb G.nb G.br G.ln G.at_ G.ru G.stR (G.stR.val G.stays.length) G.stays G.mem G.lv G.nw ([(G.sb, sendsO G.sends)] :: [(G.eb, seenO G.seen)] :: SR G.sends :: R)))).mono ?_
  rintro en w ⟨rfl, stR', sbk, cb, hrow', y, rfl⟩
  have hl : G.stays.length + 1 = (G.stays.set i b.gone ++ [GStay.fresh sbk cb e]).length := by simp
  revert y
  rw [hl]
  intro y
  have hmem : ∀ s ∈ G.stays.set i b.gone, s ∈ G.stays ∨ s = b.gone := fun s hs => List.mem_or_eq_of_mem_set hs
  have hgo : b.gone.ok F := by
    have := hG.stays b hbm
    exact ⟨this.k0, this.k1, this.few, this.msgs, this.tr⟩
  refine ⟨_, ⟨y, rfl⟩, { G with stR := stR', stays := G.stays.set i b.gone ++ [GStay.fresh sbk cb e], mem := G.mem.put (e.epoch, e.rep) e.members, nw := G.nw.put e.proc sbk, now := upd G.now e.proc (some G.stays.length), br := closeB b.gone.abs ((G.stays.set i b.gone).map GStay.abs) (reg2 G.br e ((G.lv.get e.proc).getD false) (G.mem.get (e.epoch, e.rep)) G.stays b) }, ?_, rfl, ?_, Gives.mk rfl Incl.of⟩
  · refine ⟨hrow', ?_, ?_, ?_, ?_, ?_, ?_, ?_⟩
    · intro s hs
      rcases List.mem_append.1 hs with h | h
      · rcases hmem s h with h | h
        · exact hG.stays s h
        · subst h; exact hgo
      · simp only [List.mem_singleton] at h; subst h; exact fresh_ok F sbk cb e
    · simp only [List.length_append, List.length_singleton, List.length_set]; have := hG.len; omega
    · intro s hs
      rcases List.mem_append.1 hs with h | h
      · rcases hmem s h with h | h
        · have := hG.few s h; omega
        · subst h; have := hG.few b hbm; show b.m0.length + b.m1.length ≤ _; omega
      · simp only [List.mem_singleton] at h; subst h; simp [GStay.fresh]
    · intro s hs p
      rcases List.mem_append.1 hs with h | h
      · rcases hmem s h with h | h
        · have := hG.count s h p; omega
        · subst h; have := hG.count b hbm p; show 0 ≤ (b.count.get p).getD 0 ∧ (b.count.get p).getD 0 ≤ _; omega
      · simp only [List.mem_singleton] at h; subst h; simp [GStay.fresh, GMap.get_empty]; omega
    · intro p; have := hG.sends p; exact ⟨this.1, this.2.1, Nat.le_succ_of_le this.2.2⟩
    · intro p
      show (G.nw.put e.proc sbk).get p = (upd G.now e.proc (some G.stays.length) p).bind _
      rw [GMap.get_put]
      unfold upd
      by_cases hp : p = e.proc
      · rw [if_pos hp, if_pos hp]
        simp only [Option.bind_some]
        rw [List.getElem?_append_right (by simp)]
        simp [GStay.fresh]
      · rw [if_neg hp, if_neg hp, hG.now]
        cases hn : G.now p with
        | none => rfl
        | some j =>
          have := hG.nowlt p j hn
          simp only [Option.bind_some]
          rw [List.getElem?_append_left (by simpa using this), List.getElem?_set]
          split
          · rename_i hij; subst hij
            have h3 := (List.getElem?_eq_some_iff.1 hbi).2
            simp [hbi, GStay.gone, this, h3]
          · rfl
    · intro p j h
      simp only [upd] at h
      simp only [List.length_append, List.length_singleton, List.length_set]
      split at h
      · simp only [Option.some.injEq] at h; omega
      · have := hG.nowlt p j h; omega
  · unfold AMon.regular
    rw [show (e.abs d).proc = e.proc from rfl, GMon.abs_cur, hc]
    have hga : b.gone.abs = { b.abs with went := true } := rfl
    simp only [GMon.abs, Option.map_some, List.map_append, List.map_cons, List.map_nil, fresh_abs sbk cb e d, get_upd, List.length_map, List.map_set, hga, AMon.mk.injEq, true_and, and_true]
    unfold reg2 reg1
    rw [twice_abs, leave_abs b e d]
    exact ⟨rfl, rfl⟩
theorem SR_get {G : GMon} {p : Place} {r : Row} {ms : List GM} (h : (G.sends.get p).getD (Row.nil, []) = (r, ms)) {F : Blocks} {k : Nat} (hG : G.ok F k) : RowOk r 6 (ms.map GM.cells) ∧ (∀ q ∈ ms, q.ok F) ∧ ms.length ≤ k := by
  have := hG.sends p
  rw [h] at this
  exact this
theorem cur_mem {G : GMon} {p : Int} {i : Nat} {s : GStay} (h : G.cur p = some (i, s)) : G.stays[i]? = some s ∧ G.now p = some i := by
  unfold GMon.cur at h
  cases hn : G.now p with
  | none => rw [hn] at h; cases h
  | some j =>
    rw [hn] at h
    simp only [Option.bind_some] at h
    cases hs : G.stays[j]? with
    | none => rw [hs] at h; cases h
    | some s' => rw [hs] at h; simp only [Option.map_some, Option.some.injEq, Prod.mk.injEq] at h; rw [← h.1, ← h.2, hs]; exact ⟨rfl, rfl⟩
theorem stand_abs (G : GMon) (e : Ev) (d : List Int) (br : Int) : standB br (stayOk ((G.lv.get e.proc).getD false) ((G.cur e.proc).map (·.2)) e) = brk br 1 (match G.abs.stay (e.abs d) with | some (_, s) => s.tr.isSome | none => true) := by
  rw [GMon.abs_stay]
  rcases hc : G.cur e.proc with _ | ⟨i, s⟩
  · rfl
  · simp only [Option.map_some, stayOk]
    split
    · simp [standB, GStay.abs]
    · rfl
theorem send_case {F : Blocks} (G : GMon) (k : Nat) (hG : G.ok F k) (hk : k < 500) (e : Ev) (d : List Int) (hd : GM.ok F ⟨e.m, d⟩) {R : Units} :
    Does Try.prog 17 #[.pointer (some ⟨G.m, 0, none⟩), evV e] (G.L F R) (StepTo F (k + 1) R G (G.abs.send (e.abs d))) := by
  intro x
  have hnw := hG.cur e.proc
  have hs : ∀ b, (G.cur e.proc).map (·.2) = some b → b ∈ G.stays := fun b hb => by
    obtain ⟨⟨i, s⟩, h1, h2⟩ := Option.map_eq_some_iff.1 hb
    simp only at h2; subst h2
    exact List.mem_of_getElem? (cur_mem h1).1
  cases hpf : (e.proc == e.m.frm)
  · refine (send_other (F := F) e G.sends G.lv G.nw G.stays _ _ hpf rfl hnw hs (x.to (M := SendL G.m G.sb G.eb G.mb G.lb G.nb (G.stR.val G.stays.length) G.br G.ln G.at_ G.ru G.sends G.lv G.nw G.stays F ([(G.eb, seenO G.seen)] :: [(G.mb, G.mem.obj confKey setV)] :: G.stR.u 57 :: R)))).mono ?_
    rintro en w ⟨rfl, y, rfl⟩
    refine ⟨_, ⟨y, rfl⟩, { G with br := standB G.br (stayOk ((G.lv.get e.proc).getD false) ((G.cur e.proc).map (·.2)) e) }, ?_, rfl, ?_, Gives.mk rfl Incl.of⟩
    · have := hG.mono (List.Subset.refl F) (Nat.le_succ k)
      exact ⟨this.row, this.stays, this.len, this.few, this.count, this.sends, this.now, this.nowlt⟩
    · have hne : ¬ (e.abs d).proc = (e.abs d).m.frm := show ¬ e.proc = e.m.frm from by simpa using hpf
      unfold AMon.send
      rw [if_neg hne, stand_abs G e d]
      rfl
  · obtain ⟨r, ms, hg⟩ : ∃ r ms, (G.sends.get e.place).getD (Row.nil, []) = (r, ms) := ⟨_, _, rfl⟩
    obtain ⟨hr, hms, hml⟩ := SR_get hg hG
    refine (send_own (F := F) e d G.sends r ms _ (Lib.hid rfl) (by omega) hg hr G.lv G.nw G.stays _ _ hpf rfl hnw hs (x.to (M := SendL G.m G.sb G.eb G.mb G.lb G.nb (G.stR.val G.stays.length) G.br G.ln G.at_ G.ru G.sends G.lv G.nw G.stays F ([(G.eb, seenO G.seen)] :: [(G.mb, G.mem.obj confKey setV)] :: G.stR.u 57 :: R)))).mono ?_
    rintro en w ⟨rfl, r', hr', y, rfl⟩
    refine ⟨_, ⟨y, rfl⟩, { G with sends := G.sends.put e.place (r', ms ++ [⟨e.m, d⟩]), br := standB G.br (stayOk ((G.lv.get e.proc).getD false) ((G.cur e.proc).map (·.2)) e) }, ?_, rfl, ?_, Gives.mk rfl Incl.of⟩
    · have := hG.mono (List.Subset.refl F) (Nat.le_succ k)
      refine ⟨this.row, this.stays, this.len, this.few, this.count, fun p => ?_, this.now, this.nowlt⟩
      show RowOk (((G.sends.put e.place (r', ms ++ [⟨e.m, d⟩])).get p).getD (Row.nil, [])).1 6 ((((G.sends.put e.place (r', ms ++ [⟨e.m, d⟩])).get p).getD (Row.nil, [])).2.map GM.cells) ∧ (∀ q ∈ (((G.sends.put e.place (r', ms ++ [⟨e.m, d⟩])).get p).getD (Row.nil, [])).2, q.ok F) ∧ (((G.sends.put e.place (r', ms ++ [⟨e.m, d⟩])).get p).getD (Row.nil, [])).2.length ≤ k + 1
      rw [GMap.get_put]
      split
      · refine ⟨hr', ?_, by simp; omega⟩
        intro q hq
        simp only [Option.getD_some, List.mem_append, List.mem_singleton] at hq
        rcases hq with h | h
        · exact hms q h
        · subst h; exact hd
      · exact this.sends p
    · have hpe : (e.abs d).proc = (e.abs d).m.frm := show e.proc = e.m.frm from by simpa using hpf
      unfold AMon.send
      rw [if_pos hpe, stand_abs G e d]
      simp only [GMon.abs, AMon.mk.injEq, true_and, and_true]
      refine ⟨?_, rfl⟩
      funext p
      rw [GMap.get_put]
      unfold upd
      have hpl : (e.abs d).place = e.place := rfl
      rw [hpl]
      split
      · have := congrArg (fun v : SV => v.2.map GM.mg) hg
        simp only at this
        rw [this]
        simp [Ev.abs]
      · rfl
end Go.Proofs.Ythijlgjfgliinaa
end
