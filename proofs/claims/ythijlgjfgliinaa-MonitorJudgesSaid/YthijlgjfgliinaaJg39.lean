/- Part 39 of the proof of what MonJudges says. -/
import Derived.Test.YthijlgjfgliinaaJg38
section
/- The judge: through (26), walked. -/
set_option linter.all false
namespace Go.Proofs.Ythijlgjfgliinaa
open Go.RowKit
open Go.W
variable [Env]
/-- What is noted while a trace is gone through. -/
def jthrBad (l : List AEv) : GMap Int Bool := GMap.bads (GMap.empty Int Bool) (jthr l)
def JTr.at_ (J : JTr) (t bb lb nb : Nat) : Prop := J.t = t ∧ J.bb = bb ∧ J.lb = lb ∧ J.nb = nb
attribute [local irreducible] opsC wpC quietC LoopC DrawC CutC LoadC StoreC ReadC UpdC RunC CallC QCallC EndC thenC inBlockC
set_option maxRecDepth 100000
set_option synthInstance.maxHeartbeats 400000
section
variable {F : Blocks} {evs : List Ev} {ds : List (List Int)} {ns : List (List Nm)} {T : Units}
def ThrPost (F : Blocks) (evs : List Ev) (ds : List (List Int)) (eb eo : Nat) (lval : Value) (T : Units) (en : Ending) (M : Units) : Prop :=
  ∃ J : JTr, (J.ok F evs evs.length (arun (absL evs ds)) ∧ J.bad = jthrBad (absL evs ds)) ∧ Gives (J.L eb eo lval F T) (.pointer (some ⟨J.t, 0, none⟩)) en M
theorem fresh_jok (F : Blocks) (evs : List Ev) (t bb lb nb : Nat) : (⟨t, bb, lb, nb, Row.nil, [], GMap.empty _ _, 0, GMap.empty _ _, GMap.empty _ _⟩ : JTr).ok F evs 0 (arun []) where
  row := RowOk.mkNil 1
  len := Nat.le_refl 0
  sok s h := by cases h
  alen := rfl
  rel i s a h := by simp at h
  lv p := by rw [GMap.get_empty]; rfl
  nw p := by rw [GMap.get_empty]; rfl
  bf j s b h := by simp at h
abbrev thrLive (lval : Value) (t lb nb n k : Nat) : List (Nat × Value) := [(0, lval), (3, .pointer (some ⟨t, 0, none⟩)), (4, .map (some lb)), (5, .map (some nb)), (15, .int .i64 n), (16, .int .i64 (k : Nat))]
abbrev ThrC (F : Blocks) (evs : List Ev) (ds : List (List Int)) (n t bb lb nb : Nat) (p : Nat × JTr) : Prop := p.1 ≤ n ∧ p.2.at_ t bb lb nb ∧ p.2.ok F evs p.1 (arun ((absL evs ds).take p.1)) ∧ p.2.bad = jthrBad ((absL evs ds).take p.1)
set_option maxHeartbeats 16000000 in
theorem through_some {b o c n : Nat} {arr : Array Value} {eT : TypeId} {fr : Nat × Nat} (hm : (b, Obj.cells arr eT fr) ∈ F) (hrow : Go.RowAt arr o 19 (evs.map Ev.cells)) (hnames : NamesIn F evs ns) (hn : evs.length = n) (hn5 : n ≤ 500)
    (hdeps : ∀ (i : Nat) (e : Ev), evs[i]? = some e → ∃ d, ds[i]? = some d ∧ GM.ok F ⟨e.m, d⟩) :
    Does Try.prog 26 #[.slice (some ⟨b, o, none⟩) n c] (F :: T) (ThrPost F evs ds b o (.slice (some ⟨b, o, none⟩) n c) T) := by
  have hE : EvIn F b o evs ns := ⟨⟨arr, eT, fr, hm, hrow⟩, hnames⟩
  haveI hEB : ∀ {L R : Units} [Unit_ L F R], Has L b (.cells arr eT fr) := fun {L R} h => ⟨h.ok.mem_iff.2 (by simp [hm])⟩
  refine does_of_wpC (args := [.slice (some ⟨b, o, none⟩) n c]) Try.func26 rfl (by kernel_rfl) ?_
  repeat (first | refine c_seq ?_ | refine c_reg ?_ | refine r_nil ?_ | refine e_n ?_ | refine CutC.go ?_ | refine r_val (by rfl) ?_)
  refine r_map ikey bval (fun bb => ?_)
  repeat (first | refine c_seq ?_ | refine c_reg ?_ | refine r_nil ?_ | refine e_n ?_ | refine CutC.go ?_ | refine r_val (by rfl) ?_ | refine r_box (by rfl) (by rfl) (fun _ => ?_) | refine r_build (by rfl) (by rfl) ?_)
  rename_i t
  refine r_map ikey bval (fun lb => ?_)
  repeat (first | refine c_seq ?_ | refine c_reg ?_ | refine r_nil ?_ | refine e_n ?_ | refine CutC.go ?_ | refine r_val (by rfl) ?_)
  refine r_map ikey pval (fun nb => ?_)
  repeat (first | refine c_seq ?_ | refine c_reg ?_ | refine r_nil ?_ | refine e_n ?_ | refine CutC.go ?_ | refine r_lenS (by rfl) (by rfl) ?_ | refine r_val (by rfl) ?_ | refine c_block ?_ | refine c_loop ?_)
  refine LoopC.inv (γ := Nat × JTr) (ThrC F evs ds n t bb lb nb) (fun p => thrLive (.slice (some ⟨b, o, none⟩) n c) t lb nb n p.1) (fun p => p.2.L b o (.slice (some ⟨b, o, none⟩) n c) F T) (fun p => n - p.1)
    (MeetC.mk (0, (⟨t, bb, lb, nb, Row.nil, [], GMap.empty _ _, 0, GMap.empty _ _, GMap.empty _ _⟩ : JTr)) ⟨by omega, ⟨rfl, rfl, rfl, rfl⟩, fresh_jok F evs t bb lb nb, rfl⟩ ⟨rfl, rfl, rfl, rfl, rfl, rfl, rfl⟩ ?_) ?_
  · refine Incl.trans (Incl.of (N := [(t, traceO (.slice (some ⟨b, o, none⟩) n c) (.slice none 0 0) bb 0)] :: [(nb, (GMap.empty Int Nat).obj ikey pval)] :: [(bb, (GMap.empty Int Bool).obj ikey bval)] :: F :: [(lb, (GMap.empty Int Bool).obj ikey bval)] :: T)) ?_
    exact Incl.eqv (Eqv.cons _ ((Eqv.nil _).symm.trans (Eqv.cons _ (Eqv.cons _ (Eqv.cons _ (Eqv.nil _).symm)))))
  · rintro ⟨k, J⟩ ⟨hk, hat, hJ, hbad⟩ f0
    obtain ⟨jt, jbb, jlb, jnb, stR, stays, bad, nm, lv, nw⟩ := J
    obtain ⟨h1, h2, h3, h4⟩ := hat
    simp only at h1 h2 h3 h4 hk hJ hbad ⊢
    subst h1 h2 h3 h4
    by_cases hlt : k < n
    · have hd1 : decide ((k : Int) < (n : Int)) = true := by simp; omega
      obtain ⟨e, he⟩ : ∃ e, evs[k]? = some e := ⟨evs[k]'(by omega), List.getElem?_eq_getElem _⟩
      obtain ⟨d, hdk, hd⟩ := hdeps k e he
      obtain ⟨l, hlk, _⟩ := hnames k e he
      have hec : (evs.map Ev.cells)[k]? = some e.cells := by simp [he]
      have htk : (absL evs ds).take (k + 1) = (absL evs ds).take k ++ [e.abs d] := by
        rw [List.take_add_one, absL_at he hdk]; rfl
      have hrun : arun ((absL evs ds).take (k + 1)) = (arun ((absL evs ds).take k)).add (e.abs d) := by rw [htk, arun_snoc]
      have hbadk : ∀ g, g = GMap.bads bad ((arun ((absL evs ds).take k)).jchecks (e.abs d)) → g = jthrBad ((absL evs ds).take (k + 1)) := by
        rintro g rfl
        rw [hbad]
        unfold jthrBad
        rw [htk, jthr_snoc, GMap.bads_app]
      have hS := sinv ((absL evs ds).take k)
      generalize hA : arun ((absL evs ds).take k) = A at *
      have hlive := hJ.lv e.proc
      have hnow := JTr.cur_nw hJ e.proc
      have hlen := hJ.len
      simp only at hlive hnow hlen
      generalize hcur : JTr.cur ⟨jt, jbb, jlb, jnb, stR, stays, bad, nm, lv, nw⟩ A e.proc = cur at *
      have hcat : ∀ j s, cur = some (j, s) → stays[j]? = some s := fun j s h => (JTr.cur_at (hcur.trans h)).2
      have meet : ∀ (J' : JTr), J'.at_ jt jbb jlb jnb → J'.ok F evs (k + 1) (A.add (e.abs d)) → J'.bad = GMap.bads bad (A.jchecks (e.abs d)) → ∀ {f : Fr} {M : Units}, Incl M (J'.L b o (.slice (some ⟨b, o, none⟩) n c) F T) → AllAt f (thrLive (.slice (some ⟨b, o, none⟩) n c) jt jlb jnb n (k + 1)) →
          MeetC (fun p : Nat × JTr => ThrC F evs ds n jt jbb jlb jnb p ∧ n - p.1 < n - k) (fun p => thrLive (.slice (some ⟨b, o, none⟩) n c) jt jlb jnb n p.1) (fun p => p.2.L b o (.slice (some ⟨b, o, none⟩) n c) F T) f M := by
        intro J' h1 h2 h3 f M hM ha
        exact MeetC.mk (k + 1, J') ⟨⟨by simp only; omega, h1, by rw [hrun]; exact h2, hbadk _ h3⟩, by simp only; omega⟩ ha hM
      clear hbadk
      by_cases k5 : e.kind = 5
      · have hb5 : (e.kind == 5) = true := by simp [k5]
        repeat (first | (refine r_index (b := b) (by rfl) (by rfl) (by rfl) hlt ?_) | (refine r_load (by rfl) ?_; refine LoadC.rowCell (b := b) (q := 0) hrow hec rfl (by rfl) ?_) | (refine r_load (by rfl) ?_; refine LoadC.rowCell (b := b) (q := 1) hrow hec rfl (by rfl) ?_) | (refine r_upd (by rfl) (by rfl) (by rfl) ?_; refine UpdC.of (fun x => ⟨_, upd_live jlb lv _ true x⟩) ?_) | (refine r_del (by rfl) (by rfl) ?_; refine RunC.of (fun x => ⟨_, del_jnow jnb nw _ x⟩) ?_) | refine c_seq ?_ | refine c_reg ?_ | refine r_nil ?_ | refine e_n ?_ | refine CutC.go ?_ | refine r_field (by rfl) (by rfl) ?_ | refine r_val (by rfl) ?_ | refine c_yes (by rfl) (by first | with_reducible assumption | decide) ?_ | refine c_skip ?_ | refine c_block ?_ | refine b_n ?_)
        obtain ⟨a1, a2, a3⟩ := add_power (A := A) (d := d) (Or.inl k5)
        rw [hb5] at a2
        exact meet _ ⟨rfl, rfl, rfl, rfl⟩ (hJ.power e.proc true a1 a2 a3) (by rw [(checks5 (A := A) (e := e.abs d) (Or.inl k5)).2]; rfl) Incl.of ⟨rfl, rfl, rfl, rfl, rfl, i64_succ (by omega), rfl⟩
      have hb5 : (e.kind == 5) = false := by simp [k5]
      by_cases k6 : e.kind = 6
      · have hb6 : (e.kind == 6) = true := by simp [k6]
        repeat (first | (refine r_index (b := b) (by rfl) (by rfl) (by rfl) hlt ?_) | (refine r_load (by rfl) ?_; refine LoadC.rowCell (b := b) (q := 0) hrow hec rfl (by rfl) ?_) | (refine r_load (by rfl) ?_; refine LoadC.rowCell (b := b) (q := 1) hrow hec rfl (by rfl) ?_) | (refine r_upd (by rfl) (by rfl) (by rfl) ?_; refine UpdC.of (fun x => ⟨_, upd_live jlb lv _ false x⟩) ?_) | (refine r_del (by rfl) (by rfl) ?_; refine RunC.of (fun x => ⟨_, del_jnow jnb nw _ x⟩) ?_) | refine c_seq ?_ | refine c_reg ?_ | refine r_nil ?_ | refine e_n ?_ | refine CutC.go ?_ | refine r_field (by rfl) (by rfl) ?_ | refine r_val (by rfl) ?_ | refine c_yes (by rfl) (by first | with_reducible assumption | decide) ?_ | refine c_no (by rfl) (by first | with_reducible assumption | decide) ?_ | refine c_skip ?_ | refine c_block ?_ | refine b_n ?_)
        obtain ⟨a1, a2, a3⟩ := add_power (A := A) (d := d) (Or.inr k6)
        rw [hb5] at a2
        exact meet _ ⟨rfl, rfl, rfl, rfl⟩ (hJ.power e.proc false a1 a2 a3) (by rw [(checks5 (A := A) (e := e.abs d) (Or.inr k6)).2]; rfl) Incl.of ⟨rfl, rfl, rfl, rfl, rfl, i64_succ (by omega), rfl⟩
      have hb6 : (e.kind == 6) = false := by simp [k6]
      by_cases k3 : e.kind = 3
      · have hb3 : (e.kind == 3) = true := by simp [k3]
        have hcall := regular41 (t := jt) (bb := jbb) (nb := jnb) (lv := .slice (some ⟨b, o, none⟩) n c) (nm := nm) (nw := nw) (g := bad) (T := [(jlb, lv.obj ikey bval)] :: T) hE k e he (A.live e.proc) stays cur (fun j s h => ⟨hcat j s h, (hJ.sok s (List.mem_of_getElem? (hcat j s h))).tr⟩) hnow stR hJ.row (by omega)
        repeat (first | (refine r_index (b := b) (by rfl) (by rfl) (by rfl) hlt ?_) | (refine r_load (by rfl) ?_; refine LoadC.rowCell (b := b) (q := 0) hrow hec rfl (by rfl) ?_) | (refine r_load (by rfl) ?_; refine LoadC.rowCell (b := b) (q := 1) hrow hec rfl (by rfl) ?_) | (refine r_look (by rfl) (by rfl) ?_; refine ReadC.of (fun x => look_live jlb lv _ _ hlive x) ?_) | (refine r_fun (by rfl) (by rfl) ?_; refine CallC.ex (g := 41) hcall (Incl.refl _) (fun z hz => ?_)) | refine c_seq ?_ | refine c_reg ?_ | refine r_nil ?_ | refine e_n ?_ | refine CutC.go ?_ | refine r_field (by rfl) (by rfl) ?_ | refine r_val (by rfl) ?_ | refine c_yes (by rfl) (by first | with_reducible assumption | decide) ?_ | refine c_no (by rfl) (by first | with_reducible assumption | decide) ?_ | refine c_skip ?_ | refine c_block ?_ | refine b_n ?_)
        have hreg := hJ.regular hS he k3 (d := d) (sb := z.2) (r' := z.1) (by rw [hcur]; exact hz) (GMap.bads bad (regCk evs stays cur (A.live e.proc) e))
        rw [hcur] at hreg
        have hsl : (regStays stays cur k e z.2).length = stays.length + 1 := by
          unfold regStays
          cases cur with
          | none => simp
          | some p => simp
        refine meet _ ⟨rfl, rfl, rfl, rfl⟩ hreg.1 hreg.2 ?_ ⟨rfl, rfl, rfl, rfl, rfl, i64_succ (by omega), rfl⟩
        show Incl _ (RhL jt jbb jnb b o (.slice (some ⟨b, o, none⟩) n c) (z.1.val (regStays stays cur k e z.2).length) nm (GMap.bads bad (regCk evs stays cur (A.live e.proc) e)) (nw.put e.proc z.2) z.1 (regStays stays cur k e z.2) F ([(jlb, lv.obj ikey bval)] :: T))
        rw [hsl]
        exact Incl.refl _
      have hb3 : (e.kind == 3) = false := by simp [k3]
      by_cases k124 : e.kind = 1 ∨ e.kind = 2 ∨ e.kind = 4
      · have hcall := inner42 (t := jt) (bb := jbb) (nb := jnb) (lv := .slice (some ⟨b, o, none⟩) n c) (sv := stR.val stays.length) (nm := nm) (nw := nw) (g := bad) (stR := stR) (T := [(jlb, lv.obj ikey bval)] :: T) hE k e d he k124 (A.live e.proc) stays cur (fun j s h => by
          have hs := hJ.sok s (List.mem_of_getElem? (hcat j s h))
          exact ⟨hcat j s h, hs.tr, hs.gr, by have := hs.gl; omega⟩)
        have fin : ∀ (st' : List JSt), InnerTo k e d cur (A.live e.proc) stays st' → ∀ {f : Fr} {M : Units}, Incl M (RhL jt jbb jnb b o (.slice (some ⟨b, o, none⟩) n c) (stR.val stays.length) nm (GMap.bads bad (innerCk evs cur (A.live e.proc) e)) nw stR st' F ([(jlb, lv.obj ikey bval)] :: T)) → AllAt f (thrLive (.slice (some ⟨b, o, none⟩) n c) jt jlb jnb n (k + 1)) →
            MeetC (fun p : Nat × JTr => ThrC F evs ds n jt jbb jlb jnb p ∧ n - p.1 < n - k) (fun p => thrLive (.slice (some ⟨b, o, none⟩) n c) jt jlb jnb n p.1) (fun p => p.2.L b o (.slice (some ⟨b, o, none⟩) n c) F T) f M := by
          intro st' hst f M hM ha
          have hin := hJ.inner hS he hd k124 (d := d) (st' := st') (by rw [hcur]; exact hst) (GMap.bads bad (innerCk evs cur (A.live e.proc) e))
          rw [hcur] at hin
          have hlen2 : st'.length = stays.length := by
            unfold InnerTo at hst
            split at hst
            · rw [hst]
            · split at hst
              · obtain ⟨r', _, h⟩ := hst; rw [h]; simp
              · split at hst <;> rw [hst] <;> simp
          refine meet _ ⟨rfl, rfl, rfl, rfl⟩ hin.1 (by rw [← hin.2]) ?_ ha
          show Incl M (RhL jt jbb jnb b o (.slice (some ⟨b, o, none⟩) n c) (stR.val st'.length) nm (GMap.bads bad (innerCk evs cur (A.live e.proc) e)) nw stR st' F ([(jlb, lv.obj ikey bval)] :: T))
          rw [hlen2]
          exact hM
        clear meet
        obtain ⟨v, hv⟩ : ∃ v, cur.map (·.2.blk) = v := ⟨_, rfl⟩
        rw [hv] at hnow hcall
        rcases k124 with hk | hk | hk
        · have hb1 : (e.kind == 1) = true := by simp [hk]
          cases v
          all_goals
            repeat (first | (refine r_index (b := b) (by rfl) (by rfl) (by rfl) hlt ?_) | (refine r_load (by rfl) ?_; refine LoadC.rowCell (b := b) (q := 0) hrow hec rfl (by rfl) ?_) | refine c_seq ?_ | refine c_reg ?_ | refine r_nil ?_ | refine e_n ?_ | refine CutC.go ?_ | refine r_field (by rfl) (by rfl) ?_ | refine r_val (by rfl) ?_ | refine c_yes (by rfl) (by first | with_reducible assumption | decide) ?_ | refine c_no (by rfl) (by first | with_reducible assumption | decide) ?_ | refine c_skip ?_ | refine c_block ?_ | refine c_draw ?_)
            refine d_tail 15 (by kernel_rfl) ?_
            simp only [List.take_succ_cons, List.take_zero, List.drop_succ_cons, List.drop_zero]
            repeat (first | (refine q_load (by rfl) ?_; refine LoadC.rowCell (b := b) (q := 1) hrow hec rfl (by rfl) ?_) | (refine q_look (by rfl) (by rfl) ?_; refine ReadC.of (fun x => look_live jlb lv _ _ hlive x) ?_) | (refine q_look (by rfl) (by rfl) ?_; refine ReadC.of (fun x => look_jnow jnb nw _ _ hnow x) ?_) | (refine r_fun (by rfl) (by rfl) ?_; refine CallC.ex (g := 42) hcall (Incl.refl _) (fun z hz => ?_)) | (refine q_nil ?_) | refine c_reg ?_ | refine r_nil ?_ | refine e_n ?_ | refine CutC.go ?_ | refine r_val (by rfl) ?_ | refine b_n ?_ | refine q_field (by rfl) (by rfl) ?_ | refine q_val (by rfl) ?_)
            exact fin _ hz (Incl.refl _) ⟨rfl, rfl, rfl, rfl, rfl, i64_succ (by omega), rfl⟩
        · have hb1 : (e.kind == 1) = false := by simp [hk]
          have hb2 : (e.kind == 2) = true := by simp [hk]
          cases v
          all_goals
            repeat (first | (refine r_index (b := b) (by rfl) (by rfl) (by rfl) hlt ?_) | (refine r_load (by rfl) ?_; refine LoadC.rowCell (b := b) (q := 0) hrow hec rfl (by rfl) ?_) | refine c_seq ?_ | refine c_reg ?_ | refine r_nil ?_ | refine e_n ?_ | refine CutC.go ?_ | refine r_field (by rfl) (by rfl) ?_ | refine r_val (by rfl) ?_ | refine c_yes (by rfl) (by first | with_reducible assumption | decide) ?_ | refine c_no (by rfl) (by first | with_reducible assumption | decide) ?_ | refine c_skip ?_ | refine c_block ?_ | refine c_draw ?_)
            refine d_tail 15 (by kernel_rfl) ?_
            simp only [List.take_succ_cons, List.take_zero, List.drop_succ_cons, List.drop_zero]
            repeat (first | (refine q_load (by rfl) ?_; refine LoadC.rowCell (b := b) (q := 1) hrow hec rfl (by rfl) ?_) | (refine q_look (by rfl) (by rfl) ?_; refine ReadC.of (fun x => look_live jlb lv _ _ hlive x) ?_) | (refine q_look (by rfl) (by rfl) ?_; refine ReadC.of (fun x => look_jnow jnb nw _ _ hnow x) ?_) | (refine r_fun (by rfl) (by rfl) ?_; refine CallC.ex (g := 42) hcall (Incl.refl _) (fun z hz => ?_)) | (refine q_nil ?_) | refine c_reg ?_ | refine r_nil ?_ | refine e_n ?_ | refine CutC.go ?_ | refine r_val (by rfl) ?_ | refine b_n ?_ | refine q_field (by rfl) (by rfl) ?_ | refine q_val (by rfl) ?_)
            exact fin _ hz (Incl.refl _) ⟨rfl, rfl, rfl, rfl, rfl, i64_succ (by omega), rfl⟩
        · have hb1 : (e.kind == 1) = false := by simp [hk]
          have hb2 : (e.kind == 2) = false := by simp [hk]
          have hb4 : (e.kind == 4) = true := by simp [hk]
          cases v
          all_goals
            repeat (first | (refine r_index (b := b) (by rfl) (by rfl) (by rfl) hlt ?_) | (refine r_load (by rfl) ?_; refine LoadC.rowCell (b := b) (q := 0) hrow hec rfl (by rfl) ?_) | refine c_seq ?_ | refine c_reg ?_ | refine r_nil ?_ | refine e_n ?_ | refine CutC.go ?_ | refine r_field (by rfl) (by rfl) ?_ | refine r_val (by rfl) ?_ | refine c_yes (by rfl) (by first | with_reducible assumption | decide) ?_ | refine c_no (by rfl) (by first | with_reducible assumption | decide) ?_ | refine c_skip ?_ | refine c_block ?_ | refine c_draw ?_)
            refine d_tail 15 (by kernel_rfl) ?_
            simp only [List.take_succ_cons, List.take_zero, List.drop_succ_cons, List.drop_zero]
            repeat (first | (refine q_load (by rfl) ?_; refine LoadC.rowCell (b := b) (q := 1) hrow hec rfl (by rfl) ?_) | (refine q_look (by rfl) (by rfl) ?_; refine ReadC.of (fun x => look_live jlb lv _ _ hlive x) ?_) | (refine q_look (by rfl) (by rfl) ?_; refine ReadC.of (fun x => look_jnow jnb nw _ _ hnow x) ?_) | (refine r_fun (by rfl) (by rfl) ?_; refine CallC.ex (g := 42) hcall (Incl.refl _) (fun z hz => ?_)) | (refine q_nil ?_) | refine c_reg ?_ | refine r_nil ?_ | refine e_n ?_ | refine CutC.go ?_ | refine r_val (by rfl) ?_ | refine b_n ?_ | refine q_field (by rfl) (by rfl) ?_ | refine q_val (by rfl) ?_)
            exact fin _ hz (Incl.refl _) ⟨rfl, rfl, rfl, rfl, rfl, i64_succ (by omega), rfl⟩
      · have hb1 : (e.kind == 1) = false := by simp; omega
        have hb2 : (e.kind == 2) = false := by simp; omega
        have hb4 : (e.kind == 4) = false := by simp; omega
        have kk : e.kind < 1 ∨ 6 < e.kind := by omega
        have hcall := upper43 (t := jt) (bb := jbb) (nb := jnb) (lv := .slice (some ⟨b, o, none⟩) n c) (sv := stR.val stays.length) (nm := nm) (nw := nw) (g := bad) (stR := stR) (T := [(jlb, lv.obj ikey bval)] :: T) hE k e d l he hlk kk stays cur (fun j s h => ⟨hcat j s h, fun q hq => by
            obtain ⟨j', s', h1, h2, h3⟩ := hJ.bf j s q (hcat j s h) hq
            exact ⟨j', s', by omega, h2, h3⟩⟩) (fun s hs => by
            have hs := hJ.sok s hs
            exact ⟨hs.vw, hs.ur, by have := hs.ul; omega⟩)
        have fin : ∀ (z : List JSt × Int), UpperTo evs ns k e d l cur stays nm z.1 z.2 → ∀ {f : Fr} {M : Units}, Incl M (RhL jt jbb jnb b o (.slice (some ⟨b, o, none⟩) n c) (stR.val stays.length) z.2 bad nw stR z.1 F ([(jlb, lv.obj ikey bval)] :: T)) → AllAt f (thrLive (.slice (some ⟨b, o, none⟩) n c) jt jlb jnb n (k + 1)) →
            MeetC (fun p : Nat × JTr => ThrC F evs ds n jt jbb jlb jnb p ∧ n - p.1 < n - k) (fun p => thrLive (.slice (some ⟨b, o, none⟩) n c) jt jlb jnb n p.1) (fun p => p.2.L b o (.slice (some ⟨b, o, none⟩) n c) F T) f M := by
          rintro ⟨st', nm'⟩ hz f M hM ha
          have hz : UpperTo evs ns k e d l cur stays nm st' nm' := hz
          have hup := hJ.upper he hd kk (d := d) (l := l) (st' := st') (nm' := nm') (by rw [hcur]; exact hz)
          have hlen2 : st'.length = stays.length := by
            unfold UpperTo at hz
            split at hz
            · rw [hz.2]
              cases cur with
              | none => rfl
              | some p => simp
            · split at hz
              · cases cur with
                | none => rw [hz.1]
                | some p =>
                  obtain ⟨_, _, _, _, _, _, h⟩ := hz
                  rw [h]; simp
              · rw [hz.1]
          refine meet _ ⟨rfl, rfl, rfl, rfl⟩ hup.1 (by rw [hup.2]; rfl) ?_ ha
          show Incl M (RhL jt jbb jnb b o (.slice (some ⟨b, o, none⟩) n c) (stR.val st'.length) nm' bad nw stR st' F ([(jlb, lv.obj ikey bval)] :: T))
          rw [hlen2]
          exact hM
        clear meet
        obtain ⟨v, hv⟩ : ∃ v, cur.map (·.2.blk) = v := ⟨_, rfl⟩
        rw [hv] at hnow hcall
        cases v
        all_goals
          repeat (first | (refine r_index (b := b) (by rfl) (by rfl) (by rfl) hlt ?_) | (refine r_load (by rfl) ?_; refine LoadC.rowCell (b := b) (q := 0) hrow hec rfl (by rfl) ?_) | (refine r_load (by rfl) ?_; refine LoadC.rowCell (b := b) (q := 1) hrow hec rfl (by rfl) ?_) | (refine r_look (by rfl) (by rfl) ?_; refine ReadC.of (fun x => look_jnow jnb nw _ _ hnow x) ?_) | (refine r_fun (by rfl) (by rfl) ?_; refine CallC.ex (g := 43) hcall (Incl.refl _) (fun z hz => ?_)) | refine c_seq ?_ | refine c_reg ?_ | refine r_nil ?_ | refine e_n ?_ | refine CutC.go ?_ | refine r_field (by rfl) (by rfl) ?_ | refine r_val (by rfl) ?_ | refine c_yes (by rfl) (by first | with_reducible assumption | decide) ?_ | refine c_no (by rfl) (by first | with_reducible assumption | decide) ?_ | refine c_skip ?_ | refine c_block ?_ | refine b_n ?_)
          exact fin _ hz (Incl.refl _) ⟨rfl, rfl, rfl, rfl, rfl, i64_succ (by omega), rfl⟩
    · have hd1 : decide ((k : Int) < (n : Int)) = false := by simp; omega
      have hkn : k = n := by omega
      subst hkn
      have hall : (absL evs ds).take k = absL evs ds := by
        refine List.take_of_length_le ?_
        unfold absL
        rw [List.length_zipWith]; omega
      rw [hall] at hJ hbad
      repeat (first | refine c_seq ?_ | refine c_reg ?_ | refine r_nil ?_ | refine e_n ?_ | refine CutC.go ?_ | refine r_val (by rfl) ?_ | refine c_no (by rfl) (by first | with_reducible assumption | decide) ?_ | refine c_ret ?_ | refine c_exit ?_ | refine e_x ?_ | refine b_x1 ?_ | refine EndC.mk rfl ?_)
      exact ⟨⟨jt, jbb, jlb, jnb, stR, stays, bad, nm, lv, nw⟩, ⟨by rw [hn]; exact hJ, hbad⟩, Gives.mk rfl (Incl.refl _)⟩
end
end Go.Proofs.Ythijlgjfgliinaa
end
