/- Part 49 of the proof of what MonJudges says. -/
import Derived.Test.YthijlgjfgliinaaJg48
section
/- The judge: together (29), walked. -/
set_option linter.all false
namespace Go.Proofs.Ythijlgjfgliinaa
open Go.RowKit
open Go.W
variable [Env]
theorem pair5_conf {a b : AStay} (h : (!confEq a.epoch a.rep b.epoch b.rep) = true) : pair5 a b = [] := by
  unfold pair5; rw [if_neg]; simp only [Bool.not_eq_true'] at h; rw [h]; simp
theorem pair5_proc {a b : AStay} (h : (a.proc == b.proc) = true) : pair5 a b = [] := by
  unfold pair5; rw [if_neg]; have : (a.proc != b.proc) = false := by simpa using h
  rw [this]; simp
theorem pair5_w1 {a b : AStay} (h : a.went = false) : pair5 a b = [] := by
  unfold pair5; rw [if_neg]; rw [h]; simp
theorem pair5_w2 {a b : AStay} (h : b.went = false) : pair5 a b = [] := by
  unfold pair5; rw [if_neg]; rw [h]; simp
theorem pair5_t1 {a b : AStay} (h : a.tr = none) : pair5 a b = [] := by
  unfold pair5; rw [h]; split <;> rfl
theorem pair5_t2 {a b : AStay} (h : b.tr = none) : pair5 a b = [] := by
  unfold pair5; rw [h]; split
  · cases a.tr <;> rfl
  · rfl
theorem pair5_some {a b : AStay} {t u : ATr} (c1 : (!confEq a.epoch a.rep b.epoch b.rep) = false) (c2 : (a.proc == b.proc) = false) (c3 : a.went = true) (c4 : b.went = true) (c5 : a.tr = some t) (c6 : b.tr = some u) :
    pair5 a b = if confEq t.nepoch t.nrep u.nepoch u.nrep then [(5, t.members != u.members || (!eqMgs a.p0 b.p0 || !eqMgs a.p1 b.p1))] else [] := by
  unfold pair5
  rw [if_pos]
  · rw [c5, c6]
  · simp only [Bool.not_eq_false'] at c1
    have : (a.proc != b.proc) = true := by simpa using c2
    rw [c1, this, c3, c4]; rfl
attribute [local irreducible] opsC wpC quietC LoopC DrawC CutC LoadC StoreC ReadC UpdC RunC CallC QCallC EndC thenC inBlockC
set_option maxRecDepth 100000
set_option synthInstance.maxHeartbeats 400000
section
variable {F : Blocks} {T : Units} {t bb eb eo : Nat} {lval : Value} {nm : Int} {g : GMap Int Bool} {evs : List Ev} {ns : List (List Nm)}
set_option maxHeartbeats 32000000 in
theorem together29 (hE : EvIn F eb eo evs ns) (stays : List JSt) (stR : Row) (n K : Nat) (hst : RowOk stR 1 (stays.map jptr)) (hl : stays.length = n) (hn : n ≤ 1000) (hK : K ≤ 1000)
    (hs : ∀ s ∈ stays, SOk F evs K s) (hso : ∀ s ∈ stays, Sorted s) :
    Does Try.prog 29 #[.pointer (some ⟨t, 0, none⟩)] (OnL t bb eb eo lval (stR.val n) nm g stR stays F T)
      (Gives (OnL t bb eb eo lval (stR.val n) nm (GMap.bads g (togCk (stays.map (JSt.abs evs)) [] (stays.map (JSt.abs evs)))) stR stays F T) (.tuple #[])) := by
  obtain ⟨⟨earr, eT, efr, hEm, hrow⟩, hnames⟩ := hE
  haveI hEB : ∀ {L R : Units} [Unit_ L F R], Has L eb (.cells earr eT efr) := fun {L R} h => ⟨h.ok.mem_iff.2 (by simp [hEm])⟩
  obtain ⟨sa, sc, hsv, hsl⟩ := stR.val_slice hst 98
  rw [List.length_map, hl] at hsv hsl
  rw [hsv]
  have hcap : n ≠ 0 → n ≤ sc := by
    intro h0
    have hb : stR.b ≠ none := by
      intro hb
      have := hst.nil hb
      have : stays.length = 0 := by simpa using this
      omega
    have h1 := hst.le hb
    unfold Row.val at hsv
    cases hbb : stR.b with
    | none => exact absurd hbb hb
    | some q =>
      rw [hbb] at hsv
      injection hsv with _ _ h3
      rw [List.length_map, hl] at h1
      omega
  obtain ⟨all, hall⟩ : ∃ all, stays.map (JSt.abs evs) = all := ⟨_, rfl⟩
  have hallat : ∀ (i : Nat) (s : JSt), stays[i]? = some s → all[i]? = some (s.abs evs) := fun i s h => by rw [← hall, List.getElem?_map, h]; rfl
  have halln : all.length = n := by rw [← hall, List.length_map, hl]
  rw [hall]
  refine does_of_wpC (args := [.pointer (some ⟨t, 0, none⟩)]) Try.func29 rfl (by kernel_rfl) ?_
  repeat (first | refine c_seq ?_ | refine c_reg ?_ | refine r_nil ?_ | refine e_n ?_ | refine CutC.go ?_ | refine r_field0 (by rfl) (by rfl) ?_ | refine r_lenS (by rfl) (by rfl) ?_ | refine r_val (by rfl) ?_ | (refine r_load (by rfl) ?_; refine LoadC.one (by rfl) (by rfl) ?_) | refine c_block ?_ | refine c_loop ?_)
  refine LoopC.inv (γ := Nat × GMap Int Bool) (fun p => p.1 ≤ n ∧ GMap.bads g (togCk all [] all) = GMap.bads p.2 (togCk all (all.take p.1) (all.drop p.1))) (fun p => [(0, .pointer (some ⟨t, 0, none⟩)), (11, .slice sa n sc), (12, .int .i64 n), (13, .int .i64 (p.1 : Nat))]) (fun p => OnL t bb eb eo lval (.slice sa n sc) nm p.2 stR stays F T) (fun p => n - p.1)
    (MeetC.mk (0, g) ⟨by omega, rfl⟩ ⟨rfl, rfl, rfl, rfl, rfl⟩ (Incl.refl _)) ?_
  rintro ⟨k, g1⟩ ⟨hk, hh⟩ f1
  dsimp only at hk hh ⊢
  by_cases hlt : k < n
  · have hd1 : decide ((k : Int) < (n : Int)) = true := by simp; omega
    obtain ⟨a, ha⟩ : ∃ a, stays[k]? = some a := ⟨stays[k]'(by omega), List.getElem?_eq_getElem _⟩
    have ham := List.mem_of_getElem? ha
    have hsa := hs a ham
    have haa := hallat k a ha
    have hdr : all.drop k = a.abs evs :: all.drop (k + 1) := by
      obtain ⟨h2, h3⟩ := List.getElem?_eq_some_iff.1 haa
      rw [List.drop_eq_getElem_cons h2, h3]
    have htk : all.take (k + 1) = all.take k ++ [a.abs evs] := by rw [List.take_add_one, haa]; rfl
    rw [hdr] at hh
    have hh : GMap.bads g (togCk all [] all) = GMap.bads (GMap.bads (GMap.bads g1 ((all.take k).flatMap (pair5 (a.abs evs)))) (all.flatMap (safeAt (a.abs evs)))) (togCk all (all.take (k + 1)) (all.drop (k + 1))) := by
      rw [hh, htk]
      show GMap.bads g1 ((all.take k).flatMap (pair5 (a.abs evs)) ++ (all.flatMap (safeAt (a.abs evs)) ++ togCk all (all.take k ++ [a.abs evs]) (all.drop (k + 1)))) = _
      rw [GMap.bads_app, GMap.bads_app]
    have hcap := hcap (by omega)
    have hsl0 := hsl
    rcases hsl.2 with h0 | ⟨Sb, So, Sarr, ST, Sfr, rfl, hSm, hSrow⟩
    · omega
    haveI hSB : ∀ {L R : Units} [Unit_ L (stR.u 98) R], Has L Sb (.cells Sarr ST Sfr) := fun {L R} h => ⟨h.ok.mem_iff.2 (by simp [hSm])⟩
    have hat : ∀ (i : Nat) (s : JSt), stays[i]? = some s → (stays.map jptr)[i]? = some [.pointer (some ⟨s.blk, 0, none⟩)] := fun i s h => by simp [h, jptr]
    have hac := hat k a ha
    obtain ⟨gaa, gca, hgva, hgsa⟩ := a.gr.val_slice hsa.gr 111
    rw [List.length_map] at hgva hgsa
    have hgsa' : SlIn (JU eb eo stays) gaa a.gots.length 8 (a.gots.map JGot.cells) := hgsa.mono fun p hp => mem_JU ham (by simp [JSt.u, hp])
    repeat (first | (refine r_index (by rfl) (by rfl) (by rfl) hlt ?_) | (refine r_load (by rfl) ?_; refine LoadC.row1 (b := Sb) hSrow hac (by rfl) ?_) | (refine r_upto (k := k) (by rfl) (by rfl) (by rfl) (by omega) ?_) | refine c_seq ?_ | refine c_reg ?_ | refine r_nil ?_ | refine e_n ?_ | refine CutC.go ?_ | refine r_field0 (by rfl) (by rfl) ?_ | refine r_lenS (by rfl) (by rfl) ?_ | refine r_val (by rfl) ?_ | (refine r_load (by rfl) ?_; refine LoadC.one (by rfl) (by rfl) ?_) | refine c_yes (by rfl) (by first | with_reducible assumption | decide) ?_ | refine c_skip ?_ | refine c_block ?_ | refine c_loop ?_)
    refine LoopC.inv (γ := Nat × GMap Int Bool) (fun p => p.1 ≤ k ∧ GMap.bads g1 ((all.take k).flatMap (pair5 (a.abs evs))) = GMap.bads p.2 (((all.take k).drop p.1).flatMap (pair5 (a.abs evs)))) (fun p => [(0, .pointer (some ⟨t, 0, none⟩)), (2, .int .i64 (k : Nat)), (3, .pointer (some ⟨a.blk, 0, none⟩)), (11, .slice (some ⟨Sb, So, none⟩) n sc), (12, .int .i64 n), (13, .int .i64 (k : Nat)), (23, .slice (some ⟨Sb, So, none⟩) k sc), (24, .int .i64 k), (25, .int .i64 (p.1 : Nat))]) (fun p => OnL t bb eb eo lval (.slice (some ⟨Sb, So, none⟩) n sc) nm p.2 stR stays F T) (fun p => k - p.1)
      (MeetC.mk (0, g1) ⟨by omega, rfl⟩ ⟨rfl, rfl, rfl, rfl, rfl, rfl, rfl, rfl, rfl, rfl⟩ (Incl.refl _)) ?_
    rintro ⟨j, g2⟩ ⟨hj, hh2⟩ f2
    dsimp only at hj hh2 ⊢
    by_cases hjlt : j < k
    · have hd2 : decide ((j : Int) < (k : Int)) = true := by simp; omega
      obtain ⟨b, hb⟩ : ∃ b, stays[j]? = some b := ⟨stays[j]'(by omega), List.getElem?_eq_getElem _⟩
      have hbm := List.mem_of_getElem? hb
      have hsb := hs b hbm
      have hbb := hallat j b hb
      have hbt : (all.take k)[j]? = some (b.abs evs) := by rw [List.getElem?_take, if_pos hjlt]; exact hbb
      have hdr2 : (all.take k).drop j = b.abs evs :: (all.take k).drop (j + 1) := by
        obtain ⟨h2, h3⟩ := List.getElem?_eq_some_iff.1 hbt
        rw [List.drop_eq_getElem_cons h2, h3]
      rw [hdr2, List.flatMap_cons, GMap.bads_app] at hh2
      have hbc := hat j b hb
      obtain ⟨gab, gcb, hgvb, hgsb⟩ := b.gr.val_slice hsb.gr 111
      rw [List.length_map] at hgvb hgsb
      have hgsb' : SlIn (JU eb eo stays) gab b.gots.length 8 (b.gots.map JGot.cells) := hgsb.mono fun p hp => mem_JU hbm (by simp [JSt.u, hp])
      have skip : pair5 (a.abs evs) (b.abs evs) = [] → GMap.bads g1 ((all.take k).flatMap (pair5 (a.abs evs))) = GMap.bads g2 (((all.take k).drop (j + 1)).flatMap (pair5 (a.abs evs))) := fun h => by rw [hh2, h]; rfl
      repeat (first | refine c_seq ?_ | refine c_reg ?_ | refine r_nil ?_ | refine e_n ?_ | refine r_val (by rfl) ?_)
      refine CutC.go ?_
      repeat (first | refine c_seq ?_ | refine e_n ?_ | refine c_yes (by rfl) (by first | with_reducible assumption | decide) ?_ | refine c_skip ?_)
      refine CutC.go ?_
      repeat (first | (refine r_index (k := j) (by rfl) (by rfl) (by rfl) hjlt ?_) | (refine r_load (by rfl) ?_; refine LoadC.row1 (b := Sb) hSrow hbc (by rfl) ?_) | refine c_seq ?_ | refine c_reg ?_ | refine r_nil ?_ | refine e_n ?_ | refine r_val (by rfl) ?_ | refine c_block ?_)
      refine CutC.over (tSL t (some ⟨Sb, So, none⟩) n sc k j a b) ⟨rfl, rfl, rfl, rfl, rfl, rfl, rfl, rfl, rfl, rfl, rfl⟩ (fun f3 => ?_)
      cases c1 : (!confEq a.epoch a.rep b.epoch b.rep) with
      | true =>
        refine tog_conf ham hbm hgva hgvb c1 (fun f' M hal hM => ?_) f3
        refine b_x1 ?_
        refine e_n ?_
        refine CutC.weak hM (CutC.over _ hal (fun f5 => ?_))
        repeat (first | refine c_reg ?_ | refine r_nil ?_ | refine e_n ?_ | refine r_val (by rfl) ?_)
        exact MeetC.mk (j + 1, g2) ⟨⟨by simp only; omega, skip (pair5_conf c1)⟩, by simp only; omega⟩ ⟨rfl, rfl, rfl, rfl, rfl, rfl, rfl, rfl, i64_succ (by omega), rfl⟩ Incl.of
      | false =>
        cases c2 : (a.proc == b.proc) with
        | true =>
          refine tog_proc ham hbm hgva hgvb c1 c2 (fun f' M hal hM => ?_) f3
          refine b_x1 ?_
          refine e_n ?_
          refine CutC.weak hM (CutC.over _ hal (fun f5 => ?_))
          repeat (first | refine c_reg ?_ | refine r_nil ?_ | refine e_n ?_ | refine r_val (by rfl) ?_)
          exact MeetC.mk (j + 1, g2) ⟨⟨by simp only; omega, skip (pair5_proc c2)⟩, by simp only; omega⟩ ⟨rfl, rfl, rfl, rfl, rfl, rfl, rfl, rfl, i64_succ (by omega), rfl⟩ Incl.of
        | false =>
          cases c3 : a.nx with
          | none =>
            refine tog_nx1 ham hbm hgva hgvb c1 c2 c3 (fun f' M hal hM => ?_) f3
            refine b_x1 ?_
            refine e_n ?_
            refine CutC.weak hM (CutC.over _ hal (fun f5 => ?_))
            repeat (first | refine c_reg ?_ | refine r_nil ?_ | refine e_n ?_ | refine r_val (by rfl) ?_)
            exact MeetC.mk (j + 1, g2) ⟨⟨by simp only; omega, skip (pair5_w1 (by show a.nx.isSome = false; rw [c3]; rfl))⟩, by simp only; omega⟩ ⟨rfl, rfl, rfl, rfl, rfl, rfl, rfl, rfl, i64_succ (by omega), rfl⟩ Incl.of
          | some x =>
            cases c4 : b.nx with
            | none =>
              refine tog_nx2 ham hbm hgva hgvb c1 c2 x c3 c4 (fun f' M hal hM => ?_) f3
              refine b_x1 ?_
              refine e_n ?_
              refine CutC.weak hM (CutC.over _ hal (fun f5 => ?_))
              repeat (first | refine c_reg ?_ | refine r_nil ?_ | refine e_n ?_ | refine r_val (by rfl) ?_)
              exact MeetC.mk (j + 1, g2) ⟨⟨by simp only; omega, skip (pair5_w2 (by show b.nx.isSome = false; rw [c4]; rfl))⟩, by simp only; omega⟩ ⟨rfl, rfl, rfl, rfl, rfl, rfl, rfl, rfl, i64_succ (by omega), rfl⟩ Incl.of
            | some y =>
              cases c5 : a.tr with
              | none =>
                refine tog_tr1 ham hbm hgva hgvb c1 c2 x y c3 c4 c5 (fun f' M hal hM => ?_) f3
                refine b_x1 ?_
                refine e_n ?_
                refine CutC.weak hM (CutC.over _ hal (fun f5 => ?_))
                repeat (first | refine c_reg ?_ | refine r_nil ?_ | refine e_n ?_ | refine r_val (by rfl) ?_)
                exact MeetC.mk (j + 1, g2) ⟨⟨by simp only; omega, skip (pair5_t1 (by show ((a.tr.bind fun q => evs[q]?).map fun t => (⟨t.nepoch, t.nrep, t.members⟩ : ATr)) = none; rw [c5]; rfl))⟩, by simp only; omega⟩ ⟨rfl, rfl, rfl, rfl, rfl, rfl, rfl, rfl, i64_succ (by omega), rfl⟩ Incl.of
              | some u =>
                cases c6 : b.tr with
                | none =>
                  refine tog_tr2 ham hbm hgva hgvb c1 c2 x y u c3 c4 c5 c6 (fun f' M hal hM => ?_) f3
                  refine b_x1 ?_
                  refine e_n ?_
                  refine CutC.weak hM (CutC.over _ hal (fun f5 => ?_))
                  repeat (first | refine c_reg ?_ | refine r_nil ?_ | refine e_n ?_ | refine r_val (by rfl) ?_)
                  exact MeetC.mk (j + 1, g2) ⟨⟨by simp only; omega, skip (pair5_t2 (by show ((b.tr.bind fun q => evs[q]?).map fun t => (⟨t.nepoch, t.nrep, t.members⟩ : ATr)) = none; rw [c6]; rfl))⟩, by simp only; omega⟩ ⟨rfl, rfl, rfl, rfl, rfl, rfl, rfl, rfl, i64_succ (by omega), rfl⟩ Incl.of
                | some v =>
                  obtain ⟨ea, hea⟩ : ∃ ea, evs[u]? = some ea := ⟨evs[u]'(hsa.tr u c5), List.getElem?_eq_getElem _⟩
                  obtain ⟨eb', heb⟩ : ∃ eb', evs[v]? = some eb' := ⟨evs[v]'(hsb.tr v c6), List.getElem?_eq_getElem _⟩
                  have hta : (a.abs evs).tr = some ⟨ea.nepoch, ea.nrep, ea.members⟩ := by
                    show ((a.tr.bind fun q => evs[q]?).map fun t => (⟨t.nepoch, t.nrep, t.members⟩ : ATr)) = _
                    rw [c5]; simp [hea]
                  have htb : (b.abs evs).tr = some ⟨eb'.nepoch, eb'.nrep, eb'.members⟩ := by
                    show ((b.tr.bind fun q => evs[q]?).map fun t => (⟨t.nepoch, t.nrep, t.members⟩ : ATr)) = _
                    rw [c6]; simp [heb]
                  have hp5 := pair5_some (a := a.abs evs) (b := b.abs evs) c1 c2 (by show a.nx.isSome = true; rw [c3]; rfl) (by show b.nx.isSome = true; rw [c4]; rfl) hta htb
                  simp only at hp5
                  cases c7 : (!confEq ea.nepoch ea.nrep eb'.nepoch eb'.nrep) with
                  | true =>
                    refine tog_new ham hbm hgva hgvb hEm hrow ea eb' c1 c2 x y u v c3 c4 c5 c6 hea heb c7 (fun f' M hal hM => ?_) f3
                    have hp0 : pair5 (a.abs evs) (b.abs evs) = [] := by rw [hp5, if_neg]; simpa using c7
                    refine b_x1 ?_
                    refine e_n ?_
                    refine CutC.weak hM (CutC.over _ hal (fun f5 => ?_))
                    repeat (first | refine c_reg ?_ | refine r_nil ?_ | refine e_n ?_ | refine r_val (by rfl) ?_)
                    exact MeetC.mk (j + 1, g2) ⟨⟨by simp only; omega, skip hp0⟩, by simp only; omega⟩ ⟨rfl, rfl, rfl, rfl, rfl, rfl, rfl, rfl, i64_succ (by omega), rfl⟩ Incl.of
                  | false =>
                    rw [if_pos (by simpa using c7)] at hp5
                    rw [hp5] at hh2
                    refine tog_ok ham hbm hgva hgvb hEm hrow ea eb' c1 c2 x y u v c3 c4 c5 c6 hea heb c7 (fun f' M hal hM => ?_) f3
                    refine CutC.weak hM (CutC.over _ hal (fun f4 => ?_))
                    clear hal hM
                    cases hc0 : (ea.members != eb'.members) with
                    | true =>
                      rw [hc0] at hh2
                      refine tog_eqA (by repeat (first | exact panicFree_body | refine panicFree_then ?_ | refine panicFree_block ?_)) ham hbm hgva hgvb hgsa' hgsb' hsa.gm hsb.gm (Nat.le_trans hsa.gl hK) (Nat.le_trans hsb.gl hK) hEm hrow ea eb' u v c5 c6 hea heb hc0 (fun f' M hal hM => ?_) f4
                      refine b_n ?_
                      refine e_n ?_
                      refine CutC.weak hM (CutC.over _ hal (fun f5 => ?_))
                      repeat (first | refine c_reg ?_ | refine r_nil ?_ | refine e_n ?_ | refine r_val (by rfl) ?_)
                      exact MeetC.mk (j + 1, GMap.bad g2 5 true) ⟨⟨by simp only; omega, by rw [hh2]; rfl⟩, by simp only; omega⟩ ⟨rfl, rfl, rfl, rfl, rfl, rfl, rfl, rfl, i64_succ (by omega), rfl⟩ Incl.of
                    | false =>
                      cases hc1 : (!eqMgs ((partJ a.gots false).map GM.mg) ((partJ b.gots false).map GM.mg)) with
                      | true =>
                        have hh3 : GMap.bads g1 ((all.take k).flatMap (pair5 (a.abs evs))) = GMap.bads (GMap.bad g2 5 true) (((all.take k).drop (j + 1)).flatMap (pair5 (a.abs evs))) := by
                          rw [hh2, hc0, show (a.abs evs).p0 = (partJ a.gots false).map GM.mg from rfl, show (b.abs evs).p0 = (partJ b.gots false).map GM.mg from rfl, hc1]; rfl
                        refine tog_eqB (by repeat (first | exact panicFree_body | refine panicFree_then ?_ | refine panicFree_block ?_)) ham hbm hgva hgvb hgsa' hgsb' hsa.gm hsb.gm (Nat.le_trans hsa.gl hK) (Nat.le_trans hsb.gl hK) hEm hrow ea eb' u v c5 c6 hea heb hc0 hc1 (fun f' M hal hM => ?_) f4
                        refine b_n ?_
                        refine e_n ?_
                        refine CutC.weak hM (CutC.over _ hal (fun f5 => ?_))
                        repeat (first | refine c_reg ?_ | refine r_nil ?_ | refine e_n ?_ | refine r_val (by rfl) ?_)
                        exact MeetC.mk (j + 1, GMap.bad g2 5 true) ⟨⟨by simp only; omega, hh3⟩, by simp only; omega⟩ ⟨rfl, rfl, rfl, rfl, rfl, rfl, rfl, rfl, i64_succ (by omega), rfl⟩ Incl.of
                      | false =>
                        have hh3 : GMap.bads g1 ((all.take k).flatMap (pair5 (a.abs evs))) = GMap.bads (GMap.bad g2 5 (!eqMgs ((partJ a.gots true).map GM.mg) ((partJ b.gots true).map GM.mg))) (((all.take k).drop (j + 1)).flatMap (pair5 (a.abs evs))) := by
                          rw [hh2, hc0, show (a.abs evs).p0 = (partJ a.gots false).map GM.mg from rfl, show (b.abs evs).p0 = (partJ b.gots false).map GM.mg from rfl, hc1]; rfl
                        refine tog_eqC (by repeat (first | exact panicFree_body | refine panicFree_then ?_ | refine panicFree_block ?_)) ham hbm hgva hgvb hgsa' hgsb' hsa.gm hsb.gm (Nat.le_trans hsa.gl hK) (Nat.le_trans hsb.gl hK) hEm hrow ea eb' u v c5 c6 hea heb hc0 hc1 (fun f' M hal hM => ?_) f4
                        refine b_n ?_
                        refine e_n ?_
                        refine CutC.weak hM (CutC.over _ hal (fun f5 => ?_))
                        repeat (first | refine c_reg ?_ | refine r_nil ?_ | refine e_n ?_ | refine r_val (by rfl) ?_)
                        exact MeetC.mk (j + 1, GMap.bad g2 5 (!eqMgs ((partJ a.gots true).map GM.mg) ((partJ b.gots true).map GM.mg))) ⟨⟨by simp only; omega, hh3⟩, by simp only; omega⟩ ⟨rfl, rfl, rfl, rfl, rfl, rfl, rfl, rfl, i64_succ (by omega), rfl⟩ Incl.of
    · have hd2 : decide ((j : Int) < (k : Int)) = false := by simp; omega
      have hjk : (all.take k).drop j = [] := by rw [List.drop_eq_nil_iff, List.length_take]; omega
      rw [hjk] at hh2
      have hh2 : GMap.bads g1 ((all.take k).flatMap (pair5 (a.abs evs))) = g2 := hh2
      rw [hh2] at hh
      clear hh2
      repeat (first | refine c_seq ?_ | refine c_reg ?_ | refine r_nil ?_ | refine e_n ?_ | refine CutC.go ?_ | refine r_field0 (by rfl) (by rfl) ?_ | refine r_lenS (by rfl) (by rfl) ?_ | refine r_val (by rfl) ?_ | (refine r_load (by rfl) ?_; refine LoadC.one (by rfl) (by rfl) ?_) | refine c_no (by rfl) (by first | with_reducible assumption | decide) ?_ | refine c_block ?_ | refine c_exit ?_ | refine e_x ?_ | refine b_x1 ?_ | refine c_loop ?_)
      refine LoopC.inv (γ := Nat × GMap Int Bool) (fun p => p.1 ≤ n ∧ GMap.bads g2 (all.flatMap (safeAt (a.abs evs))) = GMap.bads p.2 ((all.drop p.1).flatMap (safeAt (a.abs evs)))) (fun p => [(0, .pointer (some ⟨t, 0, none⟩)), (3, .pointer (some ⟨a.blk, 0, none⟩)), (11, .slice (some ⟨Sb, So, none⟩) n sc), (12, .int .i64 n), (13, .int .i64 (k : Nat)), (131, .slice (some ⟨Sb, So, none⟩) n sc), (132, .int .i64 n), (133, .int .i64 (p.1 : Nat))]) (fun p => OnL t bb eb eo lval (.slice (some ⟨Sb, So, none⟩) n sc) nm p.2 stR stays F T) (fun p => n - p.1)
        (MeetC.mk (0, g2) ⟨by omega, rfl⟩ ⟨rfl, rfl, rfl, rfl, rfl, rfl, rfl, rfl, rfl⟩ (Incl.refl _)) ?_
      rintro ⟨q, g3⟩ ⟨hq, hh3⟩ f3
      dsimp only at hq hh3 ⊢
      by_cases hqlt : q < n
      · have hd3 : decide ((q : Int) < (n : Int)) = true := by simp; omega
        obtain ⟨b, hb⟩ : ∃ b, stays[q]? = some b := ⟨stays[q]'(by omega), List.getElem?_eq_getElem _⟩
        have hbm := List.mem_of_getElem? hb
        have hsb := hs b hbm
        have hbb := hallat q b hb
        have hdr3 : all.drop q = b.abs evs :: all.drop (q + 1) := by
          obtain ⟨h2, h3⟩ := List.getElem?_eq_some_iff.1 hbb
          rw [List.drop_eq_getElem_cons h2, h3]
        rw [hdr3, List.flatMap_cons, GMap.bads_app] at hh3
        have hbc := hat q b hb
        obtain ⟨gab, gcb, hgvb, hgsb⟩ := b.gr.val_slice hsb.gr 111
        rw [List.length_map] at hgvb hgsb
        have hgsb' : SlIn (JU eb eo stays) gab b.gots.length 8 (b.gots.map JGot.cells) := hgsb.mono fun p hp => mem_JU hbm (by simp [JSt.u, hp])
        haveI hA : ∀ {L R : Units} [Unit_ L (JU eb eo stays) R], Has L a.blk (stO eb eo a (.slice gaa a.gots.length gca) (a.ur.val a.ups.length) (evp eb eo a.tr) (evp eb eo a.nx)) := fun {L R} h => has_stO ham hgva rfl rfl h
        cases c1 : confEq a.epoch a.rep b.epoch b.rep with
        | false =>
          haveI hB : ∀ {L R : Units} [Unit_ L (JU eb eo stays) R], Has L b.blk (stO eb eo b (.slice gab b.gots.length gcb) (b.ur.val b.ups.length) (evp eb eo b.tr) (evp eb eo b.nx)) := fun {L R} h => has_stO hbm hgvb rfl rfl h
          have hsk : safeAt (a.abs evs) (b.abs evs) = [] := by
            unfold safeAt
            rw [if_neg]
            show ¬ (confEq a.epoch a.rep b.epoch b.rep && b.nx.isSome) = true
            rw [c1]; simp
          rw [hsk] at hh3
          repeat (first | (refine r_index (k := q) (by rfl) (by rfl) (by rfl) hqlt ?_) | (refine r_load (by rfl) ?_; refine LoadC.row1 (b := Sb) hSrow hbc (by rfl) ?_) | refine c_seq ?_ | refine c_reg ?_ | refine r_nil ?_ | refine e_n ?_ | refine CutC.go ?_ | refine r_val (by rfl) ?_ | refine c_yes (by rfl) (by first | with_reducible assumption | decide) ?_ | refine c_skip ?_ | refine c_block ?_ | refine c_draw ?_)
          refine d_tail 15 (by kernel_rfl) ?_
          simp only [List.append_eq, List.cons_append, List.nil_append, List.take_succ_cons, List.take_zero, List.drop_succ_cons, List.drop_zero]
          repeat (first | (refine q_eq (by rfl) (by rfl) (by kernel_rfl) (fun x => eq30 x.w _ _ _ _) ?_) | (refine q_nil ?_) | refine c_reg ?_ | refine r_nil ?_ | refine e_n ?_ | refine CutC.go ?_ | refine r_val (by rfl) ?_ | refine r_pickF (by rfl) (by first | with_reducible assumption | decide) (by rfl) ?_ | refine c_no (by rfl) (by first | with_reducible assumption | decide) ?_ | refine c_skip ?_ | refine b_n ?_ | refine q_field0 (by rfl) (by rfl) ?_ | refine q_val (by rfl) ?_ | refine q_gnT (by rfl) (by first | with_reducible assumption | decide) ?_ | (refine q_load (by rfl) ?_; refine LoadC.agg (by rfl) (by rfl) ?_))
          exact MeetC.mk (q + 1, g3) ⟨⟨by simp only; omega, hh3⟩, by simp only; omega⟩ ⟨rfl, rfl, rfl, rfl, rfl, rfl, rfl, i64_succ (by omega), rfl⟩ Incl.of
        | true =>
          cases c4 : b.nx with
          | none =>
            haveI hB : ∀ {L R : Units} [Unit_ L (JU eb eo stays) R], Has L b.blk (stO eb eo b (.slice gab b.gots.length gcb) (b.ur.val b.ups.length) (evp eb eo b.tr) (.pointer none)) := fun {L R} h => has_stO hbm hgvb rfl (by rw [c4]; rfl) h
            have hsk : safeAt (a.abs evs) (b.abs evs) = [] := by
              unfold safeAt
              rw [if_neg]
              show ¬ (confEq a.epoch a.rep b.epoch b.rep && b.nx.isSome) = true
              rw [c4]; simp
            rw [hsk] at hh3
            repeat (first | (refine r_index (k := q) (by rfl) (by rfl) (by rfl) hqlt ?_) | (refine r_load (by rfl) ?_; refine LoadC.row1 (b := Sb) hSrow hbc (by rfl) ?_) | refine c_seq ?_ | refine c_reg ?_ | refine r_nil ?_ | refine e_n ?_ | refine CutC.go ?_ | refine r_val (by rfl) ?_ | refine c_yes (by rfl) (by first | with_reducible assumption | decide) ?_ | refine c_skip ?_ | refine c_block ?_ | refine c_draw ?_)
            refine d_tail 15 (by kernel_rfl) ?_
            simp only [List.append_eq, List.cons_append, List.nil_append, List.take_succ_cons, List.take_zero, List.drop_succ_cons, List.drop_zero]
            repeat (first | (refine q_eq (by rfl) (by rfl) (by kernel_rfl) (fun x => eq30 x.w _ _ _ _) ?_) | (refine q_nil ?_) | refine c_reg ?_ | refine r_nil ?_ | refine e_n ?_ | refine CutC.go ?_ | refine r_val (by rfl) ?_ | refine r_pickT (by rfl) (by first | with_reducible assumption | decide) (by rfl) ?_ | refine c_no (by rfl) (by first | with_reducible assumption | decide) ?_ | refine c_skip ?_ | refine b_n ?_ | refine q_field0 (by rfl) (by rfl) ?_ | refine q_val (by rfl) ?_ | (refine q_load (by rfl) ?_; refine LoadC.one (by rfl) (by rfl) ?_) | refine q_gT (by rfl) (by first | with_reducible assumption | decide) ?_ | (refine q_load (by rfl) ?_; refine LoadC.agg (by rfl) (by rfl) ?_))
            exact MeetC.mk (q + 1, g3) ⟨⟨by simp only; omega, hh3⟩, by simp only; omega⟩ ⟨rfl, rfl, rfl, rfl, rfl, rfl, rfl, i64_succ (by omega), rfl⟩ Incl.of
          | some y =>
            haveI hB : ∀ {L R : Units} [Unit_ L (JU eb eo stays) R], Has L b.blk (stO eb eo b (.slice gab b.gots.length gcb) (b.ur.val b.ups.length) (evp eb eo b.tr) (.pointer (some ⟨eb, eo + y * 19, none⟩))) := fun {L R} h => has_stO hbm hgvb rfl (by rw [c4]; rfl) h
            have hsk : safeAt (a.abs evs) (b.abs evs) = safe6 (a.abs evs) (b.abs evs) := by
              unfold safeAt
              rw [if_pos]
              show (confEq a.epoch a.rep b.epoch b.rep && b.nx.isSome) = true
              rw [c1, c4]; rfl
            rw [hsk] at hh3
            obtain ⟨tm, eu, htm, htr1, htr2⟩ : ∃ (tm : Int) (eu : Nat), (∀ u, a.tr = some u → ∃ ea, evs[u]? = some ea ∧ ea.members = tm) ∧ (∀ j ∈ a.gots, j.tr = true → (a.tr.map fun i => (⟨eb, eo + i * 19, none⟩ : Addr)) = some ⟨eb, eu, none⟩) ∧
                ((a.tr.map fun i => (⟨eb, eo + i * 19, none⟩ : Addr)) = some ⟨eb, eu, none⟩ → (eb, Obj.cells earr eT efr) ∈ F ∧ earr[eu + 6]? = some (.int .u64 tm)) := by
              cases htr : a.tr with
              | none => exact ⟨0, 0, fun u h => (by cases h), fun j hj hjt => absurd htr (hsa.gt j hj hjt), fun h => (by cases h)⟩
              | some u =>
                obtain ⟨ea, hea⟩ : ∃ ea, evs[u]? = some ea := ⟨evs[u]'(hsa.tr u htr), List.getElem?_eq_getElem _⟩
                refine ⟨ea.members, eo + u * 19, fun u' h => (by cases h; exact ⟨ea, hea, rfl⟩), fun j hj hjt => rfl, fun _ => ⟨hEm, ?_⟩⟩
                exact hrow u ea.cells (by simp [hea]) 6 _ rfl
            rw [safe_eq evs (hso a ham) (hso b hbm) htm hsa.gt] at hh3
            have hcall := fun {L R1 R2 : Units} {R : Units} [hp : Pick L bb (g3.obj ikey bval) R] [ht : Has R t (traceO lval (.slice (some ⟨Sb, So, none⟩) n sc) bb nm)] [hJ : Unit_ R (JU eb eo stays) R2] [hF : Unit_ R F R1] => safe48 (F := F) (UA := JU eb eo stays) (UB := JU eb eo stays) (t := t) (bb := bb) (ab := a.blk) (xb := b.blk) (eb := eb) (eo := eu) (lv := lval) (sv := .slice (some ⟨Sb, So, none⟩) n sc) (nm := nm) (am := a.members) (tm := tm) (bp := b.proc) (earr := earr) (eT := eT) (efr := efr) (trp := a.tr.map fun i => ⟨eb, eo + i * 19, none⟩) (L := L) (R := R)
              g3 gaa gab a.gots.length b.gots.length gca gcb a.gots b.gots hgsa' hgsb' hsa.gm hsb.gm (Nat.le_trans hsa.gl hK) (Nat.le_trans hsb.gl hK) htr1 htr2 (ha := hA) (hb := hB)
            repeat (first | (refine r_index (k := q) (by rfl) (by rfl) (by rfl) hqlt ?_) | (refine r_load (by rfl) ?_; refine LoadC.row1 (b := Sb) hSrow hbc (by rfl) ?_) | refine c_seq ?_ | refine c_reg ?_ | refine r_nil ?_ | refine e_n ?_ | refine CutC.go ?_ | refine r_val (by rfl) ?_ | refine c_yes (by rfl) (by first | with_reducible assumption | decide) ?_ | refine c_skip ?_ | refine c_block ?_ | refine c_draw ?_)
            refine d_tail 15 (by kernel_rfl) ?_
            simp only [List.append_eq, List.cons_append, List.nil_append, List.take_succ_cons, List.take_zero, List.drop_succ_cons, List.drop_zero]
            repeat (first | (refine q_eq (by rfl) (by rfl) (by kernel_rfl) (fun x => eq30 x.w _ _ _ _) ?_) | (refine q_nil ?_) | (refine r_fun (by rfl) (by rfl) ?_; refine CallC.gives (g := 48) hcall ?_) | refine c_reg ?_ | refine r_nil ?_ | refine e_n ?_ | refine CutC.go ?_ | refine r_val (by rfl) ?_ | refine r_pickT (by rfl) (by first | with_reducible assumption | decide) (by rfl) ?_ | refine c_yes (by rfl) (by first | with_reducible assumption | decide) ?_ | refine b_n ?_ | refine q_field0 (by rfl) (by rfl) ?_ | refine q_val (by rfl) ?_ | (refine q_load (by rfl) ?_; refine LoadC.one (by rfl) (by rfl) ?_) | refine q_gT (by rfl) (by first | with_reducible assumption | decide) ?_ | (refine q_load (by rfl) ?_; refine LoadC.agg (by rfl) (by rfl) ?_))
            exact MeetC.mk (q + 1, safeF a.members tm b.proc b.gots a.gots g3) ⟨⟨by simp only; omega, hh3⟩, by simp only; omega⟩ ⟨rfl, rfl, rfl, rfl, rfl, rfl, rfl, i64_succ (by omega), rfl⟩ Incl.of
      · have hd3 : decide ((q : Int) < (n : Int)) = false := by simp; omega
        have hqn : all.drop q = [] := by rw [List.drop_eq_nil_iff]; omega
        rw [hqn] at hh3
        have hh3 : GMap.bads g2 (all.flatMap (safeAt (a.abs evs))) = g3 := hh3
        rw [hh3] at hh
        repeat (first | refine c_seq ?_ | refine c_reg ?_ | refine r_nil ?_ | refine e_n ?_ | refine CutC.go ?_ | refine r_val (by rfl) ?_ | refine c_no (by rfl) (by first | with_reducible assumption | decide) ?_ | refine b_n ?_ | refine c_exit ?_ | refine e_x ?_ | refine b_x1 ?_)
        exact MeetC.mk (k + 1, g3) ⟨⟨by simp only; omega, hh⟩, by simp only; omega⟩ ⟨rfl, rfl, rfl, i64_succ (by omega), rfl⟩ Incl.of
  · have hd1 : decide ((k : Int) < (n : Int)) = false := by simp; omega
    have hkn : all.drop k = [] := by rw [List.drop_eq_nil_iff]; omega
    rw [hkn] at hh
    have hh : GMap.bads g (togCk all [] all) = g1 := hh
    repeat (first | refine c_seq ?_ | refine c_reg ?_ | refine r_nil ?_ | refine e_n ?_ | refine CutC.go ?_ | refine r_val (by rfl) ?_ | refine c_no (by rfl) (by first | with_reducible assumption | decide) ?_ | refine c_exit ?_ | refine e_x ?_ | refine b_x1 ?_ | refine EndC.mk rfl ?_)
    exact Gives.mk rfl (by rw [hh]; exact Incl.refl _)
end
end Go.Proofs.Ythijlgjfgliinaa
end
