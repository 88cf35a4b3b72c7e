/- Part 10 of the proof of what MonJudges says. -/
import Derived.Test.YthijlgjfgliinaaJg08
import Derived.Test.YthijlgjfgliinaaJg09
import Derived.Deep.DeepCutAuto
section
/- A stay went on. -/
set_option linter.all false
namespace Go.Proofs.Ythijlgjfgliinaa
open Go.RowKit
variable [Env]
set_option maxRecDepth 100000

def ptrCell (s : GStay) : List Value := [.pointer (some ⟨s.blk, 0, none⟩)]
def GStay.gone (s : GStay) : GStay := { s with went := true }
theorem closeStep_no {b o : AStay} {br : Int} (h : ¬ (o.epoch = b.epoch ∧ o.rep = b.rep)) : closeStep b br o = br := if_neg h
theorem closeStep_none {b o : AStay} {br : Int} (h : o.epoch = b.epoch ∧ o.rep = b.rep) (ht : o.tr = none) : closeStep b br o = owesB (hasB o.members b.proc) b.all br o.p0 := by
  unfold closeStep
  rw [if_pos h]
  simp [ht, skipB]
theorem closeStep_skip {b o : AStay} {br : Int} {t : ATr} (h : o.epoch = b.epoch ∧ o.rep = b.rep) (ht : o.tr = some t) (hs : skipB o b = true) : closeStep b br o = owesB (hasB t.members b.proc) b.all (owesB (hasB o.members b.proc) b.all br o.p0) o.p1 := by
  unfold closeStep
  rw [if_pos h]
  simp [ht, hs]
theorem closeStep_go {b o : AStay} {br : Int} {t : ATr} (h : o.epoch = b.epoch ∧ o.rep = b.rep) (ht : o.tr = some t) (hs : skipB o b = false) : closeStep b br o = brk (owesB (hasB t.members b.proc) b.all (owesB (hasB o.members b.proc) b.all br o.p0) o.p1) 5 (unlikeB o b) := by
  unfold closeStep
  rw [if_pos h]
  simp [ht, hs]
def ClInv (sb eb mb lb nb m : Nat) (sv : Value) (nst : Nat) (br ln at_ ru : Int) (b : AStay) (l : List AStay) (R : Units) (v : Value) (w : World) : Prop :=
  ∃ (k : Nat) (br' : Int), k ≤ nst ∧ v = .int .i64 k ∧ closeB b l br = closeB b (l.drop k) br' ∧ ∃ y : St ([(m, monO sb eb mb sv lb nb br' ln at_ ru)] :: R), w = y.w
set_option maxHeartbeats 40000000 in
theorem close33 {F : Blocks} {m sb eb mb lb nb : Nat} {br ln at_ ru : Int} (stR : Row) (stays : List GStay) (bi : Nat) (b : GStay) (hb : stays[bi]? = some b) (hst : RowOk stR 1 (stays.map ptrCell)) (hok : ∀ s ∈ stays, s.ok F) (nst : Nat) (hlen : Hid (stays.length = nst)) (hn : nst ≤ 1000)
    {R : Units} (x : St ([(m, monO sb eb mb (stR.val nst) lb nb br ln at_ ru)] :: stR.u 57 :: SU stays :: F :: R)) :
    Calls Try.prog 33 #[.pointer (some ⟨m, 0, none⟩), .pointer (some ⟨b.blk, 0, none⟩)] x.w
      (Ret ([(m, monO sb eb mb (stR.val nst) lb nb (closeB b.gone.abs ((stays.set bi b.gone).map GStay.abs) br) ln at_ ru)] :: stR.u 57 :: SU (stays.set bi b.gone) :: F :: R) (.tuple #[])) := by
  obtain ⟨sa, sc, hsv, hsl⟩ := stR.val_slice hst 57
  rw [show (stays.map ptrCell).length = nst by simp [hlen.out]] at hsv hsl
  have hbi : bi < nst := by have := (List.getElem?_eq_some_iff.1 hb).1; rw [hlen.out] at this; exact this
  rcases hsl.2 with h0 | ⟨sbk, so, sarr, sT, sfr, rfl, hsm, hsrow⟩
  · omega
  revert x
  rw [hsv]
  intro x
  clear hsv
  obtain ⟨X, hX1, hX2⟩ := SU_focus hb
  have E1 : Eqv ([(m, monO sb eb mb (.slice (some ⟨sbk, so, none⟩) nst sc) lb nb br ln at_ ru)] :: stR.u 57 :: SU stays :: F :: R) ([(m, monO sb eb mb (.slice (some ⟨sbk, so, none⟩) nst sc) lb nb br ln at_ ru)] :: stR.u 57 :: [(b.blk, b.obj)] :: [(b.cb, b.count.obj ikey ikey)] :: b.r0.u 34 :: b.r1.u 34 :: X :: F :: R) :=
    Eqv.cons _ (Eqv.cons _ (((Eqv.head hX1 _).trans (Eqv.split _ _ _)).trans (b.u_split _)))
  have E2 : Eqv ([(m, monO sb eb mb (.slice (some ⟨sbk, so, none⟩) nst sc) lb nb br ln at_ ru)] :: stR.u 57 :: [(b.blk, b.gone.obj)] :: [(b.cb, b.count.obj ikey ikey)] :: b.r0.u 34 :: b.r1.u 34 :: X :: F :: R) ([(m, monO sb eb mb (.slice (some ⟨sbk, so, none⟩) nst sc) lb nb br ln at_ ru)] :: stR.u 57 :: SU (stays.set bi b.gone) :: F :: R) :=
    Eqv.cons _ (Eqv.cons _ (((b.gone.u_split _).symm.trans (Eqv.split _ _ _).symm).trans (Eqv.head (hX2 b.gone).symm _)))
  rw [St.re_w x E1]
  generalize x.re E1 = x
  obtain ⟨ss, hss⟩ : ∃ ss, stays.set bi b.gone = ss := ⟨_, rfl⟩
  have hssl : ss.length = nst := by rw [← hss, List.length_set]; exact hlen.out
  have hbm : b.gone ∈ ss := by rw [← hss]; exact List.mem_set (List.getElem?_eq_some_iff.1 hb).1 _
  have hpt : ss.map ptrCell = stays.map ptrCell := by
    rw [← hss, List.map_set]
    apply List.ext_getElem?
    intro i
    rw [List.getElem?_set]
    split
    · rename_i h; subst h
      split
      · rw [List.getElem?_map, hb]; rfl
      · rename_i h; rw [List.getElem?_eq_none]; simpa using h
    · rfl
  have hokss : ∀ s ∈ ss, s.ok F := by
    intro s hs
    rw [← hss] at hs
    rcases List.mem_or_eq_of_mem_set hs with h | h
    · exact hok s h
    · subst h
      have := hok b (List.mem_of_getElem? hb)
      exact ⟨this.k0, this.k1, this.few, this.msgs, this.tr⟩
  haveI hS : ∀ {L R : Units} [Unit_ L (stR.u 57) R], Has L sbk (.cells sarr sT sfr) := fun {L R} h => ⟨h.ok.mem_iff.2 (by simp [hsm])⟩
  have hptr : ∀ k o, ss[k]? = some o → sarr[so + k]? = some (.pointer (some ⟨o.blk, 0, none⟩)) := fun k o h => by
    have := hsrow k (ptrCell o) (by rw [← hpt]; simp [h]) 0 _ rfl
    simpa using this
  have hin : ∀ s ∈ ss, ∀ p ∈ s.u, ∀ {L R : Units} [Unit_ L (SU ss) R], p ∈ L.flatten := fun s hs p hp {L R} h => h.ok.mem_iff.2 (by simp [mem_SU hs hp])
  rw [hss] at E2 ⊢
  have HSS := Lib.hid hssl
  have HB := Lib.hid hbm
  have HOK := Lib.hid hokss
  have HPT := Lib.hid hptr
  have HIN := Lib.hid @hin
  clear hssl hbm hokss hptr hin hss hpt hsrow hsl hX1 hX2 hst hok hsm E1
  go_enter Try.func33, Try.ntmps33
  go_wp2_with ((with_reducible refine at_store ?_); refine wpList_store1 rfl (by simp [go_sem]; rfl) rfl rfl rfl (by simp only [List.setIfInBounds_toArray, List.set_cons_succ, List.set_cons_zero]; rfl) (by simp) ?_; intro y)
  go_loopw [15] (fun v wr => ClInv sb eb mb lb nb m (.slice (some ⟨sbk, so, none⟩) nst sc) nst br ln at_ ru b.gone.abs (ss.map GStay.abs) (stR.u 57 :: SU ss :: F :: R) v wr) (fun v _ => nst - (intOf v).toNat)
  case atStart => exact ⟨0, br, by omega, rfl, rfl, y.re E2, rfl⟩
  case round =>
    clear y E2
    obtain ⟨k, br', hk, rfl, hcl, y, rfl⟩ := hrel
    by_cases hlt : k < nst
    · obtain ⟨o, ho⟩ : ∃ o, ss[k]? = some o := ⟨ss[k]'(by rw [HSS.out]; exact hlt), List.getElem?_eq_getElem _⟩
      have hop := HPT.out k o ho
      have hom : o ∈ ss := List.mem_of_getElem? ho
      haveI hO : ∀ {L R : Units} [Unit_ L (SU ss) R], Has L o.blk o.obj := fun {L R} h => ⟨HIN.out o hom (o.blk, o.obj) (by simp [GStay.u])⟩
      haveI hBB : ∀ {L R : Units} [Unit_ L (SU ss) R], Has L b.blk (stayO b.proc b.epoch b.rep b.members (b.r0.val b.m0.length) (b.r1.val b.m1.length) b.cb (b.tr.map (·.1)) true) := fun {L R} h => ⟨HIN.out b.gone HB.out (b.blk, b.gone.obj) (by simp [GStay.u, GStay.gone])⟩
      have hd : (ss.map GStay.abs).drop k = o.abs :: (ss.map GStay.abs).drop (k + 1) := by
        have h1 : (ss.map GStay.abs)[k]? = some o.abs := by simp [ho]
        obtain ⟨h2, h3⟩ := List.getElem?_eq_some_iff.1 h1
        rw [List.drop_eq_getElem_cons h2, h3]
      rw [hd] at hcl
      have hcl' : closeB b.gone.abs (ss.map GStay.abs) br = closeB b.gone.abs ((ss.map GStay.abs).drop (k + 1)) (closeStep b.gone.abs br' o.abs) := hcl
      have HC := Lib.hid hcl'
      clear hcl hcl' hd ho
      have hne : Nonempty (St ([(m, monO sb eb mb (.slice (some ⟨sbk, so, none⟩) nst sc) lb nb br' ln at_ ru)] :: stR.u 57 :: SU ss :: F :: R)) := ⟨y⟩
      cases hcf : confEq o.epoch o.rep b.epoch b.rep
      · have HS : Hid (closeStep b.gone.abs br' o.abs = br') := Lib.hid (closeStep_no (confEq_false.1 hcf))
        go_wp2_with fail
        refine wp_region_st (by kernel_rfl) (by kernel_rfl) ?_
        repeat (go_big_quiet_step (fail))
        refine wpQuiet_nil ?_
        intro z
        go_wp2_with fail
        go_roundw
        case rel => exact ⟨k + 1, br', by omega, by go_num, by have h_ := HC.out; rw [HS.out] at h_; exact h_, z, rfl⟩
        case measure => simp [intOf]; omega
      · have hoko := HOK.out o hom
        have hokb := HOK.out b.gone HB.out
        obtain ⟨oa0, oc0, e0, s0⟩ := o.r0.val_slice hoko.k0 34
        obtain ⟨oa1, oc1, e1, s1⟩ := o.r1.val_slice hoko.k1 34
        obtain ⟨ba0, bc0, f0, t0⟩ := b.gone.r0.val_slice hokb.k0 34
        obtain ⟨ba1, bc1, f1, t1⟩ := b.gone.r1.val_slice hokb.k1 34
        rw [List.length_map] at e0 s0 e1 s1 f0 t0 f1 t1
        have s0' : SlIn (SU ss) oa0 o.m0.length 6 (o.m0.map GM.cells) := s0.mono fun p hp => mem_SU hom (by simp [GStay.u, hp])
        have s1' : SlIn (SU ss) oa1 o.m1.length 6 (o.m1.map GM.cells) := s1.mono fun p hp => mem_SU hom (by simp [GStay.u, hp])
        have t0' : SlIn (SU ss) ba0 b.gone.m0.length 6 (b.gone.m0.map GM.cells) := t0.mono fun p hp => mem_SU HB.out (by simp [GStay.u, hp])
        have t1' : SlIn (SU ss) ba1 b.gone.m1.length 6 (b.gone.m1.map GM.cells) := t1.mono fun p hp => mem_SU HB.out (by simp [GStay.u, hp])
        have S0 := Lib.hid s0'
        have S1 := Lib.hid s1'
        have T0 := Lib.hid t0'
        have T1 := Lib.hid t1'
        have HKO := Lib.hid hoko
        have HKB := Lib.hid hokb
        have f0' : b.r0.val b.m0.length = .slice ba0 b.m0.length bc0 := f0
        have f1' : b.r1.val b.m1.length = .slice ba1 b.m1.length bc1 := f1
        haveI hBB2 : ∀ {L R : Units} [Unit_ L (SU ss) R], Has L b.blk (stayO b.proc b.epoch b.rep b.members (.slice ba0 b.m0.length bc0) (.slice ba1 b.m1.length bc1) b.cb (b.tr.map (·.1)) true) := fun {L R} h => by rw [← f0', ← f1']; exact hBB
        clear s0' s1' t0' t1' s0 s1 t0 t1 hoko hokb
        have hcf' := confEq_iff.1 hcf
        have HCF := Lib.hid hcf'
        clear hcf'
        rcases ht : o.tr with _ | ⟨tb, te⟩
        · have HS : ∀ br1, owesB (hasB o.members b.proc) b.gone.abs.all br' o.abs.p0 = br1 → closeStep b.gone.abs br' o.abs = br1 := fun br1 h => by
            rw [closeStep_none HCF.out (by simp [GStay.abs, ht])]; exact h
          have HSS2 := Lib.hid HS
          clear HS
          go_wp2_with fail
          refine wp_region_st (by kernel_rfl) (by kernel_rfl) ?_
          repeat (go_big_quiet_step (fail))
          refine wpQuiet_nil ?_
          intro z
          go_wp2_with fail
          refine wp_region_st_tail 12 (by kernel_rfl) (by kernel_rfl) ?_
          simp only [List.take_succ_cons, List.take_zero, List.drop_succ_cons, List.drop_zero]
          repeat (go_big_quiet_step (fail))
          refine wpQuiet_nil ?_
          intro z1
          go_wp2_with (go_at_call 38; go_must (refine (owes38 (F := F) (U1 := SU ss) (U2 := SU ss) (U3 := SU ss) b.blk b.m0.length b.m1.length bc0 bc1 b.cb o.m0.length oc0 b.proc b.epoch b.rep b.members o.members _ true ba0 ba1 oa0 b.m0 b.m1 o.m0 b.gone.abs.all o.abs.p0 (Lib.hid (by simp [GStay.abs, AStay.all, GStay.gone])) (Lib.hid rfl) T0.out T1.out S0.out HKB.out.few (by have := HKO.out.few; omega) HKB.out.msgs (fun g hg => HKO.out.msgs g (by simp [hg])) _ _).mono ?_); rintro e w' ⟨rfl, y, rfl⟩; have hne2 : Nonempty (St _) := ⟨y⟩)
          cases hpq : sameP o.blk b.blk
          · cases hwe : o.went
            all_goals (cases hpr : (o.proc == b.proc))
            all_goals as_aux_lemma =>
              go_wp2_with fail
              refine wp_region_st (by kernel_rfl) (by kernel_rfl) ?_
              repeat (go_big_quiet_step (fail))
              refine wpQuiet_nil ?_
              intro z2
              go_wp2_with fail
              go_roundw
              case rel => exact ⟨k + 1, _, by omega, by go_num, by have h_ := HC.out; rw [HSS2.out _ rfl] at h_; exact h_, toSt z2⟩
              case measure => simp [intOf]; omega
          · as_aux_lemma =>
              go_wp2_with fail
              refine wp_region_st (by kernel_rfl) (by kernel_rfl) ?_
              repeat (go_big_quiet_step (fail))
              refine wpQuiet_nil ?_
              intro z2
              go_wp2_with fail
              go_roundw
              case rel => exact ⟨k + 1, _, by omega, by go_num, by have h_ := HC.out; rw [HSS2.out _ rfl] at h_; exact h_, toSt z2⟩
              case measure => simp [intOf]; omega
        · have htm := HKO.out.tr tb te ht
          haveI hTB : ∀ {L R : Units} [Unit_ L F R], Has L tb (evO te) := fun {L R} h => ⟨h.ok.mem_iff.2 (by simp [htm])⟩
          clear htm
          go_wp2_with fail
          refine wp_region_st (by kernel_rfl) (by kernel_rfl) ?_
          repeat (go_big_quiet_step (fail))
          refine wpQuiet_nil ?_
          intro z
          go_wp2_with fail
          refine wp_region_st_tail 12 (by kernel_rfl) (by kernel_rfl) ?_
          simp only [List.take_succ_cons, List.take_zero, List.drop_succ_cons, List.drop_zero]
          repeat (go_big_quiet_step (fail))
          refine wpQuiet_nil ?_
          intro z1
          go_wp2_with (go_at_call 38; go_must (refine (owes38 (F := F) (U1 := SU ss) (U2 := SU ss) (U3 := SU ss) b.blk b.m0.length b.m1.length bc0 bc1 b.cb o.m0.length oc0 b.proc b.epoch b.rep b.members o.members _ true ba0 ba1 oa0 b.m0 b.m1 o.m0 b.gone.abs.all o.abs.p0 (Lib.hid (by simp [GStay.abs, AStay.all, GStay.gone])) (Lib.hid rfl) T0.out T1.out S0.out HKB.out.few (by have := HKO.out.few; omega) HKB.out.msgs (fun g hg => HKO.out.msgs g (by simp [hg])) _ _).mono ?_); rintro e w' ⟨rfl, y, rfl⟩; have hne2 : Nonempty (St _) := ⟨y⟩)
          refine wp_region_st_tail 15 (by kernel_rfl) (by kernel_rfl) ?_
          simp only [List.take_succ_cons, List.take_zero, List.drop_succ_cons, List.drop_zero]
          repeat (go_big_quiet_step (fail))
          refine wpQuiet_nil ?_
          intro z2
          go_wp2_with (go_at_call 38; go_must (refine (owes38 (F := F) (U1 := SU ss) (U2 := SU ss) (U3 := SU ss) b.blk b.m0.length b.m1.length bc0 bc1 b.cb o.m1.length oc1 b.proc b.epoch b.rep b.members te.members _ true ba0 ba1 oa1 b.m0 b.m1 o.m1 b.gone.abs.all o.abs.p1 (Lib.hid (by simp [GStay.abs, AStay.all, GStay.gone])) (Lib.hid rfl) T0.out T1.out S1.out HKB.out.few (by have := HKO.out.few; omega) HKB.out.msgs (fun g hg => HKO.out.msgs g (by simp [hg])) _ _).mono ?_); rintro e w' ⟨rfl, y, rfl⟩; have hne3 : Nonempty (St _) := ⟨y⟩)
          have HT : Hid (o.abs.tr = some ⟨te.nepoch, te.nrep, te.members⟩) := Lib.hid (by simp [GStay.abs, ht])
          cases hpq : sameP o.blk b.blk
          · cases hwe : o.went
            · as_aux_lemma =>
                have HSK : Hid (skipB o.abs b.gone.abs = true) := Lib.hid (by simp [skipB, GStay.abs, hwe])
                go_wp2_with fail
                refine wp_region_st (by kernel_rfl) (by kernel_rfl) ?_
                repeat (go_big_quiet_step (fail))
                refine wpQuiet_nil ?_
                intro z3
                go_wp2_with fail
                go_roundw
                case rel => exact ⟨k + 1, _, by omega, by go_num, by have h_ := HC.out; rw [closeStep_skip HCF.out HT.out HSK.out] at h_; exact h_, z3, rfl⟩
                case measure => simp [intOf]; omega
            · cases hpr : (o.proc == b.proc)
              · rcases hbt : b.tr with _ | ⟨ub, ue⟩
                · as_aux_lemma =>
                    have HSK : Hid (skipB o.abs b.gone.abs = true) := Lib.hid (by simp [skipB, GStay.abs, GStay.gone, hbt])
                    go_wp2_with fail
                    refine wp_region_st (by kernel_rfl) (by kernel_rfl) ?_
                    repeat (go_big_quiet_step (fail))
                    refine wpQuiet_nil ?_
                    intro z3
                    go_wp2_with fail
                    go_roundw
                    case rel => exact ⟨k + 1, _, by omega, by go_num, by have h_ := HC.out; rw [closeStep_skip HCF.out HT.out HSK.out] at h_; exact h_, z3, rfl⟩
                    case measure => simp [intOf]; omega
                · have hum := HKB.out.tr ub ue hbt
                  haveI hUB : ∀ {L R : Units} [Unit_ L F R], Has L ub (evO ue) := fun {L R} h => ⟨h.ok.mem_iff.2 (by simp [hum])⟩
                  clear hum
                  cases hcc : confEq te.nepoch te.nrep ue.nepoch ue.nrep
                  · as_aux_lemma =>
                      have HSK : Hid (skipB o.abs b.gone.abs = true) := Lib.hid (by simp [skipB, GStay.abs, GStay.gone, hbt, ht, hcc])
                      go_wp2_with fail
                      refine wp_region_st (by kernel_rfl) (by kernel_rfl) ?_
                      repeat (go_big_quiet_step (fail))
                      refine wpQuiet_nil ?_
                      intro z3
                      go_wp2_with fail
                      go_roundw
                      case rel => exact ⟨k + 1, _, by omega, by go_num, by have h_ := HC.out; rw [closeStep_skip HCF.out HT.out HSK.out] at h_; exact h_, z3, rfl⟩
                      case measure => simp [intOf]; omega
                  · have HSK : Hid (skipB o.abs b.gone.abs = false) := Lib.hid (by
                      simp at hpr
                      simp [skipB, GStay.abs, GStay.gone, hbt, ht, hwe, hpr, hcc, hcf])
                    go_wp2_with fail
                    refine wp_region_st (by kernel_rfl) (by kernel_rfl) ?_
                    repeat (go_big_quiet_step (fail))
                    refine wpQuiet_nil ?_
                    intro z3
                    go_wp2_with fail
                    cases hmm : (te.members == ue.members)
                    · as_aux_lemma =>
                        have hmn : (te.members != ue.members) = true := by simp only [bne, hmm, Bool.not_false]
                        have HUL : Hid (unlikeB o.abs b.gone.abs = true) := Lib.hid (by simp only [unlikeB, GStay.abs, GStay.gone, hbt, ht, Option.map_some, hmm, Bool.false_and, Bool.not_false])
                        refine wp_region_st_tail 44 (by kernel_rfl) (by kernel_rfl) ?_
                        simp only [List.take_succ_cons, List.take_zero, List.drop_succ_cons, List.drop_zero]
                        repeat (go_big_quiet_step (first | with_reducible rfl | ((with_reducible show Calls Try.prog 46 #[.slice oa0 o.m0.length oc0, _, _] _ _); exact equalFunc46' (F := F) (U := SU ss) (U' := SU ss) oa0 ba0 o.m0.length b.m0.length oc0 bc0 o.m0 b.m0 S0.out T0.out (by have := HKO.out.few; omega) (fun g hg => HKO.out.msgs g (by simp [hg])) (fun g hg => HKB.out.msgs g (by simp [GStay.gone, hg])) _) | exact equalFunc46' (F := F) (U := SU ss) (U' := SU ss) oa1 ba1 o.m1.length b.m1.length oc1 bc1 o.m1 b.m1 S1.out T1.out (by have := HKO.out.few; omega) (fun g hg => HKO.out.msgs g (by simp [hg])) (fun g hg => HKB.out.msgs g (by simp [GStay.gone, hg])) _))
                        refine wpQuiet_nil ?_
                        intro z4
                        go_wp2_with (go_at_call 20; refine (breaks_spec _ _ _).mono ?_; rintro e w' ⟨rfl, y, rfl⟩)
                        go_roundw
                        case rel => exact ⟨k + 1, _, by omega, by go_num, by have h_ := HC.out; rw [closeStep_go HCF.out HT.out HSK.out, HUL.out] at h_; exact h_, y, rfl⟩
                        case measure => simp [intOf]; omega
                    · have hmn : (te.members != ue.members) = false := by simp only [bne, hmm, Bool.not_true]
                      cases h0 : eqMgs (o.m0.map GM.mg) (b.m0.map GM.mg)
                      · as_aux_lemma =>
                          have HUL : Hid (unlikeB o.abs b.gone.abs = true) := Lib.hid (by simp only [unlikeB, GStay.abs, GStay.gone, hbt, ht, Option.map_some, hmm, h0, Bool.true_and, Bool.false_and, Bool.not_false])
                          refine wp_region_st_tail 44 (by kernel_rfl) (by kernel_rfl) ?_
                          simp only [List.take_succ_cons, List.take_zero, List.drop_succ_cons, List.drop_zero]
                          repeat (go_big_quiet_step (first | with_reducible rfl | ((with_reducible show Calls Try.prog 46 #[.slice oa0 o.m0.length oc0, _, _] _ _); exact equalFunc46' (F := F) (U := SU ss) (U' := SU ss) oa0 ba0 o.m0.length b.m0.length oc0 bc0 o.m0 b.m0 S0.out T0.out (by have := HKO.out.few; omega) (fun g hg => HKO.out.msgs g (by simp [hg])) (fun g hg => HKB.out.msgs g (by simp [GStay.gone, hg])) _) | exact equalFunc46' (F := F) (U := SU ss) (U' := SU ss) oa1 ba1 o.m1.length b.m1.length oc1 bc1 o.m1 b.m1 S1.out T1.out (by have := HKO.out.few; omega) (fun g hg => HKO.out.msgs g (by simp [hg])) (fun g hg => HKB.out.msgs g (by simp [GStay.gone, hg])) _))
                          refine wpQuiet_nil ?_
                          intro z4
                          go_wp2_with (go_at_call 20; refine (breaks_spec _ _ _).mono ?_; rintro e w' ⟨rfl, y, rfl⟩)
                          go_roundw
                          case rel => exact ⟨k + 1, _, by omega, by go_num, by have h_ := HC.out; rw [closeStep_go HCF.out HT.out HSK.out, HUL.out] at h_; exact h_, y, rfl⟩
                          case measure => simp [intOf]; omega
                      · as_aux_lemma =>
                          have HUL : Hid (unlikeB o.abs b.gone.abs = !eqMgs (o.m1.map GM.mg) (b.m1.map GM.mg)) := Lib.hid (by simp only [unlikeB, GStay.abs, GStay.gone, hbt, ht, Option.map_some, hmm, h0, Bool.true_and])
                          refine wp_region_st_tail 44 (by kernel_rfl) (by kernel_rfl) ?_
                          simp only [List.take_succ_cons, List.take_zero, List.drop_succ_cons, List.drop_zero]
                          repeat (go_big_quiet_step (first | with_reducible rfl | ((with_reducible show Calls Try.prog 46 #[.slice oa0 o.m0.length oc0, _, _] _ _); exact equalFunc46' (F := F) (U := SU ss) (U' := SU ss) oa0 ba0 o.m0.length b.m0.length oc0 bc0 o.m0 b.m0 S0.out T0.out (by have := HKO.out.few; omega) (fun g hg => HKO.out.msgs g (by simp [hg])) (fun g hg => HKB.out.msgs g (by simp [GStay.gone, hg])) _) | exact equalFunc46' (F := F) (U := SU ss) (U' := SU ss) oa1 ba1 o.m1.length b.m1.length oc1 bc1 o.m1 b.m1 S1.out T1.out (by have := HKO.out.few; omega) (fun g hg => HKO.out.msgs g (by simp [hg])) (fun g hg => HKB.out.msgs g (by simp [GStay.gone, hg])) _))
                          refine wpQuiet_nil ?_
                          intro z4
                          go_wp2_with (go_at_call 20; refine (breaks_spec _ _ _).mono ?_; rintro e w' ⟨rfl, y, rfl⟩)
                          go_roundw
                          case rel => exact ⟨k + 1, _, by omega, by go_num, by have h_ := HC.out; rw [closeStep_go HCF.out HT.out HSK.out, HUL.out] at h_; exact h_, y, rfl⟩
                          case measure => simp [intOf]; omega
              · as_aux_lemma =>
                  have HSK : Hid (skipB o.abs b.gone.abs = true) := Lib.hid (by simp at hpr; simp [skipB, GStay.abs, GStay.gone, hpr])
                  go_wp2_with fail
                  refine wp_region_st (by kernel_rfl) (by kernel_rfl) ?_
                  repeat (go_big_quiet_step (fail))
                  refine wpQuiet_nil ?_
                  intro z3
                  go_wp2_with fail
                  go_roundw
                  case rel => exact ⟨k + 1, _, by omega, by go_num, by have h_ := HC.out; rw [closeStep_skip HCF.out HT.out HSK.out] at h_; exact h_, z3, rfl⟩
                  case measure => simp [intOf]; omega
          · as_aux_lemma =>
              have HSK : Hid (skipB o.abs b.gone.abs = true) := Lib.hid (by
                have he : o.blk = b.blk := by simpa [sameP] using hpq
                have h1 : z.w.heap[o.blk]? = some o.obj := z.heap
                have h2 : z.w.heap[b.blk]? = some (stayO b.proc b.epoch b.rep b.members (.slice ba0 b.m0.length bc0) (.slice ba1 b.m1.length bc1) b.cb (b.tr.map (·.1)) true) := z.heap
                rw [he, h2] at h1
                have h3 := Option.some.inj h1
                simp only [Obj.cells.injEq, Array.mk.injEq, List.cons.injEq, Value.int.injEq] at h3
                have h4 : o.proc = b.proc := h3.1.1.2.symm
                simp [skipB, GStay.abs, GStay.gone, h4])
              go_wp2_with fail
              refine wp_region_st (by kernel_rfl) (by kernel_rfl) ?_
              repeat (go_big_quiet_step (fail))
              refine wpQuiet_nil ?_
              intro z3
              go_wp2_with fail
              go_roundw
              case rel => exact ⟨k + 1, _, by omega, by go_num, by have h_ := HC.out; rw [closeStep_skip HCF.out HT.out HSK.out] at h_; exact h_, z3, rfl⟩
              case measure => simp [intOf]; omega
    · have hkn : k = nst := by omega
      have e : (ss.map GStay.abs).drop k = [] := by rw [List.drop_eq_nil_iff, List.length_map, HSS.out]; omega
      rw [e] at hcl
      have HI := Lib.hid hcl
      clear hcl e
      go_wp2_with fail
      go_end0
      have e2 : closeB b.gone.abs (ss.map GStay.abs) br = br' := HI.out
      rw [e2]
      exact Ret.fin _ rfl
end Go.Proofs.Ythijlgjfgliinaa
end
section
/- A process comes into a configuration. -/
set_option linter.all false
namespace Go.Proofs.Ythijlgjfgliinaa
open Go.RowKit
variable [Env]
set_option maxRecDepth 100000

theorem look_members {L : Units} (r : Nat) (g : GMap (Int × Int) Int) (v : Option Int) (a b : Int) (hv : g.get (a, b) = v) [h : Has L r (g.obj confKey setV)] (x : St L) : (Instr.lookup 47 (.map (some r)) (.agg #[.int .u64 a, .int .i64 b]) true).run Try.prog x.w = .ok (.tuple #[.int .u64 (v.getD 0), .bool v.isSome]) x.w := by
  have := run_lookup_g (P := Try.prog) KL30 (T := 47) (et := 60) (z := .int .u64 0) Try.underlying47 (fun w => by simp [go_sem]) g (St.heap (h := h) x) (a, b) true
  rw [this, hv]
  cases v <;> rfl
theorem upd_members {L M : Units} (r : Nat) (g : GMap (Int × Int) Int) (a b v : Int) [h : Has L r (g.obj confKey setV)] [Lay L r ((g.put (a, b) v).obj confKey setV) M] (x : St L) : (Instr.mapUpdate 47 (.map (some r)) (.agg #[.int .u64 a, .int .i64 b]) (.int .u64 v)).run Try.prog x.w = .ok () (x.lay r ((g.put (a, b) v).obj confKey setV)).w :=
  run_mapUpdate_g (P := Try.prog) KL30 (T := 47) (et := 60) Try.underlying47 g (St.heap (h := h) x) (a, b) v
theorem upd_now {L M : Units} (r : Nat) (g : GMap Int Nat) (a : Int) (v : Nat) [h : Has L r (g.obj ikey pval)] [Lay L r ((g.put a v).obj ikey pval) M] (x : St L) : (Instr.mapUpdate 52 (.map (some r)) (.int .i64 a) (.pointer (some ⟨v, 0, none⟩))).run Try.prog x.w = .ok () (x.lay r ((g.put a v).obj ikey pval)).w :=
  run_mapUpdate_g (P := Try.prog) KL3 (T := 52) (et := 57) Try.underlying52 g (St.heap (h := h) x) a v

theorem Try.info57 : (Try.prog.info? 57).map (fun i => (i.zero, i.size, i.bytes)) = some (some (.pointer none), 1, 8) := by kernel_rfl
theorem _root_.Go.Row.one_cell (r : Row) (n : Nat) : (r.val n).oneCell' = true := by
  unfold Row.val
  split <;> rfl
def toldB (told : Option Int) (mem : Int) : Bool := match told with | some t => t != mem | none => false
def twiceB (e r p : Int) (o : GStay) : Bool := confEq o.epoch o.rep e r && o.proc == p
def twiceF (e r p : Int) (l : List GStay) (br : Int) : Int := l.foldl (fun br o => brk br 1 (twiceB e r p o)) br
section
variable {m sb eb mb lb nb : Nat} {br ln at_ ru : Int}
/-- What of the memory a new stay reaches. -/
abbrev RegL (F : Blocks) (m sb eb mb lb nb : Nat) (br ln at_ ru : Int) (stR : Row) (sv : Value) (stays : List GStay) (mem : GMap (Int × Int) Int) (lv : GMap Int Bool) (nw : GMap Int Nat) (R : Units) : Units :=
  [(m, monO sb eb mb sv lb nb br ln at_ ru)] :: [(mb, mem.obj confKey setV)] :: [(lb, lv.obj ikey bval)] :: [(nb, nw.obj ikey pval)] :: stR.u 57 :: SU stays :: F :: R

/-- May a stay with this way on be left for the configuration of the event? Not so. -/
def leaveB (tr : Option (Nat × Ev)) (e : Ev) : Bool := match tr with
  | none => true
  | some t => !confEq t.2.nepoch t.2.nrep e.epoch e.rep || (!inB t.2.members e.members || !hasB t.2.members e.proc)
/-- The block of a new stay. -/
abbrev stay0 (e : Ev) (cb : Nat) : Obj := .cells #[.int .i64 e.proc, .int .u64 e.epoch, .int .i64 e.rep, .int .u64 e.members, .slice none 0 0, .slice none 0 0, .map (some cb), .pointer none, .bool false] 66
def GStay.fresh (blk cb : Nat) (e : Ev) : GStay := ⟨blk, e.proc, e.epoch, e.rep, e.members, Row.nil, Row.nil, [], [], cb, GMap.empty Int Int, none, false⟩
theorem SU_push (l : List GStay) (sbk cb : Nat) (e : Ev) (L : Units) : Eqv (SU l :: [(sbk, stay0 e cb)] :: [(cb, (GMap.empty Int Int).obj ikey ikey)] :: L) (SU (l ++ [GStay.fresh sbk cb e]) :: L) := by
  unfold Eqv SU
  simp [GStay.u, GStay.fresh, Row.u, Row.nil, Row.val]
  exact List.Perm.refl _
theorem SlIn.one57 (pb : Nat) (v : Value) (T : TypeId) : SlIn [(pb, .cells #[v] T)] (some ⟨pb, 0, none⟩) 1 1 [[v]] := by
  refine ⟨rfl, .inr ⟨pb, 0, #[v], T, (0, 0), rfl, by simp, fun i c hc j w hw => ?_⟩⟩
  have hi : i = 0 := by have := (List.getElem?_eq_some_iff.1 hc).1; simpa using this
  subst hi
  simp only [List.getElem?_cons_zero, Option.some.injEq] at hc
  subst hc
  have hj : j = 0 := by have := (List.getElem?_eq_some_iff.1 hw).1; simpa using this
  subst hj
  simpa using hw
def reg1 (br : Int) (e : Ev) (lvv : Bool) (told : Option Int) (stays : List GStay) : Int := twiceF e.epoch e.rep e.proc stays (brk (brk br 1 (!lvv || !hasB e.members e.proc)) 1 (toldB told e.members))
def reg2 (br : Int) (e : Ev) (lvv : Bool) (told : Option Int) (stays : List GStay) (b : GStay) : Int :=
  brk (brk (reg1 br e lvv told stays) 1 (decide (ord2 e.epoch e.rep b.epoch b.rep ≤ 0))) 1 (leaveB b.tr e)
def RegRet (F : Blocks) (m sb eb mb lb nb : Nat) (br' ln at_ ru : Int) (e : Ev) (nst : Nat) (stays' : List GStay) (mem : GMap (Int × Int) Int) (lv : GMap Int Bool) (nw : GMap Int Nat) (R : Units) (en : Ending) (w' : World) : Prop :=
  en = .returned (.tuple #[]) ∧ ∃ (stR' : Row) (sbk cb : Nat), RowOk stR' 1 ((stays' ++ [GStay.fresh sbk cb e]).map ptrCell) ∧
    ∃ y : St (RegL F m sb eb mb lb nb br' ln at_ ru stR' (stR'.val (nst + 1)) (stays' ++ [GStay.fresh sbk cb e]) (mem.put (e.epoch, e.rep) e.members) lv (nw.put e.proc sbk) R), w' = y.w
def TwInv (xb sbk cb : Nat) (F : Blocks) (m sb eb mb lb nb : Nat) (ln at_ ru : Int) (e : Ev) (stR : Row) (sv : Value) (nst : Nat) (stays : List GStay) (b1 : Int) (mem : GMap (Int × Int) Int) (lv : GMap Int Bool) (nw : GMap Int Nat) (R : Units) (v : Value) (w : World) : Prop :=
  ∃ (k : Nat) (br' : Int), k ≤ nst ∧ v = .int .i64 k ∧ twiceF e.epoch e.rep e.proc stays b1 = twiceF e.epoch e.rep e.proc (stays.drop k) br' ∧ ∃ y : St ([(sbk, stay0 e cb)] :: [(cb, (GMap.empty Int Int).obj ikey ikey)] :: [(xb, evO e)] :: RegL F m sb eb mb lb nb br' ln at_ ru stR sv stays mem lv nw R), w = y.w
set_option maxHeartbeats 4000000 in
theorem regular_none {F : Blocks} (e : Ev) (stR : Row) (stays : List GStay) (mem : GMap (Int × Int) Int) (lv : GMap Int Bool) (nw : GMap Int Nat) (lvv : Bool) (hlv : (lv.get e.proc).getD false = lvv) (told : Option Int) (htold : mem.get (e.epoch, e.rep) = told)
    (hnw : nw.get e.proc = none) (hst : RowOk stR 1 (stays.map ptrCell)) (nst : Nat) (hlen : Hid (stays.length = nst)) (hn : nst ≤ 1000)
    {R : Units} (x : St (RegL F m sb eb mb lb nb br ln at_ ru stR (stR.val nst) stays mem lv nw R)) :
    Calls Try.prog 16 #[.pointer (some ⟨m, 0, none⟩), evV e] x.w (RegRet F m sb eb mb lb nb (reg1 br e lvv told stays) ln at_ ru e nst stays mem lv nw R) := by
  have h1 := fun {L : Units} [Has L lb (lv.obj ikey bval)] (x : St L) => look_live lb lv _ e.proc hlv x
  have h2 := fun {L : Units} [Has L mb (mem.obj confKey setV)] (x : St L) => look_members mb mem _ e.epoch e.rep htold x
  have h3 := fun {L M : Units} [Has L mb (mem.obj confKey setV)] [Lay L mb ((mem.put (e.epoch, e.rep) e.members).obj confKey setV) M] (x : St L) => upd_members mb mem e.epoch e.rep e.members x
  have h4 := fun {L : Units} [Has L nb (nw.obj ikey pval)] (x : St L) => look_now nb nw _ e.proc hnw x
  obtain ⟨sa, sc, hsv, hsl⟩ := stR.val_slice hst 57
  rw [show (stays.map ptrCell).length = nst by simp [hlen.out]] at hsv hsl
  revert x
  rw [hsv]
  intro x
  have HSV := Lib.hid hsv
  have HSL := Lib.hid hsl
  have HST := Lib.hid hst
  clear hlv htold hsv hsl hst hnw
  go_enter Try.func16, Try.ntmps16
  go_upto_region 2 with (first | ((with_reducible refine wpList_box_st (T := 39) (by simp [go_sem]; rfl) ?_); intro xb y0) | ((with_reducible refine wpList_makeMap_st ikey ikey ?_); intro cb y1) | ((with_reducible refine wpList_box_st (T := 66) (by simp [go_sem]; rfl) ?_); intro sbk y))
  go_cut [] (fun wx => ∃ b2, b2 = brk br 1 (!lvv || !hasB e.members e.proc) ∧ ∃ y : St ([(sbk, stay0 e cb)] :: [(cb, (GMap.empty Int Int).obj ikey ikey)] :: [(xb, evO e)] :: RegL F m sb eb mb lb nb b2 ln at_ ru stR (.slice sa nst sc) stays mem lv nw R), wx = y.w)
  case first =>
    have hne : Nonempty (St _) := ⟨y⟩
    cases lvv
    all_goals
      refine wp_region_st_tail 19 (by kernel_rfl) (by kernel_rfl) ?_
      simp only [List.take_succ_cons, List.take_zero, List.drop_succ_cons, List.drop_zero]
      repeat (go_big_quiet_step (exact has_spec _ _ _))
      refine wpQuiet_nil ?_
      intro z
      go_wp2_with (go_at_call 20; refine (breaks_spec _ _ _).mono ?_; rintro e w' ⟨rfl, y, rfl⟩)
      go_meet
      first | exact ⟨brk br 1 true, rfl, toSt y⟩ | exact ⟨brk br 1 (!hasB e.members e.proc), rfl, toSt y⟩
  case rest =>
    clear y y0 y1
    obtain ⟨b2, hb2, y, rfl⟩ := hcut
    have HB2 := Lib.hid hb2
    clear hb2
    have hne : Nonempty (St _) := ⟨y⟩
    go_wp2_with fail
    refine wp_region_st (by kernel_rfl) (by kernel_rfl) ?_
    repeat (go_big_quiet_step (fail))
    refine wpQuiet_nil ?_
    intro z
    clear y hne h2
    go_upto_region 4 with fail
    go_cut [] (fun wx => ∃ b3, b3 = brk b2 1 (toldB told e.members) ∧ ∃ y : St ([(sbk, stay0 e cb)] :: [(cb, (GMap.empty Int Int).obj ikey ikey)] :: [(xb, evO e)] :: RegL F m sb eb mb lb nb b3 ln at_ ru stR (.slice sa nst sc) stays mem lv nw R), wx = y.w)
    case first =>
      rcases told with _ | t
      · go_wp2_with (go_at_call 20; refine (breaks_spec _ _ _).mono ?_; rintro e w' ⟨rfl, y, rfl⟩)
        go_meet
        exact ⟨brk b2 1 false, rfl, toSt y⟩
      · go_wp2_with (go_at_call 20; refine (breaks_spec _ _ _).mono ?_; rintro e w' ⟨rfl, y, rfl⟩)
        go_meet
        exact ⟨brk b2 1 (t != e.members), rfl, toSt y⟩
    case rest =>
      clear z
      obtain ⟨b3, hb3, y, rfl⟩ := hcut
      have HB3 := Lib.hid hb3
      clear hb3
      have hne : Nonempty (St _) := ⟨y⟩
      go_wp2_with fail
      refine wp_region_st_tail 11 (by kernel_rfl) (by kernel_rfl) ?_
      simp only [List.take_succ_cons, List.take_zero, List.drop_succ_cons, List.drop_zero]
      repeat (go_big_quiet_step (fail))
      refine wpQuiet_nil ?_
      intro z
      clear y hne
      go_wp2_with fail
      go_loopw [78] (fun v wr => TwInv xb sbk cb F m sb eb mb lb nb ln at_ ru e stR (.slice sa nst sc) nst stays b3 (mem.put (e.epoch, e.rep) e.members) lv nw R v wr) (fun v _ => nst - (intOf v).toNat)
      case atStart => exact ⟨0, b3, by omega, rfl, rfl, _, rfl⟩
      case round =>
        clear z
        obtain ⟨k, br', hk, rfl, htw, y, rfl⟩ := hrel
        by_cases hlt : k < nst
        · obtain ⟨o, ho⟩ : ∃ o, stays[k]? = some o := ⟨stays[k]'(by rw [hlen.out]; exact hlt), List.getElem?_eq_getElem _⟩
          rcases HSL.out.2 with h0 | ⟨sbk', so, sarr, sT, sfr, rfl, hsm, hsrow⟩
          · omega
          have hop : sarr[so + k]? = some (.pointer (some ⟨o.blk, 0, none⟩)) := by
            have := hsrow k (ptrCell o) (by simp [ho]) 0 _ rfl
            simpa using this
          haveI hS : ∀ {L R : Units} [Unit_ L (stR.u 57) R], Has L sbk' (.cells sarr sT sfr) := fun {L R} h => ⟨h.ok.mem_iff.2 (by simp [hsm])⟩
          haveI hO : ∀ {L R : Units} [Unit_ L (SU stays) R], Has L o.blk o.obj := fun {L R} h => ⟨h.ok.mem_iff.2 (by simp [mem_SU (List.mem_of_getElem? ho) (show (o.blk, o.obj) ∈ o.u by simp [GStay.u])])⟩
          have hd : stays.drop k = o :: stays.drop (k + 1) := by
            obtain ⟨h2, h3⟩ := List.getElem?_eq_some_iff.1 ho
            rw [List.drop_eq_getElem_cons h2, h3]
          rw [hd] at htw
          have htw' : twiceF e.epoch e.rep e.proc stays b3 = twiceF e.epoch e.rep e.proc (stays.drop (k + 1)) (brk br' 1 (twiceB e.epoch e.rep e.proc o)) := htw
          have HTW := Lib.hid htw'
          clear htw htw' hd ho hsm hsrow
          have hne : Nonempty (St _) := ⟨y⟩
          cases hcf : confEq o.epoch o.rep e.epoch e.rep
          all_goals
            go_wp2_with fail
            refine wp_region_st_tail 21 (by kernel_rfl) (by kernel_rfl) ?_
            simp only [List.take_succ_cons, List.take_zero, List.drop_succ_cons, List.drop_zero]
            repeat (go_big_quiet_step (fail))
            refine wpQuiet_nil ?_
            intro z
            go_wp2_with (go_at_call 20; refine (breaks_spec _ _ _).mono ?_; rintro e w' ⟨rfl, y, rfl⟩)
            go_roundw
            case rel => exact ⟨k + 1, _, by omega, by go_num, by have h_ := HTW.out; simp only [twiceB, hcf, Bool.false_and, Bool.true_and] at h_; exact h_, toSt y⟩
            case measure => simp [intOf]; omega
        · have hkn : k = nst := by omega
          have e1 : stays.drop k = [] := by rw [List.drop_eq_nil_iff, hlen.out]; omega
          rw [e1] at htw
          have HTW := Lib.hid htw
          clear htw e1
          have hne : Nonempty (St _) := ⟨y⟩
          go_wp2_with fail
          refine wp_region_st (by kernel_rfl) (by kernel_rfl) ?_
          repeat (go_big_quiet_step (fail))
          refine wpQuiet_nil ?_
          intro z
          clear y hne h1 h3
          have h5 := fun {L M : Units} [Has L nb (nw.obj ikey pval)] [Lay L nb ((nw.put e.proc sbk).obj ikey pval) M] (x : St L) => upd_now nb nw e.proc sbk x
          go_wp2_with fail
          have hne : Nonempty (St _) := ⟨z⟩
          refine wp_region_st_tail 7 (by kernel_rfl) (by kernel_rfl) ?_
          simp only [List.take_succ_cons, List.take_zero, List.drop_succ_cons, List.drop_zero]
          repeat (go_big_quiet_step (fail))
          refine wpQuiet_nil ?_
          intro z2
          clear z hne
          obtain ⟨i0, hi0, hz0, hz1, hz2⟩ := info_parts Try.info57
          have HLEN : Hid ((stays.map ptrCell).length = nst) := Lib.hid (by simp [hlen.out])
          go_wp2_with (first | ((with_reducible refine wpList_buildSlice_st (by intro w; simp [go_sem]; rfl) ?_); intro pb y) | (at_builtin; refine wpList_append_sl (P := Try.prog) stR (stays.map ptrCell) [[.pointer (some ⟨sbk, 0, none⟩)]] 1 8 57 i0 (.pointer none) Try.underlying48 hi0 hz0 hz1 hz2 rfl [(pb, .cells #[.pointer (some ⟨sbk, 0, none⟩)] 57)] (some ⟨pb, 0, none⟩) 1 1 ?sv rfl HST.out ?nl ?sl ?one ?byt ?le ?k))
          case sv => rw [HLEN.out]; exact HSV.out.symm
          case nl => intro c hc; simp only [List.mem_singleton] at hc; subst hc; rfl
          case sl => exact SlIn.one57 _ _ _
          case one => intro u hu; simp at hu; subst hu; rfl
          case byt => rw [HLEN.out]; omega
          case le => rw [HLEN.out]; omega
          case k =>
            intro r' z3 hok'
            rw [HLEN.out]
            have H1 := r'.one_cell (nst + 1)
            go_wp2_with ((with_reducible refine at_store ?_); refine wpList_store1 (v := r'.val (nst + 1)) rfl rfl H1 rfl rfl (by simp only [List.setIfInBounds_toArray, List.set_cons_succ, List.set_cons_zero]; rfl) (by simp) ?_; intro z4)
            clear z2 z3 y
            go_end0
            have e1 : twiceF e.epoch e.rep e.proc stays b3 = br' := HTW.out
            have e2 : reg1 br e lvv told stays = br' := by rw [← e1, HB3.out, HB2.out]; rfl
            rw [e2]
            refine ⟨rfl, r', sbk, cb, ?_, ?_⟩
            · have : (stays ++ [GStay.fresh sbk cb e]).map ptrCell = stays.map ptrCell ++ [[.pointer (some ⟨sbk, 0, none⟩)]] := by simp [ptrCell, GStay.fresh]
              rw [this]; exact hok'
            · obtain ⟨z5, h5⟩ := toSt (M := [(m, monO sb eb mb (r'.val (nst + 1)) lb nb br' ln at_ ru)] :: [(mb, (mem.put (e.epoch, e.rep) e.members).obj confKey setV)] :: [(lb, lv.obj ikey bval)] :: [(nb, (nw.put e.proc sbk).obj ikey pval)] :: r'.u 57 :: SU stays :: [(sbk, stay0 e cb)] :: [(cb, (GMap.empty Int Int).obj ikey ikey)] :: F :: R) z4
              exact ⟨z5.re (Eqv.cons _ (Eqv.cons _ (Eqv.cons _ (Eqv.cons _ (Eqv.cons _ (SU_push stays sbk cb e _)))))), h5⟩
end
end Go.Proofs.Ythijlgjfgliinaa
end
