/- Part 14 of the proof of what MonJudges says. -/
import Derived.Test.YthijlgjfgliinaaJg10
import Derived.Test.YthijlgjfgliinaaJg13
section
/- A process comes from one configuration into another. -/
set_option linter.all false
namespace Go.Proofs.Ythijlgjfgliinaa
open Go.RowKit
variable [Env]
set_option maxRecDepth 100000
theorem ptr_set {stays : List GStay} {bi : Nat} {b b' : GStay} (hb : stays[bi]? = some b) (h : b'.blk = b.blk := by rfl) : (stays.set bi b').map ptrCell = stays.map ptrCell := by
  rw [List.map_set]
  apply List.ext_getElem?
  intro i
  rw [List.getElem?_set]
  split
  · rename_i h'; subst h'
    split
    · rw [List.getElem?_map, hb]; simp [ptrCell, h]
    · rename_i h; rw [List.getElem?_eq_none]; simpa using h
  · rfl
section
variable {m sb eb mb lb nb : Nat} {br ln at_ ru : Int}
/-- A stay went on; whatever else is known. -/
theorem close33' {F : Blocks} (stR : Row) (stays : List GStay) (bi : Nat) (b : GStay) (hb : stays[bi]? = some b) (hst : RowOk stR 1 (stays.map ptrCell)) (hok : ∀ s ∈ stays, s.ok F) (nst : Nat) (hlen : Hid (stays.length = nst)) (hn : nst ≤ 1000) (sv : Value) (hsv : stR.val nst = sv)
    {L R1 R2 R3 R : Units} [p1 : Pick L m (monO sb eb mb sv lb nb br ln at_ ru) R1] [p2 : Unit_ R1 (stR.u 57) R2] [p3 : Unit_ R2 (SU stays) R3] [p4 : Unit_ R3 F R] (x : St L) :
    Calls Try.prog 33 #[.pointer (some ⟨m, 0, none⟩), .pointer (some ⟨b.blk, 0, none⟩)] x.w
      (Ret ([(m, monO sb eb mb sv lb nb (closeB b.gone.abs ((stays.set bi b.gone).map GStay.abs) br) ln at_ ru)] :: stR.u 57 :: SU (stays.set bi b.gone) :: F :: R) (.tuple #[])) := by
  subst hsv
  have E : Eqv L ([(m, monO sb eb mb (stR.val nst) lb nb br ln at_ ru)] :: stR.u 57 :: SU stays :: F :: R) := p1.ok.trans (Eqv.cons _ (p2.ok.trans (Eqv.cons _ (p3.ok.trans (Eqv.cons _ p4.ok)))))
  rw [St.re_w x E]
  exact close33 stR stays bi b hb hst hok nst hlen hn (x.re E)
set_option maxHeartbeats 4000000 in
theorem regular_some {F : Blocks} (e : Ev) (stR : Row) (stays : List GStay) (mem : GMap (Int × Int) Int) (lv : GMap Int Bool) (nw : GMap Int Nat) (lvv : Bool) (hlv : (lv.get e.proc).getD false = lvv) (told : Option Int) (htold : mem.get (e.epoch, e.rep) = told)
    (bi : Nat) (b : GStay) (hb : stays[bi]? = some b) (hnw : nw.get e.proc = some b.blk) (hok : ∀ s ∈ stays, s.ok F) (hst : RowOk stR 1 (stays.map ptrCell)) (nst : Nat) (hlen : Hid (stays.length = nst)) (hn : nst ≤ 1000)
    {R : Units} (x : St (RegL F m sb eb mb lb nb br ln at_ ru stR (stR.val nst) stays mem lv nw R)) :
    Calls Try.prog 16 #[.pointer (some ⟨m, 0, none⟩), evV e] x.w (RegRet F m sb eb mb lb nb (closeB b.gone.abs ((stays.set bi b.gone).map GStay.abs) (reg2 br e lvv told stays b)) ln at_ ru e nst (stays.set bi b.gone) mem lv nw R) := by
  have h1 := fun {L : Units} [Has L lb (lv.obj ikey bval)] (x : St L) => look_live lb lv _ e.proc hlv x
  have h2 := fun {L : Units} [Has L mb (mem.obj confKey setV)] (x : St L) => look_members mb mem _ e.epoch e.rep htold x
  have h3 := fun {L M : Units} [Has L mb (mem.obj confKey setV)] [Lay L mb ((mem.put (e.epoch, e.rep) e.members).obj confKey setV) M] (x : St L) => upd_members mb mem e.epoch e.rep e.members x
  have h4 := fun {L : Units} [Has L nb (nw.obj ikey pval)] (x : St L) => look_now nb nw _ e.proc hnw x
  obtain ⟨sa, sc, hsv, hsl⟩ := stR.val_slice hst 57
  rw [show (stays.map ptrCell).length = nst by simp [hlen.out]] at hsv hsl
  revert x
  rw [hsv]
  intro x
  have HSV := Lib.hid hsv
  have HSL := Lib.hid hsl
  have HST := Lib.hid hst
  have HOK := Lib.hid hok
  have HBI := Lib.hid hb
  have HTR : Hid (∀ t u, b.tr = some (t, u) → (t, evO u) ∈ F) := Lib.hid (hok b (List.mem_of_getElem? hb)).tr
  haveI hB : ∀ {L R : Units} [Unit_ L (SU stays) R], Has L b.blk (stayO b.proc b.epoch b.rep b.members (b.r0.val b.m0.length) (b.r1.val b.m1.length) b.cb (b.tr.map (·.1)) b.went) := fun {L R} h => ⟨h.ok.mem_iff.2 (by simp [mem_SU (List.mem_of_getElem? hb) (show (b.blk, b.obj) ∈ b.u by simp [GStay.u])])⟩
  clear hok hb
  clear hlv htold hsv hsl hst hnw
  go_enter Try.func16, Try.ntmps16
  go_upto_region 2 with (first | ((with_reducible refine wpList_box_st (T := 39) (by simp [go_sem]; rfl) ?_); intro xb y0) | ((with_reducible refine wpList_makeMap_st ikey ikey ?_); intro cb y1) | ((with_reducible refine wpList_box_st (T := 66) (by simp [go_sem]; rfl) ?_); intro sbk y))
  go_cut [] (fun wx => ∃ b2, b2 = brk br 1 (!lvv || !hasB e.members e.proc) ∧ ∃ y : St ([(sbk, stay0 e cb)] :: [(cb, (GMap.empty Int Int).obj ikey ikey)] :: [(xb, evO e)] :: RegL F m sb eb mb lb nb b2 ln at_ ru stR (.slice sa nst sc) stays mem lv nw R), wx = y.w)
  case first =>
    have hne : Nonempty (St _) := ⟨y⟩
    cases lvv
    all_goals
      refine wp_region_st_tail 19 (by kernel_rfl) (by kernel_rfl) ?_
      simp only [List.take_succ_cons, List.take_zero, List.drop_succ_cons, List.drop_zero]
      repeat (go_big_quiet_step (exact has_spec _ _ _))
      refine wpQuiet_nil ?_
      intro z
      go_wp2_with (go_at_call 20; refine (breaks_spec _ _ _).mono ?_; rintro e w' ⟨rfl, y, rfl⟩)
      go_meet
      first | exact ⟨brk br 1 true, rfl, toSt y⟩ | exact ⟨brk br 1 (!hasB e.members e.proc), rfl, toSt y⟩
  case rest =>
    clear y y0 y1
    obtain ⟨b2, hb2, y, rfl⟩ := hcut
    have HB2 := Lib.hid hb2
    clear hb2
    have hne : Nonempty (St _) := ⟨y⟩
    go_wp2_with fail
    refine wp_region_st (by kernel_rfl) (by kernel_rfl) ?_
    repeat (go_big_quiet_step (fail))
    refine wpQuiet_nil ?_
    intro z
    clear y hne h2
    go_upto_region 4 with fail
    go_cut [] (fun wx => ∃ b3, b3 = brk b2 1 (toldB told e.members) ∧ ∃ y : St ([(sbk, stay0 e cb)] :: [(cb, (GMap.empty Int Int).obj ikey ikey)] :: [(xb, evO e)] :: RegL F m sb eb mb lb nb b3 ln at_ ru stR (.slice sa nst sc) stays mem lv nw R), wx = y.w)
    case first =>
      rcases told with _ | t
      · go_wp2_with (go_at_call 20; refine (breaks_spec _ _ _).mono ?_; rintro e w' ⟨rfl, y, rfl⟩)
        go_meet
        exact ⟨brk b2 1 false, rfl, toSt y⟩
      · go_wp2_with (go_at_call 20; refine (breaks_spec _ _ _).mono ?_; rintro e w' ⟨rfl, y, rfl⟩)
        go_meet
        exact ⟨brk b2 1 (t != e.members), rfl, toSt y⟩
    case rest =>
      clear z
      obtain ⟨b3, hb3, y, rfl⟩ := hcut
      have HB3 := Lib.hid hb3
      clear hb3
      have hne : Nonempty (St _) := ⟨y⟩
      go_wp2_with fail
      refine wp_region_st_tail 11 (by kernel_rfl) (by kernel_rfl) ?_
      simp only [List.take_succ_cons, List.take_zero, List.drop_succ_cons, List.drop_zero]
      repeat (go_big_quiet_step (fail))
      refine wpQuiet_nil ?_
      intro z
      clear y hne
      go_wp2_with fail
      go_loopw [78] (fun v wr => TwInv xb sbk cb F m sb eb mb lb nb ln at_ ru e stR (.slice sa nst sc) nst stays b3 (mem.put (e.epoch, e.rep) e.members) lv nw R v wr) (fun v _ => nst - (intOf v).toNat)
      case atStart => exact ⟨0, b3, by omega, rfl, rfl, _, rfl⟩
      case round =>
        clear z
        obtain ⟨k, br', hk, rfl, htw, y, rfl⟩ := hrel
        by_cases hlt : k < nst
        · obtain ⟨o, ho⟩ : ∃ o, stays[k]? = some o := ⟨stays[k]'(by rw [hlen.out]; exact hlt), List.getElem?_eq_getElem _⟩
          rcases HSL.out.2 with h0 | ⟨sbk', so, sarr, sT, sfr, rfl, hsm, hsrow⟩
          · omega
          have hop : sarr[so + k]? = some (.pointer (some ⟨o.blk, 0, none⟩)) := by
            have := hsrow k (ptrCell o) (by simp [ho]) 0 _ rfl
            simpa using this
          haveI hS : ∀ {L R : Units} [Unit_ L (stR.u 57) R], Has L sbk' (.cells sarr sT sfr) := fun {L R} h => ⟨h.ok.mem_iff.2 (by simp [hsm])⟩
          haveI hO : ∀ {L R : Units} [Unit_ L (SU stays) R], Has L o.blk o.obj := fun {L R} h => ⟨h.ok.mem_iff.2 (by simp [mem_SU (List.mem_of_getElem? ho) (show (o.blk, o.obj) ∈ o.u by simp [GStay.u])])⟩
          have hd : stays.drop k = o :: stays.drop (k + 1) := by
            obtain ⟨h2, h3⟩ := List.getElem?_eq_some_iff.1 ho
            rw [List.drop_eq_getElem_cons h2, h3]
          rw [hd] at htw
          have htw' : twiceF e.epoch e.rep e.proc stays b3 = twiceF e.epoch e.rep e.proc (stays.drop (k + 1)) (brk br' 1 (twiceB e.epoch e.rep e.proc o)) := htw
          have HTW := Lib.hid htw'
          clear htw htw' hd ho hsm hsrow
          have hne : Nonempty (St _) := ⟨y⟩
          cases hcf : confEq o.epoch o.rep e.epoch e.rep
          all_goals
            go_wp2_with fail
            refine wp_region_st_tail 21 (by kernel_rfl) (by kernel_rfl) ?_
            simp only [List.take_succ_cons, List.take_zero, List.drop_succ_cons, List.drop_zero]
            repeat (go_big_quiet_step (fail))
            refine wpQuiet_nil ?_
            intro z
            go_wp2_with (go_at_call 20; refine (breaks_spec _ _ _).mono ?_; rintro e w' ⟨rfl, y, rfl⟩)
            go_roundw
            case rel => exact ⟨k + 1, _, by omega, by go_num, by have h_ := HTW.out; simp only [twiceB, hcf, Bool.false_and, Bool.true_and] at h_; exact h_, toSt y⟩
            case measure => simp [intOf]; omega
        · have hkn : k = nst := by omega
          have e1 : stays.drop k = [] := by rw [List.drop_eq_nil_iff, hlen.out]; omega
          rw [e1] at htw
          have HTW := Lib.hid htw
          clear htw e1
          have hne : Nonempty (St _) := ⟨y⟩
          go_wp2_with fail
          refine wp_region_st (by kernel_rfl) (by kernel_rfl) ?_
          repeat (go_big_quiet_step (fail))
          refine wpQuiet_nil ?_
          intro z
          clear y hne h1 h3
          go_wp2_with fail
          have hne : Nonempty (St _) := ⟨z⟩
          refine wp_region_st_tail 9 (by kernel_rfl) (by kernel_rfl) ?_
          simp only [List.take_succ_cons, List.take_zero, List.drop_succ_cons, List.drop_zero]
          repeat (go_big_quiet_step (exact confs_spec _ _ _ _ _))
          refine wpQuiet_nil ?_
          intro z1
          clear z hne
          go_upto_region 14 with (go_at_call 20; refine (breaks_spec _ _ _).mono ?_; rintro e w' ⟨rfl, y, rfl⟩)
          go_cut [] (fun wx => ∃ b5, b5 = brk (brk br' 1 (decide (ord2 e.epoch e.rep b.epoch b.rep ≤ 0))) 1 (leaveB b.tr e) ∧ ∃ y : St ([(sbk, stay0 e cb)] :: [(cb, (GMap.empty Int Int).obj ikey ikey)] :: [(xb, evO e)] :: RegL F m sb eb mb lb nb b5 ln at_ ru stR (.slice sa nst sc) stays (mem.put (e.epoch, e.rep) e.members) lv nw R), wx = y.w)
          case first =>
            clear z1
            have hne : Nonempty (St _) := ⟨y⟩
            rcases ht : b.tr with _ | ⟨tb, te⟩
            · refine wp_region_st_tail 46 (by kernel_rfl) (by kernel_rfl) ?_
              simp only [List.take_succ_cons, List.take_zero, List.drop_succ_cons, List.drop_zero]
              repeat (go_big_quiet_step (fail))
              refine wpQuiet_nil ?_
              intro z
              go_wp2_with (go_at_call 20; refine (breaks_spec _ _ _).mono ?_; rintro e w' ⟨rfl, y, rfl⟩)
              go_meet
              exact ⟨_, by simp only [leaveB, ht], toSt (M := [(sbk, stay0 e cb)] :: [(cb, (GMap.empty Int Int).obj ikey ikey)] :: [(xb, evO e)] :: RegL F m sb eb mb lb nb (brk (brk br' 1 (decide (ord2 e.epoch e.rep b.epoch b.rep ≤ 0))) 1 true) ln at_ ru stR (.slice sa nst sc) stays (mem.put (e.epoch, e.rep) e.members) lv nw R) y⟩
            · haveI hTB : ∀ {L R : Units} [Unit_ L F R], Has L tb (evO te) := fun {L R} h => ⟨h.ok.mem_iff.2 (by simp [HTR.out tb te ht])⟩
              cases hcc : confEq te.nepoch te.nrep e.epoch e.rep
              · refine wp_region_st_tail 46 (by kernel_rfl) (by kernel_rfl) ?_
                simp only [List.take_succ_cons, List.take_zero, List.drop_succ_cons, List.drop_zero]
                repeat (go_big_quiet_step (fail))
                refine wpQuiet_nil ?_
                intro z
                go_wp2_with (go_at_call 20; refine (breaks_spec _ _ _).mono ?_; rintro e w' ⟨rfl, y, rfl⟩)
                go_meet
                exact ⟨_, by simp only [leaveB, ht, hcc, Bool.not_false, Bool.true_or], toSt (M := [(sbk, stay0 e cb)] :: [(cb, (GMap.empty Int Int).obj ikey ikey)] :: [(xb, evO e)] :: RegL F m sb eb mb lb nb (brk (brk br' 1 (decide (ord2 e.epoch e.rep b.epoch b.rep ≤ 0))) 1 true) ln at_ ru stR (.slice sa nst sc) stays (mem.put (e.epoch, e.rep) e.members) lv nw R) y⟩
              · cases hin : inB te.members e.members
                · refine wp_region_st_tail 46 (by kernel_rfl) (by kernel_rfl) ?_
                  simp only [List.take_succ_cons, List.take_zero, List.drop_succ_cons, List.drop_zero]
                  repeat (go_big_quiet_step (exact in_spec _ _ _))
                  refine wpQuiet_nil ?_
                  intro z
                  go_wp2_with (go_at_call 20; refine (breaks_spec _ _ _).mono ?_; rintro e w' ⟨rfl, y, rfl⟩)
                  go_meet
                  exact ⟨_, by simp only [leaveB, ht, hcc, hin, Bool.not_false, Bool.not_true, Bool.false_or, Bool.true_or], toSt (M := [(sbk, stay0 e cb)] :: [(cb, (GMap.empty Int Int).obj ikey ikey)] :: [(xb, evO e)] :: RegL F m sb eb mb lb nb (brk (brk br' 1 (decide (ord2 e.epoch e.rep b.epoch b.rep ≤ 0))) 1 true) ln at_ ru stR (.slice sa nst sc) stays (mem.put (e.epoch, e.rep) e.members) lv nw R) y⟩
                · refine wp_region_st_tail 46 (by kernel_rfl) (by kernel_rfl) ?_
                  simp only [List.take_succ_cons, List.take_zero, List.drop_succ_cons, List.drop_zero]
                  repeat (go_big_quiet_step (first | exact in_spec _ _ _ | exact has_spec _ _ _))
                  refine wpQuiet_nil ?_
                  intro z
                  go_wp2_with (go_at_call 20; refine (breaks_spec _ _ _).mono ?_; rintro e w' ⟨rfl, y, rfl⟩)
                  go_meet
                  exact ⟨_, by simp only [leaveB, ht, hcc, hin, Bool.not_true, Bool.false_or], toSt (M := [(sbk, stay0 e cb)] :: [(cb, (GMap.empty Int Int).obj ikey ikey)] :: [(xb, evO e)] :: RegL F m sb eb mb lb nb (brk (brk br' 1 (decide (ord2 e.epoch e.rep b.epoch b.rep ≤ 0))) 1 (!hasB te.members e.proc)) ln at_ ru stR (.slice sa nst sc) stays (mem.put (e.epoch, e.rep) e.members) lv nw R) y⟩
          case rest =>
            clear y z1
            obtain ⟨b5, hb5, y, rfl⟩ := hcut
            have HB5 := Lib.hid hb5
            clear hb5
            go_wp2_with (go_at_call 33; go_must (refine (close33' (F := F) stR stays bi b HBI.out HST.out HOK.out nst hlen hn (.slice sa nst sc) HSV.out _).mono ?_); rintro en w' ⟨rfl, z, rfl⟩; revert z; generalize hcv : closeB b.gone.abs ((stays.set bi b.gone).map GStay.abs) b5 = cv; generalize hss : stays.set bi b.gone = ss; intro z; replace hcv := Lib.hid hcv; replace hss := Lib.hid hss)
            have h5 := fun {L M : Units} [Has L nb (nw.obj ikey pval)] [Lay L nb ((nw.put e.proc sbk).obj ikey pval) M] (x : St L) => upd_now nb nw e.proc sbk x
            go_wp2_with fail
            have hne : Nonempty (St _) := ⟨z⟩
            refine wp_region_st_tail 7 (by kernel_rfl) (by kernel_rfl) ?_
            simp only [List.take_succ_cons, List.take_zero, List.drop_succ_cons, List.drop_zero]
            repeat (go_big_quiet_step (fail))
            refine wpQuiet_nil ?_
            intro z2
            clear z hne
            obtain ⟨i0, hi0, hz0, hz1, hz2⟩ := info_parts Try.info57
            have HLEN : Hid ((stays.map ptrCell).length = nst) := Lib.hid (by simp [hlen.out])
            go_wp2_with (first | ((with_reducible refine wpList_buildSlice_st (by intro w; simp [go_sem]; rfl) ?_); intro pb y) | (at_builtin; refine wpList_append_sl (P := Try.prog) stR (stays.map ptrCell) [[.pointer (some ⟨sbk, 0, none⟩)]] 1 8 57 i0 (.pointer none) Try.underlying48 hi0 hz0 hz1 hz2 rfl [(pb, .cells #[.pointer (some ⟨sbk, 0, none⟩)] 57)] (some ⟨pb, 0, none⟩) 1 1 ?sv rfl HST.out ?nl ?sl ?one ?byt ?le ?k))
            case sv => rw [HLEN.out]; exact HSV.out.symm
            case nl => intro c hc; simp only [List.mem_singleton] at hc; subst hc; rfl
            case sl => exact SlIn.one57 _ _ _
            case one => intro u hu; simp at hu; subst hu; rfl
            case byt => rw [HLEN.out]; omega
            case le => rw [HLEN.out]; omega
            case k =>
              intro r' z3 hok'
              rw [HLEN.out]
              have H1 := r'.one_cell (nst + 1)
              go_wp2_with ((with_reducible refine at_store ?_); refine wpList_store1 (v := r'.val (nst + 1)) rfl rfl H1 rfl rfl (by simp only [List.setIfInBounds_toArray, List.set_cons_succ, List.set_cons_zero]; rfl) (by simp) ?_; intro z4)
              clear z2 z3 y
              go_end0
              have e1 : twiceF e.epoch e.rep e.proc stays b3 = br' := HTW.out
              have e2 : reg2 br e lvv told stays b = b5 := by rw [HB5.out, ← e1, HB3.out, HB2.out]; rfl
              rw [e2, hcv.out, hss.out]
              refine ⟨rfl, r', sbk, cb, ?_, ?_⟩
              · have : (ss ++ [GStay.fresh sbk cb e]).map ptrCell = stays.map ptrCell ++ [[.pointer (some ⟨sbk, 0, none⟩)]] := by
                  rw [List.map_append, ← hss.out, ptr_set HBI.out]; simp [ptrCell, GStay.fresh]
                rw [this]; exact hok'
              · obtain ⟨z5, h5⟩ := toSt (M := [(m, monO sb eb mb (r'.val (nst + 1)) lb nb cv ln at_ ru)] :: [(mb, (mem.put (e.epoch, e.rep) e.members).obj confKey setV)] :: [(lb, lv.obj ikey bval)] :: [(nb, (nw.put e.proc sbk).obj ikey pval)] :: r'.u 57 :: SU ss :: [(sbk, stay0 e cb)] :: [(cb, (GMap.empty Int Int).obj ikey ikey)] :: F :: R) z4
                exact ⟨z5.re (Eqv.cons _ (Eqv.cons _ (Eqv.cons _ (Eqv.cons _ (Eqv.cons _ (SU_push ss sbk cb e _)))))), h5⟩
end
end Go.Proofs.Ythijlgjfgliinaa
end
section
/- A monitor as it lies in memory, and as the laws see it; what an event does to it. -/
set_option linter.all false
namespace Go.Proofs.Ythijlgjfgliinaa
open Go.RowKit
variable [Env]
/-- An event, as the laws see it. -/
structure AEv where
  kind : Int
  proc : Int
  epoch : Int
  rep : Int
  nepoch : Int
  nrep : Int
  members : Int
  m : Mg
deriving DecidableEq
def Ev.abs (e : Ev) (d : List Int) : AEv := ⟨e.kind, e.proc, e.epoch, e.rep, e.nepoch, e.nrep, e.members, GM.mg ⟨e.m, d⟩⟩
def AEv.place (e : AEv) : Place := ⟨e.epoch, e.rep, e.m.frm, e.m.seq⟩
def AEv.had (e : AEv) : Had := ⟨e.proc, e.place⟩
/-- A monitor, as the laws see it. -/
structure AMon where
  sends : Place → List Mg
  seen : Had → Bool
  mem : Int × Int → Option Int
  stays : List AStay
  live : Int → Bool
  now : Int → Option Nat
  br : Int
  ln : Int
  at_ : Int
  ru : Int
def upd {κ β : Type} [DecidableEq κ] (f : κ → β) (k : κ) (b : β) : κ → β := fun c => if c = k then b else f c
def atwice (e r p : Int) (o : AStay) : Bool := confEq o.epoch o.rep e r && o.proc == p
def atwiceF (e r p : Int) (l : List AStay) (br : Int) : Int := l.foldl (fun br o => brk br 1 (atwice e r p o)) br
def aleave (tr : Option ATr) (e : AEv) : Bool := match tr with
  | none => true
  | some t => !confEq t.nepoch t.nrep e.epoch e.rep || (!inB t.members e.members || !hasB t.members e.proc)
def AStay.fresh (e : AEv) : AStay := ⟨e.proc, e.epoch, e.rep, e.members, [], [], fun _ => 0, none, false⟩
def AMon.stay (A : AMon) (e : AEv) : Option (Nat × AStay) := match A.now e.proc with
  | none => none
  | some i => match A.stays[i]? with
    | none => none
    | some s => if A.live e.proc && confEq s.epoch s.rep e.epoch e.rep then some (i, s) else none
def AMon.regular (A : AMon) (e : AEv) : AMon :=
  let b1 := atwiceF e.epoch e.rep e.proc A.stays (brk (brk A.br 1 (!A.live e.proc || !hasB e.members e.proc)) 1 (toldB (A.mem (e.epoch, e.rep)) e.members))
  let p : Int × List AStay := match (A.now e.proc).bind fun i => (A.stays[i]?).map fun b => (i, b) with
    | none => (b1, A.stays)
    | some (i, b) => (closeB { b with went := true } (A.stays.set i { b with went := true }) (brk (brk b1 1 (decide (ord2 e.epoch e.rep b.epoch b.rep ≤ 0))) 1 (aleave b.tr e)), A.stays.set i { b with went := true })
  { A with br := p.1, stays := p.2 ++ [AStay.fresh e], mem := upd A.mem (e.epoch, e.rep) (some e.members), now := upd A.now e.proc (some A.stays.length) }
def AMon.send (A : AMon) (e : AEv) : AMon :=
  { A with
    sends := if e.proc = e.m.frm then upd A.sends e.place (A.sends e.place ++ [e.m]) else A.sends
    br := brk A.br 1 (match A.stay e with | some (_, s) => s.tr.isSome | none => true) }
def AStay.take (s : AStay) (x : Mg) : AStay := match s.tr with
  | none => { s with p0 := s.p0 ++ [x], count := upd s.count x.frm (s.count x.frm + 1) }
  | some _ => { s with p1 := s.p1 ++ [x], count := upd s.count x.frm (s.count x.frm + 1) }
def AStay.next (s : AStay) : Int × Int := match s.tr with
  | none => (0, 0)
  | some t => (t.nepoch, t.nrep)
def AStay.told (s : AStay) : Int := match s.tr with
  | none => s.members
  | some t => t.members
def AMon.deliver (A : AMon) (e : AEv) : AMon :=
  let b1 := del1 A.br e.m (A.sends e.place) (A.seen e.had)
  match A.stay e with
  | none => { A with br := brk b1 1 true, seen := upd A.seen e.had true }
  | some (i, s) => { A with
      br := tellB s.epoch s.rep s.told e.m (A.stays.set i (s.take e.m)) (depsB s.count 0 e.m.deps (lastB (brk b1 2 (!confEq e.nepoch e.nrep s.next.1 s.next.2)) s.all e.m))
      seen := upd A.seen e.had true
      stays := A.stays.set i (s.take e.m) }
def AMon.trans (A : AMon) (e : AEv) : AMon := match A.stay e with
  | none => { A with br := brk A.br 1 true }
  | some (i, s) => { A with br := brk A.br 1 s.tr.isSome, stays := A.stays.set i { s with tr := some ⟨e.nepoch, e.nrep, e.members⟩ } }
/-- What an event does, ahead of what is told of the first breach. -/
def AMon.act (A : AMon) (e : AEv) : AMon :=
  if e.kind = 5 ∨ e.kind = 6 then { A with live := upd A.live e.proc (e.kind == 5), now := upd A.now e.proc none }
  else if e.kind = 3 then A.regular e
  else if e.kind = 1 then A.send e
  else if e.kind = 2 then A.deliver e
  else if e.kind = 4 then A.trans e
  else A
def AMon.first (A : AMon) : AMon := if 0 < A.br ∧ A.at_ = 0 then { A with at_ := A.ln, ru := A.br } else A
def AMon.add (A : AMon) (e : AEv) : AMon := (({ A with ln := A.ln + 1 } : AMon).act e).first

/-- A monitor, as it lies in memory. -/
structure GMon where
  m : Nat
  sb : Nat
  eb : Nat
  mb : Nat
  lb : Nat
  nb : Nat
  stR : Row
  stays : List GStay
  sends : GMap Place SV
  seen : GMap Had Bool
  mem : GMap (Int × Int) Int
  lv : GMap Int Bool
  nw : GMap Int Nat
  now : Int → Option Nat
  br : Int
  ln : Int
  at_ : Int
  ru : Int
def GMon.abs (G : GMon) : AMon where
  sends p := ((G.sends.get p).getD (Row.nil, [])).2.map GM.mg
  seen h := (G.seen.get h).getD false
  mem c := G.mem.get c
  stays := G.stays.map GStay.abs
  live p := (G.lv.get p).getD false
  now := G.now
  br := G.br
  ln := G.ln
  at_ := G.at_
  ru := G.ru
abbrev GMon.L (G : GMon) (F : Blocks) (R : Units) : Units :=
  [(G.m, monO G.sb G.eb G.mb (G.stR.val G.stays.length) G.lb G.nb G.br G.ln G.at_ G.ru)] :: [(G.sb, sendsO G.sends)] :: [(G.eb, seenO G.seen)] :: [(G.mb, G.mem.obj confKey setV)] :: [(G.lb, G.lv.obj ikey bval)] :: [(G.nb, G.nw.obj ikey pval)] :: SR G.sends :: SU G.stays :: F :: G.stR.u 57 :: R
structure GMon.ok (F : Blocks) (k : Nat) (G : GMon) : Prop where
  row : RowOk G.stR 1 (G.stays.map ptrCell)
  stays : ∀ s ∈ G.stays, s.ok F
  len : G.stays.length ≤ k
  few : ∀ s ∈ G.stays, s.m0.length + s.m1.length ≤ k
  count : ∀ s ∈ G.stays, ∀ p, 0 ≤ (s.count.get p).getD 0 ∧ (s.count.get p).getD 0 ≤ k
  sends : ∀ p, RowOk ((G.sends.get p).getD (Row.nil, [])).1 6 (((G.sends.get p).getD (Row.nil, [])).2.map GM.cells) ∧ (∀ q ∈ ((G.sends.get p).getD (Row.nil, [])).2, q.ok F) ∧ ((G.sends.get p).getD (Row.nil, [])).2.length ≤ k
  now : ∀ p, G.nw.get p = (G.now p).bind fun i => (G.stays[i]?).map GStay.blk
  nowlt : ∀ p i, G.now p = some i → i < G.stays.length
theorem GStay.ok.mono {U V : Blocks} {s : GStay} (h : s.ok U) (hs : U ⊆ V) : s.ok V := ⟨h.k0, h.k1, h.few, fun g hg => (h.msgs g hg).mono hs, fun t e he => hs (h.tr t e he)⟩
theorem GMon.ok.mono {U V : Blocks} {k l : Nat} {G : GMon} (h : G.ok U k) (hs : U ⊆ V) (hk : k ≤ l) : G.ok V l where
  row := h.row
  stays s hs' := (h.stays s hs').mono hs
  len := Nat.le_trans h.len hk
  few s hs' := Nat.le_trans (h.few s hs') hk
  count s hs' p := ⟨(h.count s hs' p).1, by have := (h.count s hs' p).2; omega⟩
  sends p := ⟨(h.sends p).1, fun q hq => ((h.sends p).2.1 q hq).mono hs, Nat.le_trans (h.sends p).2.2 hk⟩
  now := h.now
  nowlt := h.nowlt
/-- The stay of an event. -/
def GMon.cur (G : GMon) (p : Int) : Option (Nat × GStay) := (G.now p).bind fun i => (G.stays[i]?).map fun s => (i, s)
theorem GMon.ok.cur {F : Blocks} {k : Nat} {G : GMon} (h : G.ok F k) (p : Int) : G.nw.get p = ((G.cur p).map (·.2)).map GStay.blk := by
  rw [h.now]
  unfold GMon.cur
  cases G.now p with
  | none => rfl
  | some i => cases hs : G.stays[i]? <;> simp [hs]
theorem GMon.abs_cur (G : GMon) (p : Int) : ((G.abs.now p).bind fun i => (G.abs.stays[i]?).map fun b => (i, b)) = (G.cur p).map fun x => (x.1, x.2.abs) := by
  unfold GMon.cur
  show ((G.now p).bind fun i => ((G.stays.map GStay.abs)[i]?).map fun b => (i, b)) = _
  cases G.now p with
  | none => rfl
  | some i => cases hs : G.stays[i]? <;> simp [hs]
theorem GMon.abs_stay (G : GMon) (e : Ev) (d : List Int) : G.abs.stay (e.abs d) = match G.cur e.proc with
    | some (i, s) => if (G.lv.get e.proc).getD false && confEq s.epoch s.rep e.epoch e.rep then some (i, s.abs) else none
    | none => none := by
  unfold GMon.cur GMon.abs AMon.stay
  show (match G.now e.proc with | none => none | some i => match (G.stays.map GStay.abs)[i]? with | none => none | some s => if (G.lv.get e.proc).getD false && confEq s.epoch s.rep e.epoch e.rep then some (i, s) else none) = _
  cases G.now e.proc with
  | none => rfl
  | some i => cases hs : G.stays[i]? <;> simp [hs, GStay.abs]
theorem twice_abs (e r p : Int) (l : List GStay) (br : Int) : twiceF e r p l br = atwiceF e r p (l.map GStay.abs) br := by
  induction l generalizing br with
  | nil => rfl
  | cons o l ih =>
    show twiceF e r p l _ = atwiceF e r p (l.map GStay.abs) _
    rw [ih]
    rfl
theorem leave_abs (s : GStay) (e : Ev) (d : List Int) : leaveB s.tr e = aleave s.abs.tr (e.abs d) := by
  unfold leaveB aleave GStay.abs
  cases s.tr <;> rfl
end Go.Proofs.Ythijlgjfgliinaa
end
