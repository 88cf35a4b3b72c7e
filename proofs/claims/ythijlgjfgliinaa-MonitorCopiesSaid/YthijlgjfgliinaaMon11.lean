/- A message is sent: the walk. -/
import Derived.Test.YthijlgjfgliinaaMon10
set_option linter.all false
namespace Go.Proofs.Ythijlgjfgliinaa
open Go.RowKit
variable [Env]
set_option maxRecDepth 100000
def SR (g : GMap Place SV) : Blocks := g.l.flatMap fun e => e.2.1.1.u 34
theorem SR_focus {g : GMap Place SV} {k : Place} {p : SV} (h : (g.get k).getD (Row.nil, []) = p) : ∃ X : Blocks, (SR g).Perm (p.1.u 34 ++ X) ∧ ∀ q, (SR (g.put k q)).Perm (q.1.u 34 ++ X) := by
  cases hh : has_ g.l k with
  | false =>
    have hn : g.get k = none := by
      cases hg : g.get k with
      | none => rfl
      | some b => have := GMap.has_of_get hg; rw [hh] at this; cases this
    rw [hn] at h
    subst h
    refine ⟨SR g, by simp [Row.u, Row.nil], fun q => ?_⟩
    have e1 : (g.put k q).l = g.l ++ [(k, q, g.clk)] := by unfold GMap.put; rw [dif_neg (by simp [hh])]
    unfold SR
    rw [e1, List.flatMap_append]
    simp only [List.flatMap_cons, List.flatMap_nil, List.append_nil]
    exact List.perm_append_comm
  | true =>
    obtain ⟨l1, e, l2, h1, h2, h3, h4⟩ := ixF_split (ev := sval) g.l 0 hh
    have hg : g.get k = some e.2.1 := by
      have : l1.find? (fun e => decide (e.1 = k)) = none := by
        rw [List.find?_eq_none]
        intro e' he'
        simp only [decide_eq_true_eq]
        intro h
        have : has_ l1 k = true := has_iff.2 (List.mem_map.2 ⟨e', he', h⟩)
        rw [h3] at this; cases this
      simp [GMap.get, h1, List.find?_append, this, h2]
    rw [hg] at h
    simp only [Option.getD_some] at h
    subst h
    refine ⟨(l1.flatMap fun e => e.2.1.1.u 34) ++ (l2.flatMap fun e => e.2.1.1.u 34), ?_, fun q => ?_⟩
    · unfold SR
      rw [h1, List.flatMap_append, List.flatMap_cons, ← List.append_assoc, ← List.append_assoc]
      exact List.Perm.append_right _ List.perm_append_comm
    · obtain ⟨p1, p2⟩ := GMap.put_split q h1 h2 h3
      unfold SR
      rw [p1, List.flatMap_append, List.flatMap_cons, ← List.append_assoc, ← List.append_assoc]
      exact List.Perm.append_right _ List.perm_append_comm
theorem SlIn.oneMsg (pb : Nat) (r : RM) (d : List Int) : SlIn [(pb, .cells #[.int .i64 r.frm, .int .u32 r.seq, .int .u64 r.stamp, .int .i64 r.svc, .slice r.da r.dn r.dc, .string r.pay] 34)] (some ⟨pb, 0, none⟩) 1 6 [GM.cells ⟨r, d⟩] := by
  refine ⟨rfl, .inr ⟨pb, 0, _, 34, (0, 0), rfl, List.mem_singleton.2 rfl, fun i c hc j w hw => ?_⟩⟩
  have hi : i = 0 := by have := (List.getElem?_eq_some_iff.1 hc).1; simpa using this
  subst hi
  simp only [List.getElem?_cons_zero, Option.some.injEq] at hc
  subst hc
  simp only [Nat.zero_mul, Nat.zero_add]
  rw [List.getElem?_toArray]
  exact hw
section
variable {m sb eb mb lb nb : Nat} {st : Value} {br ln at_ ru : Int}
def Ev.place (e : Ev) : Place := ⟨e.epoch, e.rep, e.m.frm, e.m.seq⟩
/-- What an event breaks that must stand in a stay that has no way on yet. -/
def standB (br : Int) (o : Option GStay) : Int := match o with
  | some b => brk br 1 b.tr.isSome
  | none => brk br 1 true
abbrev SendL (m sb eb mb lb nb : Nat) (st : Value) (br ln at_ ru : Int) (g : GMap Place SV) (lv : GMap Int Bool) (nw : GMap Int Nat) (stays : List GStay) (F : Blocks) (R : Units) : Units :=
  [(m, monO sb eb mb st lb nb br ln at_ ru)] :: [(sb, sendsO g)] :: [(lb, lv.obj ikey bval)] :: [(nb, nw.obj ikey pval)] :: SR g :: SU stays :: F :: R
def SendRet (m sb eb mb lb nb : Nat) (st : Value) (br ln at_ ru : Int) (g : GMap Place SV) (k : Place) (ms : List GM) (lv : GMap Int Bool) (nw : GMap Int Nat) (stays : List GStay) (F : Blocks) (R : Units) (en : Ending) (w : World) : Prop :=
  en = .returned (.tuple #[]) ∧ ∃ r' : Row, RowOk r' 6 (ms.map GM.cells) ∧ ∃ y : St (SendL m sb eb mb lb nb st br ln at_ ru (g.put k (r', ms)) lv nw stays F R), w = y.w
set_option maxHeartbeats 4000000 in
theorem send_own {F : Blocks} (e : Ev) (d : List Int) (g : GMap Place SV) (r : Row) (ms : List GM) (n : Nat) (hlen : Hid (ms.length = n)) (hn : n ≤ 1000) (hg : (g.get e.place).getD (Row.nil, []) = (r, ms)) (hr : RowOk r 6 (ms.map GM.cells)) (lv : GMap Int Bool) (nw : GMap Int Nat) (stays : List GStay) (lvv : Bool) (s : Option GStay)
    (hpf : (e.proc == e.m.frm) = true) (hl : (lv.get e.proc).getD false = lvv) (hnw : nw.get e.proc = s.map GStay.blk) (hs : ∀ b, s = some b → b ∈ stays) {R : Units} (x : St (SendL m sb eb mb lb nb st br ln at_ ru g lv nw stays F R)) :
    Calls Try.prog 17 #[.pointer (some ⟨m, 0, none⟩), evV e] x.w (SendRet m sb eb mb lb nb st (standB br (stayOk lvv s e)) ln at_ ru g e.place (ms ++ [⟨e.m, d⟩]) lv nw stays F R) := by
  obtain ⟨X, hX1, hX2⟩ := SR_focus hg
  have E1 : Eqv (SendL m sb eb mb lb nb st br ln at_ ru g lv nw stays F R) ([(m, monO sb eb mb st lb nb br ln at_ ru)] :: [(sb, sendsO g)] :: [(lb, lv.obj ikey bval)] :: [(nb, nw.obj ikey pval)] :: r.u 34 :: X :: SU stays :: F :: R) :=
    Eqv.cons _ (Eqv.cons _ (Eqv.cons _ (Eqv.cons _ ((Eqv.head hX1 _).trans (Eqv.split _ _ _)))))
  rw [St.re_w x E1]
  generalize x.re E1 = x
  have h1 : ∀ {L M : Units} [Has L sb (sendsO g)] [Lay L sb (sendsO (g.touch e.place (Row.nil, []))) M] (x : St L), (Instr.mapEntry 45 (.map (some sb)) (.agg #[.int .u64 e.epoch, .int .i64 e.rep, .int .i64 e.m.frm, .int .u32 e.m.seq])).run Try.prog x.w = .ok (.tuple #[r.val ms.length, .int .i64 (g.stamp e.place)]) (x.lay sb (sendsO (g.touch e.place (Row.nil, [])))).w :=
    fun x => entry_sends sb g e.place (r, ms) hg x
  have h2 := fun (r' : Row) {L M : Units} [Has L sb (sendsO (g.touch e.place (Row.nil, [])))] [Lay L sb (sendsO (g.put e.place (r', ms ++ [⟨e.m, d⟩]))) M] (x : St L) => put_sends sb g e.place r' (ms ++ [⟨e.m, d⟩]) (n + 1) (by simp [hlen.out]) x
  obtain ⟨stp, hstp⟩ : ∃ v : Nat, g.stamp e.place = v := ⟨_, rfl⟩
  rw [hstp] at h1
  simp only [hstp] at h2
  rw [hlen.out] at h1
  obtain ⟨i0, hi0, hz0, hz1, hz2⟩ := info_parts Try.info34
  have HR := Lib.hid hr
  have HL := Lib.hid hl
  have HN := Lib.hid hnw
  have HS := Lib.hid hs
  have HX := Lib.hid hX2
  have HCL : Hid ((ms.map GM.cells).length = n) := Lib.hid (by simp [hlen.out])
  clear hr hl hnw hs hX1 hX2 E1 hstp hg
  go_enter Try.func17, Try.ntmps17
  go_upto_region 3 with (first | ((with_reducible refine wpList_box_st (T := 39) (by simp [go_sem]; rfl) ?_); intro xb y0) | ((with_reducible refine wpList_alloc_st rfl (by simp only [Value.cells]; rfl) ?_); intro kb y1) | ((with_reducible refine at_store ?_); refine wpList_storeAll rfl rfl rfl (by rfl) rfl ?_; intro y))
  simp only [Act.put, List.setIfInBounds_toArray, List.set_cons_zero, List.set_cons_succ]
  go_cut [] (fun wx => ∃ r' : Row, RowOk r' 6 ((ms ++ [(⟨e.m, d⟩ : GM)]).map GM.cells) ∧ ∃ y : St ([(xb, evO e)] :: [(m, monO sb eb mb st lb nb br ln at_ ru)] :: [(sb, sendsO (g.put e.place (r', ms ++ [⟨e.m, d⟩])))] :: [(lb, lv.obj ikey bval)] :: [(nb, nw.obj ikey pval)] :: r'.u 34 :: X :: SU stays :: F :: R), wx = y.w)
  case first =>
    go_region_held3 (fun w' => w'.cell? ⟨m, 0, none⟩ = some (.map (some sb)) ∧ w'.cell? ⟨kb, 0, none⟩ = some (.int .u64 e.epoch) ∧ w'.cell? ⟨kb, 1, none⟩ = some (.int .i64 e.rep) ∧ w'.cell? ⟨kb, 2, none⟩ = some (.int .i64 e.m.frm) ∧ w'.cell? ⟨kb, 3, none⟩ = some (.int .u32 e.m.seq) ∧
       w'.cell? ⟨xb, 7, none⟩ = some (.int .i64 e.m.frm) ∧ w'.cell? ⟨xb, 8, none⟩ = some (.int .u32 e.m.seq) ∧ w'.cell? ⟨xb, 9, none⟩ = some (.int .u64 e.m.stamp) ∧ w'.cell? ⟨xb, 10, none⟩ = some (.int .i64 e.m.svc) ∧ w'.cell? ⟨xb, 11, none⟩ = some (.slice e.m.da e.m.dn e.m.dc) ∧ w'.cell? ⟨xb, 12, none⟩ = some (.string e.m.pay))
      (simp [go_sem]) ((refine step_append_sl (P := Try.prog) r (ms.map GM.cells) [GM.cells ⟨e.m, d⟩] 6 72 34 i0 msgZero Try.underlying61 hi0 hz0 hz1 hz2 rfl _ _ 1 1 n HCL.out rfl rfl HR.out (cells_len (ms := [⟨e.m, d⟩]) rfl) (SlIn.oneMsg _ e.m d) (cells_one [⟨e.m, d⟩]) (by omega) (by omega) ?_; intro r' y2 hok2))
    all_goals
      go_wp2_with fail
      go_meet
      refine ⟨r', by rw [List.map_append]; exact hok2, toSt _⟩
  case rest =>
    clear y y0 y1 h1 h2
    obtain ⟨r', hok, y, rfl⟩ := hcut
    have HOK := Lib.hid hok
    clear hok
    have hBi : ∀ b, s = some b → ∀ {L R : Units} [Unit_ L (SU stays) R], Has L b.blk b.obj := fun b hb {L R} h => ⟨h.ok.mem_iff.2 (by simp [mem_SU (HS.out b hb) (show (b.blk, b.obj) ∈ b.u by simp [GStay.u])])⟩
    have HB := Lib.hid @hBi
    clear hBi
    rcases hso : stayOk lvv s e with _ | b
    · have HSO := Lib.hid hso
      clear hso
      go_wp2_with (first | ((with_reducible refine at_load39 ?_); refine wpList_loadEv e rfl ?_) | (go_at_call 19; go_must (refine (stay19_no e lv nw lvv s HSO.out HL.out HN.out (fun b hb => HB.out b hb) _).mono ?_); rintro en w' ⟨rfl, z, rfl⟩))
      go_end0
      rw [HSO.out]
      refine ⟨rfl, r', HOK.out, ?_⟩
      obtain ⟨z5, h5⟩ := toSt (M := [(m, monO sb eb mb st lb nb (brk br 1 true) ln at_ ru)] :: [(sb, sendsO (g.put e.place (r', ms ++ [⟨e.m, d⟩])))] :: [(lb, lv.obj ikey bval)] :: [(nb, nw.obj ikey pval)] :: r'.u 34 :: X :: SU stays :: F :: R) z
      exact ⟨z5.re (Eqv.cons _ (Eqv.cons _ (Eqv.cons _ (Eqv.cons _ ((Eqv.split _ _ _).symm.trans (Eqv.head (HX.out (r', ms ++ [⟨e.m, d⟩])).symm _)))))), h5⟩
    · have HSO := Lib.hid hso
      haveI hBB : ∀ {L R : Units} [Unit_ L (SU stays) R], Has L b.blk (stayO b.proc b.epoch b.rep b.members (b.r0.val b.m0.length) (b.r1.val b.m1.length) b.cb (b.tr.map (·.1)) b.went) := fun {L R} h => HB.out b (stayOk_some hso).1
      clear hso
      rcases ht : b.tr with _ | t
      all_goals
        go_wp2_with (first | ((with_reducible refine at_load39 ?_); refine wpList_loadEv e rfl ?_) | (go_at_call 19; go_must (refine (stay19_yes e lv nw lvv s b HSO.out HL.out HN.out (fun b hb => HB.out b hb) _).mono ?_); rintro en w' ⟨rfl, z, rfl⟩) | (go_at_call 20; refine (breaks_spec _ _ _).mono ?_; rintro en w' ⟨rfl, z2, rfl⟩))
        go_end0
        rw [HSO.out]
        simp only [standB, ht, Option.isSome_none, Option.isSome_some]
        refine ⟨rfl, r', HOK.out, ?_⟩
        first
        | (obtain ⟨z5, h5⟩ := toSt (M := [(m, monO sb eb mb st lb nb (brk br 1 true) ln at_ ru)] :: [(sb, sendsO (g.put e.place (r', ms ++ [⟨e.m, d⟩])))] :: [(lb, lv.obj ikey bval)] :: [(nb, nw.obj ikey pval)] :: r'.u 34 :: X :: SU stays :: F :: R) z2
           exact ⟨z5.re (Eqv.cons _ (Eqv.cons _ (Eqv.cons _ (Eqv.cons _ ((Eqv.split _ _ _).symm.trans (Eqv.head (HX.out (r', ms ++ [⟨e.m, d⟩])).symm _)))))), h5⟩)
        | (obtain ⟨z5, h5⟩ := toSt (M := [(m, monO sb eb mb st lb nb (brk br 1 false) ln at_ ru)] :: [(sb, sendsO (g.put e.place (r', ms ++ [⟨e.m, d⟩])))] :: [(lb, lv.obj ikey bval)] :: [(nb, nw.obj ikey pval)] :: r'.u 34 :: X :: SU stays :: F :: R) z2
           exact ⟨z5.re (Eqv.cons _ (Eqv.cons _ (Eqv.cons _ (Eqv.cons _ ((Eqv.split _ _ _).symm.trans (Eqv.head (HX.out (r', ms ++ [⟨e.m, d⟩])).symm _)))))), h5⟩)
set_option maxHeartbeats 4000000 in
theorem send_other {F : Blocks} (e : Ev) (g : GMap Place SV) (lv : GMap Int Bool) (nw : GMap Int Nat) (stays : List GStay) (lvv : Bool) (s : Option GStay)
    (hpf : (e.proc == e.m.frm) = false) (hl : (lv.get e.proc).getD false = lvv) (hnw : nw.get e.proc = s.map GStay.blk) (hs : ∀ b, s = some b → b ∈ stays) {R : Units} (x : St (SendL m sb eb mb lb nb st br ln at_ ru g lv nw stays F R)) :
    Calls Try.prog 17 #[.pointer (some ⟨m, 0, none⟩), evV e] x.w (Ret (SendL m sb eb mb lb nb st (standB br (stayOk lvv s e)) ln at_ ru g lv nw stays F R) (.tuple #[])) := by
  have HL := Lib.hid hl
  have HN := Lib.hid hnw
  have hBi : ∀ b, s = some b → ∀ {L R : Units} [Unit_ L (SU stays) R], Has L b.blk b.obj := fun b hb {L R} h => ⟨h.ok.mem_iff.2 (by simp [mem_SU (hs b hb) (show (b.blk, b.obj) ∈ b.u by simp [GStay.u])])⟩
  have HB := Lib.hid @hBi
  clear hBi hl hnw hs
  rcases hso : stayOk lvv s e with _ | b
  · have HSO := Lib.hid hso
    clear hso
    go_enter Try.func17, Try.ntmps17
    go_wp2_with (first | ((with_reducible refine wpList_box_st (T := 39) (by simp [go_sem]; rfl) ?_); intro xb y0) | ((with_reducible refine at_load39 ?_); refine wpList_loadEv e rfl ?_) | (go_at_call 19; go_must (refine (stay19_no e lv nw lvv s HSO.out HL.out HN.out (fun b hb => HB.out b hb) _).mono ?_); rintro en w' ⟨rfl, z, rfl⟩))
    go_end0
    simp only [standB]
    exact ⟨rfl, toSt z⟩
  · have HSO := Lib.hid hso
    haveI hBB : ∀ {L R : Units} [Unit_ L (SU stays) R], Has L b.blk (stayO b.proc b.epoch b.rep b.members (b.r0.val b.m0.length) (b.r1.val b.m1.length) b.cb (b.tr.map (·.1)) b.went) := fun {L R} h => HB.out b (stayOk_some hso).1
    clear hso
    rcases ht : b.tr with _ | t
    all_goals
      go_enter Try.func17, Try.ntmps17
      go_wp2_with (first | ((with_reducible refine wpList_box_st (T := 39) (by simp [go_sem]; rfl) ?_); intro xb y0) | ((with_reducible refine at_load39 ?_); refine wpList_loadEv e rfl ?_) | (go_at_call 19; go_must (refine (stay19_yes e lv nw lvv s b HSO.out HL.out HN.out (fun b hb => HB.out b hb) _).mono ?_); rintro en w' ⟨rfl, z, rfl⟩) | (go_at_call 20; refine (breaks_spec _ _ _).mono ?_; rintro en w' ⟨rfl, z2, rfl⟩))
      go_end0
      simp only [standB, ht, Option.isSome_none, Option.isSome_some]
      exact ⟨rfl, toSt z2⟩
end
end Go.Proofs.Ythijlgjfgliinaa
