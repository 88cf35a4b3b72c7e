/- A message is delivered: what stands in no configuration. -/
import Derived.Test.YthijlgjfgliinaaMon11
set_option linter.all false
namespace Go.Proofs.Ythijlgjfgliinaa
open Go.RowKit
variable [Env]
set_option maxRecDepth 100000
abbrev seenO (g : GMap Had Bool) : Obj := g.obj Had.key bval
theorem look_sends {L : Units} (r : Nat) (g : GMap Place SV) (k : Place) (p : SV) (hp : (g.get k).getD (Row.nil, []) = p) [h : Has L r (sendsO g)] (x : St L) :
    (Instr.lookup 45 (.map (some r)) (.agg #[.int .u64 k.epoch, .int .i64 k.rep, .int .i64 k.frm, .int .u32 k.seq]) false).run Try.prog x.w = .ok (p.1.val p.2.length) x.w := by
  have := run_lookup_g (P := Try.prog) KL69 (T := 45) (et := 61) (z := .slice none 0 0) (ev := sval) Try.underlying45 (fun w => by simp [go_sem]) g (St.heap (h := h) x) k false
  rw [this, ← hp]
  cases g.get k <;> rfl
theorem look_seen {L : Units} (r : Nat) (g : GMap Had Bool) (k : Had) (v : Bool) (hv : (g.get k).getD false = v) [h : Has L r (seenO g)] (x : St L) :
    (Instr.lookup 46 (.map (some r)) (.agg #[.int .i64 k.proc, .int .u64 k.place.epoch, .int .i64 k.place.rep, .int .i64 k.place.frm, .int .u32 k.place.seq]) false).run Try.prog x.w = .ok (.bool v) x.w := by
  have := run_lookup_g (P := Try.prog) KL71 (T := 46) (et := 4) (z := .bool false) (ev := bval) Try.underlying46 (fun w => by simp [go_sem]) g (St.heap (h := h) x) k false
  rw [this, ← hv]
  cases g.get k <;> rfl
theorem upd_seen {L M : Units} (r : Nat) (g : GMap Had Bool) (k : Had) [h : Has L r (seenO g)] [Lay L r (seenO (g.put k true)) M] (x : St L) :
    (Instr.mapUpdate 46 (.map (some r)) (.agg #[.int .i64 k.proc, .int .u64 k.place.epoch, .int .i64 k.place.rep, .int .i64 k.place.frm, .int .u32 k.place.seq]) (.bool true)).run Try.prog x.w = .ok () (x.lay r (seenO (g.put k true))).w :=
  run_mapUpdate_g (P := Try.prog) KL71 (T := 46) (et := 4) (ev := bval) Try.underlying46 g (St.heap (h := h) x) k true
/-- How often a message is among others. -/
def cntMg (x : Mg) : List Mg → Nat
  | [] => 0
  | y :: l => (if x = y then 1 else 0) + cntMg x l
theorem cntMg_le (x : Mg) : ∀ l, cntMg x l ≤ l.length
  | [] => Nat.le_refl _
  | y :: l => by
    have := cntMg_le x l
    simp only [cntMg, List.length_cons]
    split <;> omega
def Ev.had (e : Ev) : Had := ⟨e.proc, e.place⟩
/-- What a delivery breaks, wherever it stands. -/
def del1 (br : Int) (x : Mg) (lm : List Mg) (seen : Bool) : Int := brk (brk br 2 ((cntMg x lm : Int) != 1)) 3 seen
section
variable {m sb eb mb lb nb : Nat} {st : Value} {br ln at_ ru : Int}
abbrev DelL (m sb eb mb lb nb : Nat) (st : Value) (br ln at_ ru : Int) (g : GMap Place SV) (sn : GMap Had Bool) (lv : GMap Int Bool) (nw : GMap Int Nat) (stays : List GStay) (F : Blocks) (R : Units) : Units :=
  [(m, monO sb eb mb st lb nb br ln at_ ru)] :: [(sb, sendsO g)] :: [(eb, seenO sn)] :: [(lb, lv.obj ikey bval)] :: [(nb, nw.obj ikey pval)] :: SR g :: SU stays :: F :: R
abbrev placeO (e : Ev) : Obj := .cells #[.int .u64 e.epoch, .int .i64 e.rep, .int .i64 e.m.frm, .int .u32 e.m.seq] 69
abbrev hadO (e : Ev) : Obj := .cells #[.int .i64 e.proc, .int .u64 e.epoch, .int .i64 e.rep, .int .i64 e.m.frm, .int .u32 e.m.seq] 71
def DcInv (x : Mg) (lm : List Mg) (n : Nat) (L : Units) (v5 v35 : Value) (w : World) : Prop :=
  ∃ k c : Nat, k ≤ n ∧ c ≤ k ∧ v5 = .int .i64 c ∧ v35 = .int .i64 k ∧ cntMg x lm = c + cntMg x (lm.drop k) ∧ ∃ y : St L, w = y.w
set_option maxHeartbeats 4000000 in
theorem deliver_dead {F : Blocks} (e : Ev) (d : List Int) (hd : GM.ok F ⟨e.m, d⟩) (g : GMap Place SV) (r : Row) (ms : List GM) (n : Nat) (hlen : Hid (ms.length = n)) (hn : n ≤ 1000) (hg : (g.get e.place).getD (Row.nil, []) = (r, ms)) (hr : RowOk r 6 (ms.map GM.cells)) (hms : ∀ q ∈ ms, q.ok F)
    (sn : GMap Had Bool) (seen : Bool) (hsn : (sn.get e.had).getD false = seen) (lv : GMap Int Bool) (nw : GMap Int Nat) (stays : List GStay) (lvv : Bool) (s : Option GStay)
    (hl : (lv.get e.proc).getD false = lvv) (hnw : nw.get e.proc = s.map GStay.blk) (hs : ∀ b, s = some b → b ∈ stays) (hso : stayOk lvv s e = none) {R : Units} (x : St (DelL m sb eb mb lb nb st br ln at_ ru g sn lv nw stays F R)) :
    Calls Try.prog 18 #[.pointer (some ⟨m, 0, none⟩), evV e] x.w (Ret (DelL m sb eb mb lb nb st (brk (del1 br (GM.mg ⟨e.m, d⟩) (ms.map GM.mg) seen) 1 true) ln at_ ru g (sn.put e.had true) lv nw stays F R) (.tuple #[])) := by
  have h1 : ∀ {L : Units} [Has L sb (sendsO g)] (x : St L), (Instr.lookup 45 (.map (some sb)) (.agg #[.int .u64 e.epoch, .int .i64 e.rep, .int .i64 e.m.frm, .int .u32 e.m.seq]) false).run Try.prog x.w = .ok (r.val ms.length) x.w :=
    fun x => look_sends sb g e.place (r, ms) hg x
  have h2 : ∀ {L : Units} [Has L eb (seenO sn)] (x : St L), (Instr.lookup 46 (.map (some eb)) (.agg #[.int .i64 e.proc, .int .u64 e.epoch, .int .i64 e.rep, .int .i64 e.m.frm, .int .u32 e.m.seq]) false).run Try.prog x.w = .ok (.bool seen) x.w :=
    fun x => look_seen eb sn e.had seen hsn x
  have h3 : ∀ {L M : Units} [Has L eb (seenO sn)] [Lay L eb (seenO (sn.put e.had true)) M] (x : St L), (Instr.mapUpdate 46 (.map (some eb)) (.agg #[.int .i64 e.proc, .int .u64 e.epoch, .int .i64 e.rep, .int .i64 e.m.frm, .int .u32 e.m.seq]) (.bool true)).run Try.prog x.w = .ok () (x.lay eb (seenO (sn.put e.had true))).w :=
    fun x => upd_seen eb sn e.had x
  obtain ⟨ra, rc, hrv, hrs⟩ := r.val_slice hr 34
  rw [show (ms.map GM.cells).length = n by simp [hlen.out]] at hrv hrs
  rw [hlen.out, hrv] at h1
  have hrU : SlIn (SR g) ra n 6 (ms.map GM.cells) := hrs.mono fun p hp => by
    obtain ⟨X, hX1, _⟩ := SR_focus hg
    exact hX1.mem_iff.2 (by simp [hp])
  have HRS := Lib.hid hrU
  have HD := Lib.hid hd
  have HMS := Lib.hid hms
  have HL := Lib.hid hl
  have HN := Lib.hid hnw
  have HSO := Lib.hid hso
  have hBi : ∀ b, s = some b → ∀ {L R : Units} [Unit_ L (SU stays) R], Has L b.blk b.obj := fun b hb {L R} h => ⟨h.ok.mem_iff.2 (by simp [mem_SU (hs b hb) (show (b.blk, b.obj) ∈ b.u by simp [GStay.u])])⟩
  have HB := Lib.hid @hBi
  clear hBi hl hnw hs hso hrs hrU hrv hd hms hsn hr hg
  go_enter Try.func18, Try.ntmps18
  go_wp2_with (first | ((with_reducible refine wpList_box_st (T := 39) (by simp [go_sem]; rfl) ?_); intro xb y0) | ((with_reducible refine wpList_alloc_st rfl (by simp only [Value.cells]; rfl) ?_); intro kb y1) | ((with_reducible refine at_store ?_); refine wpList_storeAll rfl rfl rfl (by rfl) rfl ?_; intro y))
  have hne : Nonempty (St _) := ⟨y⟩
  refine wp_region_st (by kernel_rfl) (by kernel_rfl) ?_
  repeat (go_big_quiet_step (fail))
  refine wpQuiet_nil ?_
  intro z
  clear hne y y0 y1 h1
  go_wp2_with fail
  go_loopw [5, 35] (fun v5 v35 wr => DcInv (GM.mg ⟨e.m, d⟩) (ms.map GM.mg) n ([(kb, placeO e)] :: [(xb, evO e)] :: DelL m sb eb mb lb nb st br ln at_ ru g sn lv nw stays F R) v5 v35 wr) (fun _ v _ => n - (intOf v).toNat)
  case atStart => exact ⟨0, 0, by omega, by omega, rfl, rfl, by simp, _, rfl⟩
  case round =>
    clear z
    obtain ⟨k, c, hk, hck, rfl, rfl, hcn, y, rfl⟩ := hrel
    by_cases hlt : k < n
    · obtain ⟨q, hq⟩ : ∃ q, ms[k]? = some q := ⟨ms[k]'(by rw [hlen.out]; exact hlt), List.getElem?_eq_getElem _⟩
      rcases HRS.out.2 with h0 | ⟨rb, ro, rarr, rT, rfr, rfl, hrm, hrow⟩
      · omega
      haveI hS : ∀ {L R : Units} [Unit_ L (SR g) R], Has L rb (.cells rarr rT rfr) := fun {L R} h => ⟨h.ok.mem_iff.2 (by simp [hrm])⟩
      obtain ⟨c0, c1, c2, c3, c4, c5⟩ := row_msg hrow hq
      have Hq := Lib.hid (HMS.out q (List.mem_of_getElem? hq))
      have hdr : (ms.map GM.mg).drop k = q.mg :: (ms.map GM.mg).drop (k + 1) := by
        have h1 : (ms.map GM.mg)[k]? = some q.mg := by simp [hq]
        obtain ⟨h2, h3⟩ := List.getElem?_eq_some_iff.1 h1
        rw [List.drop_eq_getElem_cons h2, h3]
      rw [hdr, cntMg] at hcn
      have HC := Lib.hid hcn
      clear hcn hdr hq hrm hrow
      by_cases he : GM.mg ⟨e.m, d⟩ = q.mg
      · have HE := Lib.hid he
        have hb : decide (GM.mg ⟨e.m, d⟩ = q.mg) = true := by simp [he]
        clear he
        go_wp2_with (first | ((with_reducible refine wpList_alloc_st rfl (by simp only [Value.cells]; rfl) ?_); intro tb y1) | ((with_reducible refine at_store ?_); refine wpList_storeAll rfl rfl rfl (by rfl) rfl ?_; intro y2) | (go_at_call 34; refine (same_spec (F := F) ⟨e.m, d⟩ q HD.out Hq.out _).mono ?_; rintro en w' ⟨rfl, y3, rfl⟩))
        go_roundw
        case rel => exact ⟨k + 1, c + 1, by omega, by omega, by go_num, by go_num, by rw [HC.out, if_pos HE.out]; omega, toSt _⟩
        case measure => simp [intOf]; omega
      · have HE := Lib.hid he
        have hb : decide (GM.mg ⟨e.m, d⟩ = q.mg) = false := by simp [he]
        clear he
        go_wp2_with (first | ((with_reducible refine wpList_alloc_st rfl (by simp only [Value.cells]; rfl) ?_); intro tb y1) | ((with_reducible refine at_store ?_); refine wpList_storeAll rfl rfl rfl (by rfl) rfl ?_; intro y2) | (go_at_call 34; refine (same_spec (F := F) ⟨e.m, d⟩ q HD.out Hq.out _).mono ?_; rintro en w' ⟨rfl, y3, rfl⟩))
        go_roundw
        case rel => exact ⟨k + 1, c, by omega, by omega, by go_num, by go_num, by rw [HC.out, if_neg HE.out]; omega, toSt _⟩
        case measure => simp [intOf]; omega
    · have hkn : k = n := by omega
      have e1 : (ms.map GM.mg).drop k = [] := by rw [List.drop_eq_nil_iff, List.length_map, hlen.out]; omega
      rw [e1] at hcn
      have HC : Hid (cntMg (GM.mg ⟨e.m, d⟩) (ms.map GM.mg) = c) := Lib.hid hcn
      clear hcn e1
      go_wp2_with (first | ((with_reducible refine wpList_alloc_st rfl (by simp only [Value.cells]; rfl) ?_); intro hb y1) | ((with_reducible refine at_store ?_); refine wpList_storeAll rfl rfl rfl (by rfl) rfl ?_; intro y2) | (go_at_call 20; refine (breaks_spec _ _ _).mono ?_; rintro en w' ⟨rfl, y3, rfl⟩; revert y3; generalize hbr : brk br 2 ((c : Int) != 1) = br1; intro y3; replace hbr := Lib.hid hbr))
      simp only [Act.put, List.setIfInBounds_toArray, List.set_cons_zero, List.set_cons_succ]
      have hne : Nonempty (St _) := ⟨y2⟩
      refine wp_region_st_tail 8 (by kernel_rfl) (by kernel_rfl) ?_
      simp only [List.take_succ_cons, List.take_zero, List.drop_succ_cons, List.drop_zero]
      repeat (go_big_quiet_step (fail))
      refine wpQuiet_nil ?_
      intro z
      clear hne y2 y3 y1 y h2
      go_wp2_with (go_at_call 20; refine (breaks_spec _ _ _).mono ?_; rintro en w' ⟨rfl, y3, rfl⟩)
      have hne : Nonempty (St _) := ⟨y3⟩
      refine wp_region_st_tail 6 (by kernel_rfl) (by kernel_rfl) ?_
      simp only [List.take_succ_cons, List.take_zero, List.drop_succ_cons, List.drop_zero]
      repeat (go_big_quiet_step (fail))
      refine wpQuiet_nil ?_
      intro z2
      clear hne z
      go_wp2_with (first | ((with_reducible refine at_load39 ?_); refine wpList_loadEv e rfl ?_) | (go_at_call 19; go_must (refine (stay19_no e lv nw lvv s HSO.out HL.out HN.out (fun b hb => HB.out b hb) _).mono ?_); rintro en w' ⟨rfl, z3, rfl⟩))
      go_end0
      have e2 : del1 br (GM.mg ⟨e.m, d⟩) (ms.map GM.mg) seen = brk (brk br 2 ((c : Int) != 1)) 3 seen := by unfold del1; rw [HC.out]
      rw [e2, hbr.out]
      exact ⟨rfl, toSt z3⟩
end
end Go.Proofs.Ythijlgjfgliinaa
