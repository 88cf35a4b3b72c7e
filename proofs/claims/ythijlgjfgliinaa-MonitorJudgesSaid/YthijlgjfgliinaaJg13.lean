/- Part 13 of the proof of what MonJudges says. -/
import Derived.Test.YthijlgjfgliinaaJg12
section
/- A message is delivered: what stands in a configuration, and has a way on. -/
set_option linter.all false
namespace Go.Proofs.Ythijlgjfgliinaa
open Go.RowKit
open Go.W
variable [Env]
attribute [local irreducible] opsC wpC quietC LoopC DrawC CutC LoadC StoreC ReadC UpdC RunC CallC QCallC EndC thenC inBlockC
set_option maxRecDepth 100000
section
variable {m sb eb mb lb nb : Nat} {br ln at_ ru : Int}
set_option synthInstance.maxHeartbeats 400000 in
set_option synthInstance.maxSize 2000 in
set_option maxHeartbeats 4000000 in
theorem deliver_go1 {F X : Blocks} (e : Ev) (d : List Int) (hd : GM.ok F ⟨e.m, d⟩) (xt : Nat) (te : Ev) (g : GMap Place SV) (ra : Option Addr) (rc : Nat) (ms : List GM) (n : Nat) (hlen : ms.length = n) (hn : n ≤ 1000)
    (h1 : ∀ {L : Units} [Has L sb (sendsO g)] (x : St L), (Instr.lookup 45 (.map (some sb)) (.agg #[.int .u64 e.epoch, .int .i64 e.rep, .int .i64 e.m.frm, .int .u32 e.m.seq]) false).run Try.prog x.w = .ok (.slice ra n rc) x.w)
    (hrs : SlIn (SR g) ra n 6 (ms.map GM.cells)) (hms : ∀ q ∈ ms, q.ok F)
    (sn : GMap Had Bool) (seen : Bool) (hsn : (sn.get e.had).getD false = seen) (lv : GMap Int Bool) (nw : GMap Int Nat) (sa : Option Addr) (sc : Nat) (s : GStay) (nst : Nat) (so : Obj) (hso : s.obj = so)
    (hl : (lv.get e.proc).getD false = true) (hnw : nw.get e.proc = some s.blk) (hsok : stayOk true (some s) e = some s) (a0 a1 : Option Addr) (n0 n1 c0' c1' N : Nat) (hN : n0 + n1 = N) (hN2 : N ≤ 1000) (hs0 : SlIn (s.r0.u 34) a0 n0 6 (s.m0.map GM.cells)) (hs1 : SlIn (s.r1.u 34) a1 n1 6 (s.m1.map GM.cells)) (ht : so = stayO s.proc s.epoch s.rep s.members (.slice a0 n0 c0') (.slice a1 n1 c1') s.cb (some xt) s.went) (htr : s.tr = some (xt, te))
    (hn0 : s.m0.length = n0) (hn1 : s.m1.length = n1) (hv0 : s.r0.val n0 = .slice a0 n0 c0') (hv1 : s.r1.val n1 = .slice a1 n1 c1') (hks : s.ok F) (stays : List GStay) (si : Nat) (hsi : stays[si]? = some s) (hX : ∀ s', (SU (stays.set si s')).Perm (s'.u ++ X)) (hoks : ∀ o ∈ stays, o.ok F)
    (hnst : stays.length = nst) (hnst2 : nst ≤ 1000) (stR : Row) (hss : SlIn (stR.u 57) sa nst 1 (stays.map ptrCell)) (c0 : Int) (hc0 : (s.count.get e.m.frm).getD 0 = c0) (hcb : 0 ≤ c0 ∧ c0 ≤ 1000) (R : Units) (T : Units) (hT : T = stR.u 57 :: R) :
    Does Try.prog 18 #[.pointer (some ⟨m, 0, none⟩), evV e] (DelG m sb eb mb lb nb (.slice sa nst sc) br ln at_ ru g sn lv nw so s X F T)
      (fun en M => ∃ r' : Row, RowOk r' 6 (s.m1.map GM.cells ++ [GM.cells ⟨e.m, d⟩]) ∧ Gives (DelL m sb eb mb lb nb (.slice sa nst sc) (tellB s.epoch s.rep te.members (GM.mg ⟨e.m, d⟩) ((stays.set si (s.take1 ⟨e.m, d⟩ r' (s.count.put e.m.frm (c0 + 1)))).map GStay.abs) (depsB (fun q => (s.count.get q).getD 0) 0 d (lastB (brk (del1 br (GM.mg ⟨e.m, d⟩) (ms.map GM.mg) seen) 2 (!confEq e.nepoch e.nrep te.nepoch te.nrep)) ((s.m0 ++ s.m1).map GM.mg) (GM.mg ⟨e.m, d⟩)))) ln at_ ru g (sn.put e.had true) lv nw (stays.set si (s.take1 ⟨e.m, d⟩ r' (s.count.put e.m.frm (c0 + 1)))) F T) (.tuple #[]) en M) := by
  subst ht
  have h2 : ∀ {L : Units} [Has L eb (seenO sn)] (x : St L), (Instr.lookup 46 (.map (some eb)) (.agg #[.int .i64 e.proc, .int .u64 e.epoch, .int .i64 e.rep, .int .i64 e.m.frm, .int .u32 e.m.seq]) false).run Try.prog x.w = .ok (.bool seen) x.w :=
    fun x => look_seen eb sn e.had seen hsn x
  have h3 : ∀ {L M : Units} [Has L eb (seenO sn)] [Lay L eb (seenO (sn.put e.had true)) M] (x : St L), (Instr.mapUpdate 46 (.map (some eb)) (.agg #[.int .i64 e.proc, .int .u64 e.epoch, .int .i64 e.rep, .int .i64 e.m.frm, .int .u32 e.m.seq]) (.bool true)).run Try.prog x.w = .ok () (x.lay eb (seenO (sn.put e.had true))).w :=
    fun x => upd_seen eb sn e.had x
  have hStay : ∀ {L R : Units} [Unit_ L [(s.blk, s.obj)] R], Has L s.blk s.obj := fun {L R} h => ⟨h.ok.mem_iff.2 (by simp)⟩
  refine does_of_wpC (args := [.pointer (some ⟨m, 0, none⟩), evV e]) Try.func18 rfl (by kernel_rfl) ?_
  repeat (first | refine c_seq ?_ | refine c_reg ?_ | refine r_nil ?_ | refine e_n ?_ | refine CutC.go ?_ | refine r_field0 (by rfl) (by rfl) ?_ | refine r_field (by rfl) (by rfl) ?_ | refine r_val (by rfl) ?_ | (refine r_load (by rfl) ?_; refine LoadC.one (by rfl) (by rfl) ?_) | (refine r_store (by rfl) (by rfl) ?_; refine StoreC.all (by rfl) (by rfl) (by rfl) (by rfl) (by rfl) ?_) | refine r_box (by rfl) (by rfl) (fun _ => ?_) | refine r_alloc (by rfl) (by rfl) (fun _ => ?_) | refine r_build (by rfl) (by rfl) ?_ | refine c_draw ?_ | (refine r_load (by rfl) ?_; refine LoadC.agg (by rfl) (by rfl) ?_))
  refine d_all (by kernel_rfl) ?_
  repeat (first | (refine q_look (by rfl) (by rfl) ?_; refine ReadC.of (fun x => h1 x) ?_) | refine e_n ?_ | refine CutC.go ?_ | refine c_block ?_ | refine c_loop ?_ | refine q_nil ?_ | refine q_field0 (by rfl) (by rfl) ?_ | refine q_lenS (by rfl) (by rfl) ?_ | refine q_val (by rfl) ?_ | (refine q_load (by rfl) ?_; refine LoadC.one (by rfl) (by rfl) ?_) | (refine q_load (by rfl) ?_; refine LoadC.agg (by rfl) (by rfl) ?_))
  rename_i xb kb
  refine LoopC.inv (γ := Nat × Nat) (fun p => p.1 ≤ n ∧ p.2 ≤ p.1 ∧ cntMg (GM.mg ⟨e.m, d⟩) (ms.map GM.mg) = p.2 + cntMg (GM.mg ⟨e.m, d⟩) ((ms.map GM.mg).drop p.1))
    (fun p => [(0, .pointer (some ⟨m, 0, none⟩)), (3, .pointer (some ⟨xb, 0, none⟩)), (4, .pointer (some ⟨kb, 0, none⟩)), (5, .int .i64 (p.2 : Nat)), (33, .slice ra n rc), (34, .int .i64 n), (35, .int .i64 (p.1 : Nat))])
    (fun _ => [(kb, placeO e)] :: [(xb, evO e)] :: DelG m sb eb mb lb nb (.slice sa nst sc) br ln at_ ru g sn lv nw (stayO s.proc s.epoch s.rep s.members (.slice a0 n0 c0') (.slice a1 n1 c1') s.cb (some xt) s.went) s X F T) (fun p => n - p.1)
    (MeetC.mk (0, 0) ⟨by omega, by omega, by simp⟩ ⟨rfl, rfl, rfl, rfl, rfl, rfl, rfl, rfl⟩ (Incl.of' rfl)) ?_
  rintro ⟨k, c⟩ ⟨hk, hck, hcn⟩ f0
  simp only at hk hck hcn ⊢
  by_cases hlt : k < n
  · have hd1 : decide ((k : Int) < (n : Int)) = true := by simp; omega
    obtain ⟨q, hq⟩ : ∃ q, ms[k]? = some q := ⟨ms[k]'(by rw [hlen]; exact hlt), List.getElem?_eq_getElem _⟩
    rcases hrs.2 with h0 | ⟨rb, ro, rarr, rT, rfr, rfl, hrm, hrow⟩
    · omega
    haveI hS : ∀ {L R : Units} [Unit_ L (SR g) R], Has L rb (.cells rarr rT rfr) := fun {L R} h => ⟨h.ok.mem_iff.2 (by simp [hrm])⟩
    have hqc : (ms.map GM.cells)[k]? = some q.cells := by simp [hq]
    have Hq := hms q (List.mem_of_getElem? hq)
    have hdr : (ms.map GM.mg).drop k = q.mg :: (ms.map GM.mg).drop (k + 1) := by
      have h1 : (ms.map GM.mg)[k]? = some q.mg := by simp [hq]
      obtain ⟨h2, h3⟩ := List.getElem?_eq_some_iff.1 h1
      rw [List.drop_eq_getElem_cons h2, h3]
    rw [hdr, cntMg] at hcn
    by_cases he : GM.mg ⟨e.m, d⟩ = q.mg
    · have hb : decide (GM.mg ⟨e.m, d⟩ = q.mg) = true := by simp [he]
      rw [if_pos he] at hcn
      repeat (first | (refine r_index (by rfl) (by rfl) (by rfl) hlt ?_) | (refine r_load (by rfl) ?_; refine LoadC.row (b := rb) hrow hqc rfl (by rfl) ?_) | (refine r_fun (by rfl) (by rfl) ?_; refine CallC.ret (g := 34) (fun x => same_spec (F := F) ⟨e.m, d⟩ q hd Hq x) ?_) | refine c_seq ?_ | refine c_reg ?_ | refine r_nil ?_ | refine e_n ?_ | refine CutC.go ?_ | refine r_field0 (by rfl) (by rfl) ?_ | refine r_val (by rfl) ?_ | (refine r_store (by rfl) (by rfl) ?_; refine StoreC.all (by rfl) (by rfl) (by rfl) (by rfl) (by rfl) ?_) | refine c_yes (by rfl) (by first | with_reducible assumption | decide) ?_ | refine c_skip ?_ | refine c_block ?_ | refine b_n ?_ | refine r_alloc (by rfl) (by rfl) (fun _ => ?_) | (refine r_load (by rfl) ?_; refine LoadC.agg (by rfl) (by rfl) ?_))
      exact MeetC.mk (k + 1, c + 1) ⟨⟨by simp only; omega, by simp only; omega, by simp only; omega⟩, by simp only; omega⟩ ⟨rfl, rfl, rfl, i64_succ (by omega), rfl, rfl, i64_succ (by omega), rfl⟩ Incl.of
    · have hb : decide (GM.mg ⟨e.m, d⟩ = q.mg) = false := by simp [he]
      rw [if_neg he] at hcn
      repeat (first | (refine r_index (by rfl) (by rfl) (by rfl) hlt ?_) | (refine r_load (by rfl) ?_; refine LoadC.row (b := rb) hrow hqc rfl (by rfl) ?_) | (refine r_fun (by rfl) (by rfl) ?_; refine CallC.ret (g := 34) (fun x => same_spec (F := F) ⟨e.m, d⟩ q hd Hq x) ?_) | refine c_seq ?_ | refine c_reg ?_ | refine r_nil ?_ | refine e_n ?_ | refine CutC.go ?_ | refine r_field0 (by rfl) (by rfl) ?_ | refine r_val (by rfl) ?_ | (refine r_store (by rfl) (by rfl) ?_; refine StoreC.all (by rfl) (by rfl) (by rfl) (by rfl) (by rfl) ?_) | refine c_yes (by rfl) (by first | with_reducible assumption | decide) ?_ | refine c_no (by rfl) (by first | with_reducible assumption | decide) ?_ | refine c_skip ?_ | refine c_block ?_ | refine b_n ?_ | refine r_alloc (by rfl) (by rfl) (fun _ => ?_) | (refine r_load (by rfl) ?_; refine LoadC.agg (by rfl) (by rfl) ?_))
      exact MeetC.mk (k + 1, c) ⟨⟨by simp only; omega, by simp only; omega, by simp only; omega⟩, by simp only; omega⟩ ⟨rfl, rfl, rfl, rfl, rfl, rfl, i64_succ (by omega), rfl⟩ Incl.of
  have hd1 : decide ((k : Int) < (n : Int)) = false := by simp; omega
  have hkn : k = n := by omega
  have e1 : (ms.map GM.mg).drop k = [] := by rw [List.drop_eq_nil_iff, List.length_map, hlen]; omega
  rw [e1] at hcn
  have HC : cntMg (GM.mg ⟨e.m, d⟩) (ms.map GM.mg) = c := hcn
  repeat (first | (refine r_fun (by rfl) (by rfl) ?_; refine CallC.ret (g := 20) (fun x => breaks_spec _ _ x) ?_) | refine c_seq ?_ | refine c_reg ?_ | refine r_nil ?_ | refine e_n ?_ | refine CutC.go ?_ | refine r_field0 (by rfl) (by rfl) ?_ | refine r_val (by rfl) ?_ | (refine r_load (by rfl) ?_; refine LoadC.one (by rfl) (by rfl) ?_) | (refine r_store (by rfl) (by rfl) ?_; refine StoreC.all (by rfl) (by rfl) (by rfl) (by rfl) (by rfl) ?_) | refine c_no (by rfl) (by first | with_reducible assumption | decide) ?_ | refine c_exit ?_ | refine e_x ?_ | refine b_x1 ?_ | refine r_alloc (by rfl) (by rfl) (fun _ => ?_) | refine r_build (by rfl) (by rfl) ?_ | refine c_draw ?_ | (refine r_load (by rfl) ?_; refine LoadC.agg (by rfl) (by rfl) ?_))
  refine d_tail 8 (by kernel_rfl) ?_
  simp only [List.take_succ_cons, List.take_zero, List.drop_succ_cons, List.drop_zero]
  repeat (first | (refine q_look (by rfl) (by rfl) ?_; refine ReadC.of (fun x => h2 x) ?_) | (refine r_fun (by rfl) (by rfl) ?_; refine CallC.ret (g := 20) (fun x => breaks_spec _ _ x) ?_) | refine c_seq ?_ | refine r_nil ?_ | refine e_n ?_ | refine CutC.go ?_ | refine c_draw ?_ | refine q_nil ?_ | refine q_field0 (by rfl) (by rfl) ?_ | refine q_val (by rfl) ?_ | (refine q_load (by rfl) ?_; refine LoadC.one (by rfl) (by rfl) ?_) | (refine q_load (by rfl) ?_; refine LoadC.agg (by rfl) (by rfl) ?_))
  refine d_tail 6 (by kernel_rfl) ?_
  simp only [List.take_succ_cons, List.take_zero, List.drop_succ_cons, List.drop_zero]
  repeat (first | (refine r_upd (by rfl) (by rfl) (by rfl) ?_; refine UpdC.of (fun x => ⟨_, h3 x⟩) ?_) | (refine r_fun (by rfl) (by rfl) ?_; refine CallC.ret (g := 19) (fun x => stay19_yes e lv nw true (some s) s hsok hl hnw (fun b hb => by cases hb; rw [hso]; infer_instance) x) ?_) | refine c_seq ?_ | refine c_reg ?_ | refine r_nil ?_ | refine e_n ?_ | refine CutC.go ?_ | refine r_val (by rfl) ?_ | refine c_no (by rfl) (by first | with_reducible assumption | decide) ?_ | refine c_skip ?_ | refine c_draw ?_ | (refine r_load (by rfl) ?_; refine LoadC.agg (by rfl) (by rfl) ?_) | refine q_nil ?_ | refine q_field0 (by rfl) (by rfl) ?_ | refine q_val (by rfl) ?_ | (refine q_load (by rfl) ?_; refine LoadC.one (by rfl) (by rfl) ?_) | (refine q_load (by rfl) ?_; refine LoadC.agg (by rfl) (by rfl) ?_))
  refine DrawC.cut (γ := Nat) (fun _ => True) (fun t => [(0, .pointer (some ⟨m, 0, none⟩)), (3, .pointer (some ⟨xb, 0, none⟩)), (9, .pointer (some ⟨s.blk, 0, none⟩)), (10, .int .i64 0), (11, .pointer (some ⟨t, 0, none⟩)), (12, .int .u64 s.members)])
    (fun t => [(t, .cells #[.int .u64 0, .int .i64 0] 30)] :: [(xb, evO e)] :: DelG m sb eb mb lb nb (.slice sa nst sc) (del1 br (GM.mg ⟨e.m, d⟩) (ms.map GM.mg) seen) ln at_ ru g (sn.put e.had true) lv nw (stayO s.proc s.epoch s.rep s.members (.slice a0 n0 c0') (.slice a1 n1 c1') s.cb (some xt) s.went) s X F T) ?_ ?_
  · skip
    refine any_start (by kernel_rfl) (by rfl) (by rfl) ?_
    refine any_val (i := 0) (by repeat (first | exact panicFree_body | refine panicFree_then ?_ | refine panicFree_block ?_)) (by rfl) (by kernel_rfl) (by first | exact run_fieldAddr rfl (by rfl) (by rfl) | exact run_buildL rfl rfl (by rfl) (by rfl) | exact pureV_run (by rfl)) ?_
    refine any_val (i := 1) (by repeat (first | exact panicFree_body | refine panicFree_then ?_ | refine panicFree_block ?_)) (by rfl) (by kernel_rfl) (by first | exact run_fieldAddr rfl (by rfl) (by rfl) | exact run_buildL rfl rfl (by rfl) (by rfl) | exact pureV_run (by rfl)) ?_
    refine any_val (i := 2) (by repeat (first | exact panicFree_body | refine panicFree_then ?_ | refine panicFree_block ?_)) (by rfl) (by kernel_rfl) (by first | exact run_fieldAddr rfl (by rfl) (by rfl) | exact run_buildL rfl rfl (by rfl) (by rfl) | exact pureV_run (by rfl)) ?_
    refine any_val (i := 3) (by repeat (first | exact panicFree_body | refine panicFree_then ?_ | refine panicFree_block ?_)) (by rfl) (by kernel_rfl) (by first | exact run_fieldAddr rfl (by rfl) (by rfl) | exact run_buildL rfl rfl (by rfl) (by rfl) | exact pureV_run (by rfl)) ?_
    refine any_all [4, 5] (by kernel_rfl) rfl ⟨⟨_, rfl, ?_⟩, ⟨_, rfl, ?_⟩, trivial⟩
    · repeat (first | refine r_nil ?_ | refine e_n ?_ | (refine r_load (by rfl) ?_; refine LoadC.one (by rfl) (by rfl) ?_) | (refine r_store (by rfl) (by rfl) ?_; refine StoreC.all (by rfl) (by rfl) (by rfl) (by rfl) (by rfl) ?_) | refine r_alloc (by rfl) (by rfl) (fun _ => ?_))
      refine any_all [5] (by kernel_rfl) rfl ⟨⟨_, rfl, ?_⟩, trivial⟩
      repeat (first | refine r_nil ?_ | refine e_n ?_ | (refine r_load (by rfl) ?_; refine LoadC.one (by rfl) (by rfl) ?_) | (refine r_store (by rfl) (by rfl) ?_; refine StoreC.all (by rfl) (by rfl) (by rfl) (by rfl) (by rfl) ?_) | refine r_alloc (by rfl) (by rfl) (fun _ => ?_))
      refine any_val (i := 6) (by repeat (first | exact panicFree_body | refine panicFree_then ?_ | refine panicFree_block ?_)) (by rfl) (by kernel_rfl) (by first | exact run_fieldAddr rfl (by rfl) (by rfl) | exact run_buildL rfl rfl (by rfl) (by rfl) | exact pureV_run (by rfl)) ?_
      refine any_all [7] (by kernel_rfl) rfl ⟨⟨_, rfl, ?_⟩, trivial⟩
      repeat (first | refine r_nil ?_ | refine e_n ?_ | (refine r_load (by rfl) ?_; refine LoadC.one (by rfl) (by rfl) ?_) | (refine r_store (by rfl) (by rfl) ?_; refine StoreC.all (by rfl) (by rfl) (by rfl) (by rfl) (by rfl) ?_) | refine r_alloc (by rfl) (by rfl) (fun _ => ?_))
      refine any_val (i := 8) (by repeat (first | exact panicFree_body | refine panicFree_then ?_ | refine panicFree_block ?_)) (by rfl) (by kernel_rfl) (by first | exact run_fieldAddr rfl (by rfl) (by rfl) | exact run_buildL rfl rfl (by rfl) (by rfl) | exact pureV_run (by rfl)) ?_
      refine any_done (by kernel_rfl) ?_
      refine e_n ?_
      exact MeetC.mk _ trivial ⟨rfl, rfl, rfl, rfl, rfl, rfl, rfl⟩ (by unfold del1; rw [HC]; exact Incl.of)
    · repeat (first | refine r_nil ?_ | refine e_n ?_ | (refine r_load (by rfl) ?_; refine LoadC.one (by rfl) (by rfl) ?_) | (refine r_store (by rfl) (by rfl) ?_; refine StoreC.all (by rfl) (by rfl) (by rfl) (by rfl) (by rfl) ?_) | refine r_alloc (by rfl) (by rfl) (fun _ => ?_))
      refine any_val (i := 6) (by repeat (first | exact panicFree_body | refine panicFree_then ?_ | refine panicFree_block ?_)) (by rfl) (by kernel_rfl) (by first | exact run_fieldAddr rfl (by rfl) (by rfl) | exact run_buildL rfl rfl (by rfl) (by rfl) | exact pureV_run (by rfl)) ?_
      refine any_all [4, 7] (by kernel_rfl) rfl ⟨⟨_, rfl, ?_⟩, ⟨_, rfl, ?_⟩, trivial⟩
      · repeat (first | refine r_nil ?_ | refine e_n ?_ | (refine r_load (by rfl) ?_; refine LoadC.one (by rfl) (by rfl) ?_) | (refine r_store (by rfl) (by rfl) ?_; refine StoreC.all (by rfl) (by rfl) (by rfl) (by rfl) (by rfl) ?_) | refine r_alloc (by rfl) (by rfl) (fun _ => ?_))
        refine any_all [7] (by kernel_rfl) rfl ⟨⟨_, rfl, ?_⟩, trivial⟩
        repeat (first | refine r_nil ?_ | refine e_n ?_ | (refine r_load (by rfl) ?_; refine LoadC.one (by rfl) (by rfl) ?_) | (refine r_store (by rfl) (by rfl) ?_; refine StoreC.all (by rfl) (by rfl) (by rfl) (by rfl) (by rfl) ?_) | refine r_alloc (by rfl) (by rfl) (fun _ => ?_))
        refine any_val (i := 8) (by repeat (first | exact panicFree_body | refine panicFree_then ?_ | refine panicFree_block ?_)) (by rfl) (by kernel_rfl) (by first | exact run_fieldAddr rfl (by rfl) (by rfl) | exact run_buildL rfl rfl (by rfl) (by rfl) | exact pureV_run (by rfl)) ?_
        refine any_done (by kernel_rfl) ?_
        refine e_n ?_
        exact MeetC.mk _ trivial ⟨rfl, rfl, rfl, rfl, rfl, rfl, rfl⟩ (by unfold del1; rw [HC]; exact Incl.of)
      · repeat (first | refine r_nil ?_ | refine e_n ?_ | (refine r_load (by rfl) ?_; refine LoadC.one (by rfl) (by rfl) ?_) | (refine r_store (by rfl) (by rfl) ?_; refine StoreC.all (by rfl) (by rfl) (by rfl) (by rfl) (by rfl) ?_) | refine r_alloc (by rfl) (by rfl) (fun _ => ?_))
        refine any_all [4] (by kernel_rfl) rfl ⟨⟨_, rfl, ?_⟩, trivial⟩
        repeat (first | refine r_nil ?_ | refine e_n ?_ | (refine r_load (by rfl) ?_; refine LoadC.one (by rfl) (by rfl) ?_) | (refine r_store (by rfl) (by rfl) ?_; refine StoreC.all (by rfl) (by rfl) (by rfl) (by rfl) (by rfl) ?_) | refine r_alloc (by rfl) (by rfl) (fun _ => ?_))
        refine any_val (i := 8) (by repeat (first | exact panicFree_body | refine panicFree_then ?_ | refine panicFree_block ?_)) (by rfl) (by kernel_rfl) (by first | exact run_fieldAddr rfl (by rfl) (by rfl) | exact run_buildL rfl rfl (by rfl) (by rfl) | exact pureV_run (by rfl)) ?_
        refine any_done (by kernel_rfl) ?_
        refine e_n ?_
        exact MeetC.mk _ trivial ⟨rfl, rfl, rfl, rfl, rfl, rfl, rfl⟩ (by unfold del1; rw [HC]; exact Incl.of)
  clear f0
  intro kb2 _ f0
  haveI hTI : ∀ {L R : Units} [Unit_ L F R], Has L xt (evO te) := fun {L R} h => ⟨h.ok.mem_iff.2 (by simp [hks.tr xt te htr])⟩
  repeat (first | refine c_seq ?_ | refine c_reg ?_ | refine r_nil ?_ | refine e_n ?_ | refine CutC.go ?_ | refine r_field0 (by rfl) (by rfl) ?_ | refine r_val (by rfl) ?_ | (refine r_load (by rfl) ?_; refine LoadC.one (by rfl) (by rfl) ?_) | refine c_yes (by rfl) (by first | with_reducible assumption | decide) ?_ | refine c_draw ?_)
  refine DrawC.cut (γ := Unit) (fun _ => True) (fun _ => [(0, .pointer (some ⟨m, 0, none⟩)), (3, .pointer (some ⟨xb, 0, none⟩)), (9, .pointer (some ⟨s.blk, 0, none⟩)), (10, .int .i64 1), (11, .pointer (some ⟨kb2, 0, none⟩)), (12, .int .u64 te.members)])
    (fun _ => [(kb2, .cells #[.int .u64 te.nepoch, .int .i64 te.nrep] 30)] :: [(xb, evO e)] :: DelG m sb eb mb lb nb (.slice sa nst sc) (del1 br (GM.mg ⟨e.m, d⟩) (ms.map GM.mg) seen) ln at_ ru g (sn.put e.had true) lv nw (stayO s.proc s.epoch s.rep s.members (.slice a0 n0 c0') (.slice a1 n1 c1') s.cb (some xt) s.went) s X F T) ?_ ?_
  · skip
    refine any_start (by kernel_rfl) (by rfl) (by rfl) ?_
    refine any_val (i := 0) (by repeat (first | exact panicFree_body | refine panicFree_then ?_ | refine panicFree_block ?_)) (by rfl) (by kernel_rfl) (by first | exact run_fieldAddr rfl (by rfl) (by rfl) | exact run_buildL rfl rfl (by rfl) (by rfl) | exact pureV_run (by rfl)) ?_
    refine any_val (i := 1) (by repeat (first | exact panicFree_body | refine panicFree_then ?_ | refine panicFree_block ?_)) (by rfl) (by kernel_rfl) (by first | exact run_fieldAddr rfl (by rfl) (by rfl) | exact run_buildL rfl rfl (by rfl) (by rfl) | exact pureV_run (by rfl)) ?_
    refine any_val (i := 2) (by repeat (first | exact panicFree_body | refine panicFree_then ?_ | refine panicFree_block ?_)) (by rfl) (by kernel_rfl) (by first | exact run_fieldAddr rfl (by rfl) (by rfl) | exact run_buildL rfl rfl (by rfl) (by rfl) | exact pureV_run (by rfl)) ?_
    refine any_val (i := 7) (by repeat (first | exact panicFree_body | refine panicFree_then ?_ | refine panicFree_block ?_)) (by rfl) (by kernel_rfl) (by first | exact run_fieldAddr rfl (by rfl) (by rfl) | exact run_buildL rfl rfl (by rfl) (by rfl) | exact pureV_run (by rfl)) ?_
    refine any_val (i := 8) (by repeat (first | exact panicFree_body | refine panicFree_then ?_ | refine panicFree_block ?_)) (by rfl) (by kernel_rfl) (by first | exact run_fieldAddr rfl (by rfl) (by rfl) | exact run_buildL rfl rfl (by rfl) (by rfl) | exact pureV_run (by rfl)) ?_
    refine any_val (i := 9) (by repeat (first | exact panicFree_body | refine panicFree_then ?_ | refine panicFree_block ?_)) (by rfl) (by kernel_rfl) (by first | exact run_fieldAddr rfl (by rfl) (by rfl) | exact run_buildL rfl rfl (by rfl) (by rfl) | exact pureV_run (by rfl)) ?_
    refine any_val (i := 14) (by repeat (first | exact panicFree_body | refine panicFree_then ?_ | refine panicFree_block ?_)) (by rfl) (by kernel_rfl) (by first | exact run_fieldAddr rfl (by rfl) (by rfl) | exact run_buildL rfl rfl (by rfl) (by rfl) | exact pureV_run (by rfl)) ?_
    refine any_all [3, 10] (by kernel_rfl) rfl ⟨⟨_, rfl, ?_⟩, ⟨_, rfl, ?_⟩, trivial⟩
    · repeat (first | refine r_nil ?_ | refine e_n ?_ | (refine r_load (by rfl) ?_; refine LoadC.one (by rfl) (by rfl) ?_) | (refine r_store (by rfl) (by rfl) ?_; refine StoreC.all (by rfl) (by rfl) (by rfl) (by rfl) (by rfl) ?_) | (refine r_load (by rfl) ?_; refine LoadC.agg (by rfl) (by rfl) ?_))
      refine any_val (i := 4) (by repeat (first | exact panicFree_body | refine panicFree_then ?_ | refine panicFree_block ?_)) (by rfl) (by kernel_rfl) (by first | exact run_fieldAddr rfl (by rfl) (by rfl) | exact run_buildL rfl rfl (by rfl) (by rfl) | exact pureV_run (by rfl)) ?_
      refine any_val (i := 5) (by repeat (first | exact panicFree_body | refine panicFree_then ?_ | refine panicFree_block ?_)) (by rfl) (by kernel_rfl) (by first | exact run_fieldAddr rfl (by rfl) (by rfl) | exact run_buildL rfl rfl (by rfl) (by rfl) | exact pureV_run (by rfl)) ?_
      refine any_all [6, 10] (by kernel_rfl) rfl ⟨⟨_, rfl, ?_⟩, ⟨_, rfl, ?_⟩, trivial⟩
      · repeat (first | refine r_nil ?_ | refine e_n ?_ | (refine r_load (by rfl) ?_; refine LoadC.one (by rfl) (by rfl) ?_) | (refine r_store (by rfl) (by rfl) ?_; refine StoreC.all (by rfl) (by rfl) (by rfl) (by rfl) (by rfl) ?_) | (refine r_load (by rfl) ?_; refine LoadC.agg (by rfl) (by rfl) ?_))
        refine any_all [10, 15] (by kernel_rfl) rfl ⟨⟨_, rfl, ?_⟩, ⟨_, rfl, ?_⟩, trivial⟩
        · repeat (first | refine r_nil ?_ | refine e_n ?_ | (refine r_load (by rfl) ?_; refine LoadC.one (by rfl) (by rfl) ?_) | (refine r_store (by rfl) (by rfl) ?_; refine StoreC.all (by rfl) (by rfl) (by rfl) (by rfl) (by rfl) ?_) | (refine r_load (by rfl) ?_; refine LoadC.agg (by rfl) (by rfl) ?_))
          refine any_val (i := 11) (by repeat (first | exact panicFree_body | refine panicFree_then ?_ | refine panicFree_block ?_)) (by rfl) (by kernel_rfl) (by first | exact run_fieldAddr rfl (by rfl) (by rfl) | exact run_buildL rfl rfl (by rfl) (by rfl) | exact pureV_run (by rfl)) ?_
          refine any_val (i := 12) (by repeat (first | exact panicFree_body | refine panicFree_then ?_ | refine panicFree_block ?_)) (by rfl) (by kernel_rfl) (by first | exact run_fieldAddr rfl (by rfl) (by rfl) | exact run_buildL rfl rfl (by rfl) (by rfl) | exact pureV_run (by rfl)) ?_
          refine any_all [13, 15] (by kernel_rfl) rfl ⟨⟨_, rfl, ?_⟩, ⟨_, rfl, ?_⟩, trivial⟩
          · repeat (first | refine r_nil ?_ | refine e_n ?_ | (refine r_load (by rfl) ?_; refine LoadC.one (by rfl) (by rfl) ?_) | (refine r_store (by rfl) (by rfl) ?_; refine StoreC.all (by rfl) (by rfl) (by rfl) (by rfl) (by rfl) ?_) | (refine r_load (by rfl) ?_; refine LoadC.agg (by rfl) (by rfl) ?_))
            refine any_all [15] (by kernel_rfl) rfl ⟨⟨_, rfl, ?_⟩, trivial⟩
            repeat (first | refine r_nil ?_ | refine e_n ?_ | (refine r_load (by rfl) ?_; refine LoadC.one (by rfl) (by rfl) ?_) | (refine r_store (by rfl) (by rfl) ?_; refine StoreC.all (by rfl) (by rfl) (by rfl) (by rfl) (by rfl) ?_) | (refine r_load (by rfl) ?_; refine LoadC.agg (by rfl) (by rfl) ?_))
            refine any_val (i := 16) (by repeat (first | exact panicFree_body | refine panicFree_then ?_ | refine panicFree_block ?_)) (by rfl) (by kernel_rfl) (by first | exact run_fieldAddr rfl (by rfl) (by rfl) | exact run_buildL rfl rfl (by rfl) (by rfl) | exact pureV_run (by rfl)) ?_
            refine any_done (by kernel_rfl) ?_
            refine e_n ?_
            exact MeetC.mk () trivial ⟨rfl, rfl, rfl, rfl, rfl, rfl, rfl⟩ Incl.of
          · repeat (first | refine r_nil ?_ | refine e_n ?_ | (refine r_load (by rfl) ?_; refine LoadC.one (by rfl) (by rfl) ?_) | (refine r_store (by rfl) (by rfl) ?_; refine StoreC.all (by rfl) (by rfl) (by rfl) (by rfl) (by rfl) ?_) | (refine r_load (by rfl) ?_; refine LoadC.agg (by rfl) (by rfl) ?_))
            refine any_all [13] (by kernel_rfl) rfl ⟨⟨_, rfl, ?_⟩, trivial⟩
            repeat (first | refine r_nil ?_ | refine e_n ?_ | (refine r_load (by rfl) ?_; refine LoadC.one (by rfl) (by rfl) ?_) | (refine r_store (by rfl) (by rfl) ?_; refine StoreC.all (by rfl) (by rfl) (by rfl) (by rfl) (by rfl) ?_) | (refine r_load (by rfl) ?_; refine LoadC.agg (by rfl) (by rfl) ?_))
            refine any_val (i := 16) (by repeat (first | exact panicFree_body | refine panicFree_then ?_ | refine panicFree_block ?_)) (by rfl) (by kernel_rfl) (by first | exact run_fieldAddr rfl (by rfl) (by rfl) | exact run_buildL rfl rfl (by rfl) (by rfl) | exact pureV_run (by rfl)) ?_
            refine any_done (by kernel_rfl) ?_
            refine e_n ?_
            exact MeetC.mk () trivial ⟨rfl, rfl, rfl, rfl, rfl, rfl, rfl⟩ Incl.of
        · repeat (first | refine r_nil ?_ | refine e_n ?_ | (refine r_load (by rfl) ?_; refine LoadC.one (by rfl) (by rfl) ?_) | (refine r_store (by rfl) (by rfl) ?_; refine StoreC.all (by rfl) (by rfl) (by rfl) (by rfl) (by rfl) ?_) | (refine r_load (by rfl) ?_; refine LoadC.agg (by rfl) (by rfl) ?_))
          refine any_all [10] (by kernel_rfl) rfl ⟨⟨_, rfl, ?_⟩, trivial⟩
          repeat (first | refine r_nil ?_ | refine e_n ?_ | (refine r_load (by rfl) ?_; refine LoadC.one (by rfl) (by rfl) ?_) | (refine r_store (by rfl) (by rfl) ?_; refine StoreC.all (by rfl) (by rfl) (by rfl) (by rfl) (by rfl) ?_) | (refine r_load (by rfl) ?_; refine LoadC.agg (by rfl) (by rfl) ?_))
          refine any_val (i := 11) (by repeat (first | exact panicFree_body | refine panicFree_then ?_ | refine panicFree_block ?_)) (by rfl) (by kernel_rfl) (by first | exact run_fieldAddr rfl (by rfl) (by rfl) | exact run_buildL rfl rfl (by rfl) (by rfl) | exact pureV_run (by rfl)) ?_
          refine any_val (i := 12) (by repeat (first | exact panicFree_body | refine panicFree_then ?_ | refine panicFree_block ?_)) (by rfl) (by kernel_rfl) (by first | exact run_fieldAddr rfl (by rfl) (by rfl) | exact run_buildL rfl rfl (by rfl) (by rfl) | exact pureV_run (by rfl)) ?_
          refine any_all [13] (by kernel_rfl) rfl ⟨⟨_, rfl, ?_⟩, trivial⟩
          repeat (first | refine r_nil ?_ | refine e_n ?_ | (refine r_load (by rfl) ?_; refine LoadC.one (by rfl) (by rfl) ?_) | (refine r_store (by rfl) (by rfl) ?_; refine StoreC.all (by rfl) (by rfl) (by rfl) (by rfl) (by rfl) ?_) | (refine r_load (by rfl) ?_; refine LoadC.agg (by rfl) (by rfl) ?_))
          refine any_val (i := 16) (by repeat (first | exact panicFree_body | refine panicFree_then ?_ | refine panicFree_block ?_)) (by rfl) (by kernel_rfl) (by first | exact run_fieldAddr rfl (by rfl) (by rfl) | exact run_buildL rfl rfl (by rfl) (by rfl) | exact pureV_run (by rfl)) ?_
          refine any_done (by kernel_rfl) ?_
          refine e_n ?_
          exact MeetC.mk () trivial ⟨rfl, rfl, rfl, rfl, rfl, rfl, rfl⟩ Incl.of
      · repeat (first | refine r_nil ?_ | refine e_n ?_ | (refine r_load (by rfl) ?_; refine LoadC.one (by rfl) (by rfl) ?_) | (refine r_store (by rfl) (by rfl) ?_; refine StoreC.all (by rfl) (by rfl) (by rfl) (by rfl) (by rfl) ?_) | (refine r_load (by rfl) ?_; refine LoadC.agg (by rfl) (by rfl) ?_))
        refine any_val (i := 11) (by repeat (first | exact panicFree_body | refine panicFree_then ?_ | refine panicFree_block ?_)) (by rfl) (by kernel_rfl) (by first | exact run_fieldAddr rfl (by rfl) (by rfl) | exact run_buildL rfl rfl (by rfl) (by rfl) | exact pureV_run (by rfl)) ?_
        refine any_val (i := 12) (by repeat (first | exact panicFree_body | refine panicFree_then ?_ | refine panicFree_block ?_)) (by rfl) (by kernel_rfl) (by first | exact run_fieldAddr rfl (by rfl) (by rfl) | exact run_buildL rfl rfl (by rfl) (by rfl) | exact pureV_run (by rfl)) ?_
        refine any_all [6, 13] (by kernel_rfl) rfl ⟨⟨_, rfl, ?_⟩, ⟨_, rfl, ?_⟩, trivial⟩
        · repeat (first | refine r_nil ?_ | refine e_n ?_ | (refine r_load (by rfl) ?_; refine LoadC.one (by rfl) (by rfl) ?_) | (refine r_store (by rfl) (by rfl) ?_; refine StoreC.all (by rfl) (by rfl) (by rfl) (by rfl) (by rfl) ?_) | (refine r_load (by rfl) ?_; refine LoadC.agg (by rfl) (by rfl) ?_))
          refine any_all [13, 15] (by kernel_rfl) rfl ⟨⟨_, rfl, ?_⟩, ⟨_, rfl, ?_⟩, trivial⟩
          · repeat (first | refine r_nil ?_ | refine e_n ?_ | (refine r_load (by rfl) ?_; refine LoadC.one (by rfl) (by rfl) ?_) | (refine r_store (by rfl) (by rfl) ?_; refine StoreC.all (by rfl) (by rfl) (by rfl) (by rfl) (by rfl) ?_) | (refine r_load (by rfl) ?_; refine LoadC.agg (by rfl) (by rfl) ?_))
            refine any_all [15] (by kernel_rfl) rfl ⟨⟨_, rfl, ?_⟩, trivial⟩
            repeat (first | refine r_nil ?_ | refine e_n ?_ | (refine r_load (by rfl) ?_; refine LoadC.one (by rfl) (by rfl) ?_) | (refine r_store (by rfl) (by rfl) ?_; refine StoreC.all (by rfl) (by rfl) (by rfl) (by rfl) (by rfl) ?_) | (refine r_load (by rfl) ?_; refine LoadC.agg (by rfl) (by rfl) ?_))
            refine any_val (i := 16) (by repeat (first | exact panicFree_body | refine panicFree_then ?_ | refine panicFree_block ?_)) (by rfl) (by kernel_rfl) (by first | exact run_fieldAddr rfl (by rfl) (by rfl) | exact run_buildL rfl rfl (by rfl) (by rfl) | exact pureV_run (by rfl)) ?_
            refine any_done (by kernel_rfl) ?_
            refine e_n ?_
            exact MeetC.mk () trivial ⟨rfl, rfl, rfl, rfl, rfl, rfl, rfl⟩ Incl.of
          · repeat (first | refine r_nil ?_ | refine e_n ?_ | (refine r_load (by rfl) ?_; refine LoadC.one (by rfl) (by rfl) ?_) | (refine r_store (by rfl) (by rfl) ?_; refine StoreC.all (by rfl) (by rfl) (by rfl) (by rfl) (by rfl) ?_) | (refine r_load (by rfl) ?_; refine LoadC.agg (by rfl) (by rfl) ?_))
            refine any_all [13] (by kernel_rfl) rfl ⟨⟨_, rfl, ?_⟩, trivial⟩
            repeat (first | refine r_nil ?_ | refine e_n ?_ | (refine r_load (by rfl) ?_; refine LoadC.one (by rfl) (by rfl) ?_) | (refine r_store (by rfl) (by rfl) ?_; refine StoreC.all (by rfl) (by rfl) (by rfl) (by rfl) (by rfl) ?_) | (refine r_load (by rfl) ?_; refine LoadC.agg (by rfl) (by rfl) ?_))
            refine any_val (i := 16) (by repeat (first | exact panicFree_body | refine panicFree_then ?_ | refine panicFree_block ?_)) (by rfl) (by kernel_rfl) (by first | exact run_fieldAddr rfl (by rfl) (by rfl) | exact run_buildL rfl rfl (by rfl) (by rfl) | exact pureV_run (by rfl)) ?_
            refine any_done (by kernel_rfl) ?_
            refine e_n ?_
            exact MeetC.mk () trivial ⟨rfl, rfl, rfl, rfl, rfl, rfl, rfl⟩ Incl.of
        · repeat (first | refine r_nil ?_ | refine e_n ?_ | (refine r_load (by rfl) ?_; refine LoadC.one (by rfl) (by rfl) ?_) | (refine r_store (by rfl) (by rfl) ?_; refine StoreC.all (by rfl) (by rfl) (by rfl) (by rfl) (by rfl) ?_) | (refine r_load (by rfl) ?_; refine LoadC.agg (by rfl) (by rfl) ?_))
          refine any_all [6] (by kernel_rfl) rfl ⟨⟨_, rfl, ?_⟩, trivial⟩
          repeat (first | refine r_nil ?_ | refine e_n ?_ | (refine r_load (by rfl) ?_; refine LoadC.one (by rfl) (by rfl) ?_) | (refine r_store (by rfl) (by rfl) ?_; refine StoreC.all (by rfl) (by rfl) (by rfl) (by rfl) (by rfl) ?_) | (refine r_load (by rfl) ?_; refine LoadC.agg (by rfl) (by rfl) ?_))
          refine any_all [15] (by kernel_rfl) rfl ⟨⟨_, rfl, ?_⟩, trivial⟩
          repeat (first | refine r_nil ?_ | refine e_n ?_ | (refine r_load (by rfl) ?_; refine LoadC.one (by rfl) (by rfl) ?_) | (refine r_store (by rfl) (by rfl) ?_; refine StoreC.all (by rfl) (by rfl) (by rfl) (by rfl) (by rfl) ?_) | (refine r_load (by rfl) ?_; refine LoadC.agg (by rfl) (by rfl) ?_))
          refine any_val (i := 16) (by repeat (first | exact panicFree_body | refine panicFree_then ?_ | refine panicFree_block ?_)) (by rfl) (by kernel_rfl) (by first | exact run_fieldAddr rfl (by rfl) (by rfl) | exact run_buildL rfl rfl (by rfl) (by rfl) | exact pureV_run (by rfl)) ?_
          refine any_done (by kernel_rfl) ?_
          refine e_n ?_
          exact MeetC.mk () trivial ⟨rfl, rfl, rfl, rfl, rfl, rfl, rfl⟩ Incl.of
    · repeat (first | refine r_nil ?_ | refine e_n ?_ | (refine r_load (by rfl) ?_; refine LoadC.one (by rfl) (by rfl) ?_) | (refine r_store (by rfl) (by rfl) ?_; refine StoreC.all (by rfl) (by rfl) (by rfl) (by rfl) (by rfl) ?_) | (refine r_load (by rfl) ?_; refine LoadC.agg (by rfl) (by rfl) ?_))
      refine any_val (i := 11) (by repeat (first | exact panicFree_body | refine panicFree_then ?_ | refine panicFree_block ?_)) (by rfl) (by kernel_rfl) (by first | exact run_fieldAddr rfl (by rfl) (by rfl) | exact run_buildL rfl rfl (by rfl) (by rfl) | exact pureV_run (by rfl)) ?_
      refine any_val (i := 12) (by repeat (first | exact panicFree_body | refine panicFree_then ?_ | refine panicFree_block ?_)) (by rfl) (by kernel_rfl) (by first | exact run_fieldAddr rfl (by rfl) (by rfl) | exact run_buildL rfl rfl (by rfl) (by rfl) | exact pureV_run (by rfl)) ?_
      refine any_all [3, 13] (by kernel_rfl) rfl ⟨⟨_, rfl, ?_⟩, ⟨_, rfl, ?_⟩, trivial⟩
      · repeat (first | refine r_nil ?_ | refine e_n ?_ | (refine r_load (by rfl) ?_; refine LoadC.one (by rfl) (by rfl) ?_) | (refine r_store (by rfl) (by rfl) ?_; refine StoreC.all (by rfl) (by rfl) (by rfl) (by rfl) (by rfl) ?_) | (refine r_load (by rfl) ?_; refine LoadC.agg (by rfl) (by rfl) ?_))
        refine any_val (i := 4) (by repeat (first | exact panicFree_body | refine panicFree_then ?_ | refine panicFree_block ?_)) (by rfl) (by kernel_rfl) (by first | exact run_fieldAddr rfl (by rfl) (by rfl) | exact run_buildL rfl rfl (by rfl) (by rfl) | exact pureV_run (by rfl)) ?_
        refine any_val (i := 5) (by repeat (first | exact panicFree_body | refine panicFree_then ?_ | refine panicFree_block ?_)) (by rfl) (by kernel_rfl) (by first | exact run_fieldAddr rfl (by rfl) (by rfl) | exact run_buildL rfl rfl (by rfl) (by rfl) | exact pureV_run (by rfl)) ?_
        refine any_all [6, 13] (by kernel_rfl) rfl ⟨⟨_, rfl, ?_⟩, ⟨_, rfl, ?_⟩, trivial⟩
        · repeat (first | refine r_nil ?_ | refine e_n ?_ | (refine r_load (by rfl) ?_; refine LoadC.one (by rfl) (by rfl) ?_) | (refine r_store (by rfl) (by rfl) ?_; refine StoreC.all (by rfl) (by rfl) (by rfl) (by rfl) (by rfl) ?_) | (refine r_load (by rfl) ?_; refine LoadC.agg (by rfl) (by rfl) ?_))
          refine any_all [13, 15] (by kernel_rfl) rfl ⟨⟨_, rfl, ?_⟩, ⟨_, rfl, ?_⟩, trivial⟩
          · repeat (first | refine r_nil ?_ | refine e_n ?_ | (refine r_load (by rfl) ?_; refine LoadC.one (by rfl) (by rfl) ?_) | (refine r_store (by rfl) (by rfl) ?_; refine StoreC.all (by rfl) (by rfl) (by rfl) (by rfl) (by rfl) ?_) | (refine r_load (by rfl) ?_; refine LoadC.agg (by rfl) (by rfl) ?_))
            refine any_all [15] (by kernel_rfl) rfl ⟨⟨_, rfl, ?_⟩, trivial⟩
            repeat (first | refine r_nil ?_ | refine e_n ?_ | (refine r_load (by rfl) ?_; refine LoadC.one (by rfl) (by rfl) ?_) | (refine r_store (by rfl) (by rfl) ?_; refine StoreC.all (by rfl) (by rfl) (by rfl) (by rfl) (by rfl) ?_) | (refine r_load (by rfl) ?_; refine LoadC.agg (by rfl) (by rfl) ?_))
            refine any_val (i := 16) (by repeat (first | exact panicFree_body | refine panicFree_then ?_ | refine panicFree_block ?_)) (by rfl) (by kernel_rfl) (by first | exact run_fieldAddr rfl (by rfl) (by rfl) | exact run_buildL rfl rfl (by rfl) (by rfl) | exact pureV_run (by rfl)) ?_
            refine any_done (by kernel_rfl) ?_
            refine e_n ?_
            exact MeetC.mk () trivial ⟨rfl, rfl, rfl, rfl, rfl, rfl, rfl⟩ Incl.of
          · repeat (first | refine r_nil ?_ | refine e_n ?_ | (refine r_load (by rfl) ?_; refine LoadC.one (by rfl) (by rfl) ?_) | (refine r_store (by rfl) (by rfl) ?_; refine StoreC.all (by rfl) (by rfl) (by rfl) (by rfl) (by rfl) ?_) | (refine r_load (by rfl) ?_; refine LoadC.agg (by rfl) (by rfl) ?_))
            refine any_all [13] (by kernel_rfl) rfl ⟨⟨_, rfl, ?_⟩, trivial⟩
            repeat (first | refine r_nil ?_ | refine e_n ?_ | (refine r_load (by rfl) ?_; refine LoadC.one (by rfl) (by rfl) ?_) | (refine r_store (by rfl) (by rfl) ?_; refine StoreC.all (by rfl) (by rfl) (by rfl) (by rfl) (by rfl) ?_) | (refine r_load (by rfl) ?_; refine LoadC.agg (by rfl) (by rfl) ?_))
            refine any_val (i := 16) (by repeat (first | exact panicFree_body | refine panicFree_then ?_ | refine panicFree_block ?_)) (by rfl) (by kernel_rfl) (by first | exact run_fieldAddr rfl (by rfl) (by rfl) | exact run_buildL rfl rfl (by rfl) (by rfl) | exact pureV_run (by rfl)) ?_
            refine any_done (by kernel_rfl) ?_
            refine e_n ?_
            exact MeetC.mk () trivial ⟨rfl, rfl, rfl, rfl, rfl, rfl, rfl⟩ Incl.of
        · repeat (first | refine r_nil ?_ | refine e_n ?_ | (refine r_load (by rfl) ?_; refine LoadC.one (by rfl) (by rfl) ?_) | (refine r_store (by rfl) (by rfl) ?_; refine StoreC.all (by rfl) (by rfl) (by rfl) (by rfl) (by rfl) ?_) | (refine r_load (by rfl) ?_; refine LoadC.agg (by rfl) (by rfl) ?_))
          refine any_all [6] (by kernel_rfl) rfl ⟨⟨_, rfl, ?_⟩, trivial⟩
          repeat (first | refine r_nil ?_ | refine e_n ?_ | (refine r_load (by rfl) ?_; refine LoadC.one (by rfl) (by rfl) ?_) | (refine r_store (by rfl) (by rfl) ?_; refine StoreC.all (by rfl) (by rfl) (by rfl) (by rfl) (by rfl) ?_) | (refine r_load (by rfl) ?_; refine LoadC.agg (by rfl) (by rfl) ?_))
          refine any_all [15] (by kernel_rfl) rfl ⟨⟨_, rfl, ?_⟩, trivial⟩
          repeat (first | refine r_nil ?_ | refine e_n ?_ | (refine r_load (by rfl) ?_; refine LoadC.one (by rfl) (by rfl) ?_) | (refine r_store (by rfl) (by rfl) ?_; refine StoreC.all (by rfl) (by rfl) (by rfl) (by rfl) (by rfl) ?_) | (refine r_load (by rfl) ?_; refine LoadC.agg (by rfl) (by rfl) ?_))
          refine any_val (i := 16) (by repeat (first | exact panicFree_body | refine panicFree_then ?_ | refine panicFree_block ?_)) (by rfl) (by kernel_rfl) (by first | exact run_fieldAddr rfl (by rfl) (by rfl) | exact run_buildL rfl rfl (by rfl) (by rfl) | exact pureV_run (by rfl)) ?_
          refine any_done (by kernel_rfl) ?_
          refine e_n ?_
          exact MeetC.mk () trivial ⟨rfl, rfl, rfl, rfl, rfl, rfl, rfl⟩ Incl.of
      · repeat (first | refine r_nil ?_ | refine e_n ?_ | (refine r_load (by rfl) ?_; refine LoadC.one (by rfl) (by rfl) ?_) | (refine r_store (by rfl) (by rfl) ?_; refine StoreC.all (by rfl) (by rfl) (by rfl) (by rfl) (by rfl) ?_) | (refine r_load (by rfl) ?_; refine LoadC.agg (by rfl) (by rfl) ?_))
        refine any_all [3] (by kernel_rfl) rfl ⟨⟨_, rfl, ?_⟩, trivial⟩
        repeat (first | refine r_nil ?_ | refine e_n ?_ | (refine r_load (by rfl) ?_; refine LoadC.one (by rfl) (by rfl) ?_) | (refine r_store (by rfl) (by rfl) ?_; refine StoreC.all (by rfl) (by rfl) (by rfl) (by rfl) (by rfl) ?_) | (refine r_load (by rfl) ?_; refine LoadC.agg (by rfl) (by rfl) ?_))
        refine any_val (i := 4) (by repeat (first | exact panicFree_body | refine panicFree_then ?_ | refine panicFree_block ?_)) (by rfl) (by kernel_rfl) (by first | exact run_fieldAddr rfl (by rfl) (by rfl) | exact run_buildL rfl rfl (by rfl) (by rfl) | exact pureV_run (by rfl)) ?_
        refine any_val (i := 5) (by repeat (first | exact panicFree_body | refine panicFree_then ?_ | refine panicFree_block ?_)) (by rfl) (by kernel_rfl) (by first | exact run_fieldAddr rfl (by rfl) (by rfl) | exact run_buildL rfl rfl (by rfl) (by rfl) | exact pureV_run (by rfl)) ?_
        refine any_all [6] (by kernel_rfl) rfl ⟨⟨_, rfl, ?_⟩, trivial⟩
        repeat (first | refine r_nil ?_ | refine e_n ?_ | (refine r_load (by rfl) ?_; refine LoadC.one (by rfl) (by rfl) ?_) | (refine r_store (by rfl) (by rfl) ?_; refine StoreC.all (by rfl) (by rfl) (by rfl) (by rfl) (by rfl) ?_) | (refine r_load (by rfl) ?_; refine LoadC.agg (by rfl) (by rfl) ?_))
        refine any_all [15] (by kernel_rfl) rfl ⟨⟨_, rfl, ?_⟩, trivial⟩
        repeat (first | refine r_nil ?_ | refine e_n ?_ | (refine r_load (by rfl) ?_; refine LoadC.one (by rfl) (by rfl) ?_) | (refine r_store (by rfl) (by rfl) ?_; refine StoreC.all (by rfl) (by rfl) (by rfl) (by rfl) (by rfl) ?_) | (refine r_load (by rfl) ?_; refine LoadC.agg (by rfl) (by rfl) ?_))
        refine any_val (i := 16) (by repeat (first | exact panicFree_body | refine panicFree_then ?_ | refine panicFree_block ?_)) (by rfl) (by kernel_rfl) (by first | exact run_fieldAddr rfl (by rfl) (by rfl) | exact run_buildL rfl rfl (by rfl) (by rfl) | exact pureV_run (by rfl)) ?_
        refine any_done (by kernel_rfl) ?_
        refine e_n ?_
        exact MeetC.mk () trivial ⟨rfl, rfl, rfl, rfl, rfl, rfl, rfl⟩ Incl.of
  clear f0
  intro _ _ f0
  repeat (first | (refine r_fun (by rfl) (by rfl) ?_; refine CallC.ret (g := 20) (fun x => breaks_spec _ _ x) ?_) | (refine r_eq (by rfl) (by rfl) (by kernel_rfl) (fun x => neq30 x.w _ _ _ _) ?_) | refine c_seq ?_ | refine c_reg ?_ | refine r_nil ?_ | refine e_n ?_ | refine CutC.go ?_ | refine r_field0 (by rfl) (by rfl) ?_ | refine r_val (by rfl) ?_ | (refine r_load (by rfl) ?_; refine LoadC.agg (by rfl) (by rfl) ?_))
  have hNl : ((s.m0 ++ s.m1).map GM.cells).length = N := by have h1 := hs0.1; have h2 := hs1.1; simp at h1 h2 ⊢; omega
  have hNm : (s.m0 ++ s.m1).length = N := by simpa using hNl
  repeat (first | (refine r_fun (by rfl) (by rfl) ?_; refine CallC.row (fun x => all35 (U1 := s.r0.u 34) (U2 := s.r1.u 34) s.blk n0 n1 c0' c1' s.cb s.proc s.epoch s.rep s.members (some xt) s.went a0 a1 s.m0 s.m1 hs0 hs1 (by omega) x) hNl hN (fun rA aA cA hAs => ?_)) | refine c_seq ?_ | refine c_reg ?_ | refine r_nil ?_ | refine e_n ?_ | refine CutC.go ?_ | refine r_lenS (by rfl) (by rfl) ?_ | refine r_val (by rfl) ?_)
  refine c_cut (γ := Unit) (fun _ => True) (fun _ => [(0, .pointer (some ⟨m, 0, none⟩)), (3, .pointer (some ⟨xb, 0, none⟩)), (9, .pointer (some ⟨s.blk, 0, none⟩)), (10, .int .i64 1), (12, .int .u64 te.members)])
    (fun _ => [(xb, evO e)] :: DelG m sb eb mb lb nb (.slice sa nst sc) (lastB (brk (del1 br (GM.mg ⟨e.m, d⟩) (ms.map GM.mg) seen) 2 (!confEq e.nepoch e.nrep te.nepoch te.nrep)) ((s.m0 ++ s.m1).map GM.mg) (GM.mg ⟨e.m, d⟩)) ln at_ ru g (sn.put e.had true) lv nw (stayO s.proc s.epoch s.rep s.members (.slice a0 n0 c0') (.slice a1 n1 c1') s.cb (some xt) s.went) s X F T) (by rfl) (fun hpos => ?_) (fun hz => ?_) ?_
  · have hpos : 0 < N := by simpa using hpos
    obtain ⟨N', hN'⟩ : ∃ N', N = N' + 1 := ⟨N - 1, by omega⟩
    rcases hAs.2 with h0 | ⟨Ab, Ao, Aarr, AT, Afr, rfl, hAm, hArow⟩
    · omega
    haveI hS : ∀ {L R : Units} [Unit_ L (rA.u 34) R], Has L Ab (.cells Aarr AT Afr) := fun {L R} h => ⟨h.ok.mem_iff.2 (by simp [hAm])⟩
    obtain ⟨q, hq⟩ : ∃ q, (s.m0 ++ s.m1)[N']? = some q := ⟨(s.m0 ++ s.m1)[N']'(by omega), List.getElem?_eq_getElem _⟩
    have hqc : ((s.m0 ++ s.m1).map GM.cells)[N']? = some q.cells := by rw [List.getElem?_map, hq]; rfl
    have hgl : ((s.m0 ++ s.m1).map GM.mg).getLast? = some q.mg := by
      rw [List.getLast?_eq_getElem?, List.length_map, hNm, List.getElem?_map, hN']
      simp [hq]
    have hkey : ∀ b, lastB b ((s.m0 ++ s.m1).map GM.mg) (GM.mg ⟨e.m, d⟩) = brk b 3 (decide (ord2 q.r.stamp q.r.frm e.m.stamp e.m.frm ≥ 0)) := fun b => by unfold lastB; rw [hgl]; rfl
    have hix : Value.int .i64 (IntKind.i64.wrap ((N : Int) - 1)) = .int .i64 ((N' : Nat) : Int) := by rw [IntWalk.i64_in _ (by omega), hN']; congr 1; omega
    repeat (first | refine c_draw ?_)
    refine d_tail 13 (by kernel_rfl) ?_
    simp only [List.take_succ_cons, List.take_zero, List.drop_succ_cons, List.drop_zero]
    repeat (first | (refine q_index (k := N') (by rfl) (by exact hix) (by rfl) (by omega) ?_) | (refine q_load (by rfl) ?_; refine LoadC.row (b := Ab) hArow hqc rfl (by rfl) ?_) | (refine q_fun (by rfl) (by rfl) ?_; refine QCallC.ret (g := 37) (fun x => of_spec _ _ _ _ _ _ _ _ x) ?_) | (refine q_fun (by rfl) (by rfl) ?_; refine QCallC.ret (g := 36) (fun x => compare_spec _ _ _ _ x) ?_) | (refine r_fun (by rfl) (by rfl) ?_; refine CallC.ret (g := 20) (fun x => breaks_spec _ _ x) ?_) | refine r_nil ?_ | refine e_n ?_ | refine q_nil ?_ | refine q_field0 (by rfl) (by rfl) ?_ | refine q_lenS (by rfl) (by rfl) ?_ | refine q_val (by rfl) ?_ | (refine q_load (by rfl) ?_; refine LoadC.agg (by rfl) (by rfl) ?_))
    exact MeetC.mk () trivial ⟨rfl, rfl, rfl, rfl, rfl, rfl⟩ (by rw [hkey]; exact Incl.of)
  · have hz : N = 0 := by have := of_decide_eq_false hz; omega
    have hdl : (s.m0 ++ s.m1).map GM.mg = [] := List.eq_nil_of_length_eq_zero (by rw [List.length_map, hNm, hz])
    have hkey : ∀ b, lastB b ((s.m0 ++ s.m1).map GM.mg) (GM.mg ⟨e.m, d⟩) = b := fun b => by rw [hdl]; rfl
    repeat (first | refine e_n ?_ | refine c_skip ?_)
    exact MeetC.mk () trivial ⟨rfl, rfl, rfl, rfl, rfl, rfl⟩ (by rw [hkey]; exact Incl.of)
  clear f0
  intro _ _ f0
  repeat (first | refine c_seq ?_ | refine c_reg ?_ | refine r_nil ?_ | refine e_n ?_ | refine CutC.go ?_ | refine r_field0 (by rfl) (by rfl) ?_ | refine r_field (by rfl) (by rfl) ?_ | refine r_lenS (by rfl) (by rfl) ?_ | refine r_val (by rfl) ?_ | (refine r_load (by rfl) ?_; refine LoadC.one (by rfl) (by rfl) ?_) | refine c_block ?_ | refine c_loop ?_)
  generalize hb4 : lastB (brk (del1 br (GM.mg ⟨e.m, d⟩) (ms.map GM.mg) seen) 2 (!confEq e.nepoch e.nrep te.nepoch te.nrep)) ((s.m0 ++ s.m1).map GM.mg) (GM.mg ⟨e.m, d⟩) = b4
  have hdn : d.length = e.m.dn := hd.1.1
  have hdn2 : e.m.dn ≤ 35184372088832 := hd.2
  refine LoopC.inv (γ := Nat × Int) (fun p => p.1 ≤ e.m.dn ∧ depsB (fun q => (s.count.get q).getD 0) 0 d b4 = depsB (fun q => (s.count.get q).getD 0) p.1 (d.drop p.1) p.2)
    (fun p => [(0, .pointer (some ⟨m, 0, none⟩)), (3, .pointer (some ⟨xb, 0, none⟩)), (9, .pointer (some ⟨s.blk, 0, none⟩)), (10, .int .i64 1), (12, .int .u64 te.members), (125, .slice e.m.da e.m.dn e.m.dc), (126, .int .i64 e.m.dn), (127, .int .i64 (p.1 : Nat))])
    (fun p => [(xb, evO e)] :: DelG m sb eb mb lb nb (.slice sa nst sc) p.2 ln at_ ru g (sn.put e.had true) lv nw (stayO s.proc s.epoch s.rep s.members (.slice a0 n0 c0') (.slice a1 n1 c1') s.cb (some xt) s.went) s X F T) (fun p => e.m.dn - p.1)
    (MeetC.mk (0, b4) ⟨by omega, rfl⟩ ⟨rfl, rfl, rfl, rfl, rfl, rfl, rfl, rfl, rfl⟩ Incl.of) ?_
  clear f0
  rintro ⟨k, br'⟩ ⟨hk, hdp⟩ f0
  simp only at hk hdp ⊢
  by_cases hlt : k < e.m.dn
  · have hd1 : decide ((k : Int) < (e.m.dn : Int)) = true := by simp; omega
    obtain ⟨v, hv⟩ : ∃ v, d[k]? = some v := ⟨d[k]'(by rw [hdn]; exact hlt), List.getElem?_eq_getElem _⟩
    rcases hd.1.2 with h0 | ⟨Db, Do, Darr, DT, Dfr, hda, hDm, hDrow⟩
    · exfalso; simp only at h0; omega
    haveI hS : ∀ {L R : Units} [Unit_ L F R], Has L Db (.cells Darr DT Dfr) := fun {L R} h => ⟨h.ok.mem_iff.2 (by simp [hDm])⟩
    have hda : Value.slice e.m.da e.m.dn e.m.dc = .slice (some ⟨Db, Do, none⟩) e.m.dn e.m.dc := by rw [show e.m.da = some ⟨Db, Do, none⟩ from hda]
    have hdr : d.drop k = v :: d.drop (k + 1) := by
      obtain ⟨h2, h3⟩ := List.getElem?_eq_some_iff.1 hv
      rw [List.drop_eq_getElem_cons h2, h3]
    have hwv : ∀ q, depsB q k (v :: d.drop (k + 1)) br' = depsB q (k + 1) (d.drop (k + 1)) (brk br' 4 (decide (IntKind.i64.wrap v > q k))) := fun q => by
      simp only [depsB, wrap64, IntKind.wrap_i64, gt_iff_lt]
    rw [hdr, hwv] at hdp
    have hct : ∀ {L : Units} [Has L s.cb (s.count.obj ikey ikey)] (x : St L), (Instr.lookup 63 (.map (some s.cb)) (.int .i64 (k : Nat)) false).run Try.prog x.w = .ok (.int .i64 ((s.count.get (k : Nat)).getD 0)) x.w := fun {L} _ x => look_count s.cb s.count (k : Nat) x
    repeat (first | (refine r_index (by exact hda) (by rfl) (by rfl) hlt ?_) | (refine r_load (by rfl) ?_; refine LoadC.at (b := Db) (c := Darr) (T := DT) (fz := Dfr) (by rfl) (by rw [Nat.mul_one]; exact hDrow k v hv) ?_) | (refine r_look (by rfl) (by rfl) ?_; refine ReadC.of (fun x => hct x) ?_) | (refine r_fun (by rfl) (by rfl) ?_; refine CallC.ret (g := 20) (fun x => breaks_spec _ _ x) ?_) | refine c_seq ?_ | refine c_reg ?_ | refine r_nil ?_ | refine e_n ?_ | refine CutC.go ?_ | refine r_field0 (by rfl) (by rfl) ?_ | refine r_val (by rfl) ?_ | (refine r_load (by rfl) ?_; refine LoadC.one (by rfl) (by rfl) ?_) | refine c_yes (by rfl) (by first | with_reducible assumption | decide) ?_ | refine c_skip ?_ | refine c_block ?_ | refine b_n ?_)
    exact MeetC.mk (k + 1, brk br' 4 (decide (IntKind.i64.wrap v > (s.count.get (k : Nat)).getD 0))) ⟨⟨by simp only; omega, hdp⟩, by simp only; omega⟩ ⟨rfl, rfl, rfl, rfl, rfl, rfl, rfl, i64_succ (by omega), rfl⟩ Incl.of
  have hd1 : decide ((k : Int) < (e.m.dn : Int)) = false := by simp; omega
  have e2 : d.drop k = [] := by rw [List.drop_eq_nil_iff, hdn]; omega
  rw [e2] at hdp
  have HDP : depsB (fun q => (s.count.get q).getD 0) 0 d b4 = br' := hdp
  repeat (first | refine c_seq ?_ | refine c_reg ?_ | refine r_nil ?_ | refine e_n ?_ | refine CutC.go ?_ | refine r_val (by rfl) ?_ | refine c_no (by rfl) (by first | with_reducible assumption | decide) ?_ | refine c_exit ?_ | refine e_x ?_ | refine b_x1 ?_ | refine c_draw ?_)
  subst hT
  have hw : IntKind.i64.wrap (c0 + 1) = c0 + 1 := IntWalk.i64_in _ (by omega)
  have hc1 : ∀ {L : Units} [Has L s.cb (s.count.obj ikey ikey)] (x : St L), (Instr.lookup 63 (.map (some s.cb)) (.int .i64 e.m.frm) false).run Try.prog x.w = .ok (.int .i64 c0) x.w := fun {L} _ x => by rw [← hc0]; exact look_count s.cb s.count e.m.frm x
  have hc2 : ∀ {L M : Units} [Has L s.cb (s.count.obj ikey ikey)] [Lay L s.cb ((s.count.put e.m.frm (c0 + 1)).obj ikey ikey) M] (x : St L), (Instr.mapUpdate 63 (.map (some s.cb)) (.int .i64 e.m.frm) (.int .i64 (IntKind.i64.wrap (c0 + 1)))).run Try.prog x.w = .ok () (x.lay s.cb ((s.count.put e.m.frm (c0 + 1)).obj ikey ikey)).w := fun {L M} _ _ x => by rw [hw]; exact upd_count s.cb s.count e.m.frm (c0 + 1) x
  refine d_tail 9 (by kernel_rfl) ?_
  simp only [List.take_succ_cons, List.take_zero, List.drop_succ_cons, List.drop_zero]
  repeat (first | (refine q_look (by rfl) (by rfl) ?_; refine ReadC.of (fun x => hc1 x) ?_) | (refine r_upd (by rfl) (by rfl) (by rfl) ?_; refine UpdC.of (fun x => ⟨_, hc2 x⟩) ?_) | refine c_seq ?_ | refine r_nil ?_ | refine e_n ?_ | refine CutC.go ?_ | refine c_draw ?_ | refine q_nil ?_ | refine q_field0 (by rfl) (by rfl) ?_ | refine q_field (by rfl) (by rfl) ?_ | refine q_val (by rfl) ?_ | (refine q_load (by rfl) ?_; refine LoadC.one (by rfl) (by rfl) ?_))
  refine DrawC.cut (γ := Row) (fun r' => RowOk r' 6 (s.m1.map GM.cells ++ [GM.cells ⟨e.m, d⟩])) (fun _ => [(0, .pointer (some ⟨m, 0, none⟩)), (3, .pointer (some ⟨xb, 0, none⟩)), (9, .pointer (some ⟨s.blk, 0, none⟩)), (12, .int .u64 te.members)])
    (fun r' => [(xb, evO e)] :: [(m, monO sb eb mb (.slice sa nst sc) lb nb br' ln at_ ru)] :: [(sb, sendsO g)] :: [(eb, seenO (sn.put e.had true))] :: [(lb, lv.obj ikey bval)] :: [(nb, nw.obj ikey pval)] :: SR g :: SU (stays.set si (s.take1 ⟨e.m, d⟩ r' (s.count.put e.m.frm (c0 + 1)))) :: F :: stR.u 57 :: R) ?_ ?_
  · skip
    refine any_start (by kernel_rfl) (by rfl) (by rfl) ?_
    refine any_val (i := 0) (by repeat (first | exact panicFree_body | refine panicFree_then ?_ | refine panicFree_block ?_)) (by rfl) (by kernel_rfl) (by first | exact run_fieldAddr rfl (by rfl) (by rfl) | exact run_buildL rfl rfl (by rfl) (by rfl) | exact pureV_run (by rfl)) ?_
    refine any_val (i := 1) (by repeat (first | exact panicFree_body | refine panicFree_then ?_ | refine panicFree_block ?_)) (by rfl) (by kernel_rfl) (by first | exact run_fieldAddr rfl (by rfl) (by rfl) | exact run_buildL rfl rfl (by rfl) (by rfl) | exact pureV_run (by rfl)) ?_
    refine any_val (i := 2) (by repeat (first | exact panicFree_body | refine panicFree_then ?_ | refine panicFree_block ?_)) (by rfl) (by kernel_rfl) (by first | exact run_fieldAddr rfl (by rfl) (by rfl) | exact run_buildL rfl rfl (by rfl) (by rfl) | exact pureV_run (by rfl)) ?_
    refine any_val (i := 3) (by repeat (first | exact panicFree_body | refine panicFree_then ?_ | refine panicFree_block ?_)) (by rfl) (by kernel_rfl) (by first | exact run_fieldAddr rfl (by rfl) (by rfl) | exact run_buildL rfl rfl (by rfl) (by rfl) | exact pureV_run (by rfl)) ?_
    refine any_val (i := 4) (by repeat (first | exact panicFree_body | refine panicFree_then ?_ | refine panicFree_block ?_)) (by rfl) (by kernel_rfl) (by first | exact run_fieldAddr rfl (by rfl) (by rfl) | exact run_buildL rfl rfl (by rfl) (by rfl) | exact pureV_run (by rfl)) ?_
    refine any_val (i := 5) (by repeat (first | exact panicFree_body | refine panicFree_then ?_ | refine panicFree_block ?_)) (by rfl) (by kernel_rfl) (by first | exact run_fieldAddr rfl (by rfl) (by rfl) | exact run_buildL rfl rfl (by rfl) (by rfl) | exact pureV_run (by rfl)) ?_
    refine any_val (i := 6) (by repeat (first | exact panicFree_body | refine panicFree_then ?_ | refine panicFree_block ?_)) (by rfl) (by kernel_rfl) (by first | exact run_fieldAddr rfl (by rfl) (by rfl) | exact run_buildL rfl rfl (by rfl) (by rfl) | exact pureV_run (by rfl)) ?_
    refine any_val (i := 8) (by repeat (first | exact panicFree_body | refine panicFree_then ?_ | refine panicFree_block ?_)) (by rfl) (by kernel_rfl) (by first | exact run_fieldAddr rfl (by rfl) (by rfl) | exact run_buildL rfl rfl (by rfl) (by rfl) | exact pureV_run (by rfl)) ?_
    refine any_val (i := 12) (by repeat (first | exact panicFree_body | refine panicFree_then ?_ | refine panicFree_block ?_)) (by rfl) (by kernel_rfl) (by first | exact run_fieldAddr rfl (by rfl) (by rfl) | exact run_buildL rfl rfl (by rfl) (by rfl) | exact pureV_run (by rfl)) ?_
    refine any_val (i := 13) (by repeat (first | exact panicFree_body | refine panicFree_then ?_ | refine panicFree_block ?_)) (by rfl) (by kernel_rfl) (by first | exact run_fieldAddr rfl (by rfl) (by rfl) | exact run_buildL rfl rfl (by rfl) (by rfl) | exact pureV_run (by rfl)) ?_
    refine any_all [7, 9] (by kernel_rfl) rfl ⟨⟨_, rfl, ?_⟩, ⟨_, rfl, ?_⟩, trivial⟩
    · repeat (first | (refine r_app (by rfl) (by rfl) ?_; refine RunC.appS (P := Try.prog) (e := 34) (s := 6) (bytes := 72) (z := msgZero) s.r1 (s.m1.map GM.cells) [GM.cells ⟨e.m, d⟩] _ hv1 (by rfl) Try.info34 rfl (by rw [List.length_map]; exact hn1) hks.k1 (cells_len (ms := [⟨e.m, d⟩]) rfl) (SlIn.oneMsg _ e.m d) (cells_one [⟨e.m, d⟩]) (by omega) (by omega) (fun r' a' c' hok' hv' hs' => ?_)) | refine r_nil ?_ | refine e_n ?_ | (refine r_load (by rfl) ?_; refine LoadC.one (by rfl) (by rfl) ?_) | (refine r_store (by rfl) (by rfl) ?_; refine StoreC.all (by rfl) (by rfl) (by rfl) (by rfl) (by rfl) ?_) | refine r_slice (by rfl) (by rfl) (fun _ => ?_) | (refine r_load (by rfl) ?_; refine LoadC.agg (by rfl) (by rfl) ?_))
      refine any_all [9] (by kernel_rfl) rfl ⟨⟨_, rfl, ?_⟩, trivial⟩
      repeat (first | (refine r_app (by rfl) (by rfl) ?_; refine RunC.appS (P := Try.prog) (e := 34) (s := 6) (bytes := 72) (z := msgZero) s.r1 (s.m1.map GM.cells) [GM.cells ⟨e.m, d⟩] _ hv1 (by rfl) Try.info34 rfl (by rw [List.length_map]; exact hn1) hks.k1 (cells_len (ms := [⟨e.m, d⟩]) rfl) (SlIn.oneMsg _ e.m d) (cells_one [⟨e.m, d⟩]) (by omega) (by omega) (fun r' a' c' hok' hv' hs' => ?_)) | refine r_nil ?_ | refine e_n ?_ | (refine r_load (by rfl) ?_; refine LoadC.one (by rfl) (by rfl) ?_) | (refine r_store (by rfl) (by rfl) ?_; refine StoreC.all (by rfl) (by rfl) (by rfl) (by rfl) (by rfl) ?_) | refine r_slice (by rfl) (by rfl) (fun _ => ?_) | (refine r_load (by rfl) ?_; refine LoadC.agg (by rfl) (by rfl) ?_))
      refine any_all [10] (by kernel_rfl) rfl ⟨⟨_, rfl, ?_⟩, trivial⟩
      repeat (first | (refine r_app (by rfl) (by rfl) ?_; refine RunC.appS (P := Try.prog) (e := 34) (s := 6) (bytes := 72) (z := msgZero) s.r1 (s.m1.map GM.cells) [GM.cells ⟨e.m, d⟩] _ hv1 (by rfl) Try.info34 rfl (by rw [List.length_map]; exact hn1) hks.k1 (cells_len (ms := [⟨e.m, d⟩]) rfl) (SlIn.oneMsg _ e.m d) (cells_one [⟨e.m, d⟩]) (by omega) (by omega) (fun r' a' c' hok' hv' hs' => ?_)) | refine r_nil ?_ | refine e_n ?_ | (refine r_load (by rfl) ?_; refine LoadC.one (by rfl) (by rfl) ?_) | (refine r_store (by rfl) (by rfl) ?_; refine StoreC.all (by rfl) (by rfl) (by rfl) (by rfl) (by rfl) ?_) | refine r_slice (by rfl) (by rfl) (fun _ => ?_) | (refine r_load (by rfl) ?_; refine LoadC.agg (by rfl) (by rfl) ?_))
      refine any_all [11] (by kernel_rfl) rfl ⟨⟨_, rfl, ?_⟩, trivial⟩
      repeat (first | (refine r_app (by rfl) (by rfl) ?_; refine RunC.appS (P := Try.prog) (e := 34) (s := 6) (bytes := 72) (z := msgZero) s.r1 (s.m1.map GM.cells) [GM.cells ⟨e.m, d⟩] _ hv1 (by rfl) Try.info34 rfl (by rw [List.length_map]; exact hn1) hks.k1 (cells_len (ms := [⟨e.m, d⟩]) rfl) (SlIn.oneMsg _ e.m d) (cells_one [⟨e.m, d⟩]) (by omega) (by omega) (fun r' a' c' hok' hv' hs' => ?_)) | refine r_nil ?_ | refine e_n ?_ | (refine r_load (by rfl) ?_; refine LoadC.one (by rfl) (by rfl) ?_) | (refine r_store (by rfl) (by rfl) ?_; refine StoreC.all (by rfl) (by rfl) (by rfl) (by rfl) (by rfl) ?_) | refine r_slice (by rfl) (by rfl) (fun _ => ?_) | (refine r_load (by rfl) ?_; refine LoadC.agg (by rfl) (by rfl) ?_))
      refine any_val (i := 14) (by repeat (first | exact panicFree_body | refine panicFree_then ?_ | refine panicFree_block ?_)) (by rfl) (by kernel_rfl) (by first | exact run_fieldAddr rfl (by rfl) (by rfl) | exact run_buildL rfl rfl (by rfl) (by rfl) | exact pureV_run (by rfl)) ?_
      refine any_all [15] (by kernel_rfl) rfl ⟨⟨_, rfl, ?_⟩, trivial⟩
      repeat (first | (refine r_app (by rfl) (by rfl) ?_; refine RunC.appS (P := Try.prog) (e := 34) (s := 6) (bytes := 72) (z := msgZero) s.r1 (s.m1.map GM.cells) [GM.cells ⟨e.m, d⟩] _ hv1 (by rfl) Try.info34 rfl (by rw [List.length_map]; exact hn1) hks.k1 (cells_len (ms := [⟨e.m, d⟩]) rfl) (SlIn.oneMsg _ e.m d) (cells_one [⟨e.m, d⟩]) (by omega) (by omega) (fun r' a' c' hok' hv' hs' => ?_)) | refine r_nil ?_ | refine e_n ?_ | (refine r_load (by rfl) ?_; refine LoadC.one (by rfl) (by rfl) ?_) | (refine r_store (by rfl) (by rfl) ?_; refine StoreC.all (by rfl) (by rfl) (by rfl) (by rfl) (by rfl) ?_) | refine r_slice (by rfl) (by rfl) (fun _ => ?_) | (refine r_load (by rfl) ?_; refine LoadC.agg (by rfl) (by rfl) ?_))
      refine any_done (by kernel_rfl) ?_
      refine e_n ?_
      exact MeetC.mk r' hok' ⟨rfl, rfl, rfl, rfl, rfl⟩ (Incl.trans (Incl.of (N := [(xb, evO e)] :: [(m, monO sb eb mb (.slice sa nst sc) lb nb br' ln at_ ru)] :: [(sb, sendsO g)] :: [(eb, seenO (sn.put e.had true))] :: [(lb, lv.obj ikey bval)] :: [(nb, nw.obj ikey pval)] :: SR g :: [(s.blk, stayO s.proc s.epoch s.rep s.members (.slice a0 n0 c0') (.slice a' (n1 + 1) c') s.cb (some xt) s.went)] :: [(s.cb, (s.count.put e.m.frm (c0 + 1)).obj ikey ikey)] :: s.r0.u 34 :: r'.u 34 :: X :: F :: stR.u 57 :: R)) (Incl.eqv (Eqv.cons _ (Eqv.cons _ (Eqv.cons _ (Eqv.cons _ (Eqv.cons _ (Eqv.cons _ (Eqv.cons _ (take1_eqv hX ⟨e.m, d⟩ r' (s.count.put e.m.frm (c0 + 1)) _ (take1_obj s ⟨e.m, d⟩ r' (s.count.put e.m.frm (c0 + 1)) n0 n1 _ _ hn0 hn1 hv0 hv' xt te htr) (F :: stR.u 57 :: R)))))))))))
    · repeat (first | (refine r_app (by rfl) (by rfl) ?_; refine RunC.appS (P := Try.prog) (e := 34) (s := 6) (bytes := 72) (z := msgZero) s.r1 (s.m1.map GM.cells) [GM.cells ⟨e.m, d⟩] _ hv1 (by rfl) Try.info34 rfl (by rw [List.length_map]; exact hn1) hks.k1 (cells_len (ms := [⟨e.m, d⟩]) rfl) (SlIn.oneMsg _ e.m d) (cells_one [⟨e.m, d⟩]) (by omega) (by omega) (fun r' a' c' hok' hv' hs' => ?_)) | refine r_nil ?_ | refine e_n ?_ | (refine r_load (by rfl) ?_; refine LoadC.one (by rfl) (by rfl) ?_) | (refine r_store (by rfl) (by rfl) ?_; refine StoreC.all (by rfl) (by rfl) (by rfl) (by rfl) (by rfl) ?_) | refine r_slice (by rfl) (by rfl) (fun _ => ?_) | (refine r_load (by rfl) ?_; refine LoadC.agg (by rfl) (by rfl) ?_))
      refine any_all [7, 10] (by kernel_rfl) rfl ⟨⟨_, rfl, ?_⟩, ⟨_, rfl, ?_⟩, trivial⟩
      · repeat (first | (refine r_app (by rfl) (by rfl) ?_; refine RunC.appS (P := Try.prog) (e := 34) (s := 6) (bytes := 72) (z := msgZero) s.r1 (s.m1.map GM.cells) [GM.cells ⟨e.m, d⟩] _ hv1 (by rfl) Try.info34 rfl (by rw [List.length_map]; exact hn1) hks.k1 (cells_len (ms := [⟨e.m, d⟩]) rfl) (SlIn.oneMsg _ e.m d) (cells_one [⟨e.m, d⟩]) (by omega) (by omega) (fun r' a' c' hok' hv' hs' => ?_)) | refine r_nil ?_ | refine e_n ?_ | (refine r_load (by rfl) ?_; refine LoadC.one (by rfl) (by rfl) ?_) | (refine r_store (by rfl) (by rfl) ?_; refine StoreC.all (by rfl) (by rfl) (by rfl) (by rfl) (by rfl) ?_) | refine r_slice (by rfl) (by rfl) (fun _ => ?_) | (refine r_load (by rfl) ?_; refine LoadC.agg (by rfl) (by rfl) ?_))
        refine any_all [10] (by kernel_rfl) rfl ⟨⟨_, rfl, ?_⟩, trivial⟩
        repeat (first | (refine r_app (by rfl) (by rfl) ?_; refine RunC.appS (P := Try.prog) (e := 34) (s := 6) (bytes := 72) (z := msgZero) s.r1 (s.m1.map GM.cells) [GM.cells ⟨e.m, d⟩] _ hv1 (by rfl) Try.info34 rfl (by rw [List.length_map]; exact hn1) hks.k1 (cells_len (ms := [⟨e.m, d⟩]) rfl) (SlIn.oneMsg _ e.m d) (cells_one [⟨e.m, d⟩]) (by omega) (by omega) (fun r' a' c' hok' hv' hs' => ?_)) | refine r_nil ?_ | refine e_n ?_ | (refine r_load (by rfl) ?_; refine LoadC.one (by rfl) (by rfl) ?_) | (refine r_store (by rfl) (by rfl) ?_; refine StoreC.all (by rfl) (by rfl) (by rfl) (by rfl) (by rfl) ?_) | refine r_slice (by rfl) (by rfl) (fun _ => ?_) | (refine r_load (by rfl) ?_; refine LoadC.agg (by rfl) (by rfl) ?_))
        refine any_all [11] (by kernel_rfl) rfl ⟨⟨_, rfl, ?_⟩, trivial⟩
        repeat (first | (refine r_app (by rfl) (by rfl) ?_; refine RunC.appS (P := Try.prog) (e := 34) (s := 6) (bytes := 72) (z := msgZero) s.r1 (s.m1.map GM.cells) [GM.cells ⟨e.m, d⟩] _ hv1 (by rfl) Try.info34 rfl (by rw [List.length_map]; exact hn1) hks.k1 (cells_len (ms := [⟨e.m, d⟩]) rfl) (SlIn.oneMsg _ e.m d) (cells_one [⟨e.m, d⟩]) (by omega) (by omega) (fun r' a' c' hok' hv' hs' => ?_)) | refine r_nil ?_ | refine e_n ?_ | (refine r_load (by rfl) ?_; refine LoadC.one (by rfl) (by rfl) ?_) | (refine r_store (by rfl) (by rfl) ?_; refine StoreC.all (by rfl) (by rfl) (by rfl) (by rfl) (by rfl) ?_) | refine r_slice (by rfl) (by rfl) (fun _ => ?_) | (refine r_load (by rfl) ?_; refine LoadC.agg (by rfl) (by rfl) ?_))
        refine any_val (i := 14) (by repeat (first | exact panicFree_body | refine panicFree_then ?_ | refine panicFree_block ?_)) (by rfl) (by kernel_rfl) (by first | exact run_fieldAddr rfl (by rfl) (by rfl) | exact run_buildL rfl rfl (by rfl) (by rfl) | exact pureV_run (by rfl)) ?_
        refine any_all [15] (by kernel_rfl) rfl ⟨⟨_, rfl, ?_⟩, trivial⟩
        repeat (first | (refine r_app (by rfl) (by rfl) ?_; refine RunC.appS (P := Try.prog) (e := 34) (s := 6) (bytes := 72) (z := msgZero) s.r1 (s.m1.map GM.cells) [GM.cells ⟨e.m, d⟩] _ hv1 (by rfl) Try.info34 rfl (by rw [List.length_map]; exact hn1) hks.k1 (cells_len (ms := [⟨e.m, d⟩]) rfl) (SlIn.oneMsg _ e.m d) (cells_one [⟨e.m, d⟩]) (by omega) (by omega) (fun r' a' c' hok' hv' hs' => ?_)) | refine r_nil ?_ | refine e_n ?_ | (refine r_load (by rfl) ?_; refine LoadC.one (by rfl) (by rfl) ?_) | (refine r_store (by rfl) (by rfl) ?_; refine StoreC.all (by rfl) (by rfl) (by rfl) (by rfl) (by rfl) ?_) | refine r_slice (by rfl) (by rfl) (fun _ => ?_) | (refine r_load (by rfl) ?_; refine LoadC.agg (by rfl) (by rfl) ?_))
        refine any_done (by kernel_rfl) ?_
        refine e_n ?_
        exact MeetC.mk r' hok' ⟨rfl, rfl, rfl, rfl, rfl⟩ (Incl.trans (Incl.of (N := [(xb, evO e)] :: [(m, monO sb eb mb (.slice sa nst sc) lb nb br' ln at_ ru)] :: [(sb, sendsO g)] :: [(eb, seenO (sn.put e.had true))] :: [(lb, lv.obj ikey bval)] :: [(nb, nw.obj ikey pval)] :: SR g :: [(s.blk, stayO s.proc s.epoch s.rep s.members (.slice a0 n0 c0') (.slice a' (n1 + 1) c') s.cb (some xt) s.went)] :: [(s.cb, (s.count.put e.m.frm (c0 + 1)).obj ikey ikey)] :: s.r0.u 34 :: r'.u 34 :: X :: F :: stR.u 57 :: R)) (Incl.eqv (Eqv.cons _ (Eqv.cons _ (Eqv.cons _ (Eqv.cons _ (Eqv.cons _ (Eqv.cons _ (Eqv.cons _ (take1_eqv hX ⟨e.m, d⟩ r' (s.count.put e.m.frm (c0 + 1)) _ (take1_obj s ⟨e.m, d⟩ r' (s.count.put e.m.frm (c0 + 1)) n0 n1 _ _ hn0 hn1 hv0 hv' xt te htr) (F :: stR.u 57 :: R)))))))))))
      · repeat (first | (refine r_app (by rfl) (by rfl) ?_; refine RunC.appS (P := Try.prog) (e := 34) (s := 6) (bytes := 72) (z := msgZero) s.r1 (s.m1.map GM.cells) [GM.cells ⟨e.m, d⟩] _ hv1 (by rfl) Try.info34 rfl (by rw [List.length_map]; exact hn1) hks.k1 (cells_len (ms := [⟨e.m, d⟩]) rfl) (SlIn.oneMsg _ e.m d) (cells_one [⟨e.m, d⟩]) (by omega) (by omega) (fun r' a' c' hok' hv' hs' => ?_)) | refine r_nil ?_ | refine e_n ?_ | (refine r_load (by rfl) ?_; refine LoadC.one (by rfl) (by rfl) ?_) | (refine r_store (by rfl) (by rfl) ?_; refine StoreC.all (by rfl) (by rfl) (by rfl) (by rfl) (by rfl) ?_) | refine r_slice (by rfl) (by rfl) (fun _ => ?_) | (refine r_load (by rfl) ?_; refine LoadC.agg (by rfl) (by rfl) ?_))
        refine any_all [7] (by kernel_rfl) rfl ⟨⟨_, rfl, ?_⟩, trivial⟩
        repeat (first | (refine r_app (by rfl) (by rfl) ?_; refine RunC.appS (P := Try.prog) (e := 34) (s := 6) (bytes := 72) (z := msgZero) s.r1 (s.m1.map GM.cells) [GM.cells ⟨e.m, d⟩] _ hv1 (by rfl) Try.info34 rfl (by rw [List.length_map]; exact hn1) hks.k1 (cells_len (ms := [⟨e.m, d⟩]) rfl) (SlIn.oneMsg _ e.m d) (cells_one [⟨e.m, d⟩]) (by omega) (by omega) (fun r' a' c' hok' hv' hs' => ?_)) | refine r_nil ?_ | refine e_n ?_ | (refine r_load (by rfl) ?_; refine LoadC.one (by rfl) (by rfl) ?_) | (refine r_store (by rfl) (by rfl) ?_; refine StoreC.all (by rfl) (by rfl) (by rfl) (by rfl) (by rfl) ?_) | refine r_slice (by rfl) (by rfl) (fun _ => ?_) | (refine r_load (by rfl) ?_; refine LoadC.agg (by rfl) (by rfl) ?_))
        refine any_all [11] (by kernel_rfl) rfl ⟨⟨_, rfl, ?_⟩, trivial⟩
        repeat (first | (refine r_app (by rfl) (by rfl) ?_; refine RunC.appS (P := Try.prog) (e := 34) (s := 6) (bytes := 72) (z := msgZero) s.r1 (s.m1.map GM.cells) [GM.cells ⟨e.m, d⟩] _ hv1 (by rfl) Try.info34 rfl (by rw [List.length_map]; exact hn1) hks.k1 (cells_len (ms := [⟨e.m, d⟩]) rfl) (SlIn.oneMsg _ e.m d) (cells_one [⟨e.m, d⟩]) (by omega) (by omega) (fun r' a' c' hok' hv' hs' => ?_)) | refine r_nil ?_ | refine e_n ?_ | (refine r_load (by rfl) ?_; refine LoadC.one (by rfl) (by rfl) ?_) | (refine r_store (by rfl) (by rfl) ?_; refine StoreC.all (by rfl) (by rfl) (by rfl) (by rfl) (by rfl) ?_) | refine r_slice (by rfl) (by rfl) (fun _ => ?_) | (refine r_load (by rfl) ?_; refine LoadC.agg (by rfl) (by rfl) ?_))
        refine any_val (i := 14) (by repeat (first | exact panicFree_body | refine panicFree_then ?_ | refine panicFree_block ?_)) (by rfl) (by kernel_rfl) (by first | exact run_fieldAddr rfl (by rfl) (by rfl) | exact run_buildL rfl rfl (by rfl) (by rfl) | exact pureV_run (by rfl)) ?_
        refine any_all [15] (by kernel_rfl) rfl ⟨⟨_, rfl, ?_⟩, trivial⟩
        repeat (first | (refine r_app (by rfl) (by rfl) ?_; refine RunC.appS (P := Try.prog) (e := 34) (s := 6) (bytes := 72) (z := msgZero) s.r1 (s.m1.map GM.cells) [GM.cells ⟨e.m, d⟩] _ hv1 (by rfl) Try.info34 rfl (by rw [List.length_map]; exact hn1) hks.k1 (cells_len (ms := [⟨e.m, d⟩]) rfl) (SlIn.oneMsg _ e.m d) (cells_one [⟨e.m, d⟩]) (by omega) (by omega) (fun r' a' c' hok' hv' hs' => ?_)) | refine r_nil ?_ | refine e_n ?_ | (refine r_load (by rfl) ?_; refine LoadC.one (by rfl) (by rfl) ?_) | (refine r_store (by rfl) (by rfl) ?_; refine StoreC.all (by rfl) (by rfl) (by rfl) (by rfl) (by rfl) ?_) | refine r_slice (by rfl) (by rfl) (fun _ => ?_) | (refine r_load (by rfl) ?_; refine LoadC.agg (by rfl) (by rfl) ?_))
        refine any_done (by kernel_rfl) ?_
        refine e_n ?_
        exact MeetC.mk r' hok' ⟨rfl, rfl, rfl, rfl, rfl⟩ (Incl.trans (Incl.of (N := [(xb, evO e)] :: [(m, monO sb eb mb (.slice sa nst sc) lb nb br' ln at_ ru)] :: [(sb, sendsO g)] :: [(eb, seenO (sn.put e.had true))] :: [(lb, lv.obj ikey bval)] :: [(nb, nw.obj ikey pval)] :: SR g :: [(s.blk, stayO s.proc s.epoch s.rep s.members (.slice a0 n0 c0') (.slice a' (n1 + 1) c') s.cb (some xt) s.went)] :: [(s.cb, (s.count.put e.m.frm (c0 + 1)).obj ikey ikey)] :: s.r0.u 34 :: r'.u 34 :: X :: F :: stR.u 57 :: R)) (Incl.eqv (Eqv.cons _ (Eqv.cons _ (Eqv.cons _ (Eqv.cons _ (Eqv.cons _ (Eqv.cons _ (Eqv.cons _ (take1_eqv hX ⟨e.m, d⟩ r' (s.count.put e.m.frm (c0 + 1)) _ (take1_obj s ⟨e.m, d⟩ r' (s.count.put e.m.frm (c0 + 1)) n0 n1 _ _ hn0 hn1 hv0 hv' xt te htr) (F :: stR.u 57 :: R)))))))))))
  clear f0
  intro r' hok' f0
  repeat (first | refine c_seq ?_ | refine c_reg ?_ | refine r_nil ?_ | refine e_n ?_ | refine CutC.go ?_ | refine r_field0 (by rfl) (by rfl) ?_ | refine r_lenS (by rfl) (by rfl) ?_ | refine r_val (by rfl) ?_ | (refine r_load (by rfl) ?_; refine LoadC.one (by rfl) (by rfl) ?_) | refine c_block ?_ | refine c_loop ?_)
  have hctx := TellCtx.mk' (s' := s.take1 ⟨e.m, d⟩ r' (s.count.put e.m.frm (c0 + 1))) hsi rfl hnst hoks (take1_ok hks hd hok' (by omega))
  have hobj : (s.take1 ⟨e.m, d⟩ r' (s.count.put e.m.frm (c0 + 1))).epoch = s.epoch ∧ (s.take1 ⟨e.m, d⟩ r' (s.count.put e.m.frm (c0 + 1))).rep = s.rep ∧ (s.take1 ⟨e.m, d⟩ r' (s.count.put e.m.frm (c0 + 1))).blk = s.blk := ⟨rfl, rfl, rfl⟩
  revert hctx hobj
  generalize hs' : s.take1 ⟨e.m, d⟩ r' (s.count.put e.m.frm (c0 + 1)) = s'
  generalize hss' : stays.set si s' = ss
  rintro hctx ⟨hse, hsr, hsb⟩
  have hSI : ∀ o ∈ ss, ∀ p ∈ o.u, ∀ {L R : Units} [Unit_ L (SU ss) R], p ∈ L.flatten := fun o ho p hp {L R} h => h.ok.mem_iff.2 (by simp [mem_SU ho hp])
  haveI hS' : ∀ {L R : Units} [Unit_ L (SU ss) R], Has L s.blk (stayO s'.proc s.epoch s.rep s'.members (s'.r0.val s'.m0.length) (s'.r1.val s'.m1.length) s'.cb (s'.tr.map (·.1)) s'.went) := fun {L R} h => ⟨by
    have := hSI s' hctx.mem (s'.blk, s'.obj) (by simp [GStay.u]) (L := L) (R := R)
    rw [hsb] at this
    rw [← hse, ← hsr]
    exact this⟩
  rw [HDP]
  refine LoopC.inv (γ := Nat × Int) (fun p => p.1 ≤ nst ∧ tellB s.epoch s.rep te.members (GM.mg ⟨e.m, d⟩) (ss.map GStay.abs) br' = tellB s.epoch s.rep te.members (GM.mg ⟨e.m, d⟩) ((ss.map GStay.abs).drop p.1) p.2)
    (fun p => [(0, .pointer (some ⟨m, 0, none⟩)), (3, .pointer (some ⟨xb, 0, none⟩)), (9, .pointer (some ⟨s.blk, 0, none⟩)), (12, .int .u64 te.members), (172, .slice sa nst sc), (173, .int .i64 nst), (174, .int .i64 (p.1 : Nat))])
    (fun p => [(xb, evO e)] :: [(m, monO sb eb mb (.slice sa nst sc) lb nb p.2 ln at_ ru)] :: [(sb, sendsO g)] :: [(eb, seenO (sn.put e.had true))] :: [(lb, lv.obj ikey bval)] :: [(nb, nw.obj ikey pval)] :: SR g :: SU ss :: F :: stR.u 57 :: R) (fun p => nst - p.1)
    (MeetC.mk (0, br') ⟨by omega, rfl⟩ ⟨rfl, rfl, rfl, rfl, rfl, rfl, rfl, rfl⟩ Incl.of) ?_
  clear f0
  rintro ⟨k, br2⟩ ⟨hk, htl⟩ f0
  simp only at hk htl ⊢
  by_cases hlt : k < nst
  · have hd1 : decide ((k : Int) < (nst : Int)) = true := by simp; omega
    obtain ⟨o, ho⟩ : ∃ o, ss[k]? = some o := ⟨ss[k]'(by rw [hctx.len]; exact hlt), List.getElem?_eq_getElem _⟩
    have hom := List.mem_of_getElem? ho
    rcases hss.2 with h0 | ⟨Sb, So, Sarr, ST, Sfr, rfl, hSm, hSrow⟩
    · omega
    haveI hSs : ∀ {L R : Units} [Unit_ L (stR.u 57) R], Has L Sb (.cells Sarr ST Sfr) := fun {L R} h => ⟨h.ok.mem_iff.2 (by simp [hSm])⟩
    have hoc : (stays.map ptrCell)[k]? = some [.pointer (some ⟨o.blk, 0, none⟩)] := by rw [← hctx.ptr, List.getElem?_map, ho]; rfl
    have hoko := hctx.ok o hom
    obtain ⟨oa0, oc0, e0, so0⟩ := o.r0.val_slice hoko.k0 34
    obtain ⟨oa1, oc1, e1', so1⟩ := o.r1.val_slice hoko.k1 34
    rw [List.length_map] at e0 so0 e1' so1
    haveI hO : ∀ {L R : Units} [Unit_ L (SU ss) R], Has L o.blk (stayO o.proc o.epoch o.rep o.members (.slice oa0 o.m0.length oc0) (.slice oa1 o.m1.length oc1) o.cb (o.tr.map (·.1)) o.went) := fun {L R} h => ⟨by
      have := hSI o hom (o.blk, o.obj) (by simp [GStay.u]) (L := L) (R := R)
      rw [← e0, ← e1']
      exact this⟩
    have hdr : (ss.map GStay.abs).drop k = o.abs :: (ss.map GStay.abs).drop (k + 1) := by
      have h1 : (ss.map GStay.abs)[k]? = some o.abs := by simp [ho]
      obtain ⟨h2, h3⟩ := List.getElem?_eq_some_iff.1 h1
      rw [List.drop_eq_getElem_cons h2, h3]
    have htc : ∀ b l, tellB s.epoch s.rep te.members (GM.mg ⟨e.m, d⟩) (o.abs :: l) b = tellB s.epoch s.rep te.members (GM.mg ⟨e.m, d⟩) l (tellStep s.epoch s.rep te.members (GM.mg ⟨e.m, d⟩) b o.abs) := fun b l => rfl
    rw [hdr, htc] at htl
    cases hcf : confEq o.epoch o.rep s.epoch s.rep
    · rw [tell_no (o := o.abs) (show (confEq o.epoch o.rep s.epoch s.rep && o.went) = false by rw [hcf]; rfl)] at htl
      repeat (first | (refine r_index (by rfl) (by rfl) (by rfl) hlt ?_) | (refine r_load (by rfl) ?_; refine LoadC.row1 (b := Sb) hSrow hoc (by rfl) ?_) | refine c_seq ?_ | refine c_reg ?_ | refine r_nil ?_ | refine e_n ?_ | refine CutC.go ?_ | refine r_val (by rfl) ?_ | refine c_yes (by rfl) (by first | with_reducible assumption | decide) ?_ | refine c_skip ?_ | refine c_block ?_ | refine c_draw ?_)
      refine d_all (by kernel_rfl) ?_
      repeat (first | (refine q_eq (by rfl) (by rfl) (by kernel_rfl) (fun x => eq30 x.w _ _ _ _) ?_) | refine c_reg ?_ | refine r_nil ?_ | refine e_n ?_ | refine CutC.go ?_ | refine r_val (by rfl) ?_ | refine c_no (by rfl) (by first | with_reducible assumption | decide) ?_ | refine c_skip ?_ | refine b_n ?_ | refine q_nil ?_ | refine q_field0 (by rfl) (by rfl) ?_ | refine q_val (by rfl) ?_ | refine q_gnT (by rfl) (by first | with_reducible assumption | decide) ?_ | refine q_pickF (by rfl) (by first | with_reducible assumption | decide) (by rfl) ?_ | (refine q_load (by rfl) ?_; refine LoadC.agg (by rfl) (by rfl) ?_))
      exact MeetC.mk (k + 1, br2) ⟨⟨by simp only; omega, htl⟩, by simp only; omega⟩ ⟨rfl, rfl, rfl, rfl, rfl, rfl, i64_succ (by omega), rfl⟩ Incl.of
    · cases hwe : o.went
      · rw [tell_no (o := o.abs) (show (confEq o.epoch o.rep s.epoch s.rep && o.went) = false by rw [hcf, hwe]; rfl)] at htl
        repeat (first | (refine r_index (by rfl) (by rfl) (by rfl) hlt ?_) | (refine r_load (by rfl) ?_; refine LoadC.row1 (b := Sb) hSrow hoc (by rfl) ?_) | refine c_seq ?_ | refine c_reg ?_ | refine r_nil ?_ | refine e_n ?_ | refine CutC.go ?_ | refine r_val (by rfl) ?_ | refine c_yes (by rfl) (by first | with_reducible assumption | decide) ?_ | refine c_skip ?_ | refine c_block ?_ | refine c_draw ?_)
        refine d_all (by kernel_rfl) ?_
        repeat (first | (refine q_eq (by rfl) (by rfl) (by kernel_rfl) (fun x => eq30 x.w _ _ _ _) ?_) | refine c_reg ?_ | refine r_nil ?_ | refine e_n ?_ | refine CutC.go ?_ | refine r_val (by rfl) ?_ | refine c_no (by rfl) (by first | with_reducible assumption | decide) ?_ | refine c_skip ?_ | refine b_n ?_ | refine q_nil ?_ | refine q_field0 (by rfl) (by rfl) ?_ | refine q_val (by rfl) ?_ | (refine q_load (by rfl) ?_; refine LoadC.one (by rfl) (by rfl) ?_) | refine q_gT (by rfl) (by first | with_reducible assumption | decide) ?_ | refine q_pickT (by rfl) (by first | with_reducible assumption | decide) (by rfl) ?_ | (refine q_load (by rfl) ?_; refine LoadC.agg (by rfl) (by rfl) ?_))
        exact MeetC.mk (k + 1, br2) ⟨⟨by simp only; omega, htl⟩, by simp only; omega⟩ ⟨rfl, rfl, rfl, rfl, rfl, rfl, i64_succ (by omega), rfl⟩ Incl.of
      · rw [tell_yes (o := o.abs) (show (confEq o.epoch o.rep s.epoch s.rep && o.went) = true by rw [hcf, hwe]; rfl)] at htl
        have t0 : SlIn (SU ss) oa0 o.m0.length 6 (o.m0.map GM.cells) := so0.mono fun p hp => mem_SU hom (by simp [GStay.u, hp])
        have t1 : SlIn (SU ss) oa1 o.m1.length 6 (o.m1.map GM.cells) := so1.mono fun p hp => mem_SU hom (by simp [GStay.u, hp])
        repeat (first | (refine r_index (by rfl) (by rfl) (by rfl) hlt ?_) | (refine r_load (by rfl) ?_; refine LoadC.row1 (b := Sb) hSrow hoc (by rfl) ?_) | refine c_seq ?_ | refine c_reg ?_ | refine r_nil ?_ | refine e_n ?_ | refine CutC.go ?_ | refine r_val (by rfl) ?_ | refine c_yes (by rfl) (by first | with_reducible assumption | decide) ?_ | refine c_skip ?_ | refine c_block ?_ | refine c_draw ?_)
        refine d_all (by kernel_rfl) ?_
        repeat (first | (refine q_eq (by rfl) (by rfl) (by kernel_rfl) (fun x => eq30 x.w _ _ _ _) ?_) | (refine r_fun (by rfl) (by rfl) ?_; refine CallC.ret (g := 38) (fun x => owes38 (F := F) (U1 := SU ss) (U2 := SU ss) o.blk o.m0.length o.m1.length oc0 oc1 o.cb 1 1 o.proc o.epoch o.rep o.members te.members _ o.went oa0 oa1 _ o.m0 o.m1 [⟨e.m, d⟩] o.abs.all [GM.mg ⟨e.m, d⟩] (Lib.hid (by simp [GStay.abs, AStay.all])) (Lib.hid rfl) t0 t1 (SlIn.oneMsg _ e.m d) hoko.few (by omega) hoko.msgs (fun g hg => by simp only [List.mem_singleton] at hg; subst hg; exact hd) _ x) ?_) | refine c_reg ?_ | refine r_nil ?_ | refine e_n ?_ | refine CutC.go ?_ | refine r_field0 (by rfl) (by rfl) ?_ | refine r_val (by rfl) ?_ | refine c_yes (by rfl) (by first | with_reducible assumption | decide) ?_ | refine b_n ?_ | refine r_slice (by rfl) (by rfl) (fun _ => ?_) | (refine r_load (by rfl) ?_; refine LoadC.agg (by rfl) (by rfl) ?_) | refine q_nil ?_ | refine q_field0 (by rfl) (by rfl) ?_ | refine q_val (by rfl) ?_ | (refine q_load (by rfl) ?_; refine LoadC.one (by rfl) (by rfl) ?_) | refine q_gT (by rfl) (by first | with_reducible assumption | decide) ?_ | refine q_pickT (by rfl) (by first | with_reducible assumption | decide) (by rfl) ?_ | (refine q_load (by rfl) ?_; refine LoadC.agg (by rfl) (by rfl) ?_))
        exact MeetC.mk (k + 1, owesB (hasB te.members o.proc) o.abs.all br2 [GM.mg ⟨e.m, d⟩]) ⟨⟨by simp only; omega, htl⟩, by simp only; omega⟩ ⟨rfl, rfl, rfl, rfl, rfl, rfl, i64_succ (by omega), rfl⟩ Incl.of
  have hd1 : decide ((k : Int) < (nst : Int)) = false := by simp; omega
  have e3 : (ss.map GStay.abs).drop k = [] := by rw [List.drop_eq_nil_iff, List.length_map, hctx.len]; omega
  rw [e3] at htl
  repeat (first | refine c_seq ?_ | refine c_reg ?_ | refine r_nil ?_ | refine e_n ?_ | refine CutC.go ?_ | refine r_val (by rfl) ?_ | refine c_no (by rfl) (by first | with_reducible assumption | decide) ?_ | refine c_exit ?_ | refine e_x ?_ | refine b_x1 ?_ | refine EndC.mk rfl ?_)
  have htl : tellB s.epoch s.rep te.members (GM.mg ⟨e.m, d⟩) (ss.map GStay.abs) br' = br2 := htl
  subst hss'
  subst hs'
  refine ⟨r', hok', Gives.mk rfl ?_⟩
  rw [htl]
  exact Incl.of
end
end Go.Proofs.Ythijlgjfgliinaa
end
