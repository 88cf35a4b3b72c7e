/- Part 17 of the proof of what MonJudges says. -/
import Derived.Test.YthijlgjfgliinaaJg16
section
/- An event is added. -/
set_option linter.all false
namespace Go.Proofs.Ythijlgjfgliinaa
open Go.RowKit
open Go.W
variable [Env]
set_option maxRecDepth 100000
theorem _root_.Go.CutC.meet {P : Program} {d : Code} {Q : Exit → Fr → Units → Prop} {f : Fr} {M : Units} {γ : Type} (C : γ → Prop) (live : γ → List (Nat × Value)) (U : γ → Units) (h1 : MeetC C live U f M) (h2 : ∀ g, C g → ∀ f0 : Nat → Value, wpC P d Q (Fr.over f0 (live g)) (U g)) : CutC P d Q f M := MeetC.cut h2 h1
theorem CallC.clone {g : FuncId} {args : Array Value} {F : Blocks} {L R : Units} {n : Nat} {l : List Int} {K : Value → Units → Prop} {E : List PanicEntry → Units → Prop} (h : ∀ x : St L, Calls Try.prog g args x.w (CloneRet F R n l))
    (k : ∀ a' c' F', DepsIn F' a' n l → F ⊆ F' → K (.slice a' n c') (F' :: R)) : CallC Try.prog g args L K E := by
  intro x
  refine (h x).mono ?_
  rintro e w ⟨a', c', F', rfl, hd, hF, y, rfl⟩
  exact ⟨_, ⟨y, rfl⟩, k a' c' F' hd hF⟩
theorem upd_live {L M : Units} (r : Nat) (g : GMap Int Bool) (a : Int) (v : Bool) [h : Has L r (g.obj ikey bval)] [Lay L r ((g.put a v).obj ikey bval) M] (x : St L) : (Instr.mapUpdate 51 (.map (some r)) (.int .i64 a) (.bool v)).run Try.prog x.w = .ok () (x.lay r ((g.put a v).obj ikey bval)).w :=
  run_mapUpdate_g (P := Try.prog) KL3 (T := 51) (et := 4) Try.underlying51 g (St.heap (h := h) x) a v
theorem del_now {L M : Units} (r : Nat) (g : GMap Int Nat) (a : Int) {ty : TypeId} [h : Has L r (g.obj ikey pval)] [Lay L r ((g.del a).obj ikey pval) M] (x : St L) : (Builtin.delete_ #[52, 3] ty #[.map (some r), .int .i64 a]).run Try.prog x.w = .ok (.tuple #[]) (x.lay r ((g.del a).obj ikey pval)).w :=
  run_delete_g (P := Try.prog) KL3 (T := 52) (ts := #[52, 3]) Try.underlying52 g (St.heap (h := h) x) a rfl
theorem stay_none {G : GMon} {e : Ev} (d : List Int) (hso : stayOk ((G.lv.get e.proc).getD false) ((G.cur e.proc).map (·.2)) e = none) : G.abs.stay (e.abs d) = none := by
  rw [GMon.abs_stay]
  rcases hc : G.cur e.proc with _ | ⟨i, s⟩
  · rfl
  · rw [hc] at hso
    simp only [Option.map_some, stayOk] at hso
    split at hso
    · cases hso
    · rename_i h; simp only; rw [if_neg h]
theorem stay_some {G : GMon} {e : Ev} {s : GStay} (d : List Int) (hso : stayOk ((G.lv.get e.proc).getD false) ((G.cur e.proc).map (·.2)) e = some s) : ∃ i, G.cur e.proc = some (i, s) ∧ (G.lv.get e.proc).getD false = true ∧ G.abs.stay (e.abs d) = some (i, s.abs) := by
  obtain ⟨hs1, hlv, hse, hsr⟩ := stayOk_some hso
  obtain ⟨⟨i, s'⟩, hc, h2⟩ := Option.map_eq_some_iff.1 hs1
  simp only at h2; subst h2
  refine ⟨i, hc, hlv, ?_⟩
  rw [GMon.abs_stay, hc]
  simp only
  rw [if_pos]
  rw [hlv, hse, hsr]
  simp [confEq]
theorem reg_case {F : Blocks} (G : GMon) (k : Nat) (hG : G.ok F k) (hk : k < 500) (e : Ev) (d : List Int) {R : Units} :
    Does Try.prog 16 #[.pointer (some ⟨G.m, 0, none⟩), evV e] (G.L F R) (StepTo F (k + 1) R G (G.abs.regular (e.abs d))) := by
  rcases hc : G.cur e.proc with _ | ⟨i, b⟩
  · exact reg_none G k hG hk e d hc
  · exact reg_some G k hG hk e d i b hc
theorem CallC.step {g : FuncId} {args : Array Value} {F : Blocks} {L R : Units} {G : GMon} {k : Nat} {A : AMon} {K : Value → Units → Prop} {E : List PanicEntry → Units → Prop} (h : Does Try.prog g args (G.L F R) (StepTo F k R G A)) (hi : Incl L (G.L F R))
    (kk : ∀ G' : GMon, G'.ok F k → G'.m = G.m → G'.abs = A → K (.tuple #[]) (G'.L F R)) : CallC Try.prog g args L K E := by
  intro x
  refine (Does.incl hi h x).mono ?_
  rintro e w ⟨M, hM, G', hok, hm, hA, rfl, hgi⟩
  exact ⟨_, hM.incl hgi, kk G' hok hm hA⟩
theorem live_upd (g : GMap Int Bool) (p : Int) (b : Bool) : (fun c => ((g.put p b).get c).getD false) = upd (fun c => (g.get c).getD false) p b := by
  funext c
  rw [GMap.get_put]
  unfold upd
  split <;> rfl
/-- A process is up, or is gone. -/
theorem GMon.ok.power {F : Blocks} {k : Nat} {G : GMon} (hG : G.ok F k) (p : Int) (b : Bool) : ({ G with lv := G.lv.put p b, nw := G.nw.del p, now := upd G.now p none } : GMon).ok F (k + 1) where
  row := hG.row
  stays := hG.stays
  len := Nat.le_succ_of_le hG.len
  few s hs := Nat.le_succ_of_le (hG.few s hs)
  count s hs q := by have := hG.count s hs q; omega
  sends q := ⟨(hG.sends q).1, (hG.sends q).2.1, Nat.le_succ_of_le (hG.sends q).2.2⟩
  now q := by
    show (G.nw.del p).get q = (upd G.now p none q).bind _
    rw [GMap.get_del]
    unfold upd
    split
    · rfl
    · exact hG.now q
  nowlt q i h := by
    simp only [upd] at h
    split at h
    · cases h
    · exact hG.nowlt q i h
theorem power_abs (G : GMon) (e : Ev) (d : List Int) (hk : e.kind = 5 ∨ e.kind = 6) : ({ G with lv := G.lv.put e.proc (e.kind == 5), nw := G.nw.del e.proc, now := upd G.now e.proc none } : GMon).abs = G.abs.act (e.abs d) := by
  unfold AMon.act
  rw [show (e.abs d).kind = e.kind from rfl, if_pos hk]
  simp only [GMon.abs, live_upd]
  rfl
/-- A stay with its way on. -/
def GStay.goes (s : GStay) (xb : Nat) (e : Ev) : GStay := { s with tr := some (xb, e) }
attribute [local irreducible] opsC wpC quietC LoopC DrawC CutC LoadC StoreC ReadC UpdC RunC CallC QCallC EndC thenC inBlockC
/-- The event with its message cloned. -/
abbrev Ev.cl (e : Ev) (a : Option Addr) (c : Nat) : Ev := { e with m := { e.m with da := a, dc := c } }
def AddPost (F : Blocks) (k : Nat) (R : Units) (G : GMon) (A : AMon) (en : Ending) (M : Units) : Prop := ∃ (G' : GMon) (F' : Blocks), F ⊆ F' ∧ G'.ok F' k ∧ G'.m = G.m ∧ G'.abs = A ∧ Gives (G'.L F' R) (.int .i64 G'.br) en M
set_option synthInstance.maxHeartbeats 400000 in
set_option synthInstance.maxSize 2000 in
set_option maxHeartbeats 4000000 in
theorem add_spec {F : Blocks} (G : GMon) (k : Nat) (hG : G.ok F k) (hk : k < 500) (hln : 0 ≤ G.ln ∧ G.ln ≤ k) (e : Ev) (d : List Int) (hd : GM.ok F ⟨e.m, d⟩) {R : Units} :
    Does Try.prog 9 #[.pointer (some ⟨G.m, 0, none⟩), evV e] (G.L F R) (AddPost F (k + 1) R G (G.abs.add (e.abs d))) := by
  have hdi : DepsIn F e.m.da e.m.dn d := hd.1
  have hdn : e.m.dn * 4 ≤ 140737488355328 := by have := hd.2; simp only at this; omega
  refine does_of_wpC (args := [.pointer (some ⟨G.m, 0, none⟩), evV e]) Try.func9 rfl (by kernel_rfl) ?_
  repeat (first | refine c_seq ?_ | refine c_reg ?_ | refine r_nil ?_ | refine e_n ?_ | refine r_val (by rfl) ?_ | refine r_box (by rfl) (by rfl) (fun _ => ?_))
  rename_i xb
  refine CutC.go ?_
  repeat (first | (refine r_fun (by rfl) (by rfl) ?_; refine CallC.clone (g := 15) (fun x => clone15 (F := F) e.m.da e.m.dn e.m.dc d hdi hdn x) (fun a' c' F' hd' hF => ?_)) | refine c_seq ?_ | refine c_reg ?_ | refine r_nil ?_ | refine e_n ?_ | refine r_field0 (by rfl) (by rfl) ?_ | refine r_field (by rfl) (by rfl) ?_ | (refine r_load (by rfl) ?_; refine LoadC.one (by rfl) (by rfl) ?_) | (refine r_store (by rfl) (by rfl) ?_; refine StoreC.all (by rfl) (by rfl) (by rfl) (by rfl) (by rfl) ?_))
  refine CutC.meet (γ := Ev) (fun e' => GM.ok F' ⟨e'.m, d⟩ ∧ e'.abs d = e.abs d) (fun _ => [(0, .pointer (some ⟨G.m, 0, none⟩)), (3, .pointer (some ⟨xb, 0, none⟩))]) (fun e' => [(xb, evO e')] :: G.L F' R)
    (MeetC.mk (e.cl a' c') ⟨⟨hd', hd.2⟩, rfl⟩ ⟨rfl, rfl, rfl⟩ Incl.of) ?_
  rintro e' ⟨hde, hea⟩ f0
  rw [← hea]
  have hG := hG.mono hF (Nat.le_refl k)
  clear hd hea
  revert hde
  generalize hx : e' = x
  clear hx e' hdi hdn hd' e
  intro hd
  refine c_seq ?_
  repeat (first | refine c_reg ?_ | refine r_nil ?_ | refine e_n ?_ | refine r_field0 (by rfl) (by rfl) ?_ | refine r_val (by rfl) ?_ | (refine r_load (by rfl) ?_; refine LoadC.one (by rfl) (by rfl) ?_) | (refine r_store (by rfl) (by rfl) ?_; refine StoreC.all (by rfl) (by rfl) (by rfl) (by rfl) (by rfl) ?_))
  refine CutC.go ?_
  refine wpC_cut (γ := GMon × Blocks) (fun p => F' ⊆ p.2 ∧ p.1.ok p.2 (k + 1) ∧ p.1.m = G.m ∧ p.1.abs = AMon.act { G.abs with ln := G.abs.ln + 1 } (x.abs d)) (fun p => [(0, .pointer (some ⟨G.m, 0, none⟩))]) (fun p => p.1.L p.2 R) ?_ ?_
  · have hwr : IntKind.i64.wrap (G.ln + 1) = G.ln + 1 := by rw [IntWalk.i64_in _ (by omega)]
    refine c_seq ?_
    repeat (first | refine c_reg ?_ | refine r_nil ?_ | refine e_n ?_ | refine r_field0 (by rfl) (by rfl) ?_ | (refine r_load (by rfl) ?_; refine LoadC.one (by rfl) (by rfl) ?_))
    refine CutC.meet (γ := GMon) (fun G1 => G1.ok F' k ∧ G1.m = G.m ∧ G1.abs = { G.abs with ln := G.abs.ln + 1 }) (fun _ => [(0, .pointer (some ⟨G.m, 0, none⟩)), (3, .pointer (some ⟨xb, 0, none⟩)), (20, .int .i64 x.kind)]) (fun G1 => [(xb, evO x)] :: G1.L F' R)
      (MeetC.mk { G with ln := G.ln + 1 } ⟨⟨hG.row, hG.stays, hG.len, hG.few, hG.count, hG.sends, hG.now, hG.nowlt⟩, rfl, rfl⟩ ⟨rfl, rfl, rfl, rfl⟩ (by rw [hwr]; exact Incl.of)) ?_
    clear f0 hwr hG hln
    rintro G1 ⟨hG, hm, hA⟩ f0
    rw [← hA, ← hm]
    clear hA hm
    have hGs := hG.mono (List.Subset.refl F') (Nat.le_succ k)
    by_cases k5 : x.kind = 5
    · have hb5 : (x.kind == 5) = true := by simp [k5]
      have hb6 : (x.kind == 6) = false := by simp [k5]
      have hb3 : (x.kind == 3) = false := by simp [k5]
      have hb1 : (x.kind == 1) = false := by simp [k5]
      have hb2 : (x.kind == 2) = false := by simp [k5]
      have hb4 : (x.kind == 4) = false := by simp [k5]
      repeat (first | refine c_seq ?_ | refine c_reg ?_ | refine r_nil ?_ | refine e_n ?_ | refine CutC.go ?_ | refine r_val (by rfl) ?_ | refine c_yes (by rfl) (by first | with_reducible assumption | decide) ?_ | refine c_skip ?_ | refine c_block ?_ | refine c_draw ?_)
      refine d_tail 9 (by kernel_rfl) ?_
      simp only [List.take_succ_cons, List.take_zero, List.drop_succ_cons, List.drop_zero]
      repeat (first | (refine r_upd (by rfl) (by rfl) (by rfl) ?_; refine UpdC.of (fun x => ⟨_, upd_live G1.lb G1.lv _ _ x⟩) ?_) | refine r_nil ?_ | refine e_n ?_ | refine CutC.go ?_ | refine c_draw ?_ | refine q_nil ?_ | refine q_field0 (by rfl) (by rfl) ?_ | refine q_val (by rfl) ?_ | (refine q_load (by rfl) ?_; refine LoadC.one (by rfl) (by rfl) ?_))
      refine d_tail 6 (by kernel_rfl) ?_
      simp only [List.take_succ_cons, List.take_zero, List.drop_succ_cons, List.drop_zero]
      repeat (first | (refine r_del (by rfl) (by rfl) ?_; refine RunC.of (fun x => ⟨_, del_now G1.nb G1.nw _ x⟩) ?_) | refine r_nil ?_ | refine e_n ?_ | refine b_n ?_ | refine q_nil ?_ | refine q_field0 (by rfl) (by rfl) ?_ | refine q_val (by rfl) ?_ | (refine q_load (by rfl) ?_; refine LoadC.one (by rfl) (by rfl) ?_))
      exact MeetC.mk ({ G1 with lv := G1.lv.put x.proc (x.kind == 5), nw := G1.nw.del x.proc, now := upd G1.now x.proc none }, F') ⟨List.Subset.refl _, hG.power _ _, rfl, power_abs G1 x d (by simp [k5])⟩ ⟨rfl, rfl⟩ Incl.of
    have hb5 : (x.kind == 5) = false := by simp [k5]
    by_cases k6 : x.kind = 6
    · have hb6 : (x.kind == 6) = true := by simp [k6]
      have hb5 : (x.kind == 5) = false := by simp [k6]
      have hb3 : (x.kind == 3) = false := by simp [k6]
      have hb1 : (x.kind == 1) = false := by simp [k6]
      have hb2 : (x.kind == 2) = false := by simp [k6]
      have hb4 : (x.kind == 4) = false := by simp [k6]
      repeat (first | refine c_seq ?_ | refine c_reg ?_ | refine r_nil ?_ | refine e_n ?_ | refine CutC.go ?_ | refine r_val (by rfl) ?_ | refine c_yes (by rfl) (by first | with_reducible assumption | decide) ?_ | refine c_no (by rfl) (by first | with_reducible assumption | decide) ?_ | refine c_block ?_ | refine c_draw ?_)
      refine d_tail 9 (by kernel_rfl) ?_
      simp only [List.take_succ_cons, List.take_zero, List.drop_succ_cons, List.drop_zero]
      repeat (first | (refine r_upd (by rfl) (by rfl) (by rfl) ?_; refine UpdC.of (fun x => ⟨_, upd_live G1.lb G1.lv _ _ x⟩) ?_) | refine r_nil ?_ | refine e_n ?_ | refine CutC.go ?_ | refine c_draw ?_ | refine q_nil ?_ | refine q_field0 (by rfl) (by rfl) ?_ | refine q_val (by rfl) ?_ | (refine q_load (by rfl) ?_; refine LoadC.one (by rfl) (by rfl) ?_))
      refine d_tail 6 (by kernel_rfl) ?_
      simp only [List.take_succ_cons, List.take_zero, List.drop_succ_cons, List.drop_zero]
      repeat (first | (refine r_del (by rfl) (by rfl) ?_; refine RunC.of (fun x => ⟨_, del_now G1.nb G1.nw _ x⟩) ?_) | refine r_nil ?_ | refine e_n ?_ | refine b_n ?_ | refine q_nil ?_ | refine q_field0 (by rfl) (by rfl) ?_ | refine q_val (by rfl) ?_ | (refine q_load (by rfl) ?_; refine LoadC.one (by rfl) (by rfl) ?_))
      exact MeetC.mk ({ G1 with lv := G1.lv.put x.proc (x.kind == 5), nw := G1.nw.del x.proc, now := upd G1.now x.proc none }, F') ⟨List.Subset.refl _, hG.power _ _, rfl, power_abs G1 x d (by simp [k5, k6])⟩ ⟨rfl, rfl⟩ Incl.of
    have hb6 : (x.kind == 6) = false := by simp [k6]
    by_cases k3 : x.kind = 3
    · have hb3 : (x.kind == 3) = true := by simp [k3]
      have hb5 : (x.kind == 5) = false := by simp [k3]
      have hb6 : (x.kind == 6) = false := by simp [k3]
      have hb1 : (x.kind == 1) = false := by simp [k3]
      have hb2 : (x.kind == 2) = false := by simp [k3]
      have hb4 : (x.kind == 4) = false := by simp [k3]
      repeat (first | (refine r_fun (by rfl) (by rfl) ?_; refine CallC.step (g := 16) (R := [(xb, evO x)] :: R) (reg_case G1 k hG hk x d) Incl.of (fun G' hok hm hA => ?_)) | refine c_seq ?_ | refine c_reg ?_ | refine r_nil ?_ | refine e_n ?_ | refine CutC.go ?_ | refine r_val (by rfl) ?_ | refine c_yes (by rfl) (by first | with_reducible assumption | decide) ?_ | refine c_no (by rfl) (by first | with_reducible assumption | decide) ?_ | refine c_block ?_ | refine b_n ?_ | (refine r_load (by rfl) ?_; refine LoadC.agg (by rfl) (by rfl) ?_))
      exact MeetC.mk (G', F') ⟨List.Subset.refl _, hok, hm, by rw [hA]; simp [AMon.act, Ev.abs, k3]⟩ ⟨rfl, rfl⟩ Incl.of
    have hb3 : (x.kind == 3) = false := by simp [k3]
    by_cases k1 : x.kind = 1
    · have hb1 : (x.kind == 1) = true := by simp [k1]
      have hb5 : (x.kind == 5) = false := by simp [k1]
      have hb6 : (x.kind == 6) = false := by simp [k1]
      have hb3 : (x.kind == 3) = false := by simp [k1]
      have hb2 : (x.kind == 2) = false := by simp [k1]
      have hb4 : (x.kind == 4) = false := by simp [k1]
      repeat (first | (refine r_fun (by rfl) (by rfl) ?_; refine CallC.step (g := 17) (R := [(xb, evO x)] :: R) (send_case G1 k hG hk x d hd) Incl.of (fun G' hok hm hA => ?_)) | refine c_seq ?_ | refine c_reg ?_ | refine r_nil ?_ | refine e_n ?_ | refine CutC.go ?_ | refine r_val (by rfl) ?_ | refine c_yes (by rfl) (by first | with_reducible assumption | decide) ?_ | refine c_no (by rfl) (by first | with_reducible assumption | decide) ?_ | refine c_block ?_ | refine b_n ?_ | (refine r_load (by rfl) ?_; refine LoadC.agg (by rfl) (by rfl) ?_))
      exact MeetC.mk (G', F') ⟨List.Subset.refl _, hok, hm, by rw [hA]; simp [AMon.act, Ev.abs, k1]⟩ ⟨rfl, rfl⟩ Incl.of
    have hb1 : (x.kind == 1) = false := by simp [k1]
    by_cases k2 : x.kind = 2
    · have hb2 : (x.kind == 2) = true := by simp [k2]
      have hb5 : (x.kind == 5) = false := by simp [k2]
      have hb6 : (x.kind == 6) = false := by simp [k2]
      have hb3 : (x.kind == 3) = false := by simp [k2]
      have hb1 : (x.kind == 1) = false := by simp [k2]
      have hb4 : (x.kind == 4) = false := by simp [k2]
      repeat (first | (refine r_fun (by rfl) (by rfl) ?_; refine CallC.step (g := 18) (R := [(xb, evO x)] :: R) (deliver_case G1 k hG hk x d hd) Incl.of (fun G' hok hm hA => ?_)) | refine c_seq ?_ | refine c_reg ?_ | refine r_nil ?_ | refine e_n ?_ | refine CutC.go ?_ | refine r_val (by rfl) ?_ | refine c_yes (by rfl) (by first | with_reducible assumption | decide) ?_ | refine c_no (by rfl) (by first | with_reducible assumption | decide) ?_ | refine c_block ?_ | refine b_n ?_ | (refine r_load (by rfl) ?_; refine LoadC.agg (by rfl) (by rfl) ?_))
      exact MeetC.mk (G', F') ⟨List.Subset.refl _, hok, hm, by rw [hA]; simp [AMon.act, Ev.abs, k2]⟩ ⟨rfl, rfl⟩ Incl.of
    have hb2 : (x.kind == 2) = false := by simp [k2]
    by_cases k4 : x.kind = 4
    · have hb4 : (x.kind == 4) = true := by simp [k4]
      have hAc : ∀ A : AMon, A.act (x.abs d) = A.trans (x.abs d) := fun A => by simp [AMon.act, Ev.abs, k4]
      have hnw := hG.cur x.proc
      have hS : ∀ b, (G1.cur x.proc).map (·.2) = some b → b ∈ G1.stays := fun b hb => by
        obtain ⟨⟨i, s⟩, h1, h2⟩ := Option.map_eq_some_iff.1 hb
        simp only at h2; subst h2
        exact List.mem_of_getElem? (cur_mem h1).1
      rcases hso : stayOk ((G1.lv.get x.proc).getD false) ((G1.cur x.proc).map (·.2)) x with _ | s
      · have hBi : ∀ b, (G1.cur x.proc).map (·.2) = some b → ∀ {L R : Units} [Unit_ L (SU G1.stays) R], Has L b.blk b.obj := fun b hb {L R} h => ⟨h.ok.mem_iff.2 (by simp [mem_SU (hS b hb) (show (b.blk, b.obj) ∈ b.u by simp [GStay.u])])⟩
        repeat (first | (refine r_fun (by rfl) (by rfl) ?_; refine CallC.ret (g := 19) (fun y => stay19_no x G1.lv G1.nw _ _ hso rfl hnw (fun b hb => hBi b hb) y) ?_) | refine c_seq ?_ | refine c_reg ?_ | refine r_nil ?_ | refine e_n ?_ | refine CutC.go ?_ | refine r_val (by rfl) ?_ | refine c_yes (by rfl) (by first | with_reducible assumption | decide) ?_ | refine c_no (by rfl) (by first | with_reducible assumption | decide) ?_ | refine c_skip ?_ | refine c_block ?_ | refine b_n ?_ | (refine r_load (by rfl) ?_; refine LoadC.agg (by rfl) (by rfl) ?_))
        exact MeetC.mk ({ G1 with br := brk G1.br 1 true }, F') ⟨List.Subset.refl _, ⟨hGs.row, hGs.stays, hGs.len, hGs.few, hGs.count, hGs.sends, hGs.now, hGs.nowlt⟩, rfl, by rw [hAc]; unfold AMon.trans; rw [stay_none d hso]; rfl⟩ ⟨rfl, rfl⟩ Incl.of
      · obtain ⟨i, hc, hlv, hst⟩ := stay_some d hso
        obtain ⟨hsi, hnow⟩ := cur_mem hc
        obtain ⟨X, hX1, hX2⟩ := SU_focus hsi
        have hks := hG.stays s (List.mem_of_getElem? hsi)
        have hStay : ∀ {L R : Units} [Unit_ L [(s.blk, s.obj)] R], Has L s.blk s.obj := fun {L R} h => ⟨h.ok.mem_iff.2 (by simp)⟩
        have hpre : Incl ([(xb, evO x)] :: G1.L F' R) ([(xb, evO x)] :: [(G1.m, monO G1.sb G1.eb G1.mb (G1.stR.val G1.stays.length) G1.lb G1.nb G1.br G1.ln G1.at_ G1.ru)] :: [(G1.sb, sendsO G1.sends)] :: [(G1.eb, seenO G1.seen)] :: [(G1.mb, G1.mem.obj confKey setV)] :: [(G1.lb, G1.lv.obj ikey bval)] :: [(G1.nb, G1.nw.obj ikey pval)] :: SR G1.sends :: [(s.blk, stayO s.proc s.epoch s.rep s.members (s.r0.val s.m0.length) (s.r1.val s.m1.length) s.cb (s.tr.map (·.1)) s.went)] :: [(s.cb, s.count.obj ikey ikey)] :: s.r0.u 34 :: s.r1.u 34 :: X :: F' :: G1.stR.u 57 :: R) :=
          Incl.eqv (Eqv.cons _ (Eqv.cons _ (Eqv.cons _ (Eqv.cons _ (Eqv.cons _ (Eqv.cons _ (Eqv.cons _ (Eqv.cons _ (((Eqv.head hX1 _).trans (Eqv.split _ _ _)).trans (s.u_split _))))))))))
        have hpost : ∀ b : Int, Incl ([(G1.m, monO G1.sb G1.eb G1.mb (G1.stR.val G1.stays.length) G1.lb G1.nb b G1.ln G1.at_ G1.ru)] :: [(xb, evO x)] :: [(G1.sb, sendsO G1.sends)] :: [(G1.eb, seenO G1.seen)] :: [(G1.mb, G1.mem.obj confKey setV)] :: [(G1.lb, G1.lv.obj ikey bval)] :: [(G1.nb, G1.nw.obj ikey pval)] :: SR G1.sends :: [(s.blk, stayO s.proc s.epoch s.rep s.members (s.r0.val s.m0.length) (s.r1.val s.m1.length) s.cb (some xb) s.went)] :: [(s.cb, s.count.obj ikey ikey)] :: s.r0.u 34 :: s.r1.u 34 :: X :: F' :: G1.stR.u 57 :: R)
            (({ G1 with stays := G1.stays.set i (s.goes xb x), br := b } : GMon).L ((xb, evO x) :: F') R) := by
          intro b
          have e1 : Incl ([(G1.m, monO G1.sb G1.eb G1.mb (G1.stR.val G1.stays.length) G1.lb G1.nb b G1.ln G1.at_ G1.ru)] :: [(xb, evO x)] :: [(G1.sb, sendsO G1.sends)] :: [(G1.eb, seenO G1.seen)] :: [(G1.mb, G1.mem.obj confKey setV)] :: [(G1.lb, G1.lv.obj ikey bval)] :: [(G1.nb, G1.nw.obj ikey pval)] :: SR G1.sends :: [(s.blk, stayO s.proc s.epoch s.rep s.members (s.r0.val s.m0.length) (s.r1.val s.m1.length) s.cb (some xb) s.went)] :: [(s.cb, s.count.obj ikey ikey)] :: s.r0.u 34 :: s.r1.u 34 :: X :: F' :: G1.stR.u 57 :: R)
              ([(G1.m, monO G1.sb G1.eb G1.mb (G1.stR.val G1.stays.length) G1.lb G1.nb b G1.ln G1.at_ G1.ru)] :: [(G1.sb, sendsO G1.sends)] :: [(G1.eb, seenO G1.seen)] :: [(G1.mb, G1.mem.obj confKey setV)] :: [(G1.lb, G1.lv.obj ikey bval)] :: [(G1.nb, G1.nw.obj ikey pval)] :: SR G1.sends :: [((s.goes xb x).blk, (s.goes xb x).obj)] :: [((s.goes xb x).cb, (s.goes xb x).count.obj ikey ikey)] :: (s.goes xb x).r0.u 34 :: (s.goes xb x).r1.u 34 :: X :: [(xb, evO x)] :: F' :: G1.stR.u 57 :: R) := (Incl.of (N := [(G1.m, monO G1.sb G1.eb G1.mb (G1.stR.val G1.stays.length) G1.lb G1.nb b G1.ln G1.at_ G1.ru)] :: [(G1.sb, sendsO G1.sends)] :: [(G1.eb, seenO G1.seen)] :: [(G1.mb, G1.mem.obj confKey setV)] :: [(G1.lb, G1.lv.obj ikey bval)] :: [(G1.nb, G1.nw.obj ikey pval)] :: SR G1.sends :: [(s.blk, stayO s.proc s.epoch s.rep s.members (s.r0.val s.m0.length) (s.r1.val s.m1.length) s.cb (some xb) s.went)] :: [(s.cb, s.count.obj ikey ikey)] :: s.r0.u 34 :: s.r1.u 34 :: X :: [(xb, evO x)] :: F' :: G1.stR.u 57 :: R))
          refine e1.trans ?_
          show Incl _ ([(G1.m, monO G1.sb G1.eb G1.mb (G1.stR.val (G1.stays.set i (s.goes xb x)).length) G1.lb G1.nb b G1.ln G1.at_ G1.ru)] :: [(G1.sb, sendsO G1.sends)] :: [(G1.eb, seenO G1.seen)] :: [(G1.mb, G1.mem.obj confKey setV)] :: [(G1.lb, G1.lv.obj ikey bval)] :: [(G1.nb, G1.nw.obj ikey pval)] :: SR G1.sends :: SU (G1.stays.set i (s.goes xb x)) :: ([(xb, evO x)] ++ F') :: G1.stR.u 57 :: R)
          rw [List.length_set]
          exact Incl.eqv (Eqv.cons _ (Eqv.cons _ (Eqv.cons _ (Eqv.cons _ (Eqv.cons _ (Eqv.cons _ (Eqv.cons _ ((((s.goes xb x).u_split _).symm.trans ((Eqv.split _ _ _).symm.trans (Eqv.head (hX2 _).symm _))).trans (Eqv.cons _ (Eqv.split _ _ _).symm)))))))))
        have hF2 : F' ⊆ (xb, evO x) :: F' := List.subset_cons_self _ _
        have hok : ∀ b : Int, ({ G1 with stays := G1.stays.set i (s.goes xb x), br := b } : GMon).ok ((xb, evO x) :: F') (k + 1) := fun b => by
          have hks' := hks.mono hF2
          exact (hG.mono hF2 (Nat.le_refl k)).setStay (s' := s.goes xb x) hsi rfl ⟨hks'.k0, hks'.k1, hks'.few, hks'.msgs, fun t e he => by simp only [GStay.goes, Option.some.injEq, Prod.mk.injEq] at he; obtain ⟨rfl, rfl⟩ := he; exact List.mem_cons_self⟩ (Nat.le_succ_of_le (hG.few s (List.mem_of_getElem? hsi))) (fun p => by have := hG.count s (List.mem_of_getElem? hsi) p; show 0 ≤ (s.count.get p).getD 0 ∧ (s.count.get p).getD 0 ≤ ((k + 1 : Nat) : Int); omega) G1.seen b
        have hAT : ({ G1 with stays := G1.stays.set i (s.goes xb x), br := brk G1.br 1 s.tr.isSome } : GMon).abs = G1.abs.act (x.abs d) := by
          rw [hAc]
          unfold AMon.trans
          rw [hst]
          simp only [GMon.abs, List.map_set]
          have e1 : (s.goes xb x).abs = { s.abs with tr := some ⟨x.nepoch, x.nrep, x.members⟩ } := rfl
          have e2 : s.abs.tr.isSome = s.tr.isSome := by unfold GStay.abs; simp
          rw [e1, e2]
          rfl
        rcases htr : s.tr with _ | ⟨xt, te⟩
        all_goals
          have hobj : s.obj = stayO s.proc s.epoch s.rep s.members (s.r0.val s.m0.length) (s.r1.val s.m1.length) s.cb (s.tr.map (·.1)) s.went := rfl
          rw [htr] at hpre hAT hobj
          simp only [Option.map_none, Option.map_some] at hpre hobj
          repeat (first | refine c_seq ?_ | refine c_reg ?_ | refine r_nil ?_ | refine e_n ?_ | refine r_val (by rfl) ?_ | refine c_block ?_)
          refine CutC.wk _ hpre ?_
          repeat (first | (refine r_fun (by rfl) (by rfl) ?_; refine CallC.ret (g := 19) (fun y => stay19_yes x G1.lv G1.nw _ _ s hso rfl hnw (fun b hb => by rw [hc] at hb; cases hb; rw [hobj]; infer_instance) y) ?_) | (refine r_fun (by rfl) (by rfl) ?_; refine CallC.ret (g := 20) (fun x => breaks_spec _ _ x) ?_) | refine c_seq ?_ | refine c_reg ?_ | refine r_nil ?_ | refine e_n ?_ | refine CutC.go ?_ | refine r_field0 (by rfl) (by rfl) ?_ | refine r_val (by rfl) ?_ | (refine r_load (by rfl) ?_; refine LoadC.one (by rfl) (by rfl) ?_) | (refine r_store (by rfl) (by rfl) ?_; refine StoreC.all (by rfl) (by rfl) (by rfl) (by rfl) (by rfl) ?_) | refine c_yes (by rfl) (by first | with_reducible assumption | decide) ?_ | refine c_no (by rfl) (by first | with_reducible assumption | decide) ?_ | refine b_n ?_ | (refine r_load (by rfl) ?_; refine LoadC.agg (by rfl) (by rfl) ?_))
          exact MeetC.mk ({ G1 with stays := G1.stays.set i (s.goes xb x), br := brk G1.br 1 _ }, (xb, evO x) :: F') ⟨hF2, hok _, rfl, hAT⟩ ⟨rfl, rfl⟩ (hpost _)
    · have hb4 : (x.kind == 4) = false := by simp [k4]
      repeat (first | refine c_seq ?_ | refine c_reg ?_ | refine r_nil ?_ | refine e_n ?_ | refine CutC.go ?_ | refine r_val (by rfl) ?_ | refine c_no (by rfl) (by first | with_reducible assumption | decide) ?_ | refine c_skip ?_ | refine c_block ?_ | refine b_n ?_)
      exact MeetC.mk (G1, F') ⟨List.Subset.refl _, hGs, rfl, by simp [AMon.act, Ev.abs, k5, k6, k3, k1, k2, k4]⟩ ⟨rfl, rfl⟩ Incl.of
  · rintro ⟨G', X⟩ ⟨hX, hG', hm, hA⟩ f0
    simp only at hX hG' hm hA ⊢
    rw [← hm]
    by_cases h1 : G'.br > 0
    · have h1' : decide (G'.br > 0) = true := by simp [h1]
      by_cases h2 : G'.at_ = 0
      · have h2' : (G'.at_ == 0) = true := by simp [h2]
        repeat (first | refine c_seq ?_ | refine c_reg ?_ | refine r_nil ?_ | refine e_n ?_ | refine CutC.go ?_ | refine r_field0 (by rfl) (by rfl) ?_ | refine r_val (by rfl) ?_ | (refine r_load (by rfl) ?_; refine LoadC.one (by rfl) (by rfl) ?_) | refine r_gT (by rfl) (by first | with_reducible assumption | decide) ?_ | refine r_pickT (by rfl) (by first | with_reducible assumption | decide) (by rfl) ?_ | refine c_yes (by rfl) (by first | with_reducible assumption | decide) ?_ | refine c_draw ?_)
        refine any_start (by kernel_rfl) (by rfl) (by rfl) ?_
        refine any_val (i := 0) (by repeat (first | exact panicFree_body | refine panicFree_then ?_ | refine panicFree_block ?_)) (by rfl) (by kernel_rfl) (by first | exact run_fieldAddr rfl (by rfl) (by rfl) | exact run_buildL rfl rfl (by rfl) (by rfl) | exact pureV_run (by rfl)) ?_
        refine any_val (i := 1) (by repeat (first | exact panicFree_body | refine panicFree_then ?_ | refine panicFree_block ?_)) (by rfl) (by kernel_rfl) (by first | exact run_fieldAddr rfl (by rfl) (by rfl) | exact run_buildL rfl rfl (by rfl) (by rfl) | exact pureV_run (by rfl)) ?_
        refine any_val (i := 2) (by repeat (first | exact panicFree_body | refine panicFree_then ?_ | refine panicFree_block ?_)) (by rfl) (by kernel_rfl) (by first | exact run_fieldAddr rfl (by rfl) (by rfl) | exact run_buildL rfl rfl (by rfl) (by rfl) | exact pureV_run (by rfl)) ?_
        refine any_val (i := 3) (by repeat (first | exact panicFree_body | refine panicFree_then ?_ | refine panicFree_block ?_)) (by rfl) (by kernel_rfl) (by first | exact run_fieldAddr rfl (by rfl) (by rfl) | exact run_buildL rfl rfl (by rfl) (by rfl) | exact pureV_run (by rfl)) ?_
        refine any_val (i := 4) (by repeat (first | exact panicFree_body | refine panicFree_then ?_ | refine panicFree_block ?_)) (by rfl) (by kernel_rfl) (by first | exact run_fieldAddr rfl (by rfl) (by rfl) | exact run_buildL rfl rfl (by rfl) (by rfl) | exact pureV_run (by rfl)) ?_
        refine any_val (i := 6) (by repeat (first | exact panicFree_body | refine panicFree_then ?_ | refine panicFree_block ?_)) (by rfl) (by kernel_rfl) (by first | exact run_fieldAddr rfl (by rfl) (by rfl) | exact run_buildL rfl rfl (by rfl) (by rfl) | exact pureV_run (by rfl)) ?_
        refine any_val (i := 7) (by repeat (first | exact panicFree_body | refine panicFree_then ?_ | refine panicFree_block ?_)) (by rfl) (by kernel_rfl) (by first | exact run_fieldAddr rfl (by rfl) (by rfl) | exact run_buildL rfl rfl (by rfl) (by rfl) | exact pureV_run (by rfl)) ?_
        refine any_val (i := 8) (by repeat (first | exact panicFree_body | refine panicFree_then ?_ | refine panicFree_block ?_)) (by rfl) (by kernel_rfl) (by first | exact run_fieldAddr rfl (by rfl) (by rfl) | exact run_buildL rfl rfl (by rfl) (by rfl) | exact pureV_run (by rfl)) ?_
        refine any_all [5, 9] (by kernel_rfl) rfl ⟨⟨_, rfl, ?_⟩, ⟨_, rfl, ?_⟩, trivial⟩
        · repeat (first | refine r_nil ?_ | refine e_n ?_ | (refine r_load (by rfl) ?_; refine LoadC.one (by rfl) (by rfl) ?_) | (refine r_store (by rfl) (by rfl) ?_; refine StoreC.all (by rfl) (by rfl) (by rfl) (by rfl) (by rfl) ?_))
          refine any_all [9] (by kernel_rfl) rfl ⟨⟨_, rfl, ?_⟩, trivial⟩
          repeat (first | refine r_nil ?_ | refine e_n ?_ | (refine r_load (by rfl) ?_; refine LoadC.one (by rfl) (by rfl) ?_) | (refine r_store (by rfl) (by rfl) ?_; refine StoreC.all (by rfl) (by rfl) (by rfl) (by rfl) (by rfl) ?_))
          refine any_val (i := 10) (by repeat (first | exact panicFree_body | refine panicFree_then ?_ | refine panicFree_block ?_)) (by rfl) (by kernel_rfl) (by first | exact run_fieldAddr rfl (by rfl) (by rfl) | exact run_buildL rfl rfl (by rfl) (by rfl) | exact pureV_run (by rfl)) ?_
          refine any_val (i := 11) (by repeat (first | exact panicFree_body | refine panicFree_then ?_ | refine panicFree_block ?_)) (by rfl) (by kernel_rfl) (by first | exact run_fieldAddr rfl (by rfl) (by rfl) | exact run_buildL rfl rfl (by rfl) (by rfl) | exact pureV_run (by rfl)) ?_
          refine any_all [12] (by kernel_rfl) rfl ⟨⟨_, rfl, ?_⟩, trivial⟩
          repeat (first | refine r_nil ?_ | refine e_n ?_ | (refine r_load (by rfl) ?_; refine LoadC.one (by rfl) (by rfl) ?_) | (refine r_store (by rfl) (by rfl) ?_; refine StoreC.all (by rfl) (by rfl) (by rfl) (by rfl) (by rfl) ?_))
          refine any_val (i := 13) (by repeat (first | exact panicFree_body | refine panicFree_then ?_ | refine panicFree_block ?_)) (by rfl) (by kernel_rfl) (by first | exact run_fieldAddr rfl (by rfl) (by rfl) | exact run_buildL rfl rfl (by rfl) (by rfl) | exact pureV_run (by rfl)) ?_
          refine any_val (i := 14) (by repeat (first | exact panicFree_body | refine panicFree_then ?_ | refine panicFree_block ?_)) (by rfl) (by kernel_rfl) (by first | exact run_fieldAddr rfl (by rfl) (by rfl) | exact run_buildL rfl rfl (by rfl) (by rfl) | exact pureV_run (by rfl)) ?_
          refine any_all [15] (by kernel_rfl) rfl ⟨⟨_, rfl, ?_⟩, trivial⟩
          repeat (first | refine r_nil ?_ | refine e_n ?_ | (refine r_load (by rfl) ?_; refine LoadC.one (by rfl) (by rfl) ?_) | (refine r_store (by rfl) (by rfl) ?_; refine StoreC.all (by rfl) (by rfl) (by rfl) (by rfl) (by rfl) ?_))
          refine any_done (by kernel_rfl) ?_
          refine e_n ?_
          refine CutC.go ?_
          repeat (first | refine c_seq ?_ | refine c_reg ?_ | refine r_nil ?_ | refine e_n ?_ | refine CutC.go ?_ | refine r_field0 (by rfl) (by rfl) ?_ | refine r_val (by rfl) ?_ | (refine r_load (by rfl) ?_; refine LoadC.one (by rfl) (by rfl) ?_) | refine c_ret ?_ | refine EndC.mk rfl ?_)
          exact ⟨{ G' with at_ := G'.ln, ru := G'.br }, X, List.Subset.trans hF hX, ⟨hG'.row, hG'.stays, hG'.len, hG'.few, hG'.count, hG'.sends, hG'.now, hG'.nowlt⟩, hm, by unfold AMon.add; rw [← hA]; unfold AMon.first; rw [if_pos (show 0 < G'.abs.br ∧ G'.abs.at_ = 0 from ⟨h1, h2⟩)]; rfl, Gives.mk rfl Incl.of⟩
        · repeat (first | refine r_nil ?_ | refine e_n ?_ | (refine r_load (by rfl) ?_; refine LoadC.one (by rfl) (by rfl) ?_) | (refine r_store (by rfl) (by rfl) ?_; refine StoreC.all (by rfl) (by rfl) (by rfl) (by rfl) (by rfl) ?_))
          refine any_all [5] (by kernel_rfl) rfl ⟨⟨_, rfl, ?_⟩, trivial⟩
          repeat (first | refine r_nil ?_ | refine e_n ?_ | (refine r_load (by rfl) ?_; refine LoadC.one (by rfl) (by rfl) ?_) | (refine r_store (by rfl) (by rfl) ?_; refine StoreC.all (by rfl) (by rfl) (by rfl) (by rfl) (by rfl) ?_))
          refine any_val (i := 10) (by repeat (first | exact panicFree_body | refine panicFree_then ?_ | refine panicFree_block ?_)) (by rfl) (by kernel_rfl) (by first | exact run_fieldAddr rfl (by rfl) (by rfl) | exact run_buildL rfl rfl (by rfl) (by rfl) | exact pureV_run (by rfl)) ?_
          refine any_val (i := 11) (by repeat (first | exact panicFree_body | refine panicFree_then ?_ | refine panicFree_block ?_)) (by rfl) (by kernel_rfl) (by first | exact run_fieldAddr rfl (by rfl) (by rfl) | exact run_buildL rfl rfl (by rfl) (by rfl) | exact pureV_run (by rfl)) ?_
          refine any_all [12] (by kernel_rfl) rfl ⟨⟨_, rfl, ?_⟩, trivial⟩
          repeat (first | refine r_nil ?_ | refine e_n ?_ | (refine r_load (by rfl) ?_; refine LoadC.one (by rfl) (by rfl) ?_) | (refine r_store (by rfl) (by rfl) ?_; refine StoreC.all (by rfl) (by rfl) (by rfl) (by rfl) (by rfl) ?_))
          refine any_val (i := 13) (by repeat (first | exact panicFree_body | refine panicFree_then ?_ | refine panicFree_block ?_)) (by rfl) (by kernel_rfl) (by first | exact run_fieldAddr rfl (by rfl) (by rfl) | exact run_buildL rfl rfl (by rfl) (by rfl) | exact pureV_run (by rfl)) ?_
          refine any_val (i := 14) (by repeat (first | exact panicFree_body | refine panicFree_then ?_ | refine panicFree_block ?_)) (by rfl) (by kernel_rfl) (by first | exact run_fieldAddr rfl (by rfl) (by rfl) | exact run_buildL rfl rfl (by rfl) (by rfl) | exact pureV_run (by rfl)) ?_
          refine any_all [15] (by kernel_rfl) rfl ⟨⟨_, rfl, ?_⟩, trivial⟩
          repeat (first | refine r_nil ?_ | refine e_n ?_ | (refine r_load (by rfl) ?_; refine LoadC.one (by rfl) (by rfl) ?_) | (refine r_store (by rfl) (by rfl) ?_; refine StoreC.all (by rfl) (by rfl) (by rfl) (by rfl) (by rfl) ?_))
          refine any_done (by kernel_rfl) ?_
          refine e_n ?_
          refine CutC.go ?_
          repeat (first | refine c_seq ?_ | refine c_reg ?_ | refine r_nil ?_ | refine e_n ?_ | refine CutC.go ?_ | refine r_field0 (by rfl) (by rfl) ?_ | refine r_val (by rfl) ?_ | (refine r_load (by rfl) ?_; refine LoadC.one (by rfl) (by rfl) ?_) | refine c_ret ?_ | refine EndC.mk rfl ?_)
          exact ⟨{ G' with at_ := G'.ln, ru := G'.br }, X, List.Subset.trans hF hX, ⟨hG'.row, hG'.stays, hG'.len, hG'.few, hG'.count, hG'.sends, hG'.now, hG'.nowlt⟩, hm, by unfold AMon.add; rw [← hA]; unfold AMon.first; rw [if_pos (show 0 < G'.abs.br ∧ G'.abs.at_ = 0 from ⟨h1, h2⟩)]; rfl, Gives.mk rfl Incl.of⟩
      · have h2' : (G'.at_ == 0) = false := by simp [h2]
        repeat (first | refine c_seq ?_ | refine c_reg ?_ | refine r_nil ?_ | refine e_n ?_ | refine CutC.go ?_ | refine r_field0 (by rfl) (by rfl) ?_ | refine r_val (by rfl) ?_ | (refine r_load (by rfl) ?_; refine LoadC.one (by rfl) (by rfl) ?_) | refine r_gT (by rfl) (by first | with_reducible assumption | decide) ?_ | refine r_pickT (by rfl) (by first | with_reducible assumption | decide) (by rfl) ?_ | refine c_no (by rfl) (by first | with_reducible assumption | decide) ?_ | refine c_skip ?_ | refine c_ret ?_ | refine EndC.mk rfl ?_)
        exact ⟨G', X, List.Subset.trans hF hX, hG', hm, by unfold AMon.add; rw [← hA]; unfold AMon.first; rw [if_neg (show ¬ (0 < G'.abs.br ∧ G'.abs.at_ = 0) from fun h => h2 h.2)], Gives.mk rfl (Incl.refl _)⟩
    · have h1' : decide (G'.br > 0) = false := by simp [h1]
      repeat (first | refine c_seq ?_ | refine c_reg ?_ | refine r_nil ?_ | refine e_n ?_ | refine CutC.go ?_ | refine r_field0 (by rfl) (by rfl) ?_ | refine r_val (by rfl) ?_ | (refine r_load (by rfl) ?_; refine LoadC.one (by rfl) (by rfl) ?_) | refine r_gnT (by rfl) (by first | with_reducible assumption | decide) ?_ | refine r_pickF (by rfl) (by first | with_reducible assumption | decide) (by rfl) ?_ | refine c_no (by rfl) (by first | with_reducible assumption | decide) ?_ | refine c_skip ?_ | refine c_ret ?_ | refine EndC.mk rfl ?_)
      exact ⟨G', X, List.Subset.trans hF hX, hG', hm, by unfold AMon.add; rw [← hA]; unfold AMon.first; rw [if_neg (show ¬ (0 < G'.abs.br ∧ G'.abs.at_ = 0) from fun h => h1 h.1)], Gives.mk rfl (Incl.refl _)⟩
end Go.Proofs.Ythijlgjfgliinaa
end
section
/- A new monitor; what it tells. -/
set_option linter.all false
namespace Go.Proofs.Ythijlgjfgliinaa
open Go.RowKit
open Go.W
variable [Env]
attribute [local irreducible] opsC wpC quietC LoopC DrawC CutC LoadC StoreC ReadC UpdC RunC CallC QCallC EndC thenC inBlockC
set_option maxRecDepth 100000
def GMon.fresh (m sb eb mb lb nb : Nat) : GMon := ⟨m, sb, eb, mb, lb, nb, Row.nil, [], GMap.empty _ _, GMap.empty _ _, GMap.empty _ _, GMap.empty _ _, GMap.empty _ _, fun _ => none, 0, 0, 0, 0⟩
def AMon.fresh : AMon := ⟨fun _ => [], fun _ => false, fun _ => none, [], fun _ => false, fun _ => none, 0, 0, 0, 0⟩
theorem GMon.fresh_abs (m sb eb mb lb nb : Nat) : (GMon.fresh m sb eb mb lb nb).abs = AMon.fresh := by
  unfold GMon.fresh GMon.abs AMon.fresh
  simp only [GMap.get_empty, Option.getD_none, List.map_nil]
theorem GMon.fresh_ok (m sb eb mb lb nb : Nat) (F : Blocks) : (GMon.fresh m sb eb mb lb nb).ok F 0 where
  row := RowOk.mkNil 1
  stays := by intro s hs; cases hs
  len := Nat.le_refl 0
  few := by intro s hs; cases hs
  count := by intro s hs; cases hs
  sends p := by
    show RowOk (((GMap.empty Place SV).get p).getD (Row.nil, [])).1 6 _ ∧ _
    simp only [GMon.fresh, GMap.get_empty, Option.getD_none]
    exact ⟨RowOk.mkNil 6, by simp, Nat.le_refl 0⟩
  now p := by
    show (GMap.empty Int Nat).get p = _
    rw [GMap.get_empty]; rfl
  nowlt p i h := by cases h
def NewPost (F : Blocks) (R : Units) (en : Ending) (M : Units) : Prop := ∃ G : GMon, G.ok F 0 ∧ G.abs = AMon.fresh ∧ Gives (G.L F R) (.pointer (some ⟨G.m, 0, none⟩)) en M
theorem new_spec {F : Blocks} {R : Units} : Does Try.prog 8 #[] (F :: R) (NewPost F R) := by
  refine does_of_wpC (args := []) Try.func8 rfl (by kernel_rfl) ?_
  repeat (first | refine c_seq ?_ | refine c_reg ?_ | refine r_nil ?_ | refine e_n ?_ | refine CutC.go ?_ | refine r_val (by rfl) ?_)
  refine r_map Place.key sval (fun sb => ?_)
  refine r_map Had.key bval (fun eb => ?_)
  refine r_map confKey setV (fun mb => ?_)
  repeat (first | refine r_build (by rfl) (by rfl) ?_)
  refine r_map ikey bval (fun lb => ?_)
  refine r_map ikey pval (fun nb => ?_)
  repeat (first | refine r_nil ?_ | refine e_n ?_ | refine CutC.go ?_ | refine r_val (by rfl) ?_ | refine c_ret ?_ | refine EndC.mk rfl ?_ | refine r_box (by rfl) (by rfl) (fun _ => ?_) | refine r_build (by rfl) (by rfl) ?_)
  rename_i m
  refine ⟨GMon.fresh m sb eb mb lb nb, GMon.fresh_ok _ _ _ _ _ _ _, GMon.fresh_abs _ _ _ _ _ _, Gives.mk rfl ?_⟩
  refine Incl.trans (Incl.of (N := [(m, monO sb eb mb (.slice none 0 0) lb nb 0 0 0 0)] :: [(sb, sendsO (GMap.empty _ _))] :: [(eb, seenO (GMap.empty _ _))] :: [(mb, (GMap.empty _ _).obj confKey setV)] :: [(lb, (GMap.empty _ _).obj ikey bval)] :: [(nb, (GMap.empty _ _).obj ikey pval)] :: F :: R)) ?_
  exact Incl.eqv (Eqv.cons _ (Eqv.cons _ (Eqv.cons _ (Eqv.cons _ (Eqv.cons _ (Eqv.cons _ ((Eqv.nil _).symm.trans ((Eqv.nil _).symm.trans (Eqv.cons _ (Eqv.cons _ (Eqv.cons _ (Eqv.nil _).symm)))))))))))
theorem first_spec {F : Blocks} (G : GMon) {R : Units} : Does Try.prog 10 #[.pointer (some ⟨G.m, 0, none⟩)] (G.L F R) (Gives (G.L F R) (.tuple #[.int .i64 G.at_, .int .i64 G.ru])) := by
  refine does_of_wpC (args := [.pointer (some ⟨G.m, 0, none⟩)]) Try.func10 rfl (by kernel_rfl) ?_
  repeat (first | refine c_seq ?_ | refine c_reg ?_ | refine r_nil ?_ | refine e_n ?_ | refine CutC.go ?_ | refine r_val (by rfl) ?_ | refine c_draw ?_)
  refine d_tail 9 (by kernel_rfl) ?_
  simp only [List.take_succ_cons, List.take_zero, List.drop_succ_cons, List.drop_zero]
  repeat (first | refine r_nil ?_ | refine e_n ?_ | refine CutC.go ?_ | refine r_val (by rfl) ?_ | refine c_ret ?_ | refine EndC.mk rfl ?_ | refine q_nil ?_ | refine q_field0 (by rfl) (by rfl) ?_ | refine q_val (by rfl) ?_ | (refine q_load (by rfl) ?_; refine LoadC.one (by rfl) (by rfl) ?_))
  exact Gives.mk rfl (Incl.refl _)
theorem broken_spec {F : Blocks} (G : GMon) {R : Units} : Does Try.prog 12 #[.pointer (some ⟨G.m, 0, none⟩)] (G.L F R) (Gives (G.L F R) (.int .i64 G.br)) := by
  refine does_of_wpC (args := [.pointer (some ⟨G.m, 0, none⟩)]) Try.func12 rfl (by kernel_rfl) ?_
  repeat (first | refine c_seq ?_ | refine c_reg ?_ | refine r_nil ?_ | refine e_n ?_ | refine CutC.go ?_ | refine r_field0 (by rfl) (by rfl) ?_ | refine r_val (by rfl) ?_ | (refine r_load (by rfl) ?_; refine LoadC.one (by rfl) (by rfl) ?_) | refine c_ret ?_ | refine EndC.mk rfl ?_)
  exact Gives.mk rfl (Incl.refl _)
theorem len_spec {F : Blocks} (G : GMon) {R : Units} : Does Try.prog 13 #[.pointer (some ⟨G.m, 0, none⟩)] (G.L F R) (Gives (G.L F R) (.int .i64 G.ln)) := by
  refine does_of_wpC (args := [.pointer (some ⟨G.m, 0, none⟩)]) Try.func13 rfl (by kernel_rfl) ?_
  repeat (first | refine c_seq ?_ | refine c_reg ?_ | refine r_nil ?_ | refine e_n ?_ | refine CutC.go ?_ | refine r_field0 (by rfl) (by rfl) ?_ | refine r_val (by rfl) ?_ | (refine r_load (by rfl) ?_; refine LoadC.one (by rfl) (by rfl) ?_) | refine c_ret ?_ | refine EndC.mk rfl ?_)
  exact Gives.mk rfl (Incl.refl _)
end Go.Proofs.Ythijlgjfgliinaa
end
