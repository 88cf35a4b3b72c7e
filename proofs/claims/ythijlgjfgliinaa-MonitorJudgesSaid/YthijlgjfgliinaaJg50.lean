/- Part 50 of the proof of what MonJudges says. -/
import Derived.Test.YthijlgjfgliinaaJg49
import Derived.Test.YthijlgjfgliinaaJg18
import Derived.Test.YthijlgjfgliinaaJg19
section
/- The judge: Evs (14): the least rule that a trace breaks. -/
set_option linter.all false
namespace Go.Proofs.Ythijlgjfgliinaa
open Go.RowKit
open Go.W
variable [Env]
def AStay.noc (a : AStay) : AStay := { a with count := fun _ => 0 }
theorem togCk_noc : ∀ (l pre all : List AStay), togCk (all.map AStay.noc) (pre.map AStay.noc) (l.map AStay.noc) = togCk all pre l
  | [], _, _ => rfl
  | a :: l, pre, all => by
    have h1 : (pre.map AStay.noc).flatMap (pair5 a.noc) = pre.flatMap (pair5 a) := by rw [List.flatMap_map]; rfl
    have h2 : (all.map AStay.noc).flatMap (safeAt a.noc) = all.flatMap (safeAt a) := by rw [List.flatMap_map]; rfl
    have h3 := togCk_noc l (pre ++ [a]) all
    rw [List.map_append] at h3
    show (pre.map AStay.noc).flatMap (pair5 a.noc) ++ ((all.map AStay.noc).flatMap (safeAt a.noc) ++ togCk (all.map AStay.noc) (pre.map AStay.noc ++ [a.noc]) (l.map AStay.noc)) = _
    rw [h1, h2]
    show _ = pre.flatMap (pair5 a) ++ (all.flatMap (safeAt a) ++ togCk all (pre ++ [a]) l)
    rw [← h3]
    rfl
section
variable {F : Blocks} {evs : List Ev} {k : Nat} {A : AMon} {J : JTr}
theorem SRel.parts {s : JSt} {a : AStay} (h : SRel evs s a) : (partJ s.gots false).map GM.mg = a.p0 ∧ (partJ s.gots true).map GM.mg = a.p1 := Sorted.of h.gots
theorem SRel.sorted {s : JSt} {a : AStay} (h : SRel evs s a) : Sorted s := by
  unfold Sorted
  rw [h.parts.1, h.parts.2]
  exact h.gots
theorem SRel.abs {s : JSt} {a : AStay} (h : SRel evs s a) : s.abs evs = a.noc := by
  unfold JSt.abs AStay.noc
  rw [h.parts.1, h.parts.2, ← h.proc, ← h.epoch, ← h.rep, ← h.members, ← h.tr, ← h.went]
theorem SRel.msgs {s : JSt} {a : AStay} (h : SRel evs s a) : s.msgs = a.all := by
  rw [h.sorted.msgs, h.parts.1, h.parts.2]
  rfl
theorem JTr.ok.each {β : Type} (h : J.ok F evs k A) {f : JSt → β} {g : AStay → β} (hfg : ∀ s a, SRel evs s a → f s = g a) : J.stays.map f = A.stays.map g := by
  refine List.ext_getElem? fun i => ?_
  rw [List.getElem?_map, List.getElem?_map]
  cases hi : J.stays[i]? with
  | none =>
    have : A.stays[i]? = none := by
      rw [List.getElem?_eq_none_iff] at hi ⊢
      have := h.alen; omega
    rw [this]; rfl
  | some s =>
    have hlt := (List.getElem?_eq_some_iff.1 hi).1
    obtain ⟨a, ha⟩ : ∃ a, A.stays[i]? = some a := ⟨A.stays[i]'(by rw [← h.alen]; exact hlt), List.getElem?_eq_getElem _⟩
    rw [ha]
    simp only [Option.map_some]
    rw [hfg s a (h.rel i s a hi ha)]
theorem JTr.ok.sorted (h : J.ok F evs k A) : ∀ s ∈ J.stays, Sorted s := by
  intro s hs
  obtain ⟨i, hi⟩ := List.mem_iff_getElem?.1 hs
  have hlt := (List.getElem?_eq_some_iff.1 hi).1
  obtain ⟨a, ha⟩ : ∃ a, A.stays[i]? = some a := ⟨A.stays[i]'(by rw [← h.alen]; exact hlt), List.getElem?_eq_getElem _⟩
  exact (h.rel i s a hi ha).sorted
theorem JTr.ok.ord (h : J.ok F evs k A) : ordJ J.stays = ordAll A.stays := by
  unfold ordJ ordAll
  have := h.each (f := JSt.msgs) (g := AStay.all) fun s a hr => hr.msgs
  have e1 : (J.stays.flatMap fun s => ordCk [] s.msgs) = (J.stays.map JSt.msgs).flatMap (ordCk []) := by rw [List.flatMap_map]
  have e2 : (A.stays.flatMap fun s => ordCk [] s.all) = (A.stays.map AStay.all).flatMap (ordCk []) := by rw [List.flatMap_map]
  rw [e1, e2, this]
theorem JTr.ok.tog (h : J.ok F evs k A) : togCk (J.stays.map (JSt.abs evs)) [] (J.stays.map (JSt.abs evs)) = togCk A.stays [] A.stays := by
  rw [h.each (f := JSt.abs evs) (g := AStay.noc) fun s a hr => hr.abs]
  exact togCk_noc A.stays [] A.stays
end
def rulesFrom (k : Nat) : List Int := ([1, 2, 3, 4, 5, 6] : List Int).drop k
theorem rulesFrom_succ {k : Nat} (h : k < 6) : rulesFrom k = ((k : Int) + 1) :: rulesFrom (k + 1) := by
  have : k = 0 ∨ k = 1 ∨ k = 2 ∨ k = 3 ∨ k = 4 ∨ k = 5 := by omega
  rcases this with rfl | rfl | rfl | rfl | rfl | rfl <;> rfl
attribute [local irreducible] opsC wpC quietC LoopC DrawC CutC LoadC StoreC ReadC UpdC RunC CallC QCallC EndC thenC inBlockC
set_option maxRecDepth 100000
set_option synthInstance.maxHeartbeats 400000
section
variable {F : Blocks} {T : Units} {evs : List Ev} {ds : List (List Int)} {ns : List (List Nm)}
set_option maxHeartbeats 16000000 in
theorem evs_some {b o c n : Nat} {arr : Array Value} {eT : TypeId} {fr : Nat × Nat} (hm : (b, Obj.cells arr eT fr) ∈ F) (hrow : Go.RowAt arr o 19 (evs.map Ev.cells)) (hnames : NamesIn F evs ns) (hn : evs.length = n) (hn5 : n ≤ 500)
    (hdeps : ∀ (i : Nat) (e : Ev), evs[i]? = some e → ∃ d, ds[i]? = some d ∧ GM.ok F ⟨e.m, d⟩) :
    Does Try.prog 14 #[.slice (some ⟨b, o, none⟩) n c] (F :: T) (Gives (F :: T) (.int .i64 (judgeOf (absL evs ds)))) := by
  have hE : EvIn F b o evs ns := ⟨⟨arr, eT, fr, hm, hrow⟩, hnames⟩
  have hth := through_some (T := T) (c := c) hm hrow hnames hn hn5 hdeps
  refine does_of_wpC (args := [.slice (some ⟨b, o, none⟩) n c]) Try.func14 rfl (by kernel_rfl) ?_
  repeat (first | (refine r_fun (by rfl) (by rfl) ?_; refine CallC.ex (g := 26) hth (Incl.refl _) (fun J hJ => ?_)) | refine c_seq ?_ | refine c_reg ?_ | refine r_nil ?_ | refine e_n ?_ | refine CutC.go ?_ | refine r_val (by rfl) ?_)
  obtain ⟨hJ, hbad⟩ := hJ
  have hbh := behind_some (t := J.t) (bb := J.bb) (sv := J.stR.val J.stays.length) (nm := J.nm) (g := J.bad) (c := c) (T := J.stR.u 98 :: [(J.nb, J.nw.obj ikey pval)] :: JU b o J.stays :: [(J.lb, J.lv.obj ikey bval)] :: T) hm hrow hn hn5 hdeps
  refine r_fun (by rfl) (by rfl) ?_
  refine CallC.igives (g := 27) hbh Incl.of ?_
  have hlen := hJ.len
  have hso : ∀ s ∈ J.stays, RowOk s.gr 8 (s.gots.map JGot.cells) ∧ s.gots.length ≤ 1000 ∧ ∀ j ∈ s.gots, j.g.ok F := fun s hs => by
    have h := hJ.sok s hs
    exact ⟨h.gr, by have := h.gl; omega, h.gm⟩
  have hon := once_some (t := J.t) (bb := J.bb) (eb := b) (eo := o) (nm := J.nm) (g := GMap.bads J.bad (eachCk behindAt [] (absL evs ds))) (c := c) (T := [(J.nb, J.nw.obj ikey pval)] :: [(J.lb, J.lv.obj ikey bval)] :: T) hm hrow hn hn5 (fun i e h => by obtain ⟨d, h1, _⟩ := hdeps i e h; exact ⟨d, h1⟩) J.stays J.stR J.stays.length hJ.row rfl (by omega) hso
  have hto := together29 (t := J.t) (bb := J.bb) (lval := .slice (some ⟨b, o, none⟩) n c) (nm := J.nm) (g := GMap.bads (GMap.bads J.bad (eachCk behindAt [] (absL evs ds))) (eachCk onceAt [] (absL evs ds) ++ ordJ J.stays)) (T := [(J.nb, J.nw.obj ikey pval)] :: [(J.lb, J.lv.obj ikey bval)] :: T) hE J.stays J.stR J.stays.length evs.length hJ.row rfl (by omega) (by omega) hJ.sok hJ.sorted
  repeat (first | (refine r_fun (by rfl) (by rfl) ?_; refine CallC.igives (g := 28) hon Incl.of ?_) | (refine r_fun (by rfl) (by rfl) ?_; refine CallC.igives (g := 29) hto Incl.of ?_) | refine c_seq ?_ | refine c_reg ?_ | refine r_nil ?_ | refine e_n ?_ | refine CutC.go ?_ | refine r_val (by rfl) ?_ | refine c_block ?_ | refine c_loop ?_)
  have hall : GMap.bads (GMap.bads (GMap.bads J.bad (eachCk behindAt [] (absL evs ds))) (eachCk onceAt [] (absL evs ds) ++ ordJ J.stays)) (togCk (J.stays.map (JSt.abs evs)) [] (J.stays.map (JSt.abs evs))) = GMap.bads (GMap.empty Int Bool) (jcks (absL evs ds)) := by
    rw [hbad, hJ.ord, hJ.tog]
    unfold jthrBad jcks ordAll
    simp only [GMap.bads_app]
  rw [hall]
  have hget : ∀ r : Int, ((GMap.bads (GMap.empty Int Bool) (jcks (absL evs ds))).get r).getD false = decide (((r, true) : Ck) ∈ jcks (absL evs ds)) := fun r => by
    rw [GMap.bads_get, GMap.get_empty]; rfl
  generalize GMap.bads (GMap.empty Int Bool) (jcks (absL evs ds)) = gb at hget ⊢
  refine LoopC.inv (γ := Nat) (fun k => k ≤ 6 ∧ judgeOf (absL evs ds) = leastJ (jcks (absL evs ds)) (rulesFrom k)) (fun k => [(3, .pointer (some ⟨J.t, 0, none⟩)), (4, .int .i64 ((k : Int) + 1))]) (fun _ => OnL J.t J.bb b o (.slice (some ⟨b, o, none⟩) n c) (J.stR.val J.stays.length) J.nm gb J.stR J.stays F ([(J.nb, J.nw.obj ikey pval)] :: [(J.lb, J.lv.obj ikey bval)] :: T)) (fun k => 7 - k)
    (MeetC.mk 0 ⟨by omega, rfl⟩ ⟨rfl, rfl, rfl⟩ (Incl.refl _)) ?_
  rintro k ⟨hk, hkj⟩ f0
  by_cases h6 : k < 6
  · have hd1 : decide (((k : Int) + 1) ≤ 6) = true := by simp; omega
    rw [rulesFrom_succ h6] at hkj
    unfold leastJ at hkj
    have hlk : ∀ {L : Units} [Has L J.bb (gb.obj ikey bval)] (x : St L), (Instr.lookup 51 (.map (some J.bb)) (.int .i64 ((k : Int) + 1)) false).run Try.prog x.w = .ok (.bool (decide ((((k : Int) + 1, true) : Ck) ∈ jcks (absL evs ds)))) x.w := fun x => look_live J.bb gb _ ((k : Int) + 1) (hget _) x
    have hw : Value.int .i64 (IntKind.i64.wrap ((k : Int) + 1 + 1)) = .int .i64 (((k + 1 : Nat) : Int) + 1) := by rw [IntWalk.i64_in _ (by omega)]; rfl
    cases hmem : decide ((((k : Int) + 1, true) : Ck) ∈ jcks (absL evs ds)) with
    | true =>
      rw [hmem] at hlk
      rw [if_pos (of_decide_eq_true hmem)] at hkj
      repeat (first | (refine r_look (by rfl) (by rfl) ?_; refine ReadC.of (fun x => hlk x) ?_) | refine c_seq ?_ | refine c_reg ?_ | refine r_nil ?_ | refine e_n ?_ | refine CutC.go ?_ | refine r_field0 (by rfl) (by rfl) ?_ | refine r_val (by rfl) ?_ | (refine r_load (by rfl) ?_; refine LoadC.one (by rfl) (by rfl) ?_) | refine c_yes (by rfl) (by first | with_reducible assumption | decide) ?_ | refine c_skip ?_ | refine c_ret ?_ | refine e_r ?_ | refine c_block ?_ | refine b_r ?_ | refine EndC.mk rfl ?_)
      exact Gives.mk (by rw [hkj]; rfl) Incl.of
    | false =>
      rw [hmem] at hlk
      rw [if_neg (of_decide_eq_false hmem)] at hkj
      repeat (first | (refine r_look (by rfl) (by rfl) ?_; refine ReadC.of (fun x => hlk x) ?_) | refine c_seq ?_ | refine c_reg ?_ | refine r_nil ?_ | refine e_n ?_ | refine CutC.go ?_ | refine r_field0 (by rfl) (by rfl) ?_ | refine r_val (by rfl) ?_ | (refine r_load (by rfl) ?_; refine LoadC.one (by rfl) (by rfl) ?_) | refine c_yes (by rfl) (by first | with_reducible assumption | decide) ?_ | refine c_no (by rfl) (by first | with_reducible assumption | decide) ?_ | refine c_skip ?_ | refine c_block ?_ | refine b_n ?_)
      exact MeetC.mk (k + 1) ⟨⟨by omega, hkj⟩, by omega⟩ ⟨rfl, hw, rfl⟩ Incl.of
  · have hk6 : k = 6 := by omega
    subst hk6
    have hd1 : decide (((6 : Nat) : Int) + 1 ≤ 6) = false := by decide
    have hkj : judgeOf (absL evs ds) = 0 := hkj
    repeat (first | refine c_seq ?_ | refine c_reg ?_ | refine r_nil ?_ | refine e_n ?_ | refine CutC.go ?_ | refine r_val (by rfl) ?_ | refine c_no (by rfl) (by first | with_reducible assumption | decide) ?_ | refine c_ret ?_ | refine c_exit ?_ | refine e_x ?_ | refine b_x1 ?_ | refine EndC.mk rfl ?_)
    exact Gives.mk (by rw [hkj]; rfl) Incl.of
end
end Go.Proofs.Ythijlgjfgliinaa
end
section
/- The judge: Evs (14) of no events. -/
set_option linter.all false
namespace Go.Proofs.Ythijlgjfgliinaa
open Go.RowKit
open Go.W
variable [Env]
attribute [local irreducible] opsC wpC quietC LoopC DrawC CutC LoadC StoreC ReadC UpdC RunC CallC QCallC EndC thenC inBlockC
set_option maxRecDepth 100000
set_option synthInstance.maxHeartbeats 400000
section
variable {F : Blocks} {T : Units} {a : Option Addr} {c : Nat}
abbrev NilL (t bb : Nat) (lval : Value) (g : GMap Int Bool) (T : Units) : Units := [(t, traceO lval (.slice none 0 0) bb 0)] :: [(bb, g.obj ikey bval)] :: T
theorem through_nil : Does Try.prog 26 #[.slice a 0 c] T (fun en M => ∃ z : Nat × Nat, True ∧ Gives (NilL z.1 z.2 (.slice a 0 c) (GMap.empty _ _) T) (.pointer (some ⟨z.1, 0, none⟩)) en M) := by
  refine does_of_wpC (args := [.slice a 0 c]) Try.func26 rfl (by kernel_rfl) ?_
  repeat (first | refine c_seq ?_ | refine c_reg ?_ | refine r_nil ?_ | refine e_n ?_ | refine CutC.go ?_ | refine r_val (by rfl) ?_)
  refine r_map ikey bval (fun bb => ?_)
  repeat (first | refine c_seq ?_ | refine c_reg ?_ | refine r_nil ?_ | refine e_n ?_ | refine CutC.go ?_ | refine r_val (by rfl) ?_ | refine r_box (by rfl) (by rfl) (fun _ => ?_) | refine r_build (by rfl) (by rfl) ?_)
  rename_i t
  refine r_map ikey bval (fun lb => ?_)
  repeat (first | refine c_seq ?_ | refine c_reg ?_ | refine r_nil ?_ | refine e_n ?_ | refine CutC.go ?_ | refine r_val (by rfl) ?_)
  refine r_map ikey pval (fun nb => ?_)
  repeat (first | refine c_seq ?_ | refine c_reg ?_ | refine r_nil ?_ | refine e_n ?_ | refine CutC.go ?_ | refine r_lenS (by rfl) (by rfl) ?_ | refine r_val (by rfl) ?_ | refine c_block ?_ | refine c_loop ?_)
  refine LoopC.inv (γ := Unit) (fun _ => True) (fun _ => [(3, .pointer (some ⟨t, 0, none⟩)), (15, .int .i64 0), (16, .int .i64 0)]) (fun _ => NilL t bb (.slice a 0 c) (GMap.empty _ _) T) (fun _ => 0)
    (MeetC.mk () trivial ⟨rfl, rfl, rfl, rfl⟩ Incl.of) ?_
  rintro _ _ f0
  repeat (first | refine c_seq ?_ | refine c_reg ?_ | refine r_nil ?_ | refine e_n ?_ | refine CutC.go ?_ | refine r_val (by rfl) ?_ | refine c_no (by rfl) (by first | with_reducible assumption | decide) ?_ | refine c_ret ?_ | refine c_exit ?_ | refine e_x ?_ | refine b_x1 ?_ | refine EndC.mk rfl ?_)
  exact ⟨(t, bb), trivial, Gives.mk rfl (Incl.refl _)⟩
theorem behind_nil {t bb : Nat} {g : GMap Int Bool} : Does Try.prog 27 #[.pointer (some ⟨t, 0, none⟩)] (NilL t bb (.slice a 0 c) g T) (Gives (NilL t bb (.slice a 0 c) g T) (.tuple #[])) := by
  refine does_of_wpC (args := [.pointer (some ⟨t, 0, none⟩)]) Try.func27 rfl (by kernel_rfl) ?_
  repeat (first | refine c_seq ?_ | refine c_reg ?_)
  refine r_map Place.key ival (fun mb => ?_)
  repeat (first | refine c_seq ?_ | refine c_reg ?_ | refine r_nil ?_ | refine e_n ?_ | refine CutC.go ?_ | refine r_field0 (by rfl) (by rfl) ?_ | refine r_lenS (by rfl) (by rfl) ?_ | refine r_val (by rfl) ?_ | (refine r_load (by rfl) ?_; refine LoadC.one (by rfl) (by rfl) ?_) | refine c_block ?_ | refine c_loop ?_)
  refine LoopC.inv (γ := Unit) (fun _ => True) (fun _ => [(14, .int .i64 0), (15, .int .i64 0)]) (fun _ => NilL t bb (.slice a 0 c) g T) (fun _ => 0)
    (MeetC.mk () trivial ⟨rfl, rfl, rfl⟩ Incl.of) ?_
  rintro _ _ f0
  repeat (first | refine c_seq ?_ | refine c_reg ?_ | refine r_nil ?_ | refine e_n ?_ | refine CutC.go ?_ | refine r_val (by rfl) ?_ | refine c_no (by rfl) (by first | with_reducible assumption | decide) ?_ | refine c_exit ?_ | refine e_x ?_ | refine b_x1 ?_ | refine EndC.mk rfl ?_)
  exact Gives.mk rfl (Incl.refl _)
theorem once_nil {t bb : Nat} {g : GMap Int Bool} : Does Try.prog 28 #[.pointer (some ⟨t, 0, none⟩)] (NilL t bb (.slice a 0 c) g T) (Gives (NilL t bb (.slice a 0 c) g T) (.tuple #[])) := by
  refine does_of_wpC (args := [.pointer (some ⟨t, 0, none⟩)]) Try.func28 rfl (by kernel_rfl) ?_
  repeat (first | refine c_seq ?_ | refine c_reg ?_)
  refine r_map Had.key bval (fun mb => ?_)
  repeat (first | refine c_seq ?_ | refine c_reg ?_ | refine r_nil ?_ | refine e_n ?_ | refine CutC.go ?_ | refine r_field0 (by rfl) (by rfl) ?_ | refine r_lenS (by rfl) (by rfl) ?_ | refine r_val (by rfl) ?_ | (refine r_load (by rfl) ?_; refine LoadC.one (by rfl) (by rfl) ?_) | refine c_block ?_ | refine c_loop ?_)
  refine LoopC.inv (γ := Unit) (fun _ => True) (fun _ => [(0, .pointer (some ⟨t, 0, none⟩)), (18, .int .i64 0), (19, .int .i64 0)]) (fun _ => NilL t bb (.slice a 0 c) g T) (fun _ => 0)
    (MeetC.mk () trivial ⟨rfl, rfl, rfl, rfl⟩ Incl.of) ?_
  rintro _ _ f0
  repeat (first | refine c_seq ?_ | refine c_reg ?_ | refine r_nil ?_ | refine e_n ?_ | refine CutC.go ?_ | refine r_field0 (by rfl) (by rfl) ?_ | refine r_lenS (by rfl) (by rfl) ?_ | refine r_val (by rfl) ?_ | (refine r_load (by rfl) ?_; refine LoadC.one (by rfl) (by rfl) ?_) | refine c_no (by rfl) (by first | with_reducible assumption | decide) ?_ | refine c_block ?_ | refine c_exit ?_ | refine e_x ?_ | refine b_x1 ?_ | refine c_loop ?_)
  refine LoopC.inv (γ := Unit) (fun _ => True) (fun _ => [(50, .int .i64 0), (51, .int .i64 0)]) (fun _ => NilL t bb (.slice a 0 c) g T) (fun _ => 0)
    (MeetC.mk () trivial ⟨rfl, rfl, rfl⟩ (Incl.refl _)) ?_
  rintro _ _ f0
  repeat (first | refine c_seq ?_ | refine c_reg ?_ | refine r_nil ?_ | refine e_n ?_ | refine CutC.go ?_ | refine r_val (by rfl) ?_ | refine c_no (by rfl) (by first | with_reducible assumption | decide) ?_ | refine c_exit ?_ | refine e_x ?_ | refine b_x1 ?_ | refine EndC.mk rfl ?_)
  exact Gives.mk rfl (Incl.refl _)
theorem together_nil {t bb : Nat} {g : GMap Int Bool} : Does Try.prog 29 #[.pointer (some ⟨t, 0, none⟩)] (NilL t bb (.slice a 0 c) g T) (Gives (NilL t bb (.slice a 0 c) g T) (.tuple #[])) := by
  refine does_of_wpC (args := [.pointer (some ⟨t, 0, none⟩)]) Try.func29 rfl (by kernel_rfl) ?_
  repeat (first | refine c_seq ?_ | refine c_reg ?_ | refine r_nil ?_ | refine e_n ?_ | refine CutC.go ?_ | refine r_field0 (by rfl) (by rfl) ?_ | refine r_lenS (by rfl) (by rfl) ?_ | refine r_val (by rfl) ?_ | (refine r_load (by rfl) ?_; refine LoadC.one (by rfl) (by rfl) ?_) | refine c_block ?_ | refine c_loop ?_)
  refine LoopC.inv (γ := Unit) (fun _ => True) (fun _ => [(12, .int .i64 0), (13, .int .i64 0)]) (fun _ => NilL t bb (.slice a 0 c) g T) (fun _ => 0)
    (MeetC.mk () trivial ⟨rfl, rfl, rfl⟩ (Incl.refl _)) ?_
  rintro _ _ f0
  repeat (first | refine c_seq ?_ | refine c_reg ?_ | refine r_nil ?_ | refine e_n ?_ | refine CutC.go ?_ | refine r_val (by rfl) ?_ | refine c_no (by rfl) (by first | with_reducible assumption | decide) ?_ | refine c_exit ?_ | refine e_x ?_ | refine b_x1 ?_ | refine EndC.mk rfl ?_)
  exact Gives.mk rfl (Incl.refl _)
theorem evs_nil : Does Try.prog 14 #[.slice a 0 c] T (Gives T (.int .i64 0)) := by
  refine does_of_wpC (args := [.slice a 0 c]) Try.func14 rfl (by kernel_rfl) ?_
  repeat (first | (refine r_fun (by rfl) (by rfl) ?_; refine CallC.ex (g := 26) through_nil (Incl.refl _) (fun z _ => ?_)) | (refine r_fun (by rfl) (by rfl) ?_; refine CallC.gives (g := 27) behind_nil ?_) | (refine r_fun (by rfl) (by rfl) ?_; refine CallC.gives (g := 28) once_nil ?_) | (refine r_fun (by rfl) (by rfl) ?_; refine CallC.gives (g := 29) together_nil ?_) | refine c_seq ?_ | refine c_reg ?_ | refine r_nil ?_ | refine e_n ?_ | refine CutC.go ?_ | refine r_val (by rfl) ?_ | refine c_block ?_ | refine c_loop ?_)
  obtain ⟨t, bb⟩ := z
  refine LoopC.inv (γ := Nat) (fun k => k ≤ 6) (fun k => [(3, .pointer (some ⟨t, 0, none⟩)), (4, .int .i64 ((k : Int) + 1))]) (fun _ => NilL t bb (.slice a 0 c) (GMap.empty _ _) T) (fun k => 7 - k)
    (MeetC.mk 0 (by omega) ⟨rfl, rfl, rfl⟩ (Incl.refl _)) ?_
  rintro k hk f0
  by_cases h6 : k < 6
  · have hd1 : decide (((k : Int) + 1) ≤ 6) = true := by simp; omega
    have hlk : ∀ {L : Units} [Has L bb ((GMap.empty Int Bool).obj ikey bval)] (x : St L), (Instr.lookup 51 (.map (some bb)) (.int .i64 ((k : Int) + 1)) false).run Try.prog x.w = .ok (.bool false) x.w := fun x => look_live bb (GMap.empty Int Bool) _ ((k : Int) + 1) (by rw [GMap.get_empty]; rfl) x
    have hw : Value.int .i64 (IntKind.i64.wrap ((k : Int) + 1 + 1)) = .int .i64 (((k + 1 : Nat) : Int) + 1) := by rw [IntWalk.i64_in _ (by omega)]; rfl
    repeat (first | (refine r_look (by rfl) (by rfl) ?_; refine ReadC.of (fun x => hlk x) ?_) | refine c_seq ?_ | refine c_reg ?_ | refine r_nil ?_ | refine e_n ?_ | refine CutC.go ?_ | refine r_field0 (by rfl) (by rfl) ?_ | refine r_val (by rfl) ?_ | (refine r_load (by rfl) ?_; refine LoadC.one (by rfl) (by rfl) ?_) | refine c_yes (by rfl) (by first | with_reducible assumption | decide) ?_ | refine c_no (by rfl) (by first | with_reducible assumption | decide) ?_ | refine c_skip ?_ | refine c_block ?_ | refine b_n ?_)
    exact MeetC.mk (k + 1) ⟨by omega, by omega⟩ ⟨rfl, hw, rfl⟩ Incl.of
  · have hk6 : k = 6 := by omega
    subst hk6
    have hd1 : decide (((6 : Nat) : Int) + 1 ≤ 6) = false := by decide
    repeat (first | refine c_seq ?_ | refine c_reg ?_ | refine r_nil ?_ | refine e_n ?_ | refine CutC.go ?_ | refine r_val (by rfl) ?_ | refine c_no (by rfl) (by first | with_reducible assumption | decide) ?_ | refine c_ret ?_ | refine c_exit ?_ | refine e_x ?_ | refine b_x1 ?_ | refine EndC.mk rfl ?_)
    exact Gives.mk rfl Incl.of
end
/-! ### The first breach -/
structure FirstInv (l : List AEv) : Prop where
  ln : (arun l).ln = l.length
  br : 0 ≤ (arun l).br
  zero : (arun l).at_ = 0 → (arun l).br = 0
  pos : (arun l).at_ ≠ 0 → ∃ k : Nat, (arun l).at_ = ((k + 1 : Nat) : Int) ∧ k < l.length ∧ (arun (l.take (k + 1))).br = (arun l).ru ∧ (arun (l.take k)).br = 0 ∧ 0 < (arun l).br
theorem firstInv (l : List AEv) : FirstInv l := by
  induction l using snoc_ind with
  | h0 => exact ⟨rfl, by simp [arun, AMon.fresh], fun _ => rfl, fun h => absurd rfl h⟩
  | hs l e ih =>
    have hS := AMon.add_stays (arun l) e
    rw [← arun_snoc] at hS
    obtain ⟨s1, s2, s3, s4, s5⟩ := hS
    obtain ⟨d1, d2⟩ := s2 ih.br
    refine ⟨by rw [s1, ih.ln]; simp, d1, ?_, ?_⟩
    · intro h0
      by_cases ha : (arun l).at_ = 0
      · by_cases hb : 0 < (arun (l ++ [e])).br
        · have := (s4 ha hb).1
          rw [ih.ln] at this
          omega
        · omega
      · have := (s3 ha).1
        omega
    · intro hne
      by_cases ha : (arun l).at_ = 0
      · by_cases hb : 0 < (arun (l ++ [e])).br
        · obtain ⟨h1, h2⟩ := s4 ha hb
          refine ⟨l.length, by rw [h1, ih.ln]; rfl, by simp, ?_, ?_, hb⟩
          · rw [List.take_of_length_le (by simp), h2]
          · rw [List.take_left, ih.zero ha]
        · exact absurd (s5 ha hb) hne
      · obtain ⟨k, h1, h2, h3, h4, h5⟩ := ih.pos ha
        obtain ⟨g1, g2⟩ := s3 ha
        refine ⟨k, by rw [g1, h1], by simp; omega, ?_, ?_, (d2 h5).1⟩
        · rw [List.take_append_of_le_length (by omega), g2, h3]
        · rw [List.take_append_of_le_length (by omega), h4]
end Go.Proofs.Ythijlgjfgliinaa
end
section
/- 'MonitorJudges', walked. -/
set_option linter.all false
namespace Go.Proofs.Ythijlgjfgliinaa
open Go.RowKit
open Go.W
variable [Env]
attribute [local irreducible] opsC wpC quietC LoopC DrawC CutC LoadC StoreC ReadC UpdC RunC CallC QCallC EndC thenC inBlockC
set_option maxRecDepth 100000
set_option synthInstance.maxHeartbeats 400000
set_option synthInstance.maxSize 2000
section
variable {F : Blocks} {T : Units} {evs : List Ev} {ds : List (List Int)} {ns : List (List Nm)}
theorem evs_pre {b o c n : Nat} {arr : Array Value} {eT : TypeId} {fr : Nat × Nat} (hm : (b, Obj.cells arr eT fr) ∈ F) (hrow : Go.RowAt arr o 19 (evs.map Ev.cells)) (hnames : NamesIn F evs ns) (hn : evs.length = n) (hn5 : n ≤ 500)
    (hdeps : ∀ (i : Nat) (e : Ev), evs[i]? = some e → ∃ d, ds[i]? = some d ∧ GM.ok F ⟨e.m, d⟩) (k : Nat) (hk : k ≤ n) :
    Does Try.prog 14 #[.slice (some ⟨b, o, none⟩) k c] (F :: T) (Gives (F :: T) (.int .i64 (judgeOf ((absL evs ds).take k)))) := by
  have hpre : ∀ (i : Nat) (e : Ev), (evs.take k)[i]? = some e → evs[i]? = some e ∧ i < k := by
    intro i e h
    rw [List.getElem?_take] at h
    split at h
    · rename_i hik; exact ⟨h, hik⟩
    · cases h
  have h := evs_some (T := T) (c := c) (evs := evs.take k) (ds := ds.take k) (ns := ns) (n := k) hm (by
      intro i cs hcs j v hv
      rw [List.map_take, List.getElem?_take] at hcs
      split at hcs
      · exact hrow i cs hcs j v hv
      · cases hcs) (fun i e h => hnames i e (hpre i e h).1) (by rw [List.length_take]; omega) (by omega) (fun i e h => by
      obtain ⟨h1, h2⟩ := hpre i e h
      obtain ⟨d, hd, hok⟩ := hdeps i e h1
      exact ⟨d, by rw [List.getElem?_take, if_pos h2]; exact hd, hok⟩)
  have ht : absL (evs.take k) (ds.take k) = (absL evs ds).take k := by unfold absL; rw [List.take_zipWith]
  rw [ht] at h
  exact h
/-- What a monitor is, but for the arguments. -/
abbrev GMon.rest (G : GMon) (R : Units) : Units :=
  [(G.m, monO G.sb G.eb G.mb (G.stR.val G.stays.length) G.lb G.nb G.br G.ln G.at_ G.ru)] :: [(G.sb, sendsO G.sends)] :: [(G.eb, seenO G.seen)] :: [(G.mb, G.mem.obj confKey setV)] :: [(G.lb, G.lv.obj ikey bval)] :: [(G.nb, G.nw.obj ikey pval)] :: SR G.sends :: SU G.stays :: G.stR.u 57 :: R
set_option maxHeartbeats 8000000 in
theorem judges_walk {a : Option Addr} {n : Nat} (h : EvsIn F a n evs ds) (hnames : NamesIn F evs ns) (c : Nat) (hcap : n ≤ c) {R : Units} :
    Does Try.prog 5 #[.slice a n c] (F :: R) (fun en M => ∃ F', F ⊆ F' ∧ Gives (F' :: R) (.bool true) en M) := by
  refine does_of_wpC (args := [.slice a n c]) Try.func5 rfl (by kernel_rfl) ?_
  have hl := h.len
  have hmax := h.max
  repeat (first | refine c_seq ?_ | refine c_reg ?_ | refine r_nil ?_ | refine e_n ?_ | refine CutC.go ?_ | refine r_val (by rfl) ?_)
  refine r_fun (by rfl) (by rfl) ?_
  refine CallC.grows (g := 6) awake_spec (Incl.refl _) (fun F1 hF1 => ?_)
  have h1 := h.mono hF1
  cases hfew : few evs
  · have hf := few_all h1 c (R := R)
    rw [hfew] at hf
    repeat (first | (refine r_fun (by rfl) (by rfl) ?_; refine CallC.igives (g := 7) hf (Incl.refl _) ?_) | refine c_seq ?_ | refine c_reg ?_ | refine r_nil ?_ | refine e_n ?_ | refine CutC.go ?_ | refine r_val (by rfl) ?_ | refine c_yes (by rfl) (by first | with_reducible assumption | decide) ?_ | refine c_no (by rfl) (by first | with_reducible assumption | decide) ?_ | refine c_skip ?_ | refine c_ret ?_ | refine e_r ?_ | refine EndC.mk rfl ?_)
    exact ⟨F1, hF1, Gives.mk rfl (Incl.refl _)⟩
  · have h500 := few_500 hfew
    rw [hl] at h500
    have hf := few_all h1 c (R := R)
    rw [hfew] at hf
    repeat (first | (refine r_fun (by rfl) (by rfl) ?_; refine CallC.igives (g := 7) hf (Incl.refl _) ?_) | (refine r_fun (by rfl) (by rfl) ?_; refine CallC.mnew (g := 8) new_spec (Incl.refl _) (fun G hok hA => ?_)) | refine c_seq ?_ | refine c_reg ?_ | refine r_nil ?_ | refine e_n ?_ | refine CutC.go ?_ | refine r_val (by rfl) ?_ | refine c_no (by rfl) (by first | with_reducible assumption | decide) ?_ | refine c_skip ?_ | refine c_block ?_ | refine c_loop ?_)
    refine LoopC.inv (γ := Nat × GMon × Blocks) (fun p => p.1 ≤ n ∧ F1 ⊆ p.2.2 ∧ p.2.1.ok p.2.2 p.1 ∧ p.2.1.abs = arun ((absL evs ds).take p.1))
      (fun p => [(0, .slice a n c), (3, .pointer (some ⟨p.2.1.m, 0, none⟩)), (4, .int .i64 (p.1 : Nat))]) (fun p => p.2.1.L p.2.2 R) (fun p => n - p.1)
      (MeetC.mk (0, G, F1) ⟨by omega, List.Subset.refl _, hok, hA⟩ ⟨rfl, rfl, rfl, rfl⟩ (Incl.refl _)) ?_
    rintro ⟨k, G1, X⟩ ⟨hk, hX, hok1, hab⟩ f0
    simp only at hk hX hok1 hab ⊢
    have h2 := h1.mono hX
    by_cases hlt : k < n
    · have hd1 : decide ((k : Int) < (n : Int)) = true := by simp; omega
      obtain ⟨e, he⟩ : ∃ e, evs[k]? = some e := ⟨evs[k]'(by omega), List.getElem?_eq_getElem _⟩
      obtain ⟨d, hdk, hd⟩ := h2.deps k e he
      rcases h2.row.2 with h0 | ⟨b, o, arr, T, fr, rfl, hm, hrow⟩
      · omega
      haveI hS : ∀ {L R : Units} [Unit_ L X R], Has L b (.cells arr T fr) := fun {L R} h => ⟨h.ok.mem_iff.2 (by simp [hm])⟩
      have hec : (evs.map Ev.cells)[k]? = some e.cells := by simp [he]
      have hln : G1.ln = k := by
        have h3 := (firstInv ((absL evs ds).take k)).ln
        rw [← hab] at h3
        have h4 : G1.abs.ln = G1.ln := rfl
        rw [h4] at h3
        rw [h3, List.length_take]
        have : (absL evs ds).length ≥ k + 1 := by
          have := (List.getElem?_eq_some_iff.1 (absL_at he hdk)).1
          omega
        congr 1
        omega
      repeat (first | (refine r_index (by rfl) (by rfl) (by rfl) hlt ?_) | (refine r_load (by rfl) ?_; refine LoadC.row (b := b) hrow hec rfl (by rfl) ?_) | refine c_seq ?_ | refine c_reg ?_ | refine r_nil ?_ | refine e_n ?_ | refine CutC.go ?_ | refine r_lenS (by rfl) (by rfl) ?_ | refine r_val (by rfl) ?_ | refine c_yes (by rfl) (by first | with_reducible assumption | decide) ?_ | refine c_skip ?_ | refine c_block ?_)
      refine r_fun (by rfl) (by rfl) ?_
      refine CallC.madd (g := 9) (add_spec G1 k hok1 (by omega) (by rw [hln]; omega) e d hd) (Incl.refl _) (fun G2 X2 hX2 hok2 hm2 hA2 => ?_)
      repeat (first | refine c_reg ?_ | refine r_nil ?_ | refine e_n ?_ | refine CutC.go ?_ | refine r_val (by rfl) ?_ | refine b_n ?_)
      exact MeetC.mk (k + 1, G2, X2) ⟨⟨by simp only; omega, List.Subset.trans hX hX2, hok2, by simp only; rw [hA2, hab, List.take_add_one, absL_at he hdk, Option.toList_some, arun_snoc]⟩, by simp only; omega⟩ ⟨rfl, by rw [hm2]; rfl, i64_succ (by omega), rfl⟩ (Incl.refl _)
    · have hd1 : decide ((k : Int) < (n : Int)) = false := by simp; omega
      have hkn : k = n := by omega
      subst hkn
      have hall : (absL evs ds).take k = absL evs ds := by
        refine List.take_of_length_le ?_
        unfold absL
        rw [List.length_zipWith]; omega
      rw [hall] at hab
      obtain ⟨f1, f2, f3, f4⟩ := firstInv (absL evs ds)
      have f0' := judge_eq (absL evs ds)
      rw [← hab] at f2 f3 f4 f0'
      have hbr : G1.br = judgeOf (absL evs ds) := f0'
      replace f2 : 0 ≤ G1.br := f2
      replace f3 : G1.at_ = 0 → G1.br = 0 := f3
      replace f4 : G1.at_ ≠ 0 → ∃ k' : Nat, G1.at_ = ((k' + 1 : Nat) : Int) ∧ k' < (absL evs ds).length ∧ (arun ((absL evs ds).take (k' + 1))).br = G1.ru ∧ (arun ((absL evs ds).take k')).br = 0 ∧ 0 < G1.br := f4
      have hin : Incl (G1.L X R) (X :: G1.rest R) := Incl.of
      have hback : Incl (X :: G1.rest R) (G1.L X R) := Incl.of
      have hlab : (absL evs ds).length ≤ k := by unfold absL; rw [List.length_zipWith]; omega
      have hbrs := broken_spec (F := X) G1 (R := R)
      have hfs := first_spec (F := X) G1 (R := R)
      have t1 : (G1.br != judgeOf (absL evs ds)) = false := by rw [hbr]; simp
      rcases h2.row.2 with h0 | ⟨b, o, arr, T, fr, rfl, hm, hrow⟩
      · subst h0
        have hat : G1.at_ = 0 := by
          by_cases hz : G1.at_ = 0
          · exact hz
          · obtain ⟨k', _, h4, _⟩ := f4 hz
            omega
        have hz := f3 hat
        have hj0 : (G1.br != 0) = false := by rw [hz]; rfl
        have t2 : (G1.at_ == 0) = true := by rw [hat]; rfl
        have t3 : (G1.br == 0) = true := by rw [hz]; rfl
        have tn : (!((G1.at_ == 0) == (G1.br == 0))) = false := by rw [t2, t3]; rfl
        have t4 : decide (G1.at_ > ((0 : Nat) : Int)) = false := by rw [hat]; rfl
        repeat (first | (refine r_fun (by rfl) (by rfl) ?_; refine CallC.igives (g := 10) hfs (Incl.refl _) ?_) | (refine r_fun (by rfl) (by rfl) ?_; refine CallC.igives (g := 12) hbrs (Incl.refl _) ?_) | (refine r_fun (by rfl) (by rfl) ?_; refine CallC.igives (g := 14) evs_nil (Incl.refl _) ?_) | refine c_seq ?_ | refine c_reg ?_ | refine r_nil ?_ | refine e_n ?_ | refine CutC.go ?_ | refine r_lenS (by rfl) (by rfl) ?_ | refine r_val (by rfl) ?_ | refine r_gF (by rfl) (by first | with_reducible assumption | decide) ?_ | refine r_gnF (by rfl) (by first | with_reducible assumption | decide) ?_ | refine r_go (by rfl) ?_ | refine r_pickT (by rfl) (by first | with_reducible assumption | decide) (by rfl) ?_ | refine r_pickF (by rfl) (by first | with_reducible assumption | decide) (by rfl) ?_ | refine c_no (by rfl) (by first | with_reducible assumption | decide) ?_ | refine c_skip ?_ | refine c_ret ?_ | refine c_exit ?_ | refine e_x ?_ | refine b_x1 ?_ | refine EndC.mk rfl ?_)
        exact ⟨X, List.Subset.trans hF1 hX, Gives.mk rfl Incl.of⟩
      · have hn1 : NamesIn X evs ns := fun i e he => by
          obtain ⟨l, h3, h4⟩ := hnames i e he
          exact ⟨l, h3, h4.1.mono' (List.Subset.trans hF1 hX), h4.2⟩
        have pre : ∀ q : Nat, q ≤ k → ∀ T : Units, Does Try.prog 14 #[.slice (some ⟨b, o, none⟩) q c] (X :: T) (Gives (X :: T) (.int .i64 (judgeOf ((absL evs ds).take q)))) := fun q hq T => evs_pre (T := T) (F := X) hm hrow hn1 hl h500 h2.deps q hq
        have hevs := pre k (Nat.le_refl _) (G1.rest R)
        rw [hall] at hevs
        by_cases hat : G1.at_ = 0
        · have hz := f3 hat
          have t2 : (G1.at_ == 0) = true := by rw [hat]; rfl
          have t3 : (G1.br == 0) = true := by rw [hz]; rfl
          have tn : (!((G1.at_ == 0) == (G1.br == 0))) = false := by rw [t2, t3]; rfl
          have t4 : decide (G1.at_ > (k : Int)) = false := by rw [hat]; simp
          repeat (first | (refine r_fun (by rfl) (by rfl) ?_; refine CallC.igives (g := 10) hfs (Incl.refl _) ?_) | (refine r_fun (by rfl) (by rfl) ?_; refine CallC.igives (g := 12) hbrs (Incl.refl _) ?_) | (refine r_fun (by rfl) (by rfl) ?_; refine CallC.igives (g := 12) hbrs hback ?_) | (refine r_fun (by rfl) (by rfl) ?_; refine CallC.igives (g := 14) hevs hin ?_) | refine c_seq ?_ | refine c_reg ?_ | refine r_nil ?_ | refine e_n ?_ | refine CutC.go ?_ | refine r_lenS (by rfl) (by rfl) ?_ | refine r_val (by rfl) ?_ | refine r_gF (by rfl) (by first | with_reducible assumption | decide) ?_ | refine r_gnF (by rfl) (by first | with_reducible assumption | decide) ?_ | refine r_go (by rfl) ?_ | refine r_pickT (by rfl) (by first | with_reducible assumption | decide) (by rfl) ?_ | refine r_pickF (by rfl) (by first | with_reducible assumption | decide) (by rfl) ?_ | refine c_no (by rfl) (by first | with_reducible assumption | decide) ?_ | refine c_skip ?_ | refine c_ret ?_ | refine c_exit ?_ | refine e_x ?_ | refine b_x1 ?_ | refine EndC.mk rfl ?_)
          exact ⟨X, List.Subset.trans hF1 hX, Gives.mk rfl Incl.of⟩
        · obtain ⟨k', h3, h4, h5, h6, h7⟩ := f4 hat
          have t2 : (G1.at_ == 0) = false := by rw [h3]; simp; omega
          have t3 : (G1.br == 0) = false := by simp; omega
          have tn : (!((G1.at_ == 0) == (G1.br == 0))) = false := by rw [t2, t3]; rfl
          have t5 : (judgeOf ((absL evs ds).take (k' + 1)) == G1.ru) = true := by rw [← judge_eq, h5]; simp
          have t6 : (judgeOf ((absL evs ds).take k') == 0) = true := by rw [← judge_eq, h6]; rfl
          have p1 := pre (k' + 1) (by omega) (G1.rest R)
          have p0 := pre k' (by omega) (G1.rest R)
          have hw : Value.int .i64 (IntKind.i64.wrap (G1.at_ - 1)) = .int .i64 (k' : Nat) := by rw [h3, IntWalk.i64_in _ (by omega)]; congr 1; omega
          have hq : Value.int .i64 G1.at_ = .int .i64 ((k' + 1 : Nat) : Int) := by rw [h3]
          have t4 : decide (G1.at_ > (k : Int)) = false := by rw [h3]; simp; omega
          repeat (first | (refine r_fun (by rfl) (by rfl) ?_; refine CallC.igives (g := 10) hfs (Incl.refl _) ?_) | (refine r_fun (by rfl) (by rfl) ?_; refine CallC.igives (g := 12) hbrs (Incl.refl _) ?_) | (refine r_fun (by rfl) (by rfl) ?_; refine CallC.igives (g := 12) hbrs hback ?_) | (refine r_fun (by rfl) (by rfl) ?_; refine CallC.igives (g := 14) hevs hin ?_) | refine c_seq ?_ | refine c_reg ?_ | refine r_nil ?_ | refine e_n ?_ | refine CutC.go ?_ | refine r_lenS (by rfl) (by rfl) ?_ | refine r_val (by rfl) ?_ | refine r_gF (by rfl) (by first | with_reducible assumption | decide) ?_ | refine r_pickF (by rfl) (by first | with_reducible assumption | decide) (by rfl) ?_ | refine c_no (by rfl) (by first | with_reducible assumption | decide) ?_ | refine c_skip ?_ | refine c_exit ?_ | refine e_x ?_ | refine b_x1 ?_)
          refine r_upto (k := k' + 1) (by rfl) (by exact hq) (by rfl) (by omega) ?_
          repeat (first | (refine r_fun (by rfl) (by rfl) ?_; refine CallC.igives (g := 14) p1 hin ?_) | refine r_val (by rfl) ?_ | refine r_gT (by rfl) (by first | with_reducible assumption | decide) ?_ | refine r_gF (by rfl) (by first | with_reducible assumption | decide) ?_)
          refine r_upto (k := k') (by rfl) (by exact hw) (by rfl) (by omega) ?_
          repeat (first | (refine r_fun (by rfl) (by rfl) ?_; refine CallC.igives (g := 14) p0 (Incl.refl _) ?_) | refine r_nil ?_ | refine e_n ?_ | refine CutC.go ?_ | refine r_val (by rfl) ?_ | refine r_gT (by rfl) (by first | with_reducible assumption | decide) ?_ | refine r_gF (by rfl) (by first | with_reducible assumption | decide) ?_ | refine r_pickT (by rfl) (by first | with_reducible assumption | decide) (by rfl) ?_ | refine r_pickF (by rfl) (by first | with_reducible assumption | decide) (by rfl) ?_ | refine c_ret ?_ | refine EndC.mk rfl ?_)
          exact ⟨X, List.Subset.trans hF1 hX, Gives.mk (congrArg Value.bool t6) Incl.of⟩
end
end Go.Proofs.Ythijlgjfgliinaa
end
section
/- Events and the names that they bear, read out of an argument. -/
set_option linter.all false
namespace Go.Proofs.Ythijlgjfgliinaa
open Go.RowKit Go.Deep Go.ChangeShapes Go.WideShapes
set_option maxRecDepth 100000
theorem c132 : Try.prog.cellsOf 132 = 2 := by kernel_rfl
theorem b132 : Try.prog.bytesOf 132 = 16 := by kernel_rfl
section
variable {H : Type} {enc : TypeId × Value → H} {W : World} {base : Nat} {sp : Nat → Bool}
/-- A slice whose elements are known by their cells. -/
theorem trod_rows {fuel : Nat} {t e : TypeId} {s : Nat} {v : Value} {x : DataW H × List MemPlace} {γ : Type} [Inhabited γ] {cellsf : γ → List Value} {Q : γ → Prop} (ht : Try.prog.underlying t = some (.slice e)) (ce : Try.prog.cellsOf e = s) (hs : 0 < s) (hcl : ∀ g, (cellsf g).length = s)
    (each : ∀ (f : Nat) (cs : List Value) (y : DataW H × List MemPlace), DataW.trod enc Try.prog W base sp true f e cs = some y → (∀ m ∈ y.1.weights Try.prog e, m ∈ x.1.weights Try.prog t) → ∃ g, cs = cellsf g ∧ Q g)
    (h : DataW.trod enc Try.prog W base sp true fuel t [v] = some x) :
    ∃ (a : Option Addr) (n c : Nat) (gs : List γ), v = .slice a n c ∧ n ≤ c ∧ n ≤ 9223372036854775807 ∧ SlIn (blocksOf W) a n s (gs.map cellsf) ∧ (∀ (i : Nat) (g : γ), gs[i]? = some g → Q g) ∧ (n = 0 ∨ ∃ m ∈ x.1.weights Try.prog t, n * Try.prog.bytesOf e ≤ m) := by
  rcases open_slice ht h with ⟨h1, rfl⟩ | ⟨a, len, cap, m, n, D, Pl, h1, hb, hl, hm, hmm, rfl, hc⟩
  · simp only [List.cons.injEq, and_true] at h1
    exact ⟨_, _, _, [], h1, by omega, by omega, ⟨rfl, .inl rfl⟩, fun i e h => by simp at h, .inl rfl⟩
  · simp only [List.cons.injEq, and_true] at h1
    have hlm : len ≤ m := by rw [hmm]; split <;> omega
    have each' : ∀ i, i < len → ∃ q : γ, W.cells? base (a.add (i * s)) s = some (cellsf q) ∧ Q q := by
      intro i hi
      obtain ⟨cs', h2, h3⟩ := hc i (by omega)
      rw [ce] at h2
      obtain ⟨g, rfl, hg⟩ := each _ _ _ h3 (fun k hk => by
        unfold DataW.weights
        rw [ht]
        refine List.mem_cons_of_mem _ (List.mem_append_left _ ?_)
        have : ∀ (l : List (DataW H)) (d0 : DataW H), d0 ∈ l → k ∈ d0.weights Try.prog e → k ∈ DataW.weightsAll Try.prog e l := by
          intro l
          induction l with
          | nil => intro d0 h0; cases h0
          | cons d1 l ih =>
            intro d0 h0 hk0
            unfold DataW.weightsAll
            rcases List.mem_cons.1 h0 with rfl | h0
            · exact List.mem_append_left _ hk0
            · exact List.mem_append_right _ (ih d0 h0 hk0)
        exact this _ (D i) (List.mem_map.2 ⟨i, List.mem_range.2 hi, rfl⟩) hk)
      exact ⟨g, h2, hg⟩
    obtain ⟨f, hf⟩ := choose_lt each'
    refine ⟨_, _, _, (List.range len).map f, h1, hl, by unfold maxLen at hm; omega, ⟨by simp, ?_⟩, fun i e he => ?_, ?_⟩
    · rcases Nat.eq_zero_or_pos len with h0 | hp
      · exact .inl h0
      · right
        obtain ⟨_, hlen0, g0⟩ := World.cells?_some (hf 0 hp).1
        have g0 := g0 0 hs
        have h00 : ∃ v0, (cellsf (f 0))[0]? = some v0 := ⟨_, List.getElem?_eq_getElem (by rw [hcl]; exact hs)⟩
        obtain ⟨v0, h00⟩ := h00
        rw [h00] at g0
        obtain ⟨b, o, spt⟩ := a
        have hspt : spt = none := by simpa [Addr.add] using World.cell?_spot (v := v0) g0
        subst hspt
        have : ∃ arr T fr, W.heap[b]? = some (.cells arr T fr) := by
          unfold World.cell? at g0
          simp only [Addr.add] at g0
          cases hh : W.heap[b]? with
          | none => simp [hh] at g0
          | some ob => cases ob <;> simp_all
        obtain ⟨arr, T, fr, hh⟩ := this
        refine ⟨b, o, arr, T, fr, rfl, blocksOf_mem hh, fun i c hic j v hv => ?_⟩
        simp only [List.map_map, List.getElem?_map] at hic
        obtain ⟨i', hi', rfl⟩ := Option.map_eq_some_iff.1 hic
        have hlt : i < len := by have := (List.getElem?_eq_some_iff.1 hi').1; simpa using this
        have e1 : i' = i := by rw [List.getElem?_range hlt] at hi'; exact (Option.some.inj hi').symm
        subst e1
        obtain ⟨_, hlen, g⟩ := World.cells?_some (hf i' hlt).1
        have hj : j < s := by
          have := (List.getElem?_eq_some_iff.1 hv).1
          simp only [Function.comp] at this
          rw [hcl] at this
          exact this
        have g := g j hj
        rw [add_plain, add_plain] at g
        unfold World.cell? at g
        simp only [hh] at g
        simp only [Function.comp] at hv
        rw [hv] at g
        simpa using g
    · obtain ⟨i', hi', rfl⟩ := Option.map_eq_some_iff.1 ((List.getElem?_map).symm.trans he)
      have hlt : i < len := by have := (List.getElem?_eq_some_iff.1 hi').1; simpa using this
      have e1 : i' = i := by rw [List.getElem?_range hlt] at hi'; exact (Option.some.inj hi').symm
      subst e1
      exact (hf i' hlt).2
    · right
      refine ⟨_, by
        unfold DataW.weights
        rw [ht]
        exact List.mem_cons_self .., ?_⟩
      simp only [List.length_map, List.length_range]
      exact Nat.mul_le_mul_right _ (by omega)
theorem trod_names {fuel : Nat} {v : Value} {y : DataW H × List MemPlace} (h : DataW.trod enc Try.prog W base sp true fuel 37 [v] = some y) (hw : ∀ m ∈ y.1.weights Try.prog 37, m ≤ reachBytes) :
    ∃ (a : Option Addr) (n c : Nat) (l : List Nm), v = .slice a n c ∧ SlIn (blocksOf W) a n 2 (l.map Nm.cells) ∧ n ≤ 140737488355328 := by
  obtain ⟨a, n, c, l, h1, _, _, h2, _, h3⟩ := trod_rows (γ := Nm) (cellsf := Nm.cells) (Q := fun _ => True) Try.underlying37 c132 (by omega) (fun _ => rfl) (fun f cs y hy _ => by
    have hl : cs.length = 2 := by
      obtain ⟨_, _, _, _, hl, _⟩ := DataW.trod_struct Try.underlying132 hy
      rw [hl, c132]
    match cs, hl with
    | [v0, v1], _ =>
      obtain ⟨_, _, f0, _⟩ := trod_field Try.underlying132 hy c3 0 0 rfl
      obtain ⟨_, _, f1, _⟩ := trod_field Try.underlying132 hy c31 1 1 rfl
      obtain ⟨i0, rfl⟩ := trod_i Try.underlying3 f0
      obtain ⟨i1, rfl⟩ := trod_i Try.underlying31 f1
      exact ⟨(i0, i1), rfl, trivial⟩) h
  refine ⟨a, n, c, l, h1, h2, ?_⟩
  rcases h3 with rfl | ⟨m, hm, hle⟩
  · omega
  · have := hw m hm
    unfold reachBytes at this
    rw [b132] at hle
    omega
theorem trod_event2 {fuel : Nat} {cs : List Value} {x : DataW H × List MemPlace} (h : DataW.trod enc Try.prog W base sp true fuel 39 cs = some x) (hw : ∀ m ∈ x.1.weights Try.prog 39, m ≤ reachBytes) :
    ∃ (q : Ev × List Int × List Nm), cs = q.1.cells ∧ GM.ok (blocksOf W) ⟨q.1.m, q.2.1⟩ ∧ SlIn (blocksOf W) q.1.na q.1.nn 2 (q.2.2.map Nm.cells) ∧ q.1.nn ≤ 140737488355328 := by
  obtain ⟨e, d, rfl, hd⟩ := trod_event h hw
  obtain ⟨y7, n7, f7, w7⟩ := trod_field Try.underlying39 h c37 7 17 rfl
  obtain ⟨a, n, c, l, h1, h2, h3⟩ := trod_names f7 (fun m hm => hw m (w7 m hm))
  have h4 : Value.slice e.na e.nn e.nc = .slice a n c := h1
  injection h4 with h5 h6 h7
  subst h5 h6
  exact ⟨(e, d, l), rfl, hd, h2, h3⟩
theorem Ev.cells_len (e : Ev) : e.cells.length = 19 := rfl
instance : Inhabited (Ev × List Int × List Nm) := ⟨((default : Ev × List Int).1, [], [])⟩
/-- Events that an argument holds, and their names. -/
theorem trod_events2 {fuel : Nat} {v : Value} {x : DataW H × List MemPlace} (h : DataW.trod enc Try.prog W base sp true fuel 22 [v] = some x) (hw : ∀ m ∈ x.1.weights Try.prog 22, m ≤ reachBytes) :
    ∃ a n c evs ds ns, v = .slice a n c ∧ n ≤ c ∧ EvsIn (blocksOf W) a n evs ds ∧ NamesIn (blocksOf W) evs ns := by
  obtain ⟨a, n, c, l, h1, h2, h3, h4, h5, _⟩ := trod_rows (γ := Ev × List Int × List Nm) (cellsf := fun q => q.1.cells) (Q := fun q => GM.ok (blocksOf W) ⟨q.1.m, q.2.1⟩ ∧ SlIn (blocksOf W) q.1.na q.1.nn 2 (q.2.2.map Nm.cells) ∧ q.1.nn ≤ 140737488355328)
    Try.underlying22 c39 (by omega) (fun q => q.1.cells_len) (fun f cs y hy hwy => trod_event2 hy (fun m hm => hw m (hwy m hm))) h
  refine ⟨a, n, c, l.map (·.1), l.map (·.2.1), l.map (·.2.2), h1, h2, ⟨by rw [List.map_map]; exact h4, fun i e he => ?_, h3⟩, fun i e he => ?_⟩
  · rw [List.getElem?_map] at he
    obtain ⟨q, hq, rfl⟩ := Option.map_eq_some_iff.1 he
    exact ⟨q.2.1, by rw [List.getElem?_map, hq]; rfl, (h5 i q hq).1⟩
  · rw [List.getElem?_map] at he
    obtain ⟨q, hq, rfl⟩ := Option.map_eq_some_iff.1 he
    exact ⟨q.2.2, by rw [List.getElem?_map, hq]; rfl, (h5 i q hq).2⟩
end
end Go.Proofs.Ythijlgjfgliinaa
end
