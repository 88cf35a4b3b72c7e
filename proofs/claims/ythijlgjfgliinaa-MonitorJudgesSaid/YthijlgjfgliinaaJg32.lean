/- Part 32 of the proof of what MonJudges says. -/
import Derived.Test.YthijlgjfgliinaaJg31
section
/- The judge: regular (41): against all stays. -/
set_option linter.all false
namespace Go.Proofs.Ythijlgjfgliinaa
open Go.RowKit
open Go.W
variable [Env]
noncomputable def regMid : Code := match Try.f41.body with
  | some (.seq _ c) => c
  | _ => .skip
/-- Two stays of one configuration that may not be. -/
def twB (o : JSt) (e : Ev) : Bool := confEq o.epoch o.rep e.epoch e.rep && (o.members != e.members || o.proc == e.proc)
def twCk (e : Ev) (l : List JSt) : List Ck := l.map fun o => (1, twB o e)
attribute [local irreducible] opsC wpC quietC LoopC DrawC CutC LoadC StoreC ReadC UpdC RunC CallC QCallC EndC thenC inBlockC
set_option maxRecDepth 100000
set_option synthInstance.maxHeartbeats 400000
section
variable {F : Blocks} {t bb nb eb eo sb : Nat} {lv : Value} {nm : Int} {nw : GMap Int Nat} {evs : List Ev} {ns : List (List Nm)} {T : Units} {R : Ending → Units → Prop} {g : GMap Int Bool}
abbrev RgL (t bb nb eb eo sb : Nat) (lv sv : Value) (nm : Int) (g : GMap Int Bool) (nw : GMap Int Nat) (stR : Row) (stays : List JSt) (e : Ev) (bf : Option Nat) (F : Blocks) (T : Units) : Units :=
  [(t, traceO lv sv bb nm)] :: stR.u 98 :: [(nb, nw.obj ikey pval)] :: [(bb, g.obj ikey bval)] :: [(sb, (JSt.fresh sb e bf).obj eb eo)] :: JU eb eo stays :: F :: T
set_option maxHeartbeats 16000000 in
theorem reg_mid (hE : EvIn F eb eo evs ns) (i : Nat) (e : Ev) (he : evs[i]? = some e) (bf : Option Nat) (live : Bool) (stays : List JSt)
    (stR : Row) (n : Nat) (sa : Option Addr) (sc : Nat) (hsv : stR.val n = .slice sa n sc) (hst : RowOk stR 1 (stays.map jptr)) (hl : stays.length = n) (hn : n ≤ 1000)
    (hR : ∀ f : Fr, AllAt f [(0, .pointer (some ⟨t, 0, none⟩)), (1, .pointer (some ⟨eb, eo + i * 19, none⟩)), (3, .map (some nb)), (8, .pointer (some ⟨sb, 0, none⟩))] → CutC Try.prog regLast (bodyC Try.f41 R) f (RgL t bb nb eb eo sb lv (.slice sa n sc) nm (GMap.bads g ((1, !live || !hasB e.members e.proc) :: twCk e stays)) nw stR stays e bf F T)) (f0 : Nat → Value) :
    wpC Try.prog regMid (bodyC Try.f41 R) (Fr.over f0 [(0, .pointer (some ⟨t, 0, none⟩)), (1, .pointer (some ⟨eb, eo + i * 19, none⟩)), (2, .bool live), (3, .map (some nb)), (8, .pointer (some ⟨sb, 0, none⟩))]) (RgL t bb nb eb eo sb lv (.slice sa n sc) nm g nw stR stays e bf F T) := by
  obtain ⟨⟨earr, eT, efr, hEm, hrow⟩, hnames⟩ := hE
  haveI hEB : ∀ {L R : Units} [Unit_ L F R], Has L eb (.cells earr eT efr) := fun {L R} h => ⟨h.ok.mem_iff.2 (by simp [hEm])⟩
  have hec : (evs.map Ev.cells)[i]? = some e.cells := by simp [he]
  refine wpC_cut (γ := Unit) (fun _ => True) (fun _ => [(0, .pointer (some ⟨t, 0, none⟩)), (1, .pointer (some ⟨eb, eo + i * 19, none⟩)), (3, .map (some nb)), (8, .pointer (some ⟨sb, 0, none⟩))]) (fun _ => RgL t bb nb eb eo sb lv (.slice sa n sc) nm (GMap.bad g 1 (!live || !hasB e.members e.proc)) nw stR stays e bf F T) ?_ ?_
  · cases live
    · repeat (first | refine c_draw ?_)
      refine d_tail 15 (by kernel_rfl) ?_
      simp only [List.take_succ_cons, List.take_zero, List.drop_succ_cons, List.drop_zero]
      repeat (first | (refine r_fun (by rfl) (by rfl) ?_; refine CallC.gives (g := 45) (breaks45 (t := t) (bb := bb) (lv := lv) (sv := .slice sa n sc) (nm := nm) (g := g) 1 _) ?_) | (refine q_nil ?_) | refine r_nil ?_ | refine e_n ?_ | refine q_val (by rfl) ?_ | refine q_gnF (by rfl) (by first | with_reducible assumption | decide) ?_)
      exact MeetC.mk () trivial ⟨rfl, rfl, rfl, rfl, rfl⟩ (show Incl _ (RgL t bb nb eb eo sb lv (.slice sa n sc) nm (GMap.bad g 1 true) nw stR stays e bf F T) from Incl.of)
    · repeat (first | refine c_draw ?_)
      refine d_tail 15 (by kernel_rfl) ?_
      simp only [List.take_succ_cons, List.take_zero, List.drop_succ_cons, List.drop_zero]
      repeat (first | (refine q_load (by rfl) ?_; refine LoadC.rowCell (b := eb) (q := 1) hrow hec rfl (by rfl) ?_) | (refine q_fun (by rfl) (by rfl) ?_; refine QCallC.ret (g := 30) (fun x => has_spec _ _ x) ?_) | (refine r_fun (by rfl) (by rfl) ?_; refine CallC.gives (g := 45) (breaks45 (t := t) (bb := bb) (lv := lv) (sv := .slice sa n sc) (nm := nm) (g := g) 1 _) ?_) | (refine q_nil ?_) | refine r_nil ?_ | refine e_n ?_ | refine q_field0 (by rfl) (by rfl) ?_ | refine q_field (by rfl) (by rfl) ?_ | refine q_val (by rfl) ?_ | (refine q_load (by rfl) ?_; refine LoadC.one (by rfl) (by rfl) ?_) | refine q_gF (by rfl) (by first | with_reducible assumption | decide) ?_)
      exact MeetC.mk () trivial ⟨rfl, rfl, rfl, rfl, rfl⟩ (show Incl _ (RgL t bb nb eb eo sb lv (.slice sa n sc) nm (GMap.bad g 1 (!hasB (JSt.fresh sb e bf).members e.proc)) nw stR stays e bf F T) from Incl.of)
  · intro _ _ f1
    clear f0
    have hbads : GMap.bads g ((1, !live || !hasB e.members e.proc) :: twCk e stays) = GMap.bads (GMap.bad g 1 (!live || !hasB e.members e.proc)) (twCk e stays) := rfl
    rw [hbads] at hR
    generalize GMap.bad g 1 (!live || !hasB e.members e.proc) = g0 at hR ⊢
    repeat (first | refine c_seq ?_ | refine c_reg ?_ | refine r_nil ?_ | refine e_n ?_ | refine r_field0 (by rfl) (by rfl) ?_ | refine r_lenS (by rfl) (by rfl) ?_ | refine r_val (by rfl) ?_ | (refine r_load (by rfl) ?_; refine LoadC.one (by rfl) (by rfl) ?_))
    refine CutC.go ?_
    repeat (first | refine c_block ?_ | refine c_loop ?_)
    refine LoopC.inv (γ := Nat × GMap Int Bool) (fun p => p.1 ≤ n ∧ GMap.bads g0 (twCk e stays) = GMap.bads p.2 (twCk e (stays.drop p.1))) (fun p => [(0, .pointer (some ⟨t, 0, none⟩)), (1, .pointer (some ⟨eb, eo + i * 19, none⟩)), (3, .map (some nb)), (8, .pointer (some ⟨sb, 0, none⟩)), (51, .slice sa n sc), (52, .int .i64 n), (53, .int .i64 (p.1 : Nat))]) (fun p => RgL t bb nb eb eo sb lv (.slice sa n sc) nm p.2 nw stR stays e bf F T) (fun p => n - p.1)
      (MeetC.mk (0, g0) ⟨by omega, rfl⟩ ⟨rfl, rfl, rfl, rfl, rfl, rfl, rfl, rfl⟩ (Incl.refl _)) ?_
    rintro ⟨k, g1⟩ ⟨hk, hh⟩ f2
    dsimp only at hk hh ⊢
    by_cases hlt : k < n
    · have hd1 : decide ((k : Int) < (n : Int)) = true := by simp; omega
      obtain ⟨o, ho⟩ : ∃ o, stays[k]? = some o := ⟨stays[k]'(by omega), List.getElem?_eq_getElem _⟩
      have hom := List.mem_of_getElem? ho
      have hdr : stays.drop k = o :: stays.drop (k + 1) := by
        obtain ⟨h2, h3⟩ := List.getElem?_eq_some_iff.1 ho
        rw [List.drop_eq_getElem_cons h2, h3]
      rw [hdr] at hh
      have hh : GMap.bads g0 (twCk e stays) = GMap.bads (GMap.bad g1 1 (twB o e)) (twCk e (stays.drop (k + 1))) := hh
      obtain ⟨a0, c0, hav, hs⟩ := stR.val_slice hst 98
      rw [List.length_map, hl] at hav hs
      rw [hsv] at hav
      obtain ⟨rfl, _, rfl⟩ : sa = a0 ∧ n = n ∧ sc = c0 := by injection hav with h1 h2 h3; exact ⟨h1, h2, h3⟩
      rcases hs.2 with h0 | ⟨Sb, So, Sarr, ST, Sfr, rfl, hSm, hSrow⟩
      · omega
      haveI hSB : ∀ {L R : Units} [Unit_ L (stR.u 98) R], Has L Sb (.cells Sarr ST Sfr) := fun {L R} h => ⟨h.ok.mem_iff.2 (by simp [hSm])⟩
      have hoc : (stays.map jptr)[k]? = some [.pointer (some ⟨o.blk, 0, none⟩)] := by simp [ho, jptr]
      haveI hOB : ∀ {L R : Units} [Unit_ L (JU eb eo stays) R], Has L o.blk (jstO eb eo o (o.gr.val o.gots.length) (o.ur.val o.ups.length) (evp eb eo o.tr)) := fun {L R} h => ⟨h.ok.mem_iff.2 (List.mem_append_left _ (mem_JU hom (by simp [JSt.u, JSt.obj])))⟩
      have meet : ∀ (c : Bool), twB o e = c → ∀ {f : Fr} {M : Units}, Incl M (RgL t bb nb eb eo sb lv (.slice (some ⟨Sb, So, none⟩) n sc) nm (GMap.bad g1 1 c) nw stR stays e bf F T) → AllAt f [(0, .pointer (some ⟨t, 0, none⟩)), (1, .pointer (some ⟨eb, eo + i * 19, none⟩)), (3, .map (some nb)), (8, .pointer (some ⟨sb, 0, none⟩)), (51, .slice (some ⟨Sb, So, none⟩) n sc), (52, .int .i64 n), (53, .int .i64 (k + 1 : Nat))] →
          MeetC (fun p : Nat × GMap Int Bool => (p.1 ≤ n ∧ GMap.bads g0 (twCk e stays) = GMap.bads p.2 (twCk e (stays.drop p.1))) ∧ n - p.1 < n - k) (fun p => [(0, .pointer (some ⟨t, 0, none⟩)), (1, .pointer (some ⟨eb, eo + i * 19, none⟩)), (3, .map (some nb)), (8, .pointer (some ⟨sb, 0, none⟩)), (51, .slice (some ⟨Sb, So, none⟩) n sc), (52, .int .i64 n), (53, .int .i64 (p.1 : Nat))]) (fun p => RgL t bb nb eb eo sb lv (.slice (some ⟨Sb, So, none⟩) n sc) nm p.2 nw stR stays e bf F T) f M := by
        intro c hc f M hM ha
        rw [hc] at hh
        exact MeetC.mk (k + 1, GMap.bad g1 1 c) ⟨⟨by simp only; omega, hh⟩, by simp only; omega⟩ ha hM
      have hmem : (JSt.fresh sb e bf).members = e.members := rfl
      cases c1 : confEq o.epoch o.rep e.epoch e.rep with
      | false =>
        have meet := @meet false (by unfold twB; rw [c1]; rfl)
        repeat (first | (refine r_index (by rfl) (by rfl) (by rfl) hlt ?_) | (refine r_load (by rfl) ?_; refine LoadC.row1 (b := Sb) hSrow hoc (by rfl) ?_) | refine c_seq ?_ | refine c_reg ?_ | refine r_nil ?_ | refine e_n ?_ | refine CutC.go ?_ | refine r_val (by rfl) ?_ | refine c_yes (by rfl) (by first | with_reducible assumption | decide) ?_ | refine c_skip ?_ | refine c_block ?_ | refine c_draw ?_)
        refine d_tail 32 (by kernel_rfl) ?_
        simp only [List.append_eq, List.cons_append, List.nil_append, List.take_succ_cons, List.take_zero, List.drop_succ_cons, List.drop_zero]
        repeat (first | (refine q_load (by rfl) ?_; refine LoadC.rowPart (b := eb) (q := 2) (n := 2) (vs := [.int .u64 e.epoch, .int .i64 e.rep]) hrow hec rfl rfl (by rfl) ?_) | (refine q_eq (by rfl) (by rfl) (by kernel_rfl) (fun x => eq30 x.w _ _ _ _) ?_) | (refine r_fun (by rfl) (by rfl) ?_; refine CallC.gives (g := 45) (breaks45 (t := t) (bb := bb) (lv := lv) (sv := .slice (some ⟨Sb, So, none⟩) n sc) (nm := nm) (g := g1) 1 _) ?_) | (refine q_nil ?_) | refine c_reg ?_ | refine r_nil ?_ | refine e_n ?_ | refine CutC.go ?_ | refine r_val (by rfl) ?_ | refine b_n ?_ | refine q_field0 (by rfl) (by rfl) ?_ | refine q_field (by rfl) (by rfl) ?_ | refine q_val (by rfl) ?_ | refine q_gnT (by rfl) (by first | with_reducible assumption | decide) ?_ | refine q_go (by rfl) ?_ | refine q_pickF (by rfl) (by first | with_reducible assumption | decide) (by rfl) ?_ | (refine q_load (by rfl) ?_; refine LoadC.agg (by rfl) (by rfl) ?_))
        exact meet Incl.of ⟨rfl, rfl, rfl, rfl, rfl, rfl, i64_succ (by omega), rfl⟩
      | true =>
        cases c2 : (o.members != e.members) with
        | true =>
          have c2' : (o.members != (JSt.fresh sb e bf).members) = true := c2
          have meet := @meet true (by unfold twB; rw [c1, c2]; rfl)
          repeat (first | (refine r_index (by rfl) (by rfl) (by rfl) hlt ?_) | (refine r_load (by rfl) ?_; refine LoadC.row1 (b := Sb) hSrow hoc (by rfl) ?_) | refine c_seq ?_ | refine c_reg ?_ | refine r_nil ?_ | refine e_n ?_ | refine CutC.go ?_ | refine r_val (by rfl) ?_ | refine c_yes (by rfl) (by first | with_reducible assumption | decide) ?_ | refine c_skip ?_ | refine c_block ?_ | refine c_draw ?_)
          refine d_tail 32 (by kernel_rfl) ?_
          simp only [List.append_eq, List.cons_append, List.nil_append, List.take_succ_cons, List.take_zero, List.drop_succ_cons, List.drop_zero]
          repeat (first | (refine q_load (by rfl) ?_; refine LoadC.rowPart (b := eb) (q := 2) (n := 2) (vs := [.int .u64 e.epoch, .int .i64 e.rep]) hrow hec rfl rfl (by rfl) ?_) | (refine q_eq (by rfl) (by rfl) (by kernel_rfl) (fun x => eq30 x.w _ _ _ _) ?_) | (refine r_fun (by rfl) (by rfl) ?_; refine CallC.gives (g := 45) (breaks45 (t := t) (bb := bb) (lv := lv) (sv := .slice (some ⟨Sb, So, none⟩) n sc) (nm := nm) (g := g1) 1 _) ?_) | (refine q_nil ?_) | refine c_reg ?_ | refine r_nil ?_ | refine e_n ?_ | refine CutC.go ?_ | refine r_val (by rfl) ?_ | refine b_n ?_ | refine q_field0 (by rfl) (by rfl) ?_ | refine q_field (by rfl) (by rfl) ?_ | refine q_val (by rfl) ?_ | (refine q_load (by rfl) ?_; refine LoadC.one (by rfl) (by rfl) ?_) | refine q_gT (by rfl) (by first | with_reducible assumption | decide) ?_ | refine q_gnF (by rfl) (by first | with_reducible assumption | decide) ?_ | refine q_pickT (by rfl) (by first | with_reducible assumption | decide) (by rfl) ?_ | (refine q_load (by rfl) ?_; refine LoadC.agg (by rfl) (by rfl) ?_))
          exact meet Incl.of ⟨rfl, rfl, rfl, rfl, rfl, rfl, i64_succ (by omega), rfl⟩
        | false =>
          have c2' : (o.members != (JSt.fresh sb e bf).members) = false := c2
          have meet := @meet (o.proc == e.proc) (by unfold twB; rw [c1, c2]; rfl)
          repeat (first | (refine r_index (by rfl) (by rfl) (by rfl) hlt ?_) | (refine r_load (by rfl) ?_; refine LoadC.row1 (b := Sb) hSrow hoc (by rfl) ?_) | refine c_seq ?_ | refine c_reg ?_ | refine r_nil ?_ | refine e_n ?_ | refine CutC.go ?_ | refine r_val (by rfl) ?_ | refine c_yes (by rfl) (by first | with_reducible assumption | decide) ?_ | refine c_skip ?_ | refine c_block ?_ | refine c_draw ?_)
          refine d_tail 32 (by kernel_rfl) ?_
          simp only [List.append_eq, List.cons_append, List.nil_append, List.take_succ_cons, List.take_zero, List.drop_succ_cons, List.drop_zero]
          repeat (first | (refine q_load (by rfl) ?_; refine LoadC.rowPart (b := eb) (q := 2) (n := 2) (vs := [.int .u64 e.epoch, .int .i64 e.rep]) hrow hec rfl rfl (by rfl) ?_) | (refine q_load (by rfl) ?_; refine LoadC.rowCell (b := eb) (q := 1) hrow hec rfl (by rfl) ?_) | (refine q_eq (by rfl) (by rfl) (by kernel_rfl) (fun x => eq30 x.w _ _ _ _) ?_) | (refine r_fun (by rfl) (by rfl) ?_; refine CallC.gives (g := 45) (breaks45 (t := t) (bb := bb) (lv := lv) (sv := .slice (some ⟨Sb, So, none⟩) n sc) (nm := nm) (g := g1) 1 _) ?_) | (refine q_nil ?_) | refine c_reg ?_ | refine r_nil ?_ | refine e_n ?_ | refine CutC.go ?_ | refine r_val (by rfl) ?_ | refine b_n ?_ | refine q_field0 (by rfl) (by rfl) ?_ | refine q_field (by rfl) (by rfl) ?_ | refine q_val (by rfl) ?_ | (refine q_load (by rfl) ?_; refine LoadC.one (by rfl) (by rfl) ?_) | refine q_gT (by rfl) (by first | with_reducible assumption | decide) ?_ | refine q_gF (by rfl) (by first | with_reducible assumption | decide) ?_ | refine q_pickT (by rfl) (by first | with_reducible assumption | decide) (by rfl) ?_ | refine q_pickF (by rfl) (by first | with_reducible assumption | decide) (by rfl) ?_ | (refine q_load (by rfl) ?_; refine LoadC.agg (by rfl) (by rfl) ?_))
          exact meet Incl.of ⟨rfl, rfl, rfl, rfl, rfl, rfl, i64_succ (by omega), rfl⟩
    · have hd1 : decide ((k : Int) < (n : Int)) = false := by simp; omega
      have hkn : stays.drop k = [] := by rw [List.drop_eq_nil_iff]; omega
      rw [hkn] at hh
      have hh : GMap.bads g0 (twCk e stays) = g1 := hh
      rw [hh] at hR
      repeat (first | refine c_seq ?_ | refine c_reg ?_ | refine r_nil ?_ | refine e_n ?_ | refine r_val (by rfl) ?_)
      refine CutC.go ?_
      repeat (first | refine c_seq ?_ | refine e_n ?_ | refine c_no (by rfl) (by first | with_reducible assumption | decide) ?_ | refine c_exit ?_ | refine e_x ?_ | refine b_x1 ?_)
      exact hR _ ⟨rfl, rfl, rfl, rfl, rfl⟩
end
end Go.Proofs.Ythijlgjfgliinaa
end
