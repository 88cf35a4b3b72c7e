/- Part 31 of the proof of what MonJudges says. -/
import Derived.Test.YthijlgjfgliinaaJg30
section
/- The judge: regular (41): the stay ahead of it goes on. -/
set_option linter.all false
namespace Go.Proofs.Ythijlgjfgliinaa
open Go.RowKit
open Go.W
variable [Env]
theorem _root_.Go.CutC.weak {P : Program} {d : Code} {Q : Exit → Fr → Units → Prop} {f : Fr} {M N : Units} (hi : Incl M N) (h : CutC P d Q f N) : CutC P d Q f M := fun n hok a hl x => h n hok a hl (⟨x.w, hi _ x.ok⟩ : St N)
abbrev jstN (eb eo : Nat) (s : JSt) (i : Nat) (gv uv tv : Value) : Obj := .cells #[.int .i64 s.proc, .int .u64 s.epoch, .int .i64 s.rep, .int .u64 s.members, gv, tv, .pointer (some ⟨eb, eo + i * 19, none⟩), evp eb eo s.vw, .int .i64 s.va, evp eb eo s.rd, uv, .bool s.out, .pointer (s.bf.map fun b => ⟨b, 0, none⟩)] 109
theorem jstN_eq (eb eo : Nat) (s : JSt) (i : Nat) (gv uv tv : Value) : jstN eb eo s i gv uv tv = jstO eb eo { s with nx := some i } gv uv tv := rfl
/-- Does the way on of the stay ahead not lead here? -/
def leaveJ (evs : List Ev) (tr : Option Nat) (e : Ev) : Bool := match tr.bind fun q => evs[q]? with
  | none => true
  | some t => !confEq t.nepoch t.nrep e.epoch e.rep || (!inB t.members e.members || !hasB t.members e.proc)
noncomputable def regLast : Code := match Try.f41.body with
  | some (.seq _ (.seq _ (.seq _ c))) => c
  | _ => .skip
def goesCk (evs : List Ev) (e : Ev) (b : JSt) : List Ck := [(1, decide (ord2 e.epoch e.rep b.epoch b.rep ≤ 0)), (1, leaveJ evs b.tr e)]
attribute [local irreducible] opsC wpC quietC LoopC DrawC CutC LoadC StoreC ReadC UpdC RunC CallC QCallC EndC thenC inBlockC
set_option maxRecDepth 100000
set_option synthInstance.maxHeartbeats 400000
section
variable {F : Blocks} {t bb nb eb eo sb : Nat} {lv : Value} {nm : Int} {nw : GMap Int Nat} {evs : List Ev} {ns : List (List Nm)} {Y T : Units} {R : Ending → Units → Prop} {g : GMap Int Bool}
set_option maxHeartbeats 8000000 in
theorem reg_last0 (hE : EvIn F eb eo evs ns) (i : Nat) (e : Ev) (he : evs[i]? = some e)
    (stR : Row) (els : List (List Value)) (n : Nat) (sa : Option Addr) (sc : Nat) (hsv : stR.val n = .slice sa n sc) (hst : RowOk stR 1 els) (hl : els.length = n) (hn : n ≤ 1000) [hF : Unit_ Y F T]
    (hR : ∀ (r' : Row) (M : Units), RowOk r' 1 (els ++ [[.pointer (some ⟨sb, 0, none⟩)]]) → Incl M ([(t, traceO lv (r'.val (n + 1)) bb nm)] :: r'.u 98 :: [(nb, (nw.put e.proc sb).obj ikey pval)] :: [(bb, g.obj ikey bval)] :: [(sb, (JSt.fresh sb e none).obj eb eo)] :: Y) → R (.returned (.tuple #[])) M) (f0 : Nat → Value) :
    wpC Try.prog regLast (bodyC Try.f41 R) (Fr.over f0 [(0, .pointer (some ⟨t, 0, none⟩)), (1, .pointer (some ⟨eb, eo + i * 19, none⟩)), (3, .map (some nb)), (8, .pointer (some ⟨sb, 0, none⟩))]) ([(t, traceO lv (.slice sa n sc) bb nm)] :: stR.u 98 :: [(nb, nw.obj ikey pval)] :: [(bb, g.obj ikey bval)] :: [(sb, (JSt.fresh sb e none).obj eb eo)] :: Y) := by
  have key := fun f1 => reg_tail (t := t) (bb := bb) (lv := lv) (nm := nm) (nb := nb) (nw := nw) (sb := sb) (R := R) (U := [(bb, g.obj ikey bval)] :: [(sb, (JSt.fresh sb e none).obj eb eo)] :: Y) hE i e he stR els n sa sc hsv hst hl hn hR f1
  haveI hS : ∀ {L : Units}, Has ([(sb, (JSt.fresh sb e none).obj eb eo)] :: L) sb (jstO eb eo (JSt.fresh sb e none) (.slice none 0 0) (.slice none 0 0) (evp eb eo none)) := fun {L} => ⟨by simp [JSt.obj, JSt.fresh, Row.val, Row.nil]⟩
  repeat (first | refine c_seq ?_ | refine c_reg ?_ | refine r_nil ?_ | refine e_n ?_ | refine r_field0 (by rfl) (by rfl) ?_ | refine r_val (by rfl) ?_ | (refine r_load (by rfl) ?_; refine LoadC.one (by rfl) (by rfl) ?_))
  refine CutC.go ?_
  repeat (first | refine c_seq ?_ | refine c_reg ?_ | refine r_nil ?_ | refine e_n ?_ | refine r_val (by rfl) ?_)
  refine CutC.go ?_
  repeat (first | refine e_n ?_ | refine c_no (by rfl) (by first | with_reducible assumption | decide) ?_ | refine c_skip ?_)
  exact CutC.over [(0, .pointer (some ⟨t, 0, none⟩)), (1, .pointer (some ⟨eb, eo + i * 19, none⟩)), (3, .map (some nb)), (8, .pointer (some ⟨sb, 0, none⟩))] ⟨rfl, rfl, rfl, rfl, rfl⟩ key
set_option maxHeartbeats 16000000 in
theorem reg_last1 (hE : EvIn F eb eo evs ns) (i : Nat) (e : Ev) (he : evs[i]? = some e) (b : JSt) (gv uv : Value) (hq : ∀ q, b.tr = some q → q < evs.length)
    (stR : Row) (els : List (List Value)) (n : Nat) (sa : Option Addr) (sc : Nat) (hsv : stR.val n = .slice sa n sc) (hst : RowOk stR 1 els) (hl : els.length = n) (hn : n ≤ 1000) [hF : Unit_ Y F T]
    (hR : ∀ (r' : Row) (M : Units), RowOk r' 1 (els ++ [[.pointer (some ⟨sb, 0, none⟩)]]) → Incl M ([(t, traceO lv (r'.val (n + 1)) bb nm)] :: r'.u 98 :: [(nb, (nw.put e.proc sb).obj ikey pval)] :: [(bb, (GMap.bads g (goesCk evs e b)).obj ikey bval)] :: [(sb, (JSt.fresh sb e (some b.blk)).obj eb eo)] :: [(b.blk, jstN eb eo b i gv uv (evp eb eo b.tr))] :: Y) → R (.returned (.tuple #[])) M) (f0 : Nat → Value) :
    wpC Try.prog regLast (bodyC Try.f41 R) (Fr.over f0 [(0, .pointer (some ⟨t, 0, none⟩)), (1, .pointer (some ⟨eb, eo + i * 19, none⟩)), (3, .map (some nb)), (8, .pointer (some ⟨sb, 0, none⟩))]) ([(t, traceO lv (.slice sa n sc) bb nm)] :: stR.u 98 :: [(nb, nw.obj ikey pval)] :: [(bb, g.obj ikey bval)] :: [(sb, (JSt.fresh sb e (some b.blk)).obj eb eo)] :: [(b.blk, jstO eb eo b gv uv (evp eb eo b.tr))] :: Y) := by
  have key := fun f1 => reg_tail (t := t) (bb := bb) (lv := lv) (nm := nm) (nb := nb) (nw := nw) (sb := sb) (R := R) (U := [(bb, (GMap.bads g (goesCk evs e b)).obj ikey bval)] :: [(sb, (JSt.fresh sb e (some b.blk)).obj eb eo)] :: [(b.blk, jstN eb eo b i gv uv (evp eb eo b.tr))] :: Y) hE i e he stR els n sa sc hsv hst hl hn hR f1
  clear hR
  obtain ⟨⟨earr, eT, efr, hEm, hrow⟩, hnames⟩ := hE
  haveI hEB : ∀ {L R : Units} [Unit_ L F R], Has L eb (.cells earr eT efr) := fun {L R} h => ⟨h.ok.mem_iff.2 (by simp [hEm])⟩
  have hec : (evs.map Ev.cells)[i]? = some e.cells := by simp [he]
  have hbads : GMap.bads g (goesCk evs e b) = GMap.bad (GMap.bad g 1 (decide (ord2 e.epoch e.rep b.epoch b.rep ≤ 0))) 1 (leaveJ evs b.tr e) := rfl
  rw [hbads] at key
  obtain ⟨blk, proc, epoch, rep, members, gr, gots, tr, nx, vw, va, rd, ur, ups, out, bf⟩ := b
  simp only at hq key ⊢
  repeat (first | refine c_seq ?_ | refine c_reg ?_ | refine r_nil ?_ | refine e_n ?_ | refine r_field0 (by rfl) (by rfl) ?_ | refine r_val (by rfl) ?_ | (refine r_load (by rfl) ?_; refine LoadC.one (by rfl) (by rfl) ?_))
  refine CutC.go ?_
  repeat (first | refine c_seq ?_ | refine c_reg ?_ | refine r_nil ?_ | refine e_n ?_ | refine r_val (by rfl) ?_)
  refine CutC.go ?_
  repeat (first | refine c_seq ?_ | refine c_reg ?_ | refine r_nil ?_ | refine e_n ?_ | refine r_field0 (by rfl) (by rfl) ?_ | refine r_val (by rfl) ?_ | (refine r_store (by rfl) (by rfl) ?_; refine StoreC.all (by rfl) (by rfl) (by rfl) (by rfl) (by rfl) ?_) | refine c_yes (by rfl) (by first | with_reducible assumption | decide) ?_)
  refine CutC.go ?_
  refine wpC_cut (γ := Unit) (fun _ => True) (fun _ => (11, .pointer (some ⟨blk, 0, none⟩)) :: [(0, .pointer (some ⟨t, 0, none⟩)), (1, .pointer (some ⟨eb, eo + i * 19, none⟩)), (3, .map (some nb)), (8, .pointer (some ⟨sb, 0, none⟩))]) (fun _ => ([(t, traceO lv (.slice sa n sc) bb nm)] :: stR.u 98 :: [(nb, nw.obj ikey pval)] :: [(bb, (GMap.bad g 1 (decide (ord2 e.epoch e.rep epoch rep ≤ 0))).obj ikey bval)] :: [(sb, (JSt.fresh sb e (some blk)).obj eb eo)] :: [(blk, jstN eb eo { blk := blk, proc := proc, epoch := epoch, rep := rep, members := members, gr := gr, gots := gots, tr := tr, nx := nx, vw := vw, va := va, rd := rd, ur := ur, ups := ups, out := out, bf := bf } i gv uv (evp eb eo tr))] :: Y)) ?_ ?_
  · repeat (first | refine c_draw ?_)
    refine d_tail 11 (by kernel_rfl) ?_
    simp only [List.take_succ_cons, List.take_zero, List.drop_succ_cons, List.drop_zero]
    repeat (first | (refine q_load (by rfl) ?_; refine LoadC.rowPart (b := eb) (q := 2) (n := 2) (vs := [.int .u64 e.epoch, .int .i64 e.rep]) hrow hec rfl rfl (by rfl) ?_) | (refine q_fun (by rfl) (by rfl) ?_; refine QCallC.ret (g := 31) (fun x => confs_spec _ _ _ _ x) ?_) | (refine r_fun (by rfl) (by rfl) ?_; refine CallC.gives (g := 45) (breaks45 (t := t) (bb := bb) (lv := lv) (sv := .slice sa n sc) (nm := nm) (g := g) 1 _) ?_) | (refine q_nil ?_) | refine r_nil ?_ | refine e_n ?_ | refine q_field0 (by rfl) (by rfl) ?_ | refine q_field (by rfl) (by rfl) ?_ | refine q_val (by rfl) ?_ | (refine q_load (by rfl) ?_; refine LoadC.agg (by rfl) (by rfl) ?_))
    exact MeetC.mk () trivial ⟨rfl, rfl, rfl, rfl, rfl, rfl⟩ Incl.of
  · intro _ _ f1
    generalize GMap.bad g 1 (decide (ord2 e.epoch e.rep epoch rep ≤ 0)) = g1 at key ⊢
    have fin : ∀ (c : Bool), leaveJ evs tr e = c → ∀ {f : Fr} {M : Units}, Incl M ([(t, traceO lv (.slice sa n sc) bb nm)] :: stR.u 98 :: [(nb, nw.obj ikey pval)] :: [(bb, (GMap.bad g1 1 c).obj ikey bval)] :: [(sb, (JSt.fresh sb e (some blk)).obj eb eo)] :: [(blk, jstN eb eo { blk := blk, proc := proc, epoch := epoch, rep := rep, members := members, gr := gr, gots := gots, tr := tr, nx := nx, vw := vw, va := va, rd := rd, ur := ur, ups := ups, out := out, bf := bf } i gv uv (evp eb eo tr))] :: Y) → AllAt f [(0, .pointer (some ⟨t, 0, none⟩)), (1, .pointer (some ⟨eb, eo + i * 19, none⟩)), (3, .map (some nb)), (8, .pointer (some ⟨sb, 0, none⟩))] → CutC Try.prog regTail (bodyC Try.f41 R) f M := by
      intro c hc f M hM ha
      rw [hc] at key
      exact CutC.weak hM (CutC.over _ ha key)
    cases tr with
    | none =>
      have fin := @fin true rfl
      clear key
      repeat (first | refine c_draw ?_)
      refine d_tail 50 (by kernel_rfl) ?_
      simp only [List.take_succ_cons, List.take_zero, List.drop_succ_cons, List.drop_zero]
      repeat (first | (refine r_fun (by rfl) (by rfl) ?_; refine CallC.gives (g := 45) (breaks45 (t := t) (bb := bb) (lv := lv) (sv := .slice sa n sc) (nm := nm) (g := g1) 1 _) ?_) | (refine q_nil ?_) | refine r_nil ?_ | refine e_n ?_ | refine q_field0 (by rfl) (by rfl) ?_ | refine q_val (by rfl) ?_ | (refine q_load (by rfl) ?_; refine LoadC.one (by rfl) (by rfl) ?_) | refine q_gnF (by rfl) (by first | with_reducible assumption | decide) ?_)
      exact fin Incl.of ⟨rfl, rfl, rfl, rfl, rfl⟩
    | some q =>
      have hqlt := hq q rfl
      obtain ⟨e1, he1⟩ : ∃ e1, evs[q]? = some e1 := ⟨evs[q], List.getElem?_eq_getElem hqlt⟩
      have hqc : (evs.map Ev.cells)[q]? = some e1.cells := by simp [he1]
      have hlv : leaveJ evs (some q) e = (!confEq e1.nepoch e1.nrep e.epoch e.rep || (!inB e1.members e.members || !hasB e1.members e.proc)) := by simp [leaveJ, he1]
      cases c1 : (!confEq e1.nepoch e1.nrep e.epoch e.rep) with
      | true =>
        have fin := @fin true (by rw [hlv, c1]; rfl)
        clear key
        repeat (first | refine c_draw ?_)
        refine d_tail 50 (by kernel_rfl) ?_
        simp only [List.take_succ_cons, List.take_zero, List.drop_succ_cons, List.drop_zero]
        repeat (first | (refine q_load (by rfl) ?_; refine LoadC.rowPart (b := eb) (q := 2) (n := 2) (vs := [.int .u64 e.epoch, .int .i64 e.rep]) hrow hec rfl rfl (by rfl) ?_) | (refine q_load (by rfl) ?_; refine LoadC.rowPart (b := eb) (q := 4) (n := 2) (vs := [.int .u64 e1.nepoch, .int .i64 e1.nrep]) hrow hqc rfl rfl (by rfl) ?_) | (refine q_eq (by rfl) (by rfl) (by kernel_rfl) (fun x => neq30 x.w _ _ _ _) ?_) | (refine r_fun (by rfl) (by rfl) ?_; refine CallC.gives (g := 45) (breaks45 (t := t) (bb := bb) (lv := lv) (sv := .slice sa n sc) (nm := nm) (g := g1) 1 _) ?_) | (refine q_nil ?_) | refine r_nil ?_ | refine e_n ?_ | refine q_field0 (by rfl) (by rfl) ?_ | refine q_field (by rfl) (by rfl) ?_ | refine q_val (by rfl) ?_ | (refine q_load (by rfl) ?_; refine LoadC.one (by rfl) (by rfl) ?_) | refine q_gF (by rfl) (by first | with_reducible assumption | decide) ?_ | refine q_gnF (by rfl) (by first | with_reducible assumption | decide) ?_ | refine q_pickT (by rfl) (by first | with_reducible assumption | decide) (by rfl) ?_)
        exact fin Incl.of ⟨rfl, rfl, rfl, rfl, rfl⟩
      | false =>
        cases c2 : (!inB e1.members e.members) with
        | true =>
          have fin := @fin true (by rw [hlv, c1, c2]; rfl)
          have c2' : (!inB e1.members (JSt.fresh sb e (some blk)).members) = true := c2
          clear key
          repeat (first | refine c_draw ?_)
          refine d_tail 50 (by kernel_rfl) ?_
          simp only [List.take_succ_cons, List.take_zero, List.drop_succ_cons, List.drop_zero]
          repeat (first | (refine q_load (by rfl) ?_; refine LoadC.rowPart (b := eb) (q := 2) (n := 2) (vs := [.int .u64 e.epoch, .int .i64 e.rep]) hrow hec rfl rfl (by rfl) ?_) | (refine q_load (by rfl) ?_; refine LoadC.rowPart (b := eb) (q := 4) (n := 2) (vs := [.int .u64 e1.nepoch, .int .i64 e1.nrep]) hrow hqc rfl rfl (by rfl) ?_) | (refine q_load (by rfl) ?_; refine LoadC.rowCell (b := eb) (q := 6) hrow hqc rfl (by rfl) ?_) | (refine q_eq (by rfl) (by rfl) (by kernel_rfl) (fun x => neq30 x.w _ _ _ _) ?_) | (refine q_fun (by rfl) (by rfl) ?_; refine QCallC.ret (g := 32) (fun x => in_spec _ _ x) ?_) | (refine r_fun (by rfl) (by rfl) ?_; refine CallC.gives (g := 45) (breaks45 (t := t) (bb := bb) (lv := lv) (sv := .slice sa n sc) (nm := nm) (g := g1) 1 _) ?_) | (refine q_nil ?_) | refine r_nil ?_ | refine e_n ?_ | refine q_field0 (by rfl) (by rfl) ?_ | refine q_field (by rfl) (by rfl) ?_ | refine q_val (by rfl) ?_ | (refine q_load (by rfl) ?_; refine LoadC.one (by rfl) (by rfl) ?_) | refine q_gF (by rfl) (by first | with_reducible assumption | decide) ?_ | refine q_gnF (by rfl) (by first | with_reducible assumption | decide) ?_ | refine q_pickT (by rfl) (by first | with_reducible assumption | decide) (by rfl) ?_ | refine q_pickF (by rfl) (by first | with_reducible assumption | decide) (by rfl) ?_)
          exact fin Incl.of ⟨rfl, rfl, rfl, rfl, rfl⟩
        | false =>
          have fin := @fin (!hasB e1.members e.proc) (by rw [hlv, c1, c2]; rfl)
          have c2' : (!inB e1.members (JSt.fresh sb e (some blk)).members) = false := c2
          clear key
          repeat (first | refine c_draw ?_)
          refine d_tail 50 (by kernel_rfl) ?_
          simp only [List.take_succ_cons, List.take_zero, List.drop_succ_cons, List.drop_zero]
          repeat (first | (refine q_load (by rfl) ?_; refine LoadC.rowPart (b := eb) (q := 2) (n := 2) (vs := [.int .u64 e.epoch, .int .i64 e.rep]) hrow hec rfl rfl (by rfl) ?_) | (refine q_load (by rfl) ?_; refine LoadC.rowPart (b := eb) (q := 4) (n := 2) (vs := [.int .u64 e1.nepoch, .int .i64 e1.nrep]) hrow hqc rfl rfl (by rfl) ?_) | (refine q_load (by rfl) ?_; refine LoadC.rowCell (b := eb) (q := 6) hrow hqc rfl (by rfl) ?_) | (refine q_load (by rfl) ?_; refine LoadC.rowCell (b := eb) (q := 1) hrow hec rfl (by rfl) ?_) | (refine q_eq (by rfl) (by rfl) (by kernel_rfl) (fun x => neq30 x.w _ _ _ _) ?_) | (refine q_fun (by rfl) (by rfl) ?_; refine QCallC.ret (g := 32) (fun x => in_spec _ _ x) ?_) | (refine q_fun (by rfl) (by rfl) ?_; refine QCallC.ret (g := 30) (fun x => has_spec _ _ x) ?_) | (refine r_fun (by rfl) (by rfl) ?_; refine CallC.gives (g := 45) (breaks45 (t := t) (bb := bb) (lv := lv) (sv := .slice sa n sc) (nm := nm) (g := g1) 1 _) ?_) | (refine q_nil ?_) | refine r_nil ?_ | refine e_n ?_ | refine q_field0 (by rfl) (by rfl) ?_ | refine q_field (by rfl) (by rfl) ?_ | refine q_val (by rfl) ?_ | (refine q_load (by rfl) ?_; refine LoadC.one (by rfl) (by rfl) ?_) | refine q_gF (by rfl) (by first | with_reducible assumption | decide) ?_ | refine q_pickF (by rfl) (by first | with_reducible assumption | decide) (by rfl) ?_)
          exact fin Incl.of ⟨rfl, rfl, rfl, rfl, rfl⟩
end
end Go.Proofs.Ythijlgjfgliinaa
end
