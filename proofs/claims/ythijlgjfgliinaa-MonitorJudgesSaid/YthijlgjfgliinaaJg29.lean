/- Part 29 of the proof of what MonJudges says. -/
import Derived.Test.YthijlgjfgliinaaJg28
section
/- The judge: mine (58), whole; upper (43). -/
set_option linter.all false
namespace Go.Proofs.Ythijlgjfgliinaa
open Go.RowKit
open Go.W
variable [Env]
attribute [local irreducible] opsC wpC quietC LoopC DrawC CutC LoadC StoreC ReadC UpdC RunC CallC QCallC EndC thenC inBlockC
set_option maxRecDepth 100000
set_option synthInstance.maxHeartbeats 400000
section
variable {F : Blocks} {t bb eb eo : Nat} {lv sv : Value} {nm : Int} {evs : List Ev} {ns : List (List Nm)} {T : Units} {R : Ending → Units → Prop}
set_option maxHeartbeats 8000000 in
theorem mine_nil (hE : EvIn F eb eo evs ns) (i : Nat) (e : Ev) (he : evs[i]? = some e)
    (hR : R (.returned (.tuple #[])) ([(t, traceO lv sv bb (wrongNm nm 3 true))] :: F :: T)) :
    Does Try.prog 58 #[.pointer (some ⟨t, 0, none⟩), .pointer (some ⟨eb, eo + i * 19, none⟩), .pointer none] ([(t, traceO lv sv bb nm)] :: F :: T) R := by
  obtain ⟨⟨earr, eT, efr, hEm, hrow⟩, hnames⟩ := hE
  haveI hEB : ∀ {L R : Units} [Unit_ L F R], Has L eb (.cells earr eT efr) := fun {L R} h => ⟨h.ok.mem_iff.2 (by simp [hEm])⟩
  have hec : (evs.map Ev.cells)[i]? = some e.cells := by simp [he]
  refine does_of_wpC (args := [.pointer (some ⟨t, 0, none⟩), .pointer (some ⟨eb, eo + i * 19, none⟩), .pointer none]) Try.func58 rfl (by kernel_rfl) ?_
  cases hk : (e.kind == 12)
  all_goals
    repeat (first | (refine r_load (by rfl) ?_; refine LoadC.rowCell (b := eb) (q := 0) hrow hec rfl (by rfl) ?_) | refine c_seq ?_ | refine c_reg ?_ | refine r_nil ?_ | refine e_n ?_ | refine CutC.go ?_ | refine r_field (by rfl) (by rfl) ?_ | refine r_val (by rfl) ?_ | refine r_gT (by rfl) (by first | with_reducible assumption | decide) ?_ | refine r_gnT (by rfl) (by first | with_reducible assumption | decide) ?_ | refine r_pickT (by rfl) (by first | with_reducible assumption | decide) (by rfl) ?_ | refine r_pickF (by rfl) (by first | with_reducible assumption | decide) (by rfl) ?_ | refine c_no (by rfl) (by first | with_reducible assumption | decide) ?_ | refine c_skip ?_ | refine c_draw ?_)
    simp only [List.append_eq, List.cons_append, List.nil_append]
    refine d_tail 67 (by kernel_rfl) ?_
    simp only [List.take_succ_cons, List.take_zero, List.drop_succ_cons, List.drop_zero]
    repeat (first | (refine r_fun (by rfl) (by rfl) ?_; refine CallC.gives (g := 65) (wrong65 (t := t) (bb := bb) (lv := lv) (sv := sv) (nm := nm) 3 _) ?_) | (refine q_nil ?_) | refine c_seq ?_ | refine c_reg ?_ | refine r_nil ?_ | refine e_n ?_ | refine CutC.go ?_ | refine r_val (by rfl) ?_ | refine c_yes (by rfl) (by first | with_reducible assumption | decide) ?_ | refine c_ret ?_ | refine e_r ?_ | refine EndC.mk rfl ?_ | refine q_val (by rfl) ?_ | refine q_gnF (by rfl) (by first | with_reducible assumption | decide) ?_)
    exact hR
set_option maxHeartbeats 8000000 in
theorem mine_direct (hE : EvIn F eb eo evs ns) (i : Nat) (e : Ev) (d : List Int) (l : List Nm) (he : evs[i]? = some e) (hl : ns[i]? = some l) (hk : 8 ≤ e.kind ∧ e.kind ≤ 12)
    (s : JSt) (hv : ∀ v, s.vw = some v → v < evs.length) (hu : RowOk s.ur 6 (s.ups.map GM.cells)) (hn : s.ups.length ≤ 1000) (hb : ¬ (e.kind = 12 ∧ s.vw = none ∧ s.bf ≠ none))
    (hR : ∀ s' nm', Mined evs ns i e d l s nm s' nm' → ∀ M, Incl M (s'.mU eb eo t bb lv sv nm' F T) → R (.returned (.tuple #[])) M) :
    Does Try.prog 58 #[.pointer (some ⟨t, 0, none⟩), .pointer (some ⟨eb, eo + i * 19, none⟩), .pointer (some ⟨s.blk, 0, none⟩)] (s.mU eb eo t bb lv sv nm F T) R := by
  have key := fun f1 => mine_stay (t := t) (bb := bb) (lv := lv) (sv := sv) (nm := nm) (T := T) (R := R) hE i e d l he hl hk s hv hu hn hR f1
  clear hR
  obtain ⟨⟨earr, eT, efr, hEm, hrow⟩, hnames⟩ := hE
  haveI hEB : ∀ {L R : Units} [Unit_ L F R], Has L eb (.cells earr eT efr) := fun {L R} h => ⟨h.ok.mem_iff.2 (by simp [hEm])⟩
  have hec : (evs.map Ev.cells)[i]? = some e.cells := by simp [he]
  refine does_of_wpC (args := [.pointer (some ⟨t, 0, none⟩), .pointer (some ⟨eb, eo + i * 19, none⟩), .pointer (some ⟨s.blk, 0, none⟩)]) Try.func58 rfl (by kernel_rfl) ?_
  obtain ⟨blk, proc, epoch, rep, members, gr, gots, tr, nx, vw, va, rd, ur, ups, out, bf⟩ := s
  simp only at hb hv hu hn key ⊢
  generalize hgv : gr.val gots.length = gv at *
  generalize huv : ur.val ups.length = uv at *
  have fin : ∀ {f : Fr} {M : Units}, M = ({ blk := blk, proc := proc, epoch := epoch, rep := rep, members := members, gr := gr, gots := gots, tr := tr, nx := nx, vw := vw, va := va, rd := rd, ur := ur, ups := ups, out := out, bf := bf } : JSt).mU eb eo t bb lv sv nm F T → AllAt f [(0, .pointer (some ⟨t, 0, none⟩)), (1, .pointer (some ⟨eb, eo + i * 19, none⟩)), (2, .pointer (some ⟨blk, 0, none⟩))] → CutC Try.prog mineTail (bodyC Try.f58 R) f M := by
    rintro f M rfl ha
    exact CutC.over _ ha key
  clear key
  unfold JSt.mU JSt.obj at fin ⊢
  simp only [hgv, huv] at fin ⊢
  cases hk12 : (e.kind == 12)
  · repeat (first | (refine r_load (by rfl) ?_; refine LoadC.rowCell (b := eb) (q := 0) hrow hec rfl (by rfl) ?_) | refine c_seq ?_ | refine c_reg ?_ | refine r_nil ?_ | refine e_n ?_ | refine r_field (by rfl) (by rfl) ?_ | refine r_val (by rfl) ?_ | refine r_gnT (by rfl) (by first | with_reducible assumption | decide) ?_ | refine r_pickF (by rfl) (by first | with_reducible assumption | decide) (by rfl) ?_)
    refine CutC.go ?_
    repeat (first | refine e_n ?_ | refine c_no (by rfl) (by first | with_reducible assumption | decide) ?_ | refine c_skip ?_)
    exact fin rfl ⟨rfl, rfl, rfl, rfl⟩
  · have hk12' : e.kind = 12 := by simpa using hk12
    cases vw with
    | some v =>
      repeat (first | (refine r_load (by rfl) ?_; refine LoadC.rowCell (b := eb) (q := 0) hrow hec rfl (by rfl) ?_) | refine c_seq ?_ | refine c_reg ?_ | refine r_nil ?_ | refine e_n ?_ | refine r_field0 (by rfl) (by rfl) ?_ | refine r_field (by rfl) (by rfl) ?_ | refine r_val (by rfl) ?_ | (refine r_load (by rfl) ?_; refine LoadC.one (by rfl) (by rfl) ?_) | refine r_gT (by rfl) (by first | with_reducible assumption | decide) ?_ | refine r_gnT (by rfl) (by first | with_reducible assumption | decide) ?_ | refine r_pickT (by rfl) (by first | with_reducible assumption | decide) (by rfl) ?_)
      refine CutC.go ?_
      repeat (first | refine e_n ?_ | refine c_no (by rfl) (by first | with_reducible assumption | decide) ?_ | refine c_skip ?_)
      exact fin rfl ⟨rfl, rfl, rfl, rfl⟩
    | none =>
      cases bf with
      | none =>
        repeat (first | (refine r_load (by rfl) ?_; refine LoadC.rowCell (b := eb) (q := 0) hrow hec rfl (by rfl) ?_) | refine c_seq ?_ | refine c_reg ?_ | refine r_nil ?_ | refine e_n ?_ | refine r_field0 (by rfl) (by rfl) ?_ | refine r_field (by rfl) (by rfl) ?_ | refine r_val (by rfl) ?_ | (refine r_load (by rfl) ?_; refine LoadC.one (by rfl) (by rfl) ?_) | refine r_gT (by rfl) (by first | with_reducible assumption | decide) ?_ | refine r_pickT (by rfl) (by first | with_reducible assumption | decide) (by rfl) ?_)
        refine CutC.go ?_
        repeat (first | refine e_n ?_ | refine c_no (by rfl) (by first | with_reducible assumption | decide) ?_ | refine c_skip ?_)
        exact fin rfl ⟨rfl, rfl, rfl, rfl⟩
      | some b => exact absurd ⟨hk12', rfl, by simp⟩ hb
set_option maxHeartbeats 8000000 in
theorem mine_before (hE : EvIn F eb eo evs ns) (i : Nat) (e : Ev) (d : List Int) (l : List Nm) (he : evs[i]? = some e) (hl : ns[i]? = some l) (hk : e.kind = 12)
    (s b : JSt) (hsv : s.vw = none) (hsb : s.bf = some b.blk) (hv : ∀ v, b.vw = some v → v < evs.length) (hu : RowOk b.ur 6 (b.ups.map GM.cells)) (hn : b.ups.length ≤ 1000)
    (hS : ∀ {nm : Int}, Has (b.mU eb eo t bb lv sv nm F T) s.blk (s.obj eb eo))
    (hR : ∀ s' nm', Mined evs ns i e d l b nm s' nm' → ∀ M, Incl M (s'.mU eb eo t bb lv sv nm' F T) → R (.returned (.tuple #[])) M) :
    Does Try.prog 58 #[.pointer (some ⟨t, 0, none⟩), .pointer (some ⟨eb, eo + i * 19, none⟩), .pointer (some ⟨s.blk, 0, none⟩)] (b.mU eb eo t bb lv sv nm F T) R := by
  have key := fun f1 => mine_stay (t := t) (bb := bb) (lv := lv) (sv := sv) (nm := nm) (T := T) (R := R) hE i e d l he hl (by omega) b hv hu hn hR f1
  clear hR
  obtain ⟨⟨earr, eT, efr, hEm, hrow⟩, hnames⟩ := hE
  haveI hEB : ∀ {L R : Units} [Unit_ L F R], Has L eb (.cells earr eT efr) := fun {L R} h => ⟨h.ok.mem_iff.2 (by simp [hEm])⟩
  have hec : (evs.map Ev.cells)[i]? = some e.cells := by simp [he]
  refine does_of_wpC (args := [.pointer (some ⟨t, 0, none⟩), .pointer (some ⟨eb, eo + i * 19, none⟩), .pointer (some ⟨s.blk, 0, none⟩)]) Try.func58 rfl (by kernel_rfl) ?_
  obtain ⟨blk, proc, epoch, rep, members, gr, gots, tr, nx, vw, va, rd, ur, ups, out, bf⟩ := s
  simp only at hsv hsb hS ⊢
  subst hsv hsb
  have hk12 : (e.kind == 12) = true := by simp [hk]
  have fin : ∀ {f : Fr}, AllAt f [(0, .pointer (some ⟨t, 0, none⟩)), (1, .pointer (some ⟨eb, eo + i * 19, none⟩)), (2, .pointer (some ⟨b.blk, 0, none⟩))] → CutC Try.prog mineTail (bodyC Try.f58 R) f (b.mU eb eo t bb lv sv nm F T) := by
    rintro f ha
    exact CutC.over _ ha key
  clear key
  haveI hE' : Has (b.mU eb eo t bb lv sv nm F T) eb (.cells earr eT efr) := hEB
  haveI hS' := hS (nm := nm)
  unfold JSt.obj at hS'
  generalize b.mU eb eo t bb lv sv nm F T = U at *
  repeat (first | (refine r_load (by rfl) ?_; refine LoadC.rowCell (b := eb) (q := 0) hrow hec rfl (by rfl) ?_) | refine c_seq ?_ | refine c_reg ?_ | refine r_nil ?_ | refine e_n ?_ | refine r_field0 (by rfl) (by rfl) ?_ | refine r_field (by rfl) (by rfl) ?_ | refine r_val (by rfl) ?_ | (refine r_load (by rfl) ?_; refine LoadC.one (by rfl) (by rfl) ?_) | refine r_gT (by rfl) (by first | with_reducible assumption | decide) ?_ | refine r_pickT (by rfl) (by first | with_reducible assumption | decide) (by rfl) ?_)
  refine CutC.go ?_
  repeat (first | refine c_reg ?_ | refine r_nil ?_ | refine e_n ?_ | refine r_field0 (by rfl) (by rfl) ?_ | refine r_val (by rfl) ?_ | (refine r_load (by rfl) ?_; refine LoadC.one (by rfl) (by rfl) ?_) | refine c_yes (by rfl) (by first | with_reducible assumption | decide) ?_)
  exact fin ⟨rfl, rfl, rfl, rfl⟩
end
end Go.Proofs.Ythijlgjfgliinaa
end
