/- Part 47 of the proof of what MonJudges says. -/
import Derived.Test.YthijlgjfgliinaaJg44
section
/- The judge: together (29): what two stays differ in. -/
set_option linter.all false
namespace Go.W
variable [Env]
section
variable {P : Program} {ops : Array Oper} {Q : Exit → Fr → Units → Prop} {L : Units} {d : Tmp} {ty : TypeId} {pos : String} {af : Array Edge} {l : List (Nat × Value)} {base : Nat → Value} {df : List Deferred}
theorem any_pickT {i : Nat} {c x y : Operand} {t : Bool} {v : Value} {fuel : Nat} {listed : Array Bool} (hp : PanicFree Q) (hi : ops[i]? = some ⟨some d, .pick c x y, ty, pos, af, none⟩) (hc : (Region.noSelect ops && Region.free .any ops listed i && (Region.ready .any ops listed).contains i) = true)
    (hcv : (⟨l, base, df⟩ : Fr).ev c = .bool t) (ht : t = true) (hv : forceV 3 ((⟨l, base, df⟩ : Fr).ev x) = some v) (k : anyC P ops Q fuel (listed.setIfInBounds i true) ⟨(d, v) :: l, base, df⟩ L) : anyC P ops Q (fuel + 1) listed ⟨l, base, df⟩ L :=
  any_val hp hi hc (fun w => by rw [run_pick rfl hcv w, ht, forceV_eq _ _ _ hv]; rfl) k
theorem any_pickF {i : Nat} {c x y : Operand} {t : Bool} {v : Value} {fuel : Nat} {listed : Array Bool} (hp : PanicFree Q) (hi : ops[i]? = some ⟨some d, .pick c x y, ty, pos, af, none⟩) (hc : (Region.noSelect ops && Region.free .any ops listed i && (Region.ready .any ops listed).contains i) = true)
    (hcv : (⟨l, base, df⟩ : Fr).ev c = .bool t) (ht : t = false) (hv : forceV 3 ((⟨l, base, df⟩ : Fr).ev y) = some v) (k : anyC P ops Q fuel (listed.setIfInBounds i true) ⟨(d, v) :: l, base, df⟩ L) : anyC P ops Q (fuel + 1) listed ⟨l, base, df⟩ L :=
  any_val hp hi hc (fun w => by rw [run_pick rfl hcv w, ht, forceV_eq _ _ _ hv]; rfl) k
end
end Go.W
namespace Go.Proofs.Ythijlgjfgliinaa
open Go.RowKit
open Go.W
variable [Env]
theorem partJ_ok {F : Blocks} {gs : List JGot} (h : ∀ j ∈ gs, j.g.ok F) (t : Bool) : ∀ g ∈ partJ gs t, g.ok F := by
  intro g hg
  unfold partJ at hg
  obtain ⟨j, hj, rfl⟩ := List.mem_map.1 hg
  exact h j (List.mem_filter.1 hj).1
theorem partJ_len (gs : List JGot) (t : Bool) : (partJ gs t).length ≤ gs.length := by
  unfold partJ
  rw [List.length_map]
  exact List.length_filter_le _ _
attribute [local irreducible] opsC wpC quietC LoopC DrawC CutC LoadC StoreC ReadC UpdC RunC CallC QCallC EndC thenC inBlockC
set_option maxRecDepth 100000
set_option synthInstance.maxHeartbeats 400000
section
variable {F : Blocks} {T : Units} {t bb eb eo : Nat} {lval : Value} {nm : Int} {g1 : GMap Int Bool} {Q : Exit → Fr → Units → Prop} {stays : List JSt} {stR : Row} {n sc i j : Nat} {sa : Option Addr} {a b : JSt} {gaa gab : Option Addr} {gca gcb : Nat}
  {earr : Array Value} {eT : TypeId} {efr : Nat × Nat} {evs : List Ev}
set_option maxHeartbeats 32000000 in
theorem tog_eqA (hP : PanicFree Q) (ha : a ∈ stays) (hb : b ∈ stays) (hga' : a.gr.val a.gots.length = .slice gaa a.gots.length gca) (hgb' : b.gr.val b.gots.length = .slice gab b.gots.length gcb)
    (hsa : SlIn (JU eb eo stays) gaa a.gots.length 8 (a.gots.map JGot.cells)) (hsb : SlIn (JU eb eo stays) gab b.gots.length 8 (b.gots.map JGot.cells)) (hga : ∀ j ∈ a.gots, j.g.ok F) (hgb : ∀ j ∈ b.gots, j.g.ok F) (hla : a.gots.length ≤ 1000) (hlb : b.gots.length ≤ 1000)
    (hEm : (eb, Obj.cells earr eT efr) ∈ F) (hrow : Go.RowAt earr eo 19 (evs.map Ev.cells)) (ea eb' : Ev) (u v : Nat) (c5 : a.tr = some u) (c6 : b.tr = some v) (hea : evs[u]? = some ea) (heb : evs[v]? = some eb') (hc0 : (ea.members != eb'.members) = true)
    (hN : ∀ f' M, AllAt f' (tSL t sa n sc i j a b) → Incl M (OnL t bb eb eo lval (.slice sa n sc) nm (GMap.bad g1 5 true) stR stays F T) → Q .normal f' M) (f0 : Nat → Value) :
    wpC Try.prog togEq Q (Fr.over f0 (tSL t sa n sc i j a b)) (OnL t bb eb eo lval (.slice sa n sc) nm g1 stR stays F T) := by
  haveI hEB : ∀ {L R : Units} [Unit_ L F R], Has L eb (.cells earr eT efr) := fun {L R} h => ⟨h.ok.mem_iff.2 (by simp [hEm])⟩
  have hqa : (evs.map Ev.cells)[u]? = some ea.cells := by simp [hea]
  have hqb : (evs.map Ev.cells)[v]? = some eb'.cells := by simp [heb]
  haveI hA : ∀ {L R : Units} [Unit_ L (JU eb eo stays) R], Has L a.blk (stO eb eo a (.slice gaa a.gots.length gca) (a.ur.val a.ups.length) (.pointer (some ⟨eb, eo + u * 19, none⟩)) (evp eb eo a.nx)) := fun {L R} h => has_stO ha hga' (by rw [c5]; rfl) rfl h
  haveI hB : ∀ {L R : Units} [Unit_ L (JU eb eo stays) R], Has L b.blk (stO eb eo b (.slice gab b.gots.length gcb) (b.ur.val b.ups.length) (.pointer (some ⟨eb, eo + v * 19, none⟩)) (evp eb eo b.nx)) := fun {L R} h => has_stO hb hgb' (by rw [c6]; rfl) rfl h
  repeat (first | refine c_draw ?_)
  refine any_start (by kernel_rfl) (by rfl) (by rfl) ?_
  refine any_have (γ := Unit) 16 [true, true, true, true, true, true, true, true, true, true, true, true, true, true, true, true, true, false, false, false, false, false, false, false, false, false, false, false, false, false, false, false, false] (fun _ => True) (fun _ => (94, .pointer (some ⟨t, 0, none⟩)) :: (110, .bool true) :: tSL t sa n sc i j a b) (fun _ => OnL t bb eb eo lval (.slice sa n sc) nm g1 stR stays F T) ?_ (fun H => ?_)
  · rintro ⟨⟩ _ f1
    dsimp only
    refine any_skipG (i := 17) (by repeat (first | exact hP | exact panicFree_body | refine panicFree_then ?_ | refine panicFree_block ?_)) (by rfl) (by kernel_rfl) (by rfl) (by first | with_reducible assumption | decide | exact hc1) ?_
    refine any_skipG (i := 19) (by repeat (first | exact hP | exact panicFree_body | refine panicFree_then ?_ | refine panicFree_block ?_)) (by rfl) (by kernel_rfl) (by rfl) (by first | with_reducible assumption | decide | exact hc1) ?_
    refine any_skipG (i := 18) (by repeat (first | exact hP | exact panicFree_body | refine panicFree_then ?_ | refine panicFree_block ?_)) (by rfl) (by kernel_rfl) (by rfl) (by first | with_reducible assumption | decide | exact hc1) ?_
    refine any_skipG (i := 20) (by repeat (first | exact hP | exact panicFree_body | refine panicFree_then ?_ | refine panicFree_block ?_)) (by rfl) (by kernel_rfl) (by rfl) (by first | with_reducible assumption | decide | exact hc1) ?_
    refine any_skipG (i := 21) (by repeat (first | exact hP | exact panicFree_body | refine panicFree_then ?_ | refine panicFree_block ?_)) (by rfl) (by kernel_rfl) (by rfl) (by first | with_reducible assumption | decide | exact hc1) ?_
    refine any_skipG (i := 22) (by repeat (first | exact hP | exact panicFree_body | refine panicFree_then ?_ | refine panicFree_block ?_)) (by rfl) (by kernel_rfl) (by rfl) (by first | with_reducible assumption | decide | exact hc1) ?_
    refine any_pickT (i := 23) (by repeat (first | exact hP | exact panicFree_body | refine panicFree_then ?_ | refine panicFree_block ?_)) (by rfl) (by kernel_rfl) (by rfl) (by first | with_reducible assumption | decide | exact hc1) (by rfl) ?_
    refine any_val (i := 24) (by repeat (first | exact hP | exact panicFree_body | refine panicFree_then ?_ | refine panicFree_block ?_)) (by rfl) (by kernel_rfl) (by first | exact run_fieldAddr rfl (by rfl) (by rfl) | exact run_buildL rfl rfl (by rfl) (by rfl) | exact pureV_run (by rfl)) ?_
    refine any_skipG (i := 25) (by repeat (first | exact hP | exact panicFree_body | refine panicFree_then ?_ | refine panicFree_block ?_)) (by rfl) (by kernel_rfl) (by rfl) (by first | with_reducible assumption | decide | exact hc1) ?_
    refine any_skipG (i := 27) (by repeat (first | exact hP | exact panicFree_body | refine panicFree_then ?_ | refine panicFree_block ?_)) (by rfl) (by kernel_rfl) (by rfl) (by first | with_reducible assumption | decide | exact hc1) ?_
    refine any_skipG (i := 26) (by repeat (first | exact hP | exact panicFree_body | refine panicFree_then ?_ | refine panicFree_block ?_)) (by rfl) (by kernel_rfl) (by rfl) (by first | with_reducible assumption | decide | exact hc1) ?_
    refine any_skipG (i := 28) (by repeat (first | exact hP | exact panicFree_body | refine panicFree_then ?_ | refine panicFree_block ?_)) (by rfl) (by kernel_rfl) (by rfl) (by first | with_reducible assumption | decide | exact hc1) ?_
    refine any_skipG (i := 29) (by repeat (first | exact hP | exact panicFree_body | refine panicFree_then ?_ | refine panicFree_block ?_)) (by rfl) (by kernel_rfl) (by rfl) (by first | with_reducible assumption | decide | exact hc1) ?_
    refine any_skipG (i := 30) (by repeat (first | exact hP | exact panicFree_body | refine panicFree_then ?_ | refine panicFree_block ?_)) (by rfl) (by kernel_rfl) (by rfl) (by first | with_reducible assumption | decide | exact hc1) ?_
    refine any_pickT (i := 31) (by repeat (first | exact hP | exact panicFree_body | refine panicFree_then ?_ | refine panicFree_block ?_)) (by rfl) (by kernel_rfl) (by rfl) (by first | with_reducible assumption | decide | exact hc1) (by rfl) ?_
    refine any_all [32] (by kernel_rfl) rfl ⟨⟨_, rfl, ?_⟩, trivial⟩
    refine r_fun (by rfl) (by rfl) ?_
    refine CallC.gives (g := 45) (breaks45 (t := t) (bb := bb) (lv := lval) (sv := .slice sa n sc) (nm := nm) (g := g1) 5 _) ?_
    refine r_nil ?_
    refine e_n ?_
    refine any_done (by kernel_rfl) ?_
    exact hN _ _ ⟨rfl, rfl, rfl, rfl, rfl, rfl, rfl, rfl, rfl, rfl, rfl⟩ Incl.of
  · refine any_val (i := 0) (by repeat (first | exact hP | exact panicFree_body | refine panicFree_then ?_ | refine panicFree_block ?_)) (by rfl) (by kernel_rfl) (by first | exact run_fieldAddr rfl (by rfl) (by rfl) | exact run_buildL rfl rfl (by rfl) (by rfl) | exact pureV_run (by rfl)) ?_
    refine any_val (i := 1) (by repeat (first | exact hP | exact panicFree_body | refine panicFree_then ?_ | refine panicFree_block ?_)) (by rfl) (by kernel_rfl) (by first | exact run_fieldAddr rfl (by rfl) (by rfl) | exact run_buildL rfl rfl (by rfl) (by rfl) | exact pureV_run (by rfl)) ?_
    refine any_val (i := 2) (by repeat (first | exact hP | exact panicFree_body | refine panicFree_then ?_ | refine panicFree_block ?_)) (by rfl) (by kernel_rfl) (by first | exact run_fieldAddr rfl (by rfl) (by rfl) | exact run_buildL rfl rfl (by rfl) (by rfl) | exact pureV_run (by rfl)) ?_
    refine any_val (i := 3) (by repeat (first | exact hP | exact panicFree_body | refine panicFree_then ?_ | refine panicFree_block ?_)) (by rfl) (by kernel_rfl) (by first | exact run_fieldAddr rfl (by rfl) (by rfl) | exact run_buildL rfl rfl (by rfl) (by rfl) | exact pureV_run (by rfl)) ?_
    refine any_val (i := 8) (by repeat (first | exact hP | exact panicFree_body | refine panicFree_then ?_ | refine panicFree_block ?_)) (by rfl) (by kernel_rfl) (by first | exact run_fieldAddr rfl (by rfl) (by rfl) | exact run_buildL rfl rfl (by rfl) (by rfl) | exact pureV_run (by rfl)) ?_
    refine any_val (i := 9) (by repeat (first | exact hP | exact panicFree_body | refine panicFree_then ?_ | refine panicFree_block ?_)) (by rfl) (by kernel_rfl) (by first | exact run_fieldAddr rfl (by rfl) (by rfl) | exact run_buildL rfl rfl (by rfl) (by rfl) | exact pureV_run (by rfl)) ?_
    refine any_val (i := 10) (by repeat (first | exact hP | exact panicFree_body | refine panicFree_then ?_ | refine panicFree_block ?_)) (by rfl) (by kernel_rfl) (by first | exact run_fieldAddr rfl (by rfl) (by rfl) | exact run_buildL rfl rfl (by rfl) (by rfl) | exact pureV_run (by rfl)) ?_
    refine any_all [4, 11] (by kernel_rfl) rfl ⟨⟨_, rfl, ?_⟩, ⟨_, rfl, ?_⟩, trivial⟩
    · (refine r_load (by rfl) ?_; refine LoadC.one (by rfl) (by rfl) ?_)
      refine r_nil ?_
      refine e_n ?_
      refine any_val (i := 5) (by repeat (first | exact hP | exact panicFree_body | refine panicFree_then ?_ | refine panicFree_block ?_)) (by rfl) (by kernel_rfl) (by first | exact run_fieldAddr rfl (by rfl) (by rfl) | exact run_buildL rfl rfl (by rfl) (by rfl) | exact pureV_run (by rfl)) ?_
      refine any_val (i := 6) (by repeat (first | exact hP | exact panicFree_body | refine panicFree_then ?_ | refine panicFree_block ?_)) (by rfl) (by kernel_rfl) (by first | exact run_fieldAddr rfl (by rfl) (by rfl) | exact run_buildL rfl rfl (by rfl) (by rfl) | exact pureV_run (by rfl)) ?_
      refine any_all [7, 11] (by kernel_rfl) rfl ⟨⟨_, rfl, ?_⟩, ⟨_, rfl, ?_⟩, trivial⟩
      · (refine r_load (by rfl) ?_; refine LoadC.rowCell (b := eb) (q := 6) hrow hqa rfl (by rfl) ?_)
        refine r_nil ?_
        refine e_n ?_
        refine any_all [11] (by kernel_rfl) rfl ⟨⟨_, rfl, ?_⟩, trivial⟩
        (refine r_load (by rfl) ?_; refine LoadC.one (by rfl) (by rfl) ?_)
        refine r_nil ?_
        refine e_n ?_
        refine any_val (i := 12) (by repeat (first | exact hP | exact panicFree_body | refine panicFree_then ?_ | refine panicFree_block ?_)) (by rfl) (by kernel_rfl) (by first | exact run_fieldAddr rfl (by rfl) (by rfl) | exact run_buildL rfl rfl (by rfl) (by rfl) | exact pureV_run (by rfl)) ?_
        refine any_val (i := 13) (by repeat (first | exact hP | exact panicFree_body | refine panicFree_then ?_ | refine panicFree_block ?_)) (by rfl) (by kernel_rfl) (by first | exact run_fieldAddr rfl (by rfl) (by rfl) | exact run_buildL rfl rfl (by rfl) (by rfl) | exact pureV_run (by rfl)) ?_
        refine any_all [14] (by kernel_rfl) rfl ⟨⟨_, rfl, ?_⟩, trivial⟩
        (refine r_load (by rfl) ?_; refine LoadC.rowCell (b := eb) (q := 6) hrow hqb rfl (by rfl) ?_)
        refine r_nil ?_
        refine e_n ?_
        refine any_val (i := 15) (by repeat (first | exact hP | exact panicFree_body | refine panicFree_then ?_ | refine panicFree_block ?_)) (by rfl) (by kernel_rfl) (by first | exact run_fieldAddr rfl (by rfl) (by rfl) | exact run_buildL rfl rfl (by rfl) (by rfl) | exact pureV_run (by rfl)) ?_
        refine any_val (i := 16) (by repeat (first | exact hP | exact panicFree_body | refine panicFree_then ?_ | refine panicFree_block ?_)) (by rfl) (by kernel_rfl) (by first | exact run_fieldAddr rfl (by rfl) (by rfl) | exact run_buildL rfl rfl (by rfl) (by rfl) | exact pureV_run (by rfl)) ?_
        exact any_meet H (MeetC.mk () trivial ⟨rfl, congrArg Value.bool hc0, rfl, rfl, rfl, rfl, rfl, rfl, rfl, rfl, rfl, rfl, rfl⟩ (Incl.refl _))
      · (refine r_load (by rfl) ?_; refine LoadC.one (by rfl) (by rfl) ?_)
        refine r_nil ?_
        refine e_n ?_
        refine any_val (i := 12) (by repeat (first | exact hP | exact panicFree_body | refine panicFree_then ?_ | refine panicFree_block ?_)) (by rfl) (by kernel_rfl) (by first | exact run_fieldAddr rfl (by rfl) (by rfl) | exact run_buildL rfl rfl (by rfl) (by rfl) | exact pureV_run (by rfl)) ?_
        refine any_val (i := 13) (by repeat (first | exact hP | exact panicFree_body | refine panicFree_then ?_ | refine panicFree_block ?_)) (by rfl) (by kernel_rfl) (by first | exact run_fieldAddr rfl (by rfl) (by rfl) | exact run_buildL rfl rfl (by rfl) (by rfl) | exact pureV_run (by rfl)) ?_
        refine any_all [7, 14] (by kernel_rfl) rfl ⟨⟨_, rfl, ?_⟩, ⟨_, rfl, ?_⟩, trivial⟩
        · (refine r_load (by rfl) ?_; refine LoadC.rowCell (b := eb) (q := 6) hrow hqa rfl (by rfl) ?_)
          refine r_nil ?_
          refine e_n ?_
          refine any_all [14] (by kernel_rfl) rfl ⟨⟨_, rfl, ?_⟩, trivial⟩
          (refine r_load (by rfl) ?_; refine LoadC.rowCell (b := eb) (q := 6) hrow hqb rfl (by rfl) ?_)
          refine r_nil ?_
          refine e_n ?_
          refine any_val (i := 15) (by repeat (first | exact hP | exact panicFree_body | refine panicFree_then ?_ | refine panicFree_block ?_)) (by rfl) (by kernel_rfl) (by first | exact run_fieldAddr rfl (by rfl) (by rfl) | exact run_buildL rfl rfl (by rfl) (by rfl) | exact pureV_run (by rfl)) ?_
          refine any_val (i := 16) (by repeat (first | exact hP | exact panicFree_body | refine panicFree_then ?_ | refine panicFree_block ?_)) (by rfl) (by kernel_rfl) (by first | exact run_fieldAddr rfl (by rfl) (by rfl) | exact run_buildL rfl rfl (by rfl) (by rfl) | exact pureV_run (by rfl)) ?_
          exact any_meet H (MeetC.mk () trivial ⟨rfl, congrArg Value.bool hc0, rfl, rfl, rfl, rfl, rfl, rfl, rfl, rfl, rfl, rfl, rfl⟩ (Incl.refl _))
        · (refine r_load (by rfl) ?_; refine LoadC.rowCell (b := eb) (q := 6) hrow hqb rfl (by rfl) ?_)
          refine r_nil ?_
          refine e_n ?_
          refine any_all [7] (by kernel_rfl) rfl ⟨⟨_, rfl, ?_⟩, trivial⟩
          (refine r_load (by rfl) ?_; refine LoadC.rowCell (b := eb) (q := 6) hrow hqa rfl (by rfl) ?_)
          refine r_nil ?_
          refine e_n ?_
          refine any_val (i := 15) (by repeat (first | exact hP | exact panicFree_body | refine panicFree_then ?_ | refine panicFree_block ?_)) (by rfl) (by kernel_rfl) (by first | exact run_fieldAddr rfl (by rfl) (by rfl) | exact run_buildL rfl rfl (by rfl) (by rfl) | exact pureV_run (by rfl)) ?_
          refine any_val (i := 16) (by repeat (first | exact hP | exact panicFree_body | refine panicFree_then ?_ | refine panicFree_block ?_)) (by rfl) (by kernel_rfl) (by first | exact run_fieldAddr rfl (by rfl) (by rfl) | exact run_buildL rfl rfl (by rfl) (by rfl) | exact pureV_run (by rfl)) ?_
          exact any_meet H (MeetC.mk () trivial ⟨rfl, congrArg Value.bool hc0, rfl, rfl, rfl, rfl, rfl, rfl, rfl, rfl, rfl, rfl, rfl⟩ (Incl.refl _))
    · (refine r_load (by rfl) ?_; refine LoadC.one (by rfl) (by rfl) ?_)
      refine r_nil ?_
      refine e_n ?_
      refine any_val (i := 12) (by repeat (first | exact hP | exact panicFree_body | refine panicFree_then ?_ | refine panicFree_block ?_)) (by rfl) (by kernel_rfl) (by first | exact run_fieldAddr rfl (by rfl) (by rfl) | exact run_buildL rfl rfl (by rfl) (by rfl) | exact pureV_run (by rfl)) ?_
      refine any_val (i := 13) (by repeat (first | exact hP | exact panicFree_body | refine panicFree_then ?_ | refine panicFree_block ?_)) (by rfl) (by kernel_rfl) (by first | exact run_fieldAddr rfl (by rfl) (by rfl) | exact run_buildL rfl rfl (by rfl) (by rfl) | exact pureV_run (by rfl)) ?_
      refine any_all [4, 14] (by kernel_rfl) rfl ⟨⟨_, rfl, ?_⟩, ⟨_, rfl, ?_⟩, trivial⟩
      · (refine r_load (by rfl) ?_; refine LoadC.one (by rfl) (by rfl) ?_)
        refine r_nil ?_
        refine e_n ?_
        refine any_val (i := 5) (by repeat (first | exact hP | exact panicFree_body | refine panicFree_then ?_ | refine panicFree_block ?_)) (by rfl) (by kernel_rfl) (by first | exact run_fieldAddr rfl (by rfl) (by rfl) | exact run_buildL rfl rfl (by rfl) (by rfl) | exact pureV_run (by rfl)) ?_
        refine any_val (i := 6) (by repeat (first | exact hP | exact panicFree_body | refine panicFree_then ?_ | refine panicFree_block ?_)) (by rfl) (by kernel_rfl) (by first | exact run_fieldAddr rfl (by rfl) (by rfl) | exact run_buildL rfl rfl (by rfl) (by rfl) | exact pureV_run (by rfl)) ?_
        refine any_all [7, 14] (by kernel_rfl) rfl ⟨⟨_, rfl, ?_⟩, ⟨_, rfl, ?_⟩, trivial⟩
        · (refine r_load (by rfl) ?_; refine LoadC.rowCell (b := eb) (q := 6) hrow hqa rfl (by rfl) ?_)
          refine r_nil ?_
          refine e_n ?_
          refine any_all [14] (by kernel_rfl) rfl ⟨⟨_, rfl, ?_⟩, trivial⟩
          (refine r_load (by rfl) ?_; refine LoadC.rowCell (b := eb) (q := 6) hrow hqb rfl (by rfl) ?_)
          refine r_nil ?_
          refine e_n ?_
          refine any_val (i := 15) (by repeat (first | exact hP | exact panicFree_body | refine panicFree_then ?_ | refine panicFree_block ?_)) (by rfl) (by kernel_rfl) (by first | exact run_fieldAddr rfl (by rfl) (by rfl) | exact run_buildL rfl rfl (by rfl) (by rfl) | exact pureV_run (by rfl)) ?_
          refine any_val (i := 16) (by repeat (first | exact hP | exact panicFree_body | refine panicFree_then ?_ | refine panicFree_block ?_)) (by rfl) (by kernel_rfl) (by first | exact run_fieldAddr rfl (by rfl) (by rfl) | exact run_buildL rfl rfl (by rfl) (by rfl) | exact pureV_run (by rfl)) ?_
          exact any_meet H (MeetC.mk () trivial ⟨rfl, congrArg Value.bool hc0, rfl, rfl, rfl, rfl, rfl, rfl, rfl, rfl, rfl, rfl, rfl⟩ (Incl.refl _))
        · (refine r_load (by rfl) ?_; refine LoadC.rowCell (b := eb) (q := 6) hrow hqb rfl (by rfl) ?_)
          refine r_nil ?_
          refine e_n ?_
          refine any_all [7] (by kernel_rfl) rfl ⟨⟨_, rfl, ?_⟩, trivial⟩
          (refine r_load (by rfl) ?_; refine LoadC.rowCell (b := eb) (q := 6) hrow hqa rfl (by rfl) ?_)
          refine r_nil ?_
          refine e_n ?_
          refine any_val (i := 15) (by repeat (first | exact hP | exact panicFree_body | refine panicFree_then ?_ | refine panicFree_block ?_)) (by rfl) (by kernel_rfl) (by first | exact run_fieldAddr rfl (by rfl) (by rfl) | exact run_buildL rfl rfl (by rfl) (by rfl) | exact pureV_run (by rfl)) ?_
          refine any_val (i := 16) (by repeat (first | exact hP | exact panicFree_body | refine panicFree_then ?_ | refine panicFree_block ?_)) (by rfl) (by kernel_rfl) (by first | exact run_fieldAddr rfl (by rfl) (by rfl) | exact run_buildL rfl rfl (by rfl) (by rfl) | exact pureV_run (by rfl)) ?_
          exact any_meet H (MeetC.mk () trivial ⟨rfl, congrArg Value.bool hc0, rfl, rfl, rfl, rfl, rfl, rfl, rfl, rfl, rfl, rfl, rfl⟩ (Incl.refl _))
      · (refine r_load (by rfl) ?_; refine LoadC.rowCell (b := eb) (q := 6) hrow hqb rfl (by rfl) ?_)
        refine r_nil ?_
        refine e_n ?_
        refine any_all [4] (by kernel_rfl) rfl ⟨⟨_, rfl, ?_⟩, trivial⟩
        (refine r_load (by rfl) ?_; refine LoadC.one (by rfl) (by rfl) ?_)
        refine r_nil ?_
        refine e_n ?_
        refine any_val (i := 5) (by repeat (first | exact hP | exact panicFree_body | refine panicFree_then ?_ | refine panicFree_block ?_)) (by rfl) (by kernel_rfl) (by first | exact run_fieldAddr rfl (by rfl) (by rfl) | exact run_buildL rfl rfl (by rfl) (by rfl) | exact pureV_run (by rfl)) ?_
        refine any_val (i := 6) (by repeat (first | exact hP | exact panicFree_body | refine panicFree_then ?_ | refine panicFree_block ?_)) (by rfl) (by kernel_rfl) (by first | exact run_fieldAddr rfl (by rfl) (by rfl) | exact run_buildL rfl rfl (by rfl) (by rfl) | exact pureV_run (by rfl)) ?_
        refine any_all [7] (by kernel_rfl) rfl ⟨⟨_, rfl, ?_⟩, trivial⟩
        (refine r_load (by rfl) ?_; refine LoadC.rowCell (b := eb) (q := 6) hrow hqa rfl (by rfl) ?_)
        refine r_nil ?_
        refine e_n ?_
        refine any_val (i := 15) (by repeat (first | exact hP | exact panicFree_body | refine panicFree_then ?_ | refine panicFree_block ?_)) (by rfl) (by kernel_rfl) (by first | exact run_fieldAddr rfl (by rfl) (by rfl) | exact run_buildL rfl rfl (by rfl) (by rfl) | exact pureV_run (by rfl)) ?_
        refine any_val (i := 16) (by repeat (first | exact hP | exact panicFree_body | refine panicFree_then ?_ | refine panicFree_block ?_)) (by rfl) (by kernel_rfl) (by first | exact run_fieldAddr rfl (by rfl) (by rfl) | exact run_buildL rfl rfl (by rfl) (by rfl) | exact pureV_run (by rfl)) ?_
        exact any_meet H (MeetC.mk () trivial ⟨rfl, congrArg Value.bool hc0, rfl, rfl, rfl, rfl, rfl, rfl, rfl, rfl, rfl, rfl, rfl⟩ (Incl.refl _))
set_option maxHeartbeats 32000000 in
theorem tog_eqB (hP : PanicFree Q) (ha : a ∈ stays) (hb : b ∈ stays) (hga' : a.gr.val a.gots.length = .slice gaa a.gots.length gca) (hgb' : b.gr.val b.gots.length = .slice gab b.gots.length gcb)
    (hsa : SlIn (JU eb eo stays) gaa a.gots.length 8 (a.gots.map JGot.cells)) (hsb : SlIn (JU eb eo stays) gab b.gots.length 8 (b.gots.map JGot.cells)) (hga : ∀ j ∈ a.gots, j.g.ok F) (hgb : ∀ j ∈ b.gots, j.g.ok F) (hla : a.gots.length ≤ 1000) (hlb : b.gots.length ≤ 1000)
    (hEm : (eb, Obj.cells earr eT efr) ∈ F) (hrow : Go.RowAt earr eo 19 (evs.map Ev.cells)) (ea eb' : Ev) (u v : Nat) (c5 : a.tr = some u) (c6 : b.tr = some v) (hea : evs[u]? = some ea) (heb : evs[v]? = some eb') (hc0 : (ea.members != eb'.members) = false) (hc1 : (!eqMgs ((partJ a.gots false).map GM.mg) ((partJ b.gots false).map GM.mg)) = true)
    (hN : ∀ f' M, AllAt f' (tSL t sa n sc i j a b) → Incl M (OnL t bb eb eo lval (.slice sa n sc) nm (GMap.bad g1 5 true) stR stays F T) → Q .normal f' M) (f0 : Nat → Value) :
    wpC Try.prog togEq Q (Fr.over f0 (tSL t sa n sc i j a b)) (OnL t bb eb eo lval (.slice sa n sc) nm g1 stR stays F T) := by
  haveI hEB : ∀ {L R : Units} [Unit_ L F R], Has L eb (.cells earr eT efr) := fun {L R} h => ⟨h.ok.mem_iff.2 (by simp [hEm])⟩
  have hqa : (evs.map Ev.cells)[u]? = some ea.cells := by simp [hea]
  have hqb : (evs.map Ev.cells)[v]? = some eb'.cells := by simp [heb]
  haveI hA : ∀ {L R : Units} [Unit_ L (JU eb eo stays) R], Has L a.blk (stO eb eo a (.slice gaa a.gots.length gca) (a.ur.val a.ups.length) (.pointer (some ⟨eb, eo + u * 19, none⟩)) (evp eb eo a.nx)) := fun {L R} h => has_stO ha hga' (by rw [c5]; rfl) rfl h
  haveI hB : ∀ {L R : Units} [Unit_ L (JU eb eo stays) R], Has L b.blk (stO eb eo b (.slice gab b.gots.length gcb) (b.ur.val b.ups.length) (.pointer (some ⟨eb, eo + v * 19, none⟩)) (evp eb eo b.nx)) := fun {L R} h => has_stO hb hgb' (by rw [c6]; rfl) rfl h
  repeat (first | refine c_draw ?_)
  refine any_start (by kernel_rfl) (by rfl) (by rfl) ?_
  refine any_have (γ := Unit) 16 [true, true, true, true, true, true, true, true, true, true, true, true, true, true, true, true, true, false, false, false, false, false, false, false, false, false, false, false, false, false, false, false, false] (fun _ => True) (fun _ => (94, .pointer (some ⟨t, 0, none⟩)) :: (110, .bool false) :: tSL t sa n sc i j a b) (fun _ => OnL t bb eb eo lval (.slice sa n sc) nm g1 stR stays F T) ?_ (fun H => ?_)
  · rintro ⟨⟩ _ f1
    dsimp only
    refine any_valG (i := 17) (by repeat (first | exact hP | exact panicFree_body | refine panicFree_then ?_ | refine panicFree_block ?_)) (by rfl) (by kernel_rfl) (by rfl) (by first | with_reducible assumption | decide | exact hc1) (by first | exact run_fieldAddr rfl (by rfl) (by rfl) | exact run_buildL rfl rfl (by rfl) (by rfl) | exact pureV_run (by rfl)) ?_
    refine any_valG (i := 19) (by repeat (first | exact hP | exact panicFree_body | refine panicFree_then ?_ | refine panicFree_block ?_)) (by rfl) (by kernel_rfl) (by rfl) (by first | with_reducible assumption | decide | exact hc1) (by first | exact run_fieldAddr rfl (by rfl) (by rfl) | exact run_buildL rfl rfl (by rfl) (by rfl) | exact pureV_run (by rfl)) ?_
    refine any_all [18] (by kernel_rfl) rfl ⟨⟨_, rfl, ?_⟩, trivial⟩
    refine r_gF (by rfl) (by first | with_reducible assumption | decide | exact hc1) ?_
    refine r_fun (by rfl) (by rfl) ?_
    refine CallC.rowm (g := 47) (part47 (U := JU eb eo stays) a.blk false gaa a.gots.length gca a.gots hsa hla) (by rw [List.length_map]) (fun r1 a1 c1 ok1 v1 => ?_)
    obtain ⟨a1', c1', w1, s1⟩ := r1.val_slice ok1 34
    rw [List.length_map] at w1 s1
    rw [v1] at w1
    obtain ⟨rfl, _, rfl⟩ : a1 = a1' ∧ (partJ a.gots false).length = (partJ a.gots false).length ∧ c1 = c1' := by injection w1 with h1 h2 h3; exact ⟨h1, h2, h3⟩
    refine r_nil ?_
    refine e_n ?_
    refine any_all [20] (by kernel_rfl) rfl ⟨⟨_, rfl, ?_⟩, trivial⟩
    refine r_gF (by rfl) (by first | with_reducible assumption | decide | exact hc1) ?_
    refine r_fun (by rfl) (by rfl) ?_
    refine CallC.rowm (g := 47) (part47 (U := JU eb eo stays) b.blk false gab b.gots.length gcb b.gots hsb hlb) (by rw [List.length_map]) (fun r2 a2 c2 ok2 v2 => ?_)
    obtain ⟨a2', c2', w2, s2⟩ := r2.val_slice ok2 34
    rw [List.length_map] at w2 s2
    rw [v2] at w2
    obtain ⟨rfl, _, rfl⟩ : a2 = a2' ∧ (partJ b.gots false).length = (partJ b.gots false).length ∧ c2 = c2' := by injection w2 with h1 h2 h3; exact ⟨h1, h2, h3⟩
    refine r_nil ?_
    refine e_n ?_
    refine any_all [21] (by kernel_rfl) rfl ⟨⟨_, rfl, ?_⟩, trivial⟩
    refine r_gF (by rfl) (by first | with_reducible assumption | decide | exact hc1) ?_
    refine r_fun (by rfl) (by rfl) ?_
    refine CallC.gives (g := 46) (eq46 (F := F) (U := r1.u 34) (U' := r2.u 34) a1 a2 _ _ c1 c2 (partJ a.gots false) (partJ b.gots false) s1 s2 (partJ_ok hga false) (partJ_ok hgb false) (Nat.le_trans (partJ_len _ _) hla)) ?_
    refine r_nil ?_
    refine e_n ?_
    refine any_valG (i := 22) (by repeat (first | exact hP | exact panicFree_body | refine panicFree_then ?_ | refine panicFree_block ?_)) (by rfl) (by kernel_rfl) (by rfl) (by first | with_reducible assumption | decide | exact hc1) (by first | exact run_fieldAddr rfl (by rfl) (by rfl) | exact run_buildL rfl rfl (by rfl) (by rfl) | exact pureV_run (by rfl)) ?_
    refine any_pickF (i := 23) (by repeat (first | exact hP | exact panicFree_body | refine panicFree_then ?_ | refine panicFree_block ?_)) (by rfl) (by kernel_rfl) (by rfl) (by first | with_reducible assumption | decide | exact hc1) (by rfl) ?_
    refine any_val (i := 24) (by repeat (first | exact hP | exact panicFree_body | refine panicFree_then ?_ | refine panicFree_block ?_)) (by rfl) (by kernel_rfl) (by first | exact run_fieldAddr rfl (by rfl) (by rfl) | exact run_buildL rfl rfl (by rfl) (by rfl) | exact pureV_run (by rfl)) ?_
    refine any_skipG (i := 25) (by repeat (first | exact hP | exact panicFree_body | refine panicFree_then ?_ | refine panicFree_block ?_)) (by rfl) (by kernel_rfl) (by rfl) (by first | with_reducible assumption | decide | exact hc1) ?_
    refine any_skipG (i := 27) (by repeat (first | exact hP | exact panicFree_body | refine panicFree_then ?_ | refine panicFree_block ?_)) (by rfl) (by kernel_rfl) (by rfl) (by first | with_reducible assumption | decide | exact hc1) ?_
    refine any_skipG (i := 26) (by repeat (first | exact hP | exact panicFree_body | refine panicFree_then ?_ | refine panicFree_block ?_)) (by rfl) (by kernel_rfl) (by rfl) (by first | with_reducible assumption | decide | exact hc1) ?_
    refine any_skipG (i := 28) (by repeat (first | exact hP | exact panicFree_body | refine panicFree_then ?_ | refine panicFree_block ?_)) (by rfl) (by kernel_rfl) (by rfl) (by first | with_reducible assumption | decide | exact hc1) ?_
    refine any_skipG (i := 29) (by repeat (first | exact hP | exact panicFree_body | refine panicFree_then ?_ | refine panicFree_block ?_)) (by rfl) (by kernel_rfl) (by rfl) (by first | with_reducible assumption | decide | exact hc1) ?_
    refine any_skipG (i := 30) (by repeat (first | exact hP | exact panicFree_body | refine panicFree_then ?_ | refine panicFree_block ?_)) (by rfl) (by kernel_rfl) (by rfl) (by first | with_reducible assumption | decide | exact hc1) ?_
    refine any_pickT (i := 31) (by repeat (first | exact hP | exact panicFree_body | refine panicFree_then ?_ | refine panicFree_block ?_)) (by rfl) (by kernel_rfl) (by rfl) (by first | with_reducible assumption | decide | exact hc1) (by rfl) ?_
    refine any_all [32] (by kernel_rfl) rfl ⟨⟨_, rfl, ?_⟩, trivial⟩
    refine r_fun (by rfl) (by rfl) ?_
    refine CallC.gives (g := 45) (breaks45 (t := t) (bb := bb) (lv := lval) (sv := .slice sa n sc) (nm := nm) (g := g1) 5 _) ?_
    refine r_nil ?_
    refine e_n ?_
    refine any_done (by kernel_rfl) ?_
    exact hN _ _ ⟨rfl, rfl, rfl, rfl, rfl, rfl, rfl, rfl, rfl, rfl, rfl⟩ Incl.of
  · refine any_val (i := 0) (by repeat (first | exact hP | exact panicFree_body | refine panicFree_then ?_ | refine panicFree_block ?_)) (by rfl) (by kernel_rfl) (by first | exact run_fieldAddr rfl (by rfl) (by rfl) | exact run_buildL rfl rfl (by rfl) (by rfl) | exact pureV_run (by rfl)) ?_
    refine any_val (i := 1) (by repeat (first | exact hP | exact panicFree_body | refine panicFree_then ?_ | refine panicFree_block ?_)) (by rfl) (by kernel_rfl) (by first | exact run_fieldAddr rfl (by rfl) (by rfl) | exact run_buildL rfl rfl (by rfl) (by rfl) | exact pureV_run (by rfl)) ?_
    refine any_val (i := 2) (by repeat (first | exact hP | exact panicFree_body | refine panicFree_then ?_ | refine panicFree_block ?_)) (by rfl) (by kernel_rfl) (by first | exact run_fieldAddr rfl (by rfl) (by rfl) | exact run_buildL rfl rfl (by rfl) (by rfl) | exact pureV_run (by rfl)) ?_
    refine any_val (i := 3) (by repeat (first | exact hP | exact panicFree_body | refine panicFree_then ?_ | refine panicFree_block ?_)) (by rfl) (by kernel_rfl) (by first | exact run_fieldAddr rfl (by rfl) (by rfl) | exact run_buildL rfl rfl (by rfl) (by rfl) | exact pureV_run (by rfl)) ?_
    refine any_val (i := 8) (by repeat (first | exact hP | exact panicFree_body | refine panicFree_then ?_ | refine panicFree_block ?_)) (by rfl) (by kernel_rfl) (by first | exact run_fieldAddr rfl (by rfl) (by rfl) | exact run_buildL rfl rfl (by rfl) (by rfl) | exact pureV_run (by rfl)) ?_
    refine any_val (i := 9) (by repeat (first | exact hP | exact panicFree_body | refine panicFree_then ?_ | refine panicFree_block ?_)) (by rfl) (by kernel_rfl) (by first | exact run_fieldAddr rfl (by rfl) (by rfl) | exact run_buildL rfl rfl (by rfl) (by rfl) | exact pureV_run (by rfl)) ?_
    refine any_val (i := 10) (by repeat (first | exact hP | exact panicFree_body | refine panicFree_then ?_ | refine panicFree_block ?_)) (by rfl) (by kernel_rfl) (by first | exact run_fieldAddr rfl (by rfl) (by rfl) | exact run_buildL rfl rfl (by rfl) (by rfl) | exact pureV_run (by rfl)) ?_
    refine any_all [4, 11] (by kernel_rfl) rfl ⟨⟨_, rfl, ?_⟩, ⟨_, rfl, ?_⟩, trivial⟩
    · (refine r_load (by rfl) ?_; refine LoadC.one (by rfl) (by rfl) ?_)
      refine r_nil ?_
      refine e_n ?_
      refine any_val (i := 5) (by repeat (first | exact hP | exact panicFree_body | refine panicFree_then ?_ | refine panicFree_block ?_)) (by rfl) (by kernel_rfl) (by first | exact run_fieldAddr rfl (by rfl) (by rfl) | exact run_buildL rfl rfl (by rfl) (by rfl) | exact pureV_run (by rfl)) ?_
      refine any_val (i := 6) (by repeat (first | exact hP | exact panicFree_body | refine panicFree_then ?_ | refine panicFree_block ?_)) (by rfl) (by kernel_rfl) (by first | exact run_fieldAddr rfl (by rfl) (by rfl) | exact run_buildL rfl rfl (by rfl) (by rfl) | exact pureV_run (by rfl)) ?_
      refine any_all [7, 11] (by kernel_rfl) rfl ⟨⟨_, rfl, ?_⟩, ⟨_, rfl, ?_⟩, trivial⟩
      · (refine r_load (by rfl) ?_; refine LoadC.rowCell (b := eb) (q := 6) hrow hqa rfl (by rfl) ?_)
        refine r_nil ?_
        refine e_n ?_
        refine any_all [11] (by kernel_rfl) rfl ⟨⟨_, rfl, ?_⟩, trivial⟩
        (refine r_load (by rfl) ?_; refine LoadC.one (by rfl) (by rfl) ?_)
        refine r_nil ?_
        refine e_n ?_
        refine any_val (i := 12) (by repeat (first | exact hP | exact panicFree_body | refine panicFree_then ?_ | refine panicFree_block ?_)) (by rfl) (by kernel_rfl) (by first | exact run_fieldAddr rfl (by rfl) (by rfl) | exact run_buildL rfl rfl (by rfl) (by rfl) | exact pureV_run (by rfl)) ?_
        refine any_val (i := 13) (by repeat (first | exact hP | exact panicFree_body | refine panicFree_then ?_ | refine panicFree_block ?_)) (by rfl) (by kernel_rfl) (by first | exact run_fieldAddr rfl (by rfl) (by rfl) | exact run_buildL rfl rfl (by rfl) (by rfl) | exact pureV_run (by rfl)) ?_
        refine any_all [14] (by kernel_rfl) rfl ⟨⟨_, rfl, ?_⟩, trivial⟩
        (refine r_load (by rfl) ?_; refine LoadC.rowCell (b := eb) (q := 6) hrow hqb rfl (by rfl) ?_)
        refine r_nil ?_
        refine e_n ?_
        refine any_val (i := 15) (by repeat (first | exact hP | exact panicFree_body | refine panicFree_then ?_ | refine panicFree_block ?_)) (by rfl) (by kernel_rfl) (by first | exact run_fieldAddr rfl (by rfl) (by rfl) | exact run_buildL rfl rfl (by rfl) (by rfl) | exact pureV_run (by rfl)) ?_
        refine any_val (i := 16) (by repeat (first | exact hP | exact panicFree_body | refine panicFree_then ?_ | refine panicFree_block ?_)) (by rfl) (by kernel_rfl) (by first | exact run_fieldAddr rfl (by rfl) (by rfl) | exact run_buildL rfl rfl (by rfl) (by rfl) | exact pureV_run (by rfl)) ?_
        exact any_meet H (MeetC.mk () trivial ⟨rfl, congrArg Value.bool hc0, rfl, rfl, rfl, rfl, rfl, rfl, rfl, rfl, rfl, rfl, rfl⟩ (Incl.refl _))
      · (refine r_load (by rfl) ?_; refine LoadC.one (by rfl) (by rfl) ?_)
        refine r_nil ?_
        refine e_n ?_
        refine any_val (i := 12) (by repeat (first | exact hP | exact panicFree_body | refine panicFree_then ?_ | refine panicFree_block ?_)) (by rfl) (by kernel_rfl) (by first | exact run_fieldAddr rfl (by rfl) (by rfl) | exact run_buildL rfl rfl (by rfl) (by rfl) | exact pureV_run (by rfl)) ?_
        refine any_val (i := 13) (by repeat (first | exact hP | exact panicFree_body | refine panicFree_then ?_ | refine panicFree_block ?_)) (by rfl) (by kernel_rfl) (by first | exact run_fieldAddr rfl (by rfl) (by rfl) | exact run_buildL rfl rfl (by rfl) (by rfl) | exact pureV_run (by rfl)) ?_
        refine any_all [7, 14] (by kernel_rfl) rfl ⟨⟨_, rfl, ?_⟩, ⟨_, rfl, ?_⟩, trivial⟩
        · (refine r_load (by rfl) ?_; refine LoadC.rowCell (b := eb) (q := 6) hrow hqa rfl (by rfl) ?_)
          refine r_nil ?_
          refine e_n ?_
          refine any_all [14] (by kernel_rfl) rfl ⟨⟨_, rfl, ?_⟩, trivial⟩
          (refine r_load (by rfl) ?_; refine LoadC.rowCell (b := eb) (q := 6) hrow hqb rfl (by rfl) ?_)
          refine r_nil ?_
          refine e_n ?_
          refine any_val (i := 15) (by repeat (first | exact hP | exact panicFree_body | refine panicFree_then ?_ | refine panicFree_block ?_)) (by rfl) (by kernel_rfl) (by first | exact run_fieldAddr rfl (by rfl) (by rfl) | exact run_buildL rfl rfl (by rfl) (by rfl) | exact pureV_run (by rfl)) ?_
          refine any_val (i := 16) (by repeat (first | exact hP | exact panicFree_body | refine panicFree_then ?_ | refine panicFree_block ?_)) (by rfl) (by kernel_rfl) (by first | exact run_fieldAddr rfl (by rfl) (by rfl) | exact run_buildL rfl rfl (by rfl) (by rfl) | exact pureV_run (by rfl)) ?_
          exact any_meet H (MeetC.mk () trivial ⟨rfl, congrArg Value.bool hc0, rfl, rfl, rfl, rfl, rfl, rfl, rfl, rfl, rfl, rfl, rfl⟩ (Incl.refl _))
        · (refine r_load (by rfl) ?_; refine LoadC.rowCell (b := eb) (q := 6) hrow hqb rfl (by rfl) ?_)
          refine r_nil ?_
          refine e_n ?_
          refine any_all [7] (by kernel_rfl) rfl ⟨⟨_, rfl, ?_⟩, trivial⟩
          (refine r_load (by rfl) ?_; refine LoadC.rowCell (b := eb) (q := 6) hrow hqa rfl (by rfl) ?_)
          refine r_nil ?_
          refine e_n ?_
          refine any_val (i := 15) (by repeat (first | exact hP | exact panicFree_body | refine panicFree_then ?_ | refine panicFree_block ?_)) (by rfl) (by kernel_rfl) (by first | exact run_fieldAddr rfl (by rfl) (by rfl) | exact run_buildL rfl rfl (by rfl) (by rfl) | exact pureV_run (by rfl)) ?_
          refine any_val (i := 16) (by repeat (first | exact hP | exact panicFree_body | refine panicFree_then ?_ | refine panicFree_block ?_)) (by rfl) (by kernel_rfl) (by first | exact run_fieldAddr rfl (by rfl) (by rfl) | exact run_buildL rfl rfl (by rfl) (by rfl) | exact pureV_run (by rfl)) ?_
          exact any_meet H (MeetC.mk () trivial ⟨rfl, congrArg Value.bool hc0, rfl, rfl, rfl, rfl, rfl, rfl, rfl, rfl, rfl, rfl, rfl⟩ (Incl.refl _))
    · (refine r_load (by rfl) ?_; refine LoadC.one (by rfl) (by rfl) ?_)
      refine r_nil ?_
      refine e_n ?_
      refine any_val (i := 12) (by repeat (first | exact hP | exact panicFree_body | refine panicFree_then ?_ | refine panicFree_block ?_)) (by rfl) (by kernel_rfl) (by first | exact run_fieldAddr rfl (by rfl) (by rfl) | exact run_buildL rfl rfl (by rfl) (by rfl) | exact pureV_run (by rfl)) ?_
      refine any_val (i := 13) (by repeat (first | exact hP | exact panicFree_body | refine panicFree_then ?_ | refine panicFree_block ?_)) (by rfl) (by kernel_rfl) (by first | exact run_fieldAddr rfl (by rfl) (by rfl) | exact run_buildL rfl rfl (by rfl) (by rfl) | exact pureV_run (by rfl)) ?_
      refine any_all [4, 14] (by kernel_rfl) rfl ⟨⟨_, rfl, ?_⟩, ⟨_, rfl, ?_⟩, trivial⟩
      · (refine r_load (by rfl) ?_; refine LoadC.one (by rfl) (by rfl) ?_)
        refine r_nil ?_
        refine e_n ?_
        refine any_val (i := 5) (by repeat (first | exact hP | exact panicFree_body | refine panicFree_then ?_ | refine panicFree_block ?_)) (by rfl) (by kernel_rfl) (by first | exact run_fieldAddr rfl (by rfl) (by rfl) | exact run_buildL rfl rfl (by rfl) (by rfl) | exact pureV_run (by rfl)) ?_
        refine any_val (i := 6) (by repeat (first | exact hP | exact panicFree_body | refine panicFree_then ?_ | refine panicFree_block ?_)) (by rfl) (by kernel_rfl) (by first | exact run_fieldAddr rfl (by rfl) (by rfl) | exact run_buildL rfl rfl (by rfl) (by rfl) | exact pureV_run (by rfl)) ?_
        refine any_all [7, 14] (by kernel_rfl) rfl ⟨⟨_, rfl, ?_⟩, ⟨_, rfl, ?_⟩, trivial⟩
        · (refine r_load (by rfl) ?_; refine LoadC.rowCell (b := eb) (q := 6) hrow hqa rfl (by rfl) ?_)
          refine r_nil ?_
          refine e_n ?_
          refine any_all [14] (by kernel_rfl) rfl ⟨⟨_, rfl, ?_⟩, trivial⟩
          (refine r_load (by rfl) ?_; refine LoadC.rowCell (b := eb) (q := 6) hrow hqb rfl (by rfl) ?_)
          refine r_nil ?_
          refine e_n ?_
          refine any_val (i := 15) (by repeat (first | exact hP | exact panicFree_body | refine panicFree_then ?_ | refine panicFree_block ?_)) (by rfl) (by kernel_rfl) (by first | exact run_fieldAddr rfl (by rfl) (by rfl) | exact run_buildL rfl rfl (by rfl) (by rfl) | exact pureV_run (by rfl)) ?_
          refine any_val (i := 16) (by repeat (first | exact hP | exact panicFree_body | refine panicFree_then ?_ | refine panicFree_block ?_)) (by rfl) (by kernel_rfl) (by first | exact run_fieldAddr rfl (by rfl) (by rfl) | exact run_buildL rfl rfl (by rfl) (by rfl) | exact pureV_run (by rfl)) ?_
          exact any_meet H (MeetC.mk () trivial ⟨rfl, congrArg Value.bool hc0, rfl, rfl, rfl, rfl, rfl, rfl, rfl, rfl, rfl, rfl, rfl⟩ (Incl.refl _))
        · (refine r_load (by rfl) ?_; refine LoadC.rowCell (b := eb) (q := 6) hrow hqb rfl (by rfl) ?_)
          refine r_nil ?_
          refine e_n ?_
          refine any_all [7] (by kernel_rfl) rfl ⟨⟨_, rfl, ?_⟩, trivial⟩
          (refine r_load (by rfl) ?_; refine LoadC.rowCell (b := eb) (q := 6) hrow hqa rfl (by rfl) ?_)
          refine r_nil ?_
          refine e_n ?_
          refine any_val (i := 15) (by repeat (first | exact hP | exact panicFree_body | refine panicFree_then ?_ | refine panicFree_block ?_)) (by rfl) (by kernel_rfl) (by first | exact run_fieldAddr rfl (by rfl) (by rfl) | exact run_buildL rfl rfl (by rfl) (by rfl) | exact pureV_run (by rfl)) ?_
          refine any_val (i := 16) (by repeat (first | exact hP | exact panicFree_body | refine panicFree_then ?_ | refine panicFree_block ?_)) (by rfl) (by kernel_rfl) (by first | exact run_fieldAddr rfl (by rfl) (by rfl) | exact run_buildL rfl rfl (by rfl) (by rfl) | exact pureV_run (by rfl)) ?_
          exact any_meet H (MeetC.mk () trivial ⟨rfl, congrArg Value.bool hc0, rfl, rfl, rfl, rfl, rfl, rfl, rfl, rfl, rfl, rfl, rfl⟩ (Incl.refl _))
      · (refine r_load (by rfl) ?_; refine LoadC.rowCell (b := eb) (q := 6) hrow hqb rfl (by rfl) ?_)
        refine r_nil ?_
        refine e_n ?_
        refine any_all [4] (by kernel_rfl) rfl ⟨⟨_, rfl, ?_⟩, trivial⟩
        (refine r_load (by rfl) ?_; refine LoadC.one (by rfl) (by rfl) ?_)
        refine r_nil ?_
        refine e_n ?_
        refine any_val (i := 5) (by repeat (first | exact hP | exact panicFree_body | refine panicFree_then ?_ | refine panicFree_block ?_)) (by rfl) (by kernel_rfl) (by first | exact run_fieldAddr rfl (by rfl) (by rfl) | exact run_buildL rfl rfl (by rfl) (by rfl) | exact pureV_run (by rfl)) ?_
        refine any_val (i := 6) (by repeat (first | exact hP | exact panicFree_body | refine panicFree_then ?_ | refine panicFree_block ?_)) (by rfl) (by kernel_rfl) (by first | exact run_fieldAddr rfl (by rfl) (by rfl) | exact run_buildL rfl rfl (by rfl) (by rfl) | exact pureV_run (by rfl)) ?_
        refine any_all [7] (by kernel_rfl) rfl ⟨⟨_, rfl, ?_⟩, trivial⟩
        (refine r_load (by rfl) ?_; refine LoadC.rowCell (b := eb) (q := 6) hrow hqa rfl (by rfl) ?_)
        refine r_nil ?_
        refine e_n ?_
        refine any_val (i := 15) (by repeat (first | exact hP | exact panicFree_body | refine panicFree_then ?_ | refine panicFree_block ?_)) (by rfl) (by kernel_rfl) (by first | exact run_fieldAddr rfl (by rfl) (by rfl) | exact run_buildL rfl rfl (by rfl) (by rfl) | exact pureV_run (by rfl)) ?_
        refine any_val (i := 16) (by repeat (first | exact hP | exact panicFree_body | refine panicFree_then ?_ | refine panicFree_block ?_)) (by rfl) (by kernel_rfl) (by first | exact run_fieldAddr rfl (by rfl) (by rfl) | exact run_buildL rfl rfl (by rfl) (by rfl) | exact pureV_run (by rfl)) ?_
        exact any_meet H (MeetC.mk () trivial ⟨rfl, congrArg Value.bool hc0, rfl, rfl, rfl, rfl, rfl, rfl, rfl, rfl, rfl, rfl, rfl⟩ (Incl.refl _))
set_option maxHeartbeats 32000000 in
theorem tog_eqC (hP : PanicFree Q) (ha : a ∈ stays) (hb : b ∈ stays) (hga' : a.gr.val a.gots.length = .slice gaa a.gots.length gca) (hgb' : b.gr.val b.gots.length = .slice gab b.gots.length gcb)
    (hsa : SlIn (JU eb eo stays) gaa a.gots.length 8 (a.gots.map JGot.cells)) (hsb : SlIn (JU eb eo stays) gab b.gots.length 8 (b.gots.map JGot.cells)) (hga : ∀ j ∈ a.gots, j.g.ok F) (hgb : ∀ j ∈ b.gots, j.g.ok F) (hla : a.gots.length ≤ 1000) (hlb : b.gots.length ≤ 1000)
    (hEm : (eb, Obj.cells earr eT efr) ∈ F) (hrow : Go.RowAt earr eo 19 (evs.map Ev.cells)) (ea eb' : Ev) (u v : Nat) (c5 : a.tr = some u) (c6 : b.tr = some v) (hea : evs[u]? = some ea) (heb : evs[v]? = some eb') (hc0 : (ea.members != eb'.members) = false) (hc1 : (!eqMgs ((partJ a.gots false).map GM.mg) ((partJ b.gots false).map GM.mg)) = false)
    (hN : ∀ f' M, AllAt f' (tSL t sa n sc i j a b) → Incl M (OnL t bb eb eo lval (.slice sa n sc) nm (GMap.bad g1 5 (!eqMgs ((partJ a.gots true).map GM.mg) ((partJ b.gots true).map GM.mg))) stR stays F T) → Q .normal f' M) (f0 : Nat → Value) :
    wpC Try.prog togEq Q (Fr.over f0 (tSL t sa n sc i j a b)) (OnL t bb eb eo lval (.slice sa n sc) nm g1 stR stays F T) := by
  haveI hEB : ∀ {L R : Units} [Unit_ L F R], Has L eb (.cells earr eT efr) := fun {L R} h => ⟨h.ok.mem_iff.2 (by simp [hEm])⟩
  have hqa : (evs.map Ev.cells)[u]? = some ea.cells := by simp [hea]
  have hqb : (evs.map Ev.cells)[v]? = some eb'.cells := by simp [heb]
  haveI hA : ∀ {L R : Units} [Unit_ L (JU eb eo stays) R], Has L a.blk (stO eb eo a (.slice gaa a.gots.length gca) (a.ur.val a.ups.length) (.pointer (some ⟨eb, eo + u * 19, none⟩)) (evp eb eo a.nx)) := fun {L R} h => has_stO ha hga' (by rw [c5]; rfl) rfl h
  haveI hB : ∀ {L R : Units} [Unit_ L (JU eb eo stays) R], Has L b.blk (stO eb eo b (.slice gab b.gots.length gcb) (b.ur.val b.ups.length) (.pointer (some ⟨eb, eo + v * 19, none⟩)) (evp eb eo b.nx)) := fun {L R} h => has_stO hb hgb' (by rw [c6]; rfl) rfl h
  repeat (first | refine c_draw ?_)
  refine any_start (by kernel_rfl) (by rfl) (by rfl) ?_
  refine any_have (γ := Unit) 16 [true, true, true, true, true, true, true, true, true, true, true, true, true, true, true, true, true, false, false, false, false, false, false, false, false, false, false, false, false, false, false, false, false] (fun _ => True) (fun _ => (94, .pointer (some ⟨t, 0, none⟩)) :: (110, .bool false) :: tSL t sa n sc i j a b) (fun _ => OnL t bb eb eo lval (.slice sa n sc) nm g1 stR stays F T) ?_ (fun H => ?_)
  · rintro ⟨⟩ _ f1
    dsimp only
    refine any_valG (i := 17) (by repeat (first | exact hP | exact panicFree_body | refine panicFree_then ?_ | refine panicFree_block ?_)) (by rfl) (by kernel_rfl) (by rfl) (by first | with_reducible assumption | decide | exact hc1) (by first | exact run_fieldAddr rfl (by rfl) (by rfl) | exact run_buildL rfl rfl (by rfl) (by rfl) | exact pureV_run (by rfl)) ?_
    refine any_valG (i := 19) (by repeat (first | exact hP | exact panicFree_body | refine panicFree_then ?_ | refine panicFree_block ?_)) (by rfl) (by kernel_rfl) (by rfl) (by first | with_reducible assumption | decide | exact hc1) (by first | exact run_fieldAddr rfl (by rfl) (by rfl) | exact run_buildL rfl rfl (by rfl) (by rfl) | exact pureV_run (by rfl)) ?_
    refine any_all [18] (by kernel_rfl) rfl ⟨⟨_, rfl, ?_⟩, trivial⟩
    refine r_gF (by rfl) (by first | with_reducible assumption | decide | exact hc1) ?_
    refine r_fun (by rfl) (by rfl) ?_
    refine CallC.rowm (g := 47) (part47 (U := JU eb eo stays) a.blk false gaa a.gots.length gca a.gots hsa hla) (by rw [List.length_map]) (fun r1 a1 c1 ok1 v1 => ?_)
    obtain ⟨a1', c1', w1, s1⟩ := r1.val_slice ok1 34
    rw [List.length_map] at w1 s1
    rw [v1] at w1
    obtain ⟨rfl, _, rfl⟩ : a1 = a1' ∧ (partJ a.gots false).length = (partJ a.gots false).length ∧ c1 = c1' := by injection w1 with h1 h2 h3; exact ⟨h1, h2, h3⟩
    refine r_nil ?_
    refine e_n ?_
    refine any_all [20] (by kernel_rfl) rfl ⟨⟨_, rfl, ?_⟩, trivial⟩
    refine r_gF (by rfl) (by first | with_reducible assumption | decide | exact hc1) ?_
    refine r_fun (by rfl) (by rfl) ?_
    refine CallC.rowm (g := 47) (part47 (U := JU eb eo stays) b.blk false gab b.gots.length gcb b.gots hsb hlb) (by rw [List.length_map]) (fun r2 a2 c2 ok2 v2 => ?_)
    obtain ⟨a2', c2', w2, s2⟩ := r2.val_slice ok2 34
    rw [List.length_map] at w2 s2
    rw [v2] at w2
    obtain ⟨rfl, _, rfl⟩ : a2 = a2' ∧ (partJ b.gots false).length = (partJ b.gots false).length ∧ c2 = c2' := by injection w2 with h1 h2 h3; exact ⟨h1, h2, h3⟩
    refine r_nil ?_
    refine e_n ?_
    refine any_all [21] (by kernel_rfl) rfl ⟨⟨_, rfl, ?_⟩, trivial⟩
    refine r_gF (by rfl) (by first | with_reducible assumption | decide | exact hc1) ?_
    refine r_fun (by rfl) (by rfl) ?_
    refine CallC.gives (g := 46) (eq46 (F := F) (U := r1.u 34) (U' := r2.u 34) a1 a2 _ _ c1 c2 (partJ a.gots false) (partJ b.gots false) s1 s2 (partJ_ok hga false) (partJ_ok hgb false) (Nat.le_trans (partJ_len _ _) hla)) ?_
    refine r_nil ?_
    refine e_n ?_
    refine any_valG (i := 22) (by repeat (first | exact hP | exact panicFree_body | refine panicFree_then ?_ | refine panicFree_block ?_)) (by rfl) (by kernel_rfl) (by rfl) (by first | with_reducible assumption | decide | exact hc1) (by first | exact run_fieldAddr rfl (by rfl) (by rfl) | exact run_buildL rfl rfl (by rfl) (by rfl) | exact pureV_run (by rfl)) ?_
    refine any_pickF (i := 23) (by repeat (first | exact hP | exact panicFree_body | refine panicFree_then ?_ | refine panicFree_block ?_)) (by rfl) (by kernel_rfl) (by rfl) (by first | with_reducible assumption | decide | exact hc1) (by rfl) ?_
    refine any_val (i := 24) (by repeat (first | exact hP | exact panicFree_body | refine panicFree_then ?_ | refine panicFree_block ?_)) (by rfl) (by kernel_rfl) (by first | exact run_fieldAddr rfl (by rfl) (by rfl) | exact run_buildL rfl rfl (by rfl) (by rfl) | exact pureV_run (by rfl)) ?_
    refine any_valG (i := 25) (by repeat (first | exact hP | exact panicFree_body | refine panicFree_then ?_ | refine panicFree_block ?_)) (by rfl) (by kernel_rfl) (by rfl) (by first | with_reducible assumption | decide | exact hc1) (by first | exact run_fieldAddr rfl (by rfl) (by rfl) | exact run_buildL rfl rfl (by rfl) (by rfl) | exact pureV_run (by rfl)) ?_
    refine any_valG (i := 27) (by repeat (first | exact hP | exact panicFree_body | refine panicFree_then ?_ | refine panicFree_block ?_)) (by rfl) (by kernel_rfl) (by rfl) (by first | with_reducible assumption | decide | exact hc1) (by first | exact run_fieldAddr rfl (by rfl) (by rfl) | exact run_buildL rfl rfl (by rfl) (by rfl) | exact pureV_run (by rfl)) ?_
    refine any_all [26] (by kernel_rfl) rfl ⟨⟨_, rfl, ?_⟩, trivial⟩
    refine r_gF (by rfl) (by first | with_reducible assumption | decide | exact hc1) ?_
    refine r_fun (by rfl) (by rfl) ?_
    refine CallC.rowm (g := 47) (part47 (U := JU eb eo stays) a.blk true gaa a.gots.length gca a.gots hsa hla) (by rw [List.length_map]) (fun r3 a3 c3 ok3 v3 => ?_)
    obtain ⟨a3', c3', w3, s3⟩ := r3.val_slice ok3 34
    rw [List.length_map] at w3 s3
    rw [v3] at w3
    obtain ⟨rfl, _, rfl⟩ : a3 = a3' ∧ (partJ a.gots true).length = (partJ a.gots true).length ∧ c3 = c3' := by injection w3 with h1 h2 h3; exact ⟨h1, h2, h3⟩
    refine r_nil ?_
    refine e_n ?_
    refine any_all [28] (by kernel_rfl) rfl ⟨⟨_, rfl, ?_⟩, trivial⟩
    refine r_gF (by rfl) (by first | with_reducible assumption | decide | exact hc1) ?_
    refine r_fun (by rfl) (by rfl) ?_
    refine CallC.rowm (g := 47) (part47 (U := JU eb eo stays) b.blk true gab b.gots.length gcb b.gots hsb hlb) (by rw [List.length_map]) (fun r4 a4 c4 ok4 v4 => ?_)
    obtain ⟨a4', c4', w4, s4⟩ := r4.val_slice ok4 34
    rw [List.length_map] at w4 s4
    rw [v4] at w4
    obtain ⟨rfl, _, rfl⟩ : a4 = a4' ∧ (partJ b.gots true).length = (partJ b.gots true).length ∧ c4 = c4' := by injection w4 with h1 h2 h3; exact ⟨h1, h2, h3⟩
    refine r_nil ?_
    refine e_n ?_
    refine any_all [29] (by kernel_rfl) rfl ⟨⟨_, rfl, ?_⟩, trivial⟩
    refine r_gF (by rfl) (by first | with_reducible assumption | decide | exact hc1) ?_
    refine r_fun (by rfl) (by rfl) ?_
    refine CallC.gives (g := 46) (eq46 (F := F) (U := r3.u 34) (U' := r4.u 34) a3 a4 _ _ c3 c4 (partJ a.gots true) (partJ b.gots true) s3 s4 (partJ_ok hga true) (partJ_ok hgb true) (Nat.le_trans (partJ_len _ _) hla)) ?_
    refine r_nil ?_
    refine e_n ?_
    refine any_valG (i := 30) (by repeat (first | exact hP | exact panicFree_body | refine panicFree_then ?_ | refine panicFree_block ?_)) (by rfl) (by kernel_rfl) (by rfl) (by first | with_reducible assumption | decide | exact hc1) (by first | exact run_fieldAddr rfl (by rfl) (by rfl) | exact run_buildL rfl rfl (by rfl) (by rfl) | exact pureV_run (by rfl)) ?_
    refine any_pickF (i := 31) (by repeat (first | exact hP | exact panicFree_body | refine panicFree_then ?_ | refine panicFree_block ?_)) (by rfl) (by kernel_rfl) (by rfl) (by first | with_reducible assumption | decide | exact hc1) (by rfl) ?_
    refine any_all [32] (by kernel_rfl) rfl ⟨⟨_, rfl, ?_⟩, trivial⟩
    refine r_fun (by rfl) (by rfl) ?_
    refine CallC.gives (g := 45) (breaks45 (t := t) (bb := bb) (lv := lval) (sv := .slice sa n sc) (nm := nm) (g := g1) 5 _) ?_
    refine r_nil ?_
    refine e_n ?_
    refine any_done (by kernel_rfl) ?_
    exact hN _ _ ⟨rfl, rfl, rfl, rfl, rfl, rfl, rfl, rfl, rfl, rfl, rfl⟩ Incl.of
  · refine any_val (i := 0) (by repeat (first | exact hP | exact panicFree_body | refine panicFree_then ?_ | refine panicFree_block ?_)) (by rfl) (by kernel_rfl) (by first | exact run_fieldAddr rfl (by rfl) (by rfl) | exact run_buildL rfl rfl (by rfl) (by rfl) | exact pureV_run (by rfl)) ?_
    refine any_val (i := 1) (by repeat (first | exact hP | exact panicFree_body | refine panicFree_then ?_ | refine panicFree_block ?_)) (by rfl) (by kernel_rfl) (by first | exact run_fieldAddr rfl (by rfl) (by rfl) | exact run_buildL rfl rfl (by rfl) (by rfl) | exact pureV_run (by rfl)) ?_
    refine any_val (i := 2) (by repeat (first | exact hP | exact panicFree_body | refine panicFree_then ?_ | refine panicFree_block ?_)) (by rfl) (by kernel_rfl) (by first | exact run_fieldAddr rfl (by rfl) (by rfl) | exact run_buildL rfl rfl (by rfl) (by rfl) | exact pureV_run (by rfl)) ?_
    refine any_val (i := 3) (by repeat (first | exact hP | exact panicFree_body | refine panicFree_then ?_ | refine panicFree_block ?_)) (by rfl) (by kernel_rfl) (by first | exact run_fieldAddr rfl (by rfl) (by rfl) | exact run_buildL rfl rfl (by rfl) (by rfl) | exact pureV_run (by rfl)) ?_
    refine any_val (i := 8) (by repeat (first | exact hP | exact panicFree_body | refine panicFree_then ?_ | refine panicFree_block ?_)) (by rfl) (by kernel_rfl) (by first | exact run_fieldAddr rfl (by rfl) (by rfl) | exact run_buildL rfl rfl (by rfl) (by rfl) | exact pureV_run (by rfl)) ?_
    refine any_val (i := 9) (by repeat (first | exact hP | exact panicFree_body | refine panicFree_then ?_ | refine panicFree_block ?_)) (by rfl) (by kernel_rfl) (by first | exact run_fieldAddr rfl (by rfl) (by rfl) | exact run_buildL rfl rfl (by rfl) (by rfl) | exact pureV_run (by rfl)) ?_
    refine any_val (i := 10) (by repeat (first | exact hP | exact panicFree_body | refine panicFree_then ?_ | refine panicFree_block ?_)) (by rfl) (by kernel_rfl) (by first | exact run_fieldAddr rfl (by rfl) (by rfl) | exact run_buildL rfl rfl (by rfl) (by rfl) | exact pureV_run (by rfl)) ?_
    refine any_all [4, 11] (by kernel_rfl) rfl ⟨⟨_, rfl, ?_⟩, ⟨_, rfl, ?_⟩, trivial⟩
    · (refine r_load (by rfl) ?_; refine LoadC.one (by rfl) (by rfl) ?_)
      refine r_nil ?_
      refine e_n ?_
      refine any_val (i := 5) (by repeat (first | exact hP | exact panicFree_body | refine panicFree_then ?_ | refine panicFree_block ?_)) (by rfl) (by kernel_rfl) (by first | exact run_fieldAddr rfl (by rfl) (by rfl) | exact run_buildL rfl rfl (by rfl) (by rfl) | exact pureV_run (by rfl)) ?_
      refine any_val (i := 6) (by repeat (first | exact hP | exact panicFree_body | refine panicFree_then ?_ | refine panicFree_block ?_)) (by rfl) (by kernel_rfl) (by first | exact run_fieldAddr rfl (by rfl) (by rfl) | exact run_buildL rfl rfl (by rfl) (by rfl) | exact pureV_run (by rfl)) ?_
      refine any_all [7, 11] (by kernel_rfl) rfl ⟨⟨_, rfl, ?_⟩, ⟨_, rfl, ?_⟩, trivial⟩
      · (refine r_load (by rfl) ?_; refine LoadC.rowCell (b := eb) (q := 6) hrow hqa rfl (by rfl) ?_)
        refine r_nil ?_
        refine e_n ?_
        refine any_all [11] (by kernel_rfl) rfl ⟨⟨_, rfl, ?_⟩, trivial⟩
        (refine r_load (by rfl) ?_; refine LoadC.one (by rfl) (by rfl) ?_)
        refine r_nil ?_
        refine e_n ?_
        refine any_val (i := 12) (by repeat (first | exact hP | exact panicFree_body | refine panicFree_then ?_ | refine panicFree_block ?_)) (by rfl) (by kernel_rfl) (by first | exact run_fieldAddr rfl (by rfl) (by rfl) | exact run_buildL rfl rfl (by rfl) (by rfl) | exact pureV_run (by rfl)) ?_
        refine any_val (i := 13) (by repeat (first | exact hP | exact panicFree_body | refine panicFree_then ?_ | refine panicFree_block ?_)) (by rfl) (by kernel_rfl) (by first | exact run_fieldAddr rfl (by rfl) (by rfl) | exact run_buildL rfl rfl (by rfl) (by rfl) | exact pureV_run (by rfl)) ?_
        refine any_all [14] (by kernel_rfl) rfl ⟨⟨_, rfl, ?_⟩, trivial⟩
        (refine r_load (by rfl) ?_; refine LoadC.rowCell (b := eb) (q := 6) hrow hqb rfl (by rfl) ?_)
        refine r_nil ?_
        refine e_n ?_
        refine any_val (i := 15) (by repeat (first | exact hP | exact panicFree_body | refine panicFree_then ?_ | refine panicFree_block ?_)) (by rfl) (by kernel_rfl) (by first | exact run_fieldAddr rfl (by rfl) (by rfl) | exact run_buildL rfl rfl (by rfl) (by rfl) | exact pureV_run (by rfl)) ?_
        refine any_val (i := 16) (by repeat (first | exact hP | exact panicFree_body | refine panicFree_then ?_ | refine panicFree_block ?_)) (by rfl) (by kernel_rfl) (by first | exact run_fieldAddr rfl (by rfl) (by rfl) | exact run_buildL rfl rfl (by rfl) (by rfl) | exact pureV_run (by rfl)) ?_
        exact any_meet H (MeetC.mk () trivial ⟨rfl, congrArg Value.bool hc0, rfl, rfl, rfl, rfl, rfl, rfl, rfl, rfl, rfl, rfl, rfl⟩ (Incl.refl _))
      · (refine r_load (by rfl) ?_; refine LoadC.one (by rfl) (by rfl) ?_)
        refine r_nil ?_
        refine e_n ?_
        refine any_val (i := 12) (by repeat (first | exact hP | exact panicFree_body | refine panicFree_then ?_ | refine panicFree_block ?_)) (by rfl) (by kernel_rfl) (by first | exact run_fieldAddr rfl (by rfl) (by rfl) | exact run_buildL rfl rfl (by rfl) (by rfl) | exact pureV_run (by rfl)) ?_
        refine any_val (i := 13) (by repeat (first | exact hP | exact panicFree_body | refine panicFree_then ?_ | refine panicFree_block ?_)) (by rfl) (by kernel_rfl) (by first | exact run_fieldAddr rfl (by rfl) (by rfl) | exact run_buildL rfl rfl (by rfl) (by rfl) | exact pureV_run (by rfl)) ?_
        refine any_all [7, 14] (by kernel_rfl) rfl ⟨⟨_, rfl, ?_⟩, ⟨_, rfl, ?_⟩, trivial⟩
        · (refine r_load (by rfl) ?_; refine LoadC.rowCell (b := eb) (q := 6) hrow hqa rfl (by rfl) ?_)
          refine r_nil ?_
          refine e_n ?_
          refine any_all [14] (by kernel_rfl) rfl ⟨⟨_, rfl, ?_⟩, trivial⟩
          (refine r_load (by rfl) ?_; refine LoadC.rowCell (b := eb) (q := 6) hrow hqb rfl (by rfl) ?_)
          refine r_nil ?_
          refine e_n ?_
          refine any_val (i := 15) (by repeat (first | exact hP | exact panicFree_body | refine panicFree_then ?_ | refine panicFree_block ?_)) (by rfl) (by kernel_rfl) (by first | exact run_fieldAddr rfl (by rfl) (by rfl) | exact run_buildL rfl rfl (by rfl) (by rfl) | exact pureV_run (by rfl)) ?_
          refine any_val (i := 16) (by repeat (first | exact hP | exact panicFree_body | refine panicFree_then ?_ | refine panicFree_block ?_)) (by rfl) (by kernel_rfl) (by first | exact run_fieldAddr rfl (by rfl) (by rfl) | exact run_buildL rfl rfl (by rfl) (by rfl) | exact pureV_run (by rfl)) ?_
          exact any_meet H (MeetC.mk () trivial ⟨rfl, congrArg Value.bool hc0, rfl, rfl, rfl, rfl, rfl, rfl, rfl, rfl, rfl, rfl, rfl⟩ (Incl.refl _))
        · (refine r_load (by rfl) ?_; refine LoadC.rowCell (b := eb) (q := 6) hrow hqb rfl (by rfl) ?_)
          refine r_nil ?_
          refine e_n ?_
          refine any_all [7] (by kernel_rfl) rfl ⟨⟨_, rfl, ?_⟩, trivial⟩
          (refine r_load (by rfl) ?_; refine LoadC.rowCell (b := eb) (q := 6) hrow hqa rfl (by rfl) ?_)
          refine r_nil ?_
          refine e_n ?_
          refine any_val (i := 15) (by repeat (first | exact hP | exact panicFree_body | refine panicFree_then ?_ | refine panicFree_block ?_)) (by rfl) (by kernel_rfl) (by first | exact run_fieldAddr rfl (by rfl) (by rfl) | exact run_buildL rfl rfl (by rfl) (by rfl) | exact pureV_run (by rfl)) ?_
          refine any_val (i := 16) (by repeat (first | exact hP | exact panicFree_body | refine panicFree_then ?_ | refine panicFree_block ?_)) (by rfl) (by kernel_rfl) (by first | exact run_fieldAddr rfl (by rfl) (by rfl) | exact run_buildL rfl rfl (by rfl) (by rfl) | exact pureV_run (by rfl)) ?_
          exact any_meet H (MeetC.mk () trivial ⟨rfl, congrArg Value.bool hc0, rfl, rfl, rfl, rfl, rfl, rfl, rfl, rfl, rfl, rfl, rfl⟩ (Incl.refl _))
    · (refine r_load (by rfl) ?_; refine LoadC.one (by rfl) (by rfl) ?_)
      refine r_nil ?_
      refine e_n ?_
      refine any_val (i := 12) (by repeat (first | exact hP | exact panicFree_body | refine panicFree_then ?_ | refine panicFree_block ?_)) (by rfl) (by kernel_rfl) (by first | exact run_fieldAddr rfl (by rfl) (by rfl) | exact run_buildL rfl rfl (by rfl) (by rfl) | exact pureV_run (by rfl)) ?_
      refine any_val (i := 13) (by repeat (first | exact hP | exact panicFree_body | refine panicFree_then ?_ | refine panicFree_block ?_)) (by rfl) (by kernel_rfl) (by first | exact run_fieldAddr rfl (by rfl) (by rfl) | exact run_buildL rfl rfl (by rfl) (by rfl) | exact pureV_run (by rfl)) ?_
      refine any_all [4, 14] (by kernel_rfl) rfl ⟨⟨_, rfl, ?_⟩, ⟨_, rfl, ?_⟩, trivial⟩
      · (refine r_load (by rfl) ?_; refine LoadC.one (by rfl) (by rfl) ?_)
        refine r_nil ?_
        refine e_n ?_
        refine any_val (i := 5) (by repeat (first | exact hP | exact panicFree_body | refine panicFree_then ?_ | refine panicFree_block ?_)) (by rfl) (by kernel_rfl) (by first | exact run_fieldAddr rfl (by rfl) (by rfl) | exact run_buildL rfl rfl (by rfl) (by rfl) | exact pureV_run (by rfl)) ?_
        refine any_val (i := 6) (by repeat (first | exact hP | exact panicFree_body | refine panicFree_then ?_ | refine panicFree_block ?_)) (by rfl) (by kernel_rfl) (by first | exact run_fieldAddr rfl (by rfl) (by rfl) | exact run_buildL rfl rfl (by rfl) (by rfl) | exact pureV_run (by rfl)) ?_
        refine any_all [7, 14] (by kernel_rfl) rfl ⟨⟨_, rfl, ?_⟩, ⟨_, rfl, ?_⟩, trivial⟩
        · (refine r_load (by rfl) ?_; refine LoadC.rowCell (b := eb) (q := 6) hrow hqa rfl (by rfl) ?_)
          refine r_nil ?_
          refine e_n ?_
          refine any_all [14] (by kernel_rfl) rfl ⟨⟨_, rfl, ?_⟩, trivial⟩
          (refine r_load (by rfl) ?_; refine LoadC.rowCell (b := eb) (q := 6) hrow hqb rfl (by rfl) ?_)
          refine r_nil ?_
          refine e_n ?_
          refine any_val (i := 15) (by repeat (first | exact hP | exact panicFree_body | refine panicFree_then ?_ | refine panicFree_block ?_)) (by rfl) (by kernel_rfl) (by first | exact run_fieldAddr rfl (by rfl) (by rfl) | exact run_buildL rfl rfl (by rfl) (by rfl) | exact pureV_run (by rfl)) ?_
          refine any_val (i := 16) (by repeat (first | exact hP | exact panicFree_body | refine panicFree_then ?_ | refine panicFree_block ?_)) (by rfl) (by kernel_rfl) (by first | exact run_fieldAddr rfl (by rfl) (by rfl) | exact run_buildL rfl rfl (by rfl) (by rfl) | exact pureV_run (by rfl)) ?_
          exact any_meet H (MeetC.mk () trivial ⟨rfl, congrArg Value.bool hc0, rfl, rfl, rfl, rfl, rfl, rfl, rfl, rfl, rfl, rfl, rfl⟩ (Incl.refl _))
        · (refine r_load (by rfl) ?_; refine LoadC.rowCell (b := eb) (q := 6) hrow hqb rfl (by rfl) ?_)
          refine r_nil ?_
          refine e_n ?_
          refine any_all [7] (by kernel_rfl) rfl ⟨⟨_, rfl, ?_⟩, trivial⟩
          (refine r_load (by rfl) ?_; refine LoadC.rowCell (b := eb) (q := 6) hrow hqa rfl (by rfl) ?_)
          refine r_nil ?_
          refine e_n ?_
          refine any_val (i := 15) (by repeat (first | exact hP | exact panicFree_body | refine panicFree_then ?_ | refine panicFree_block ?_)) (by rfl) (by kernel_rfl) (by first | exact run_fieldAddr rfl (by rfl) (by rfl) | exact run_buildL rfl rfl (by rfl) (by rfl) | exact pureV_run (by rfl)) ?_
          refine any_val (i := 16) (by repeat (first | exact hP | exact panicFree_body | refine panicFree_then ?_ | refine panicFree_block ?_)) (by rfl) (by kernel_rfl) (by first | exact run_fieldAddr rfl (by rfl) (by rfl) | exact run_buildL rfl rfl (by rfl) (by rfl) | exact pureV_run (by rfl)) ?_
          exact any_meet H (MeetC.mk () trivial ⟨rfl, congrArg Value.bool hc0, rfl, rfl, rfl, rfl, rfl, rfl, rfl, rfl, rfl, rfl, rfl⟩ (Incl.refl _))
      · (refine r_load (by rfl) ?_; refine LoadC.rowCell (b := eb) (q := 6) hrow hqb rfl (by rfl) ?_)
        refine r_nil ?_
        refine e_n ?_
        refine any_all [4] (by kernel_rfl) rfl ⟨⟨_, rfl, ?_⟩, trivial⟩
        (refine r_load (by rfl) ?_; refine LoadC.one (by rfl) (by rfl) ?_)
        refine r_nil ?_
        refine e_n ?_
        refine any_val (i := 5) (by repeat (first | exact hP | exact panicFree_body | refine panicFree_then ?_ | refine panicFree_block ?_)) (by rfl) (by kernel_rfl) (by first | exact run_fieldAddr rfl (by rfl) (by rfl) | exact run_buildL rfl rfl (by rfl) (by rfl) | exact pureV_run (by rfl)) ?_
        refine any_val (i := 6) (by repeat (first | exact hP | exact panicFree_body | refine panicFree_then ?_ | refine panicFree_block ?_)) (by rfl) (by kernel_rfl) (by first | exact run_fieldAddr rfl (by rfl) (by rfl) | exact run_buildL rfl rfl (by rfl) (by rfl) | exact pureV_run (by rfl)) ?_
        refine any_all [7] (by kernel_rfl) rfl ⟨⟨_, rfl, ?_⟩, trivial⟩
        (refine r_load (by rfl) ?_; refine LoadC.rowCell (b := eb) (q := 6) hrow hqa rfl (by rfl) ?_)
        refine r_nil ?_
        refine e_n ?_
        refine any_val (i := 15) (by repeat (first | exact hP | exact panicFree_body | refine panicFree_then ?_ | refine panicFree_block ?_)) (by rfl) (by kernel_rfl) (by first | exact run_fieldAddr rfl (by rfl) (by rfl) | exact run_buildL rfl rfl (by rfl) (by rfl) | exact pureV_run (by rfl)) ?_
        refine any_val (i := 16) (by repeat (first | exact hP | exact panicFree_body | refine panicFree_then ?_ | refine panicFree_block ?_)) (by rfl) (by kernel_rfl) (by first | exact run_fieldAddr rfl (by rfl) (by rfl) | exact run_buildL rfl rfl (by rfl) (by rfl) | exact pureV_run (by rfl)) ?_
        exact any_meet H (MeetC.mk () trivial ⟨rfl, congrArg Value.bool hc0, rfl, rfl, rfl, rfl, rfl, rfl, rfl, rfl, rfl, rfl, rfl⟩ (Incl.refl _))
end
end Go.Proofs.Ythijlgjfgliinaa
end
