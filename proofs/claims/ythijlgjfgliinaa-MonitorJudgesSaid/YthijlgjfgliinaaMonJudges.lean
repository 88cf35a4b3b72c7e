/- 'MonitorJudges' holds: in every world, for every slice of events, the law returns true. -/
import Derived.Test.YthijlgjfgliinaaJg50
import Derived.Test.YthijlgjfgliinaaRows
import Derived.ProofKit
set_option linter.all false
namespace Go.Proofs.Ythijlgjfgliinaa
open Go.ChangeShapes Go.WideShapes Go.ChangeAt Go.RowKit Go.Deep
theorem own : ownKnob Try.prog.godebug = none := by kernel_rfl
theorem kids : Kids Try.prog (· < Try.prog.types.size) := kids_rows (by kernel_rfl) (by kernel_rfl)
theorem full : ∀ t e, t < Try.prog.types.size → Try.prog.underlying t = some (.slice e) → 0 < Try.prog.cellsOf e := slices_full_of Try.prog (by kernel_rfl)
set_option maxRecDepth 100000 in
theorem judges_lifted (os : Os) (started : os.Started) (H : Type) (enc : TypeId × Value → H) :
    ReturnsInHanded {} Try.checked os 5 .any (Rows.monitorJudgesSpec.pre6 enc Try.prog Try.f5 Rows.monitorJudgesRow.domain false) (Rows.monitorJudgesSpec.post enc Try.prog Try.f5 false true false false) := by
  refine returnsInHanded_of_change_sized (C := Try.checked) own started (by kernel_rfl) Try.func5
    (ChangeSpec.witness6 (enc := enc) (C := Try.checked) false ⟨#[], #[.slice none 0 0], []⟩ 8 (by kernel_rfl) (by kernel_rfl) (by kernel_rfl) (by kernel_rfl)) ?_
  intro W base args ds gs before hval0 hW hcnd hsz _
  have hW' := hW
  obtain ⟨p, q, hA0, hV, rfl, hfz, hnd⟩ := hW
  have hA : DataW.TrodAll enc Try.prog W 0 (fun _ => true) true Try.f5.params.toList args.toList ds p := hA0
  have hval : ∀ (j : Nat) t v, Try.f5.params[j]? = some t → args[j]? = some v → Value.okWide Try.prog W .any base t v := hval0
  rw [Try.params5] at hA hval
  obtain ⟨v0, d0, rfl, rfl, h0⟩ := trodAll_one hA
  obtain ⟨a0, len, cap, rfl⟩ := okWide_slice Try.underlying22 (hval 0 22 v0 rfl rfl)
  obtain ⟨fuel, hf⟩ := h0
  have hwt : ∀ m ∈ d0.weights Try.prog 22, m ≤ reachBytes := fun m hm => by
    have := List.all_eq_true.1 hsz m (DataW.weights_mem_each (P := Try.prog) (ts := Try.f5.params.toList ++ DataSpec.varTypes Try.checked.prog Rows.monitorJudgesSpec.plain) (ds := [d0] ++ gs) (j := 0) (t := 22) (d := d0) (by rw [Try.params5]; rfl) rfl m hm)
    simpa using this
  obtain ⟨a, n, c, evs, es, ns, hv, hcap, hE, hN⟩ := trod_events2 (W := W) (base := 0) (sp := fun _ => true) (v := .slice a0 len cap) hf hwt
  rw [hv]
  refine (kept_of_does (v := .bool true) (letI := envOf W; judges_walk hE hN c hcap (R := []))).mono fun e W' ⟨he, hk⟩ => ?_
  subst he
  rw [← hv]
  exact ⟨_, rfl, post_of_kept (P := Try.prog) kids (fun {t e} => full t e) (by rw [Try.params5]; decide) rfl hk hW'
    (fun _ _ _ => trodAll_mk1 (shut_bool Try.underlying4 _)) rfl rfl (ok_one (by kernel_rfl) rfl (okWide_bool_mk Try.underlying4 _))⟩
theorem judges_holds : Rows.MonitorJudgesSaid :=
  OpenClaim.holds_of_wide 5 Try.f5 rfl rfl rfl rfl rfl rfl rfl ⟨rfl, rfl, rfl, rfl, rfl⟩ rfl rfl rfl rfl rfl (by kernel_rfl) Try.func5 (by kernel_rfl)
    (of_decide_eq_true (by kernel_rfl)) (by unfold Func.isWrapper; first | (rw [if_pos (by decide +kernel)]; kernel_rfl) | (rw [if_neg (by decide +kernel)]; exact ⟨rfl, rfl⟩))
    (fun os started H enc _ => judges_lifted os started H enc)
#print axioms judges_holds
end Go.Proofs.Ythijlgjfgliinaa
