/- 'MonitorCopies' holds, whatever the input. -/
import Derived.Test.YthijlgjfgliinaaMonC5
import Derived.Test.YthijlgjfgliinaaMonW12
import Derived.Test.YthijlgjfgliinaaRows
import Derived.ProofKit
set_option linter.all false
namespace Go.Proofs.Ythijlgjfgliinaa
open Go.ChangeShapes Go.WideShapes Go.ChangeAt Go.RowKit Go.Deep
theorem ownC : ownKnob Try.prog.godebug = none := by kernel_rfl
theorem kidsC : Kids Try.prog (· < Try.prog.types.size) := kids_rows (by kernel_rfl) (by kernel_rfl)
theorem fullC : ∀ t e, t < Try.prog.types.size → Try.prog.underlying t = some (.slice e) → 0 < Try.prog.cellsOf e := slices_full_of Try.prog (by kernel_rfl)
theorem EvsIn.cut {F : Blocks} {a : Option Addr} {n : Nat} {evs : List Ev} {ds : List (List Int)} (h : EvsIn F a n evs ds) : EvsIn F a n evs (ds.take n) ∧ (ds.take n).length = n := by
  have hl : evs.length = n := by have := h.row.1; simpa using this
  have hge : n ≤ ds.length := by
    rcases Nat.eq_zero_or_pos n with h0 | hp
    · omega
    · obtain ⟨d, hd, _⟩ := h.deps (n - 1) (evs[n - 1]'(by omega)) (List.getElem?_eq_getElem _)
      have := (List.getElem?_eq_some_iff.1 hd).1
      omega
  refine ⟨⟨h.row, fun i e he => ?_, h.max⟩, by rw [List.length_take]; omega⟩
  obtain ⟨d, h1, h2⟩ := h.deps i e he
  have hi := (List.getElem?_eq_some_iff.1 he).1
  exact ⟨d, by rw [List.getElem?_take, if_pos (by omega)]; exact h1, h2⟩
set_option maxRecDepth 100000 in
theorem copies_lifted (os : Os) (started : os.Started) (H : Type) (enc : TypeId × Value → H) :
    ReturnsInHanded {} Try.checked os 4 .any (Rows.monitorCopiesSpec.pre6 enc Try.prog Try.f4 Rows.monitorCopiesRow.domain false) (Rows.monitorCopiesSpec.post enc Try.prog Try.f4 false true false false) := by
  refine returnsInHanded_of_change_sized (C := Try.checked) ownC started (by kernel_rfl) Try.func4
    (ChangeSpec.witness6 (enc := enc) (C := Try.checked) false ⟨#[], #[.slice none 0 0, .int .i64 0], []⟩ 8 (by kernel_rfl) (by kernel_rfl) (by kernel_rfl) (by kernel_rfl)) ?_
  intro W base args ds gs before hval0 hW hcnd hsz _
  have hW' := hW
  obtain ⟨p, q, hA0, hV, rfl, hfz, hnd⟩ := hW
  have hA : DataW.TrodAll enc Try.prog W 0 (fun _ => true) true Try.f4.params.toList args.toList ds p := hA0
  have hval : ∀ (j : Nat) t v, Try.f4.params[j]? = some t → args[j]? = some v → Value.okWide Try.prog W .any base t v := hval0
  rw [Try.params4] at hA hval
  obtain ⟨v0, v1, d0, d1, p0, p1, rfl, rfl, rfl, h0, h1⟩ := trodAll_two hA
  obtain ⟨z, rfl, rfl, rfl, wz⟩ := open_int Try.underlying3 (hval 1 3 v1 rfl rfl) h1
  obtain ⟨a0, len, cap, rfl⟩ := okWide_slice Try.underlying22 (hval 0 22 v0 rfl rfl)
  obtain ⟨fuel, hf⟩ := h0
  have hwt : ∀ m ∈ d0.weights Try.prog 22, m ≤ reachBytes := fun m hm => by
    have := List.all_eq_true.1 hsz m (DataW.weights_mem_each (P := Try.prog) (ts := Try.f4.params.toList ++ DataSpec.varTypes Try.checked.prog Rows.monitorCopiesSpec.plain) (ds := [d0, .lit (.int .i64 z)] ++ gs) (j := 0) (t := 22) (d := d0) (by rw [Try.params4]; rfl) rfl m hm)
    simpa using this
  obtain ⟨a, n, c, evs, es, hv, hE⟩ := trod_events (W := W) (base := 0) (sp := fun _ => true) (v := .slice a0 len cap) hf hwt
  obtain ⟨hE, hel⟩ := hE.cut
  rw [hv]
  refine (kept_of_does (v := .bool true) (letI := envOf W; copies_walk hE hel c z (R := []))).mono fun e W' ⟨he, hk⟩ => ?_
  subst he
  rw [← hv]
  exact ⟨_, rfl, post_of_kept (P := Try.prog) kidsC (fun {t e} => fullC t e) (by rw [Try.params4]; decide) rfl hk hW'
    (fun _ _ _ => trodAll_mk1 (shut_bool Try.underlying4 _)) rfl rfl (ok_one (by kernel_rfl) rfl (okWide_bool_mk Try.underlying4 _))⟩
theorem copies_holds : Rows.MonitorCopiesSaid :=
  OpenClaim.holds_of_wide 4 Try.f4 rfl rfl rfl rfl rfl rfl rfl ⟨rfl, rfl, rfl, rfl, rfl⟩ rfl rfl rfl rfl rfl (by kernel_rfl) Try.func4 (by kernel_rfl)
    (of_decide_eq_true (by kernel_rfl)) (by unfold Func.isWrapper; first | (rw [if_pos (by decide +kernel)]; kernel_rfl) | (rw [if_neg (by decide +kernel)]; exact ⟨rfl, rfl⟩))
    (fun os started H enc _ => copies_lifted os started H enc)
#print axioms copies_holds
end Go.Proofs.Ythijlgjfgliinaa
