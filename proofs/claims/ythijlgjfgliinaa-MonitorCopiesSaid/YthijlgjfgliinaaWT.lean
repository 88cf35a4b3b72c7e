/- A law's frame: what is read of the arguments as units, and that they read again as they did. -/
import Derived.Test.YthijlgjfgliinaaWR
import Derived.ProofKit
import Derived.ReadAgain
import Derived.ChangeStays
import Derived.SizedLaws
import Derived.Deep.Slices
set_option linter.all false
namespace Go
open Go.ChangeShapes Go.WideShapes Go.RowKit Go.Deep

/-- All blocks of a world. -/
def blocksOf (w : World) : Blocks := w.heap.toList.zipIdx.map fun p => (p.2, p.1)
theorem blocksOf_mem {w : World} {b : Nat} {o : Obj} (h : w.heap[b]? = some o) : (b, o) ∈ blocksOf w := by
  unfold blocksOf
  refine List.mem_map.2 ⟨(o, b), ?_, rfl⟩
  rw [List.mem_zipIdx_iff_getElem?]
  simpa using h
theorem blocksOf_at {w : World} : ∀ p ∈ blocksOf w, w.heap[p.1]? = some p.2 := by
  intro p hp
  unfold blocksOf at hp
  obtain ⟨q, hq, rfl⟩ := List.mem_map.1 hp
  rw [List.mem_zipIdx_iff_getElem?] at hq
  simpa using hq
theorem blocksOf_nodup (w : World) : ((blocksOf w).map (·.1)).Nodup := by
  unfold blocksOf
  rw [List.map_map]
  have : ((fun x : Nat × Obj => x.1) ∘ fun p : Obj × Nat => (p.2, p.1)) = fun p : Obj × Nat => p.2 := rfl
  rw [this, show (fun p : Obj × Nat => p.2) = Prod.snd from rfl, List.zipIdx_map_snd]
  exact List.nodup_range'
/-- The outer world of one world. -/
abbrev envOf (w : World) : Env := ⟨w.os, w.output⟩
theorem satOf (w : World) : @Sat (envOf w) w [blocksOf w] :=
  letI := envOf w
  show SatB w _ from ⟨by simpa using blocksOf_nodup w, fun p hp => blocksOf_at p (by simpa using hp), rfl, rfl⟩
/-- Behind a call: what was there is there. -/
structure Kept (W W' : World) : Prop where
  heap : ∀ i : Nat, i < W.heap.size → W'.heap[i]? = W.heap[i]?
  os : W'.os = W.os
  out : W'.output = W.output
/-- The whole call, from a judgement over the units. -/
theorem kept_of_does {P : Program} {g : FuncId} {args : Array Value} {v : Value} {W : World}
    (h : letI := envOf W; Does P g args [blocksOf W] (fun en M => ∃ F', blocksOf W ⊆ F' ∧ Gives [F'] v en M)) : Calls P g args W fun e W' => e = .returned v ∧ Kept W W' := by
  letI := envOf W
  refine (h ⟨W, satOf W⟩).mono ?_
  rintro e w' ⟨M, ⟨y, rfl⟩, F', hF, rfl, hi⟩
  have hs : SatB y.w [F'].flatten := hi _ y.ok
  refine ⟨rfl, fun i hlt => ?_, hs.os, hs.out⟩
  have h1 : W.heap[i]? = some W.heap[i] := Array.getElem?_eq_getElem hlt
  rw [h1]
  exact hs.at_ (i, W.heap[i]) (by simpa using hF (blocksOf_mem h1))
section
variable {H : Type} {enc : TypeId × Value → H} {P : Program} {W W' : World}
theorem Kept.sameAt (k : Kept W W') {p : MemPlace} (hp : p.block < W.heap.size) : W.sameAt W' p := by
  cases p with
  | cell b off =>
    show W'.cell? ⟨b, off, none⟩ = W.cell? ⟨b, off, none⟩
    unfold World.cell?
    rw [k.heap b hp]
  | map b => exact k.heap b hp
theorem Kept.keptBut (k : Kept W W') (may : MemPlace → Prop) : W.keptBut W' may := by
  refine ⟨k.os, k.out, fun i hi => ?_⟩
  rw [k.heap i hi]
  cases W.heap[i]? with
  | none => rfl
  | some o => cases o <;> simp
theorem TrodAll.stays {T : TypeId → Prop} (K : Kids P T) (hz : ∀ {t e : TypeId}, T t → P.underlying t = some (.slice e) → 0 < P.cellsOf e) {sp : Nat → Bool} {base : Nat} :
    ∀ {ts : List TypeId} {vs : List Value} {ds : List (DataW H)} {ps : List MemPlace}, (∀ t ∈ ts, T t) → DataW.TrodAll enc P W base (fun _ => true) true ts vs ds ps →
      (∀ p ∈ ps, W.sameAt W' p) → (∀ p ∈ ps, sp p.block = true) → DataW.TrodAll enc P W' base sp true ts vs ds ps
  | [], [], [], _, _, h, _, _ => h
  | _ :: _, _ :: _, _ :: _, _, hT, ⟨p, q, ⟨n, h1⟩, h2, e⟩, hk, hs =>
    ⟨p, q, ⟨n, DataW.trod_stays K hz (fun h => by cases h) (hT _ (List.mem_cons.2 (Or.inl rfl))) h1 (fun x hx => hk x (by rw [e]; exact List.mem_append_left _ hx)) (fun x hx => hs x (by rw [e]; exact List.mem_append_left _ hx))⟩,
      TrodAll.stays K hz (fun t ht => hT t (List.mem_cons.2 (Or.inr ht))) h2 (fun x hx => hk x (by rw [e]; exact List.mem_append_right _ hx)) (fun x hx => hs x (by rw [e]; exact List.mem_append_right _ hx)), e⟩
/-- How 'post' is laid together where what was there is there. -/
theorem post_of_kept {T : TypeId → Prop} (K : Kids P T) (hz : ∀ {t e : TypeId}, T t → P.underlying t = some (.slice e) → 0 < P.cellsOf e) {f : Func} {s : ChangeSpec} {apart fresh handsOn again : Bool} {args : Array Value} {v : Value} {ds gs : List (DataW H)} {before : List MemPlace}
    (hT : ∀ t ∈ f.params.toList, T t) (hv : s.vars = []) (k : Kept W W') (hW : DataW.Whole enc P f.params.toList s.vars apart W args.toList ds gs before)
    (hres : ∀ (b : Nat) (sp : Nat → Bool) (hd : Bool), DataW.TrodAll enc P W' b sp hd f.resultTypes.toList (v.resultList f.resultTypes.size) (s.fn H ds).results [])
    (hargs : (s.fn H ds).args = ds) (hvs : (s.fn H ds).vars = [])
    (hok : ∀ (j : Nat) (t : TypeId) (r : Value), f.resultTypes[j]? = some t → (v.resultList f.resultTypes.size)[j]? = some r → Value.okWide P W' .any 0 t r) :
    s.post enc P f apart fresh handsOn again W args v W' := by
  have hlt := hW.lt
  have hold : ∀ p ∈ before, (fun b => decide (b < W.heap.size)) p.block = true := fun p hp => by simpa using hlt p hp
  have hW' := hW
  obtain ⟨p, q, hA, hV, hpq, hfz, hnd⟩ := hW
  rw [hv] at hV
  obtain ⟨rfl, rfl⟩ := trodVars_none hV
  rw [List.append_nil] at hpq
  subst hpq
  have hA' : ∀ sp : Nat → Bool, (∀ p ∈ before, sp p.block = true) → DataW.TrodAll enc P W' 0 sp true f.params.toList args.toList (s.fn H (ds ++ [])).args before := fun sp hs => by
    rw [List.append_nil, hargs]
    exact TrodAll.stays K hz hT hA (fun p hp => k.sameAt (hlt p hp)) hs
  have hV' : ∀ sp : Nat → Bool, DataW.TrodVars enc P W' sp s.vars (s.fn H (ds ++ [])).vars [] := fun sp => by
    rw [List.append_nil, hvs, hv]; rfl
  have hR' : ∀ (b : Nat) (sp : Nat → Bool) (hd : Bool), DataW.TrodAll enc P W' b sp hd f.resultTypes.toList (v.resultList f.resultTypes.size) (s.fn H (ds ++ [])).results [] := fun b sp hd => by
    rw [List.append_nil]; exact hres b sp hd
  refine ⟨ds, [], before, [], before, [], hW', hR' _ _ _, hA' _ hold, hV' _, k.keptBut _, fun _ => ?_⟩
  refine ⟨hok, _, _, ([] ++ before) ++ [], ⟨[] ++ before, [], trodAll_append (hA' _ (fun _ _ => rfl)) (hR' _ _ _), hV' _, rfl, ?_, ?_⟩, ?_⟩
  · intro b off hp
    have hp' : MemPlace.cell b off ∈ before := by simpa using hp
    have h1 := hfz b off hp'
    unfold World.frozen? at h1 ⊢
    rw [k.heap b (hlt _ hp')]
    exact h1
  · intro ha
    have := hnd ha
    simpa using this
  · intro p hp _
    simpa using hp
end
end Go
