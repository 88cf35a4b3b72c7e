/- Part 48 of the proof of what MonJudges says. -/
import Derived.Test.YthijlgjfgliinaaJg45
import Derived.Test.YthijlgjfgliinaaJg46
import Derived.Test.YthijlgjfgliinaaJg47
section
/- The judge: together (29), walked. -/
set_option linter.all false
namespace Go.Proofs.Ythijlgjfgliinaa
open Go.RowKit
open Go.W
variable [Env]
/-- A stay, as the laws see it, but for its counts. -/
def JSt.abs (evs : List Ev) (s : JSt) : AStay := ⟨s.proc, s.epoch, s.rep, s.members, (partJ s.gots false).map GM.mg, (partJ s.gots true).map GM.mg, fun _ => 0, (s.tr.bind fun q => evs[q]?).map fun t => ⟨t.nepoch, t.nrep, t.members⟩, s.nx.isSome⟩
/-- What a stay got stands in two parts. -/
def Sorted (s : JSt) : Prop := s.gots.map (fun j => (j.g.mg, j.tr)) = ((partJ s.gots false).map GM.mg).map (·, false) ++ ((partJ s.gots true).map GM.mg).map (·, true)
theorem Sorted.of {s : JSt} {p0 p1 : List Mg} (h : s.gots.map (fun j => (j.g.mg, j.tr)) = p0.map (·, false) ++ p1.map (·, true)) : (partJ s.gots false).map GM.mg = p0 ∧ (partJ s.gots true).map GM.mg = p1 := by
  have key : ∀ t, (partJ s.gots t).map GM.mg = ((s.gots.map fun j => (j.g.mg, j.tr)).filter fun x => x.2 == t).map (·.1) := fun t => by
    unfold partJ
    rw [List.filter_map, List.map_map, List.map_map]
    rfl
  rw [key, key, h]
  have f1 : ∀ (l : List Mg) (u t : Bool), ((l.map fun x => (x, u)).filter fun x => x.2 == t).map (·.1) = if u == t then l else [] := by
    intro l u t
    induction l with
    | nil => cases u <;> cases t <;> rfl
    | cons x l ih =>
      simp only [List.map_cons, List.filter_cons]
      cases u <;> cases t <;> simp_all
  simp only [List.filter_append, List.map_append, f1]
  simp
theorem Sorted.msgs {s : JSt} (h : Sorted s) : s.msgs = (partJ s.gots false).map GM.mg ++ (partJ s.gots true).map GM.mg := by
  unfold JSt.msgs
  have h2 := congrArg (List.map Prod.fst) h
  simpa [List.map_map, Function.comp_def] using h2
theorem bads_map6 {α : Type} (f : α → Bool) (l : List α) (g : GMap Int Bool) : GMap.bads g (l.map fun x => ((6 : Int), f x)) = l.foldl (fun g x => GMap.bad g 6 (f x)) g := by
  unfold GMap.bads
  rw [List.foldl_map]
theorem hasJ_msgs (gs : List JGot) (x : Mg) : hasJ gs x = hasMg (gs.map (·.g.mg)) x := by
  unfold hasJ hasMg
  induction gs with
  | nil => rfl
  | cons j gs ih =>
    simp only [List.any_cons, List.map_cons, List.contains_cons, ih]
    congr 1
    by_cases h : j.g.mg = x
    · simp [h]
    · simp [h]; exact fun e => h e.symm
/-- The judge's safe is the laws'. -/
theorem safe_eq (evs : List Ev) {a b : JSt} {tm : Int} (ha : Sorted a) (hb : Sorted b) (htm : ∀ u, a.tr = some u → ∃ ea, evs[u]? = some ea ∧ ea.members = tm) (hgt : ∀ j ∈ a.gots, j.tr = true → a.tr ≠ none) (g : GMap Int Bool) :
    GMap.bads g (safe6 (a.abs evs) (b.abs evs)) = safeF a.members tm b.proc b.gots a.gots g := by
  have hall : (b.abs evs).all = b.gots.map (·.g.mg) := (hb.msgs).symm
  have hsf : ∀ (l : List JGot) (g : GMap Int Bool), safeF a.members tm b.proc b.gots l g = (l.map fun j => (j.g.mg, j.tr)).foldl (fun g x => GMap.bad g 6 (x.1.svc == 2 && (hasB (if x.2 then tm else a.members) b.proc && !hasMg (b.abs evs).all x.1))) g := by
    intro l g
    unfold safeF
    rw [List.foldl_map]
    congr 1
    funext g j
    unfold safeC
    rw [hall, hasJ_msgs]
    rfl
  rw [hsf, ha, List.foldl_append]
  unfold safe6
  rw [GMap.bads_app]
  have h0 : GMap.bads g (owesCk (hasB (a.abs evs).members (b.abs evs).proc) (b.abs evs).all (a.abs evs).p0) = (((partJ a.gots false).map GM.mg).map (·, false)).foldl (fun g x => GMap.bad g 6 (x.1.svc == 2 && (hasB (if x.2 then tm else a.members) b.proc && !hasMg (b.abs evs).all x.1))) g := by
    unfold owesCk
    rw [bads_map6, List.foldl_map]
    rfl
  rw [h0]
  generalize List.foldl _ g (((partJ a.gots false).map GM.mg).map (·, false)) = g'
  cases htr : a.tr with
  | none =>
    have he : (partJ a.gots true) = [] := by
      unfold partJ
      rw [List.map_eq_nil_iff, List.filter_eq_nil_iff]
      intro j hj hjt
      exact hgt j hj (by simpa using hjt) htr
    have h1 : (a.abs evs).tr = none := by unfold JSt.abs; rw [htr]; rfl
    rw [h1, he]
    rfl
  | some u =>
    obtain ⟨ea, hea, hm⟩ := htm u htr
    have h1 : (a.abs evs).tr = some ⟨ea.nepoch, ea.nrep, ea.members⟩ := by
      show ((a.tr.bind fun q => evs[q]?).map fun t => (⟨t.nepoch, t.nrep, t.members⟩ : ATr)) = _
      rw [htr]
      simp [hea]
    rw [h1]
    simp only
    unfold owesCk
    rw [bads_map6, List.foldl_map, hm]
    rfl
end Go.Proofs.Ythijlgjfgliinaa
end
