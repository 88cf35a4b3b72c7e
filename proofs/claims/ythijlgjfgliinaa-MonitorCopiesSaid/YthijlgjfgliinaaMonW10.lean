/- Once broken it stays broken: of the monitor as the laws see it. -/
import Derived.Test.YthijlgjfgliinaaMonW9
set_option linter.all false
namespace Go.Proofs.Ythijlgjfgliinaa
open Go.RowKit
variable [Env]
/-- What a breach may become. -/
def Down (a b : Int) : Prop := 0 ≤ a → 0 ≤ b ∧ (0 < a → 0 < b ∧ b ≤ a)
theorem Down.refl (a : Int) : Down a a := fun h => ⟨h, fun h => ⟨h, Int.le_refl _⟩⟩
theorem Down.trans {a b c : Int} (h : Down a b) (h' : Down b c) : Down a c := fun ha => by
  obtain ⟨h1, h2⟩ := h ha
  obtain ⟨h3, h4⟩ := h' h1
  refine ⟨h3, fun hp => ?_⟩
  obtain ⟨h5, h6⟩ := h2 hp
  obtain ⟨h7, h8⟩ := h4 h5
  exact ⟨h7, by omega⟩
theorem Down.brk (a r : Int) (c : Bool) (hr : 0 < r := by omega) : Down a (brk a r c) := fun ha => by
  unfold Go.Proofs.Ythijlgjfgliinaa.brk
  split
  · rename_i h
    exact ⟨by omega, fun hp => ⟨hr, by have := h.2; omega⟩⟩
  · exact ⟨ha, fun hp => ⟨hp, Int.le_refl _⟩⟩
theorem Down.foldl {α : Type} {f : Int → α → Int} (h : ∀ b x, Down b (f b x)) : ∀ (l : List α) (a : Int), Down a (l.foldl f a)
  | [], a => Down.refl a
  | x :: l, a => (h a x).trans (Down.foldl h l _)
theorem Down.owes (has : Bool) (all : List Mg) (br : Int) (l : List Mg) : Down br (owesB has all br l) := by
  unfold owesB
  refine Down.foldl (fun b x => ?_) l br
  split
  · exact Down.brk _ _ _
  · exact Down.refl _
theorem Down.close (b : AStay) (l : List AStay) (br : Int) : Down br (closeB b l br) := by
  unfold closeB
  refine Down.foldl (fun b x => ?_) l br
  unfold closeStep
  repeat' split
  all_goals first | exact Down.refl _ | exact Down.owes _ _ _ _ | exact (Down.owes _ _ _ _).trans (Down.owes _ _ _ _) | exact ((Down.owes _ _ _ _).trans (Down.owes _ _ _ _)).trans (Down.brk _ _ _) | exact (Down.owes _ _ _ _).trans (Down.brk _ _ _)
theorem Down.tell (ep rp mem : Int) (x : Mg) (l : List AStay) (br : Int) : Down br (tellB ep rp mem x l br) := by
  unfold tellB
  refine Down.foldl (fun b x => ?_) l br
  unfold tellStep
  split
  · exact Down.owes _ _ _ _
  · exact Down.refl _
theorem Down.deps (count : Int → Int) : ∀ (l : List Int) (q : Nat) (br : Int), Down br (depsB count q l br)
  | [], _, br => Down.refl br
  | n :: l, q, br => (Down.brk br 4 _).trans (Down.deps count l (q + 1) _)
theorem Down.last (br : Int) (all : List Mg) (x : Mg) : Down br (lastB br all x) := by
  unfold lastB
  split
  · exact Down.brk _ _ _
  · exact Down.refl _
theorem AMon.act_keeps (A : AMon) (e : AEv) : (A.act e).at_ = A.at_ ∧ (A.act e).ru = A.ru ∧ (A.act e).ln = A.ln ∧ Down A.br (A.act e).br := by
  unfold AMon.act
  repeat' split
  · exact ⟨rfl, rfl, rfl, Down.refl _⟩
  · refine ⟨rfl, rfl, rfl, ?_⟩
    unfold AMon.regular
    simp only
    split
    · exact ((Down.brk _ _ _).trans (Down.brk _ _ _)).trans (Down.foldl (fun b x => Down.brk _ _ _) _ _)
    · exact (((((Down.brk _ _ _).trans (Down.brk _ _ _)).trans (Down.foldl (fun b x => Down.brk _ _ _) _ _)).trans (Down.brk _ _ _)).trans (Down.brk _ _ _)).trans (Down.close _ _ _)
  · exact ⟨rfl, rfl, rfl, Down.brk _ _ _⟩
  · unfold AMon.deliver
    have h1 : ∀ b x l s, Down b (del1 b x l s) := fun b x l s => (Down.brk _ _ _).trans (Down.brk _ _ _)
    simp only
    split
    · exact ⟨rfl, rfl, rfl, (h1 _ _ _ _).trans (Down.brk _ _ _)⟩
    · exact ⟨rfl, rfl, rfl, ((((h1 _ _ _ _).trans (Down.brk _ _ _)).trans (Down.last _ _ _)).trans (Down.deps _ _ _ _)).trans (Down.tell _ _ _ _ _ _)⟩
  · unfold AMon.trans
    split
    · exact ⟨rfl, rfl, rfl, Down.brk _ _ _⟩
    · exact ⟨rfl, rfl, rfl, Down.brk _ _ _⟩
  · exact ⟨rfl, rfl, rfl, Down.refl _⟩
/-- What the law asks of one event more. -/
structure AMon.Stays (A B : AMon) : Prop where
  ln : B.ln = A.ln + 1
  down : Down A.br B.br
  old : A.at_ ≠ 0 → B.at_ = A.at_ ∧ B.ru = A.ru
  new : A.at_ = 0 → 0 < B.br → B.at_ = A.ln + 1 ∧ B.ru = B.br
  none : A.at_ = 0 → ¬ 0 < B.br → B.at_ = 0
theorem AMon.add_stays (A : AMon) (e : AEv) : A.Stays (A.add e) := by
  obtain ⟨h1, h2, h3, h4⟩ := AMon.act_keeps ({ A with ln := A.ln + 1 } : AMon) e
  unfold AMon.add AMon.first
  simp only at h1 h2 h3 h4
  split
  · rename_i h
    rw [h1] at h
    exact ⟨h3, h4, fun ha => absurd h.2 ha, fun _ _ => ⟨h3, rfl⟩, fun _ hb => absurd h.1 hb⟩
  · rename_i h
    rw [h1] at h
    exact ⟨h3, h4, fun _ => ⟨h1, h2⟩, fun ha hb => absurd ⟨hb, ha⟩ h, fun ha _ => by rw [h1]; exact ha⟩
end Go.Proofs.Ythijlgjfgliinaa
