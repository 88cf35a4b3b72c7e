/- Part 18 of the proof of what MonJudges says. -/
import Derived.Test.YthijlgjfgliinaaJg17
import Derived.Test.YthijlgjfgliinaaJg06
import Derived.ProofKit
import Derived.ReadAgain
import Derived.ChangeStays
import Derived.SizedLaws
import Derived.Deep.Slices
section
/- The monitor is awake. -/
set_option linter.all false
namespace Go.Proofs.Ythijlgjfgliinaa
open Go.RowKit
open Go.W
variable [Env]
theorem CallC.mnew {g : FuncId} {args : Array Value} {F : Blocks} {L R : Units} {K : Value → Units → Prop} {E : List PanicEntry → Units → Prop} (h : Does Try.prog g args (F :: R) (NewPost F R)) (hi : Incl L (F :: R))
    (kk : ∀ G : GMon, G.ok F 0 → G.abs = AMon.fresh → K (.pointer (some ⟨G.m, 0, none⟩)) (G.L F R)) : CallC Try.prog g args L K E := by
  intro x
  refine (Does.incl hi h x).mono ?_
  rintro e w ⟨M, hM, G', hok, hA, rfl, hgi⟩
  exact ⟨_, hM.incl hgi, kk G' hok hA⟩
theorem CallC.madd {g : FuncId} {args : Array Value} {F : Blocks} {L R : Units} {G : GMon} {k : Nat} {A : AMon} {K : Value → Units → Prop} {E : List PanicEntry → Units → Prop} (h : Does Try.prog g args (G.L F R) (AddPost F k R G A)) (hi : Incl L (G.L F R))
    (kk : ∀ (G' : GMon) (F' : Blocks), F ⊆ F' → G'.ok F' k → G'.m = G.m → G'.abs = A → K (.int .i64 G'.br) (G'.L F' R)) : CallC Try.prog g args L K E := by
  intro x
  refine (Does.incl hi h x).mono ?_
  rintro e w ⟨M, hM, G', F', hF, hok, hm, hA, rfl, hgi⟩
  exact ⟨_, hM.incl hgi, kk G' F' hF hok hm hA⟩
theorem CallC.igives {g : FuncId} {args : Array Value} {L N M : Units} {v : Value} {K : Value → Units → Prop} {E : List PanicEntry → Units → Prop} (h : Does Try.prog g args N (Gives M v)) (hi : Incl L N) (k : K v M) : CallC Try.prog g args L K E := CallC.gives (Does.incl hi h) k
def zeroRM : RM := ⟨0, 0, 0, 0, none, 0, 0, ByteArray.empty⟩
abbrev zeroEv (k p : Int) : Ev := { kind := k, proc := p, epoch := 0, rep := 0, nepoch := 0, nrep := 0, members := 0, m := ⟨0, 0, 0, 0, none, 0, 0, ByteArray.empty⟩, vnum := 0, vepoch := 0, vrep := 0, vmem := 0, na := none, nn := 0, nc := 0, state := ByteArray.empty }
attribute [local irreducible] opsC wpC quietC LoopC DrawC CutC LoadC StoreC ReadC UpdC RunC CallC QCallC EndC thenC inBlockC
set_option maxRecDepth 100000
set_option synthInstance.maxHeartbeats 400000
set_option synthInstance.maxSize 2000
set_option maxHeartbeats 4000000 in
theorem awake_spec {F : Blocks} {R : Units} : Does Try.prog 6 #[] (F :: R) (fun en M => ∃ F', F ⊆ F' ∧ Gives (F' :: R) (.bool true) en M) := by
  refine does_of_wpC (args := []) Try.func6 rfl (by kernel_rfl) ?_
  repeat (first | refine c_seq ?_ | refine c_reg ?_ | refine r_nil ?_ | refine e_n ?_ | refine CutC.go ?_ | refine r_val (by rfl) ?_)
  refine r_fun (by rfl) (by rfl) ?_
  refine CallC.mnew (g := 8) new_spec (Incl.refl _) (fun G hok hA => ?_)
  repeat (first | refine c_seq ?_ | refine c_reg ?_ | refine r_nil ?_ | refine e_n ?_ | refine CutC.go ?_ | refine r_val (by rfl) ?_ | refine c_no (by rfl) (by first | with_reducible assumption | decide) ?_ | refine c_skip ?_ | refine r_build (by rfl) (by rfl) ?_)
  have hd : ∀ (F : Blocks) (k p : Int), GM.ok F ⟨(zeroEv k p).m, []⟩ := fun F k p => ⟨⟨rfl, .inl rfl⟩, by show (0 : Nat) ≤ _; omega⟩
  have hln := congrArg AMon.ln hA
  refine r_fun (by rfl) (by rfl) ?_
  refine CallC.madd (g := 9) (add_spec G 0 hok (by omega) (by rw [show G.ln = 0 from hln]; omega) (zeroEv 5 0) [] (hd _ _ _)) (Incl.refl _) (fun G1 F1 hF1 hok1 hm1 hA1 => ?_)
  rw [hA] at hA1
  rw [← hm1]
  have hln1 : G1.ln = 1 := congrArg AMon.ln hA1
  have hbr1 : G1.br = 0 := congrArg AMon.br hA1
  repeat (first | refine r_val (by rfl) ?_ | refine r_build (by rfl) (by rfl) ?_)
  refine r_fun (by rfl) (by rfl) ?_
  refine CallC.madd (g := 9) (add_spec G1 1 hok1 (by omega) (by rw [hln1]; omega) (zeroEv 2 1) [] (hd _ _ _)) (Incl.refl _) (fun G2 F2 hF2 hok2 hm2 hA2 => ?_)
  rw [hA1] at hA2
  rw [← hm2]
  have hln2 : G2.ln = 2 := congrArg AMon.ln hA2
  have hbr2 : G2.br = 1 := congrArg AMon.br hA2
  have hat2 : G2.at_ = 2 := congrArg AMon.at_ hA2
  have hru2 : G2.ru = 1 := congrArg AMon.ru hA2
  rw [hbr1, hbr2]
  have hF := first_spec (F := F2) G2 (R := R)
  have hB := broken_spec (F := F2) G2 (R := R)
  have hL := len_spec (F := F2) G2 (R := R)
  rw [hat2, hru2] at hF
  rw [hbr2] at hB
  rw [hln2] at hL
  repeat (first | (refine r_fun (by rfl) (by rfl) ?_; refine CallC.igives (g := 10) hF (Incl.refl _) ?_) | (refine r_fun (by rfl) (by rfl) ?_; refine CallC.igives (g := 12) hB (Incl.refl _) ?_) | (refine r_fun (by rfl) (by rfl) ?_; refine CallC.igives (g := 13) hL (Incl.refl _) ?_) | refine c_seq ?_ | refine c_reg ?_ | refine r_nil ?_ | refine e_n ?_ | refine CutC.go ?_ | refine r_val (by rfl) ?_ | refine r_gT (by rfl) (by first | with_reducible assumption | decide) ?_ | refine c_ret ?_ | refine EndC.mk rfl ?_)
  exact ⟨F2, List.Subset.trans hF1 hF2, Gives.mk rfl Incl.of⟩
end Go.Proofs.Ythijlgjfgliinaa
end
section
/- Once broken it stays broken: of the monitor as the laws see it. -/
set_option linter.all false
namespace Go.Proofs.Ythijlgjfgliinaa
open Go.RowKit
variable [Env]
/-- What a breach may become. -/
def Down (a b : Int) : Prop := 0 ≤ a → 0 ≤ b ∧ (0 < a → 0 < b ∧ b ≤ a)
theorem Down.refl (a : Int) : Down a a := fun h => ⟨h, fun h => ⟨h, Int.le_refl _⟩⟩
theorem Down.trans {a b c : Int} (h : Down a b) (h' : Down b c) : Down a c := fun ha => by
  obtain ⟨h1, h2⟩ := h ha
  obtain ⟨h3, h4⟩ := h' h1
  refine ⟨h3, fun hp => ?_⟩
  obtain ⟨h5, h6⟩ := h2 hp
  obtain ⟨h7, h8⟩ := h4 h5
  exact ⟨h7, by omega⟩
theorem Down.brk (a r : Int) (c : Bool) (hr : 0 < r := by omega) : Down a (brk a r c) := fun ha => by
  unfold Go.Proofs.Ythijlgjfgliinaa.brk
  split
  · rename_i h
    exact ⟨by omega, fun hp => ⟨hr, by have := h.2; omega⟩⟩
  · exact ⟨ha, fun hp => ⟨hp, Int.le_refl _⟩⟩
theorem Down.foldl {α : Type} {f : Int → α → Int} (h : ∀ b x, Down b (f b x)) : ∀ (l : List α) (a : Int), Down a (l.foldl f a)
  | [], a => Down.refl a
  | x :: l, a => (h a x).trans (Down.foldl h l _)
theorem Down.owes (has : Bool) (all : List Mg) (br : Int) (l : List Mg) : Down br (owesB has all br l) := by
  unfold owesB
  refine Down.foldl (fun b x => ?_) l br
  split
  · exact Down.brk _ _ _
  · exact Down.refl _
theorem Down.close (b : AStay) (l : List AStay) (br : Int) : Down br (closeB b l br) := by
  unfold closeB
  refine Down.foldl (fun b x => ?_) l br
  unfold closeStep
  repeat' split
  all_goals first | exact Down.refl _ | exact Down.owes _ _ _ _ | exact (Down.owes _ _ _ _).trans (Down.owes _ _ _ _) | exact ((Down.owes _ _ _ _).trans (Down.owes _ _ _ _)).trans (Down.brk _ _ _) | exact (Down.owes _ _ _ _).trans (Down.brk _ _ _)
theorem Down.tell (ep rp mem : Int) (x : Mg) (l : List AStay) (br : Int) : Down br (tellB ep rp mem x l br) := by
  unfold tellB
  refine Down.foldl (fun b x => ?_) l br
  unfold tellStep
  split
  · exact Down.owes _ _ _ _
  · exact Down.refl _
theorem Down.deps (count : Int → Int) : ∀ (l : List Int) (q : Nat) (br : Int), Down br (depsB count q l br)
  | [], _, br => Down.refl br
  | n :: l, q, br => (Down.brk br 4 _).trans (Down.deps count l (q + 1) _)
theorem Down.last (br : Int) (all : List Mg) (x : Mg) : Down br (lastB br all x) := by
  unfold lastB
  split
  · exact Down.brk _ _ _
  · exact Down.refl _
theorem AMon.act_keeps (A : AMon) (e : AEv) : (A.act e).at_ = A.at_ ∧ (A.act e).ru = A.ru ∧ (A.act e).ln = A.ln ∧ Down A.br (A.act e).br := by
  unfold AMon.act
  repeat' split
  · exact ⟨rfl, rfl, rfl, Down.refl _⟩
  · refine ⟨rfl, rfl, rfl, ?_⟩
    unfold AMon.regular
    simp only
    split
    · exact ((Down.brk _ _ _).trans (Down.brk _ _ _)).trans (Down.foldl (fun b x => Down.brk _ _ _) _ _)
    · exact (((((Down.brk _ _ _).trans (Down.brk _ _ _)).trans (Down.foldl (fun b x => Down.brk _ _ _) _ _)).trans (Down.brk _ _ _)).trans (Down.brk _ _ _)).trans (Down.close _ _ _)
  · exact ⟨rfl, rfl, rfl, Down.brk _ _ _⟩
  · unfold AMon.deliver
    have h1 : ∀ b x l s, Down b (del1 b x l s) := fun b x l s => (Down.brk _ _ _).trans (Down.brk _ _ _)
    simp only
    split
    · exact ⟨rfl, rfl, rfl, (h1 _ _ _ _).trans (Down.brk _ _ _)⟩
    · exact ⟨rfl, rfl, rfl, ((((h1 _ _ _ _).trans (Down.brk _ _ _)).trans (Down.last _ _ _)).trans (Down.deps _ _ _ _)).trans (Down.tell _ _ _ _ _ _)⟩
  · unfold AMon.trans
    split
    · exact ⟨rfl, rfl, rfl, Down.brk _ _ _⟩
    · exact ⟨rfl, rfl, rfl, Down.brk _ _ _⟩
  · exact ⟨rfl, rfl, rfl, Down.refl _⟩
/-- What the law asks of one event more. -/
structure AMon.Stays (A B : AMon) : Prop where
  ln : B.ln = A.ln + 1
  down : Down A.br B.br
  old : A.at_ ≠ 0 → B.at_ = A.at_ ∧ B.ru = A.ru
  new : A.at_ = 0 → 0 < B.br → B.at_ = A.ln + 1 ∧ B.ru = B.br
  none : A.at_ = 0 → ¬ 0 < B.br → B.at_ = 0
theorem AMon.add_stays (A : AMon) (e : AEv) : A.Stays (A.add e) := by
  obtain ⟨h1, h2, h3, h4⟩ := AMon.act_keeps ({ A with ln := A.ln + 1 } : AMon) e
  unfold AMon.add AMon.first
  simp only at h1 h2 h3 h4
  split
  · rename_i h
    rw [h1] at h
    exact ⟨h3, h4, fun ha => absurd h.2 ha, fun _ _ => ⟨h3, rfl⟩, fun _ hb => absurd h.1 hb⟩
  · rename_i h
    rw [h1] at h
    exact ⟨h3, h4, fun _ => ⟨h1, h2⟩, fun ha hb => absurd ⟨hb, ha⟩ h, fun ha _ => by rw [h1]; exact ha⟩
end Go.Proofs.Ythijlgjfgliinaa
end
section
/- 'MonitorStays', walked. -/
set_option linter.all false
namespace Go.Proofs.Ythijlgjfgliinaa
open Go.RowKit
open Go.W
variable [Env]
theorem few_len : ∀ (l : List Ev) (n : Int) (i : Nat), fewFrom n i l = true → l ≠ [] → i + l.length ≤ 500
  | [], _, _, _, h => absurd rfl h
  | e :: l, n, i, h, _ => by
    simp only [fewFrom] at h
    split at h
    · cases h
    · rename_i hc
      cases l with
      | nil => simp only [List.length_cons, List.length_nil]; omega
      | cons e' l' =>
        have := few_len (e' :: l') _ _ h (by simp)
        simp only [List.length_cons] at this ⊢
        omega
theorem CallC.grows {g : FuncId} {args : Array Value} {F : Blocks} {L R : Units} {v : Value} {K : Value → Units → Prop} {E : List PanicEntry → Units → Prop} (h : Does Try.prog g args (F :: R) (fun en M => ∃ F', F ⊆ F' ∧ Gives (F' :: R) v en M)) (hi : Incl L (F :: R))
    (kk : ∀ F', F ⊆ F' → K v (F' :: R)) : CallC Try.prog g args L K E := by
  intro x
  refine (Does.incl hi h x).mono ?_
  rintro e w ⟨M, hM, F', hF, rfl, hgi⟩
  exact ⟨_, hM.incl hgi, kk F' hF⟩
theorem _root_.Go.SlIn.mono' {U V : Blocks} {a : Option Addr} {n s : Nat} {els : List (List Value)} (h : SlIn U a n s els) (hs : U ⊆ V) : SlIn V a n s els := SlIn.mono h hs
attribute [local irreducible] opsC wpC quietC LoopC DrawC CutC LoadC StoreC ReadC UpdC RunC CallC QCallC EndC thenC inBlockC
set_option maxRecDepth 100000
set_option synthInstance.maxHeartbeats 400000
set_option synthInstance.maxSize 2000
theorem few_nil (a : Option Addr) (c : Nat) {L : Units} : Does Try.prog 7 #[.slice a 0 c] L (Gives L (.bool true)) := by
  refine does_of_wpC (args := [.slice a 0 c]) Try.func7 rfl (by kernel_rfl) ?_
  repeat (first | refine c_seq ?_ | refine c_reg ?_ | refine r_nil ?_ | refine e_n ?_ | refine CutC.go ?_ | refine r_val (by rfl) ?_ | refine c_block ?_ | refine c_loop ?_)
  refine LoopC.inv (γ := Unit) (fun _ => True) (fun _ => [(0, .slice a 0 c), (4, .int .i64 0)]) (fun _ => L) (fun _ => 0) (MeetC.mk () trivial ⟨rfl, rfl, rfl⟩ (Incl.refl _)) ?_
  rintro _ _ f0
  repeat (first | refine c_seq ?_ | refine c_reg ?_ | refine r_nil ?_ | refine e_n ?_ | refine CutC.go ?_ | refine r_lenS (by rfl) (by rfl) ?_ | refine r_val (by rfl) ?_ | refine c_no (by rfl) (by first | with_reducible assumption | decide) ?_ | refine c_ret ?_ | refine c_exit ?_ | refine e_x ?_ | refine b_x1 ?_ | refine EndC.mk rfl ?_)
  exact Gives.mk rfl (Incl.refl _)
/-- Events, as they lie in memory. -/
structure EvsIn (F : Blocks) (a : Option Addr) (n : Nat) (evs : List Ev) (ds : List (List Int)) : Prop where
  row : SlIn F a n 19 (evs.map Ev.cells)
  deps : ∀ (i : Nat) (e : Ev), evs[i]? = some e → ∃ d, ds[i]? = some d ∧ GM.ok F ⟨e.m, d⟩
  max : n ≤ 9223372036854775807
theorem EvsIn.mono {U V : Blocks} {a : Option Addr} {n : Nat} {evs : List Ev} {ds : List (List Int)} (h : EvsIn U a n evs ds) (hs : U ⊆ V) : EvsIn V a n evs ds :=
  ⟨h.row.mono hs, fun i e he => by obtain ⟨d, h1, h2⟩ := h.deps i e he; exact ⟨d, h1, h2.mono hs⟩, h.max⟩
theorem EvsIn.len {U : Blocks} {a : Option Addr} {n : Nat} {evs : List Ev} {ds : List (List Int)} (h : EvsIn U a n evs ds) : evs.length = n := by have := h.row.1; simpa using this
theorem few_all {F : Blocks} {a : Option Addr} {n : Nat} {evs : List Ev} {ds : List (List Int)} (h : EvsIn F a n evs ds) (c : Nat) {R : Units} : Does Try.prog 7 #[.slice a n c] (F :: R) (Gives (F :: R) (.bool (few evs))) := by
  have hl := h.len
  rcases h.row.2 with h0 | ⟨b, o, arr, T, fr, rfl, hm, hrow⟩
  · subst h0
    have : evs = [] := List.eq_nil_of_length_eq_zero hl
    subst this
    exact few_nil a c
  · haveI hS : ∀ {L R : Units} [Unit_ L F R], Has L b (.cells arr T fr) := fun {L R} h => ⟨h.ok.mem_iff.2 (by simp [hm])⟩
    subst hl
    exact Does.of_ret (fun x => few_spec evs b o c arr T fr hrow h.max x)
theorem few_500 {evs : List Ev} (h : few evs = true) : evs.length ≤ 500 := by
  cases evs with
  | nil => simp
  | cons e l => have := few_len (e :: l) 0 0 h (by simp); omega
set_option maxHeartbeats 4000000 in
theorem stays_walk {F : Blocks} {a : Option Addr} {n : Nat} {evs : List Ev} {ds : List (List Int)} (h : EvsIn F a n evs ds) (c : Nat) {R : Units} :
    Does Try.prog 3 #[.slice a n c] (F :: R) (fun en M => ∃ F', F ⊆ F' ∧ Gives (F' :: R) (.bool true) en M) := by
  refine does_of_wpC (args := [.slice a n c]) Try.func3 rfl (by kernel_rfl) ?_
  have hl := h.len
  have hmax := h.max
  repeat (first | refine c_seq ?_ | refine c_reg ?_ | refine r_nil ?_ | refine e_n ?_ | refine CutC.go ?_ | refine r_val (by rfl) ?_)
  refine r_fun (by rfl) (by rfl) ?_
  refine CallC.grows (g := 6) awake_spec (Incl.refl _) (fun F1 hF1 => ?_)
  have h1 := h.mono hF1
  cases hfew : few evs
  · have hf := few_all h1 c (R := R)
    rw [hfew] at hf
    repeat (first | (refine r_fun (by rfl) (by rfl) ?_; refine CallC.igives (g := 7) hf (Incl.refl _) ?_) | refine c_seq ?_ | refine c_reg ?_ | refine r_nil ?_ | refine e_n ?_ | refine CutC.go ?_ | refine r_val (by rfl) ?_ | refine c_yes (by rfl) (by first | with_reducible assumption | decide) ?_ | refine c_no (by rfl) (by first | with_reducible assumption | decide) ?_ | refine c_skip ?_ | refine c_ret ?_ | refine e_r ?_ | refine EndC.mk rfl ?_)
    exact ⟨F1, hF1, Gives.mk rfl (Incl.refl _)⟩
  · have h500 := few_500 hfew
    rw [hl] at h500
    have hf := few_all h1 c (R := R)
    rw [hfew] at hf
    repeat (first | (refine r_fun (by rfl) (by rfl) ?_; refine CallC.igives (g := 7) hf (Incl.refl _) ?_) | (refine r_fun (by rfl) (by rfl) ?_; refine CallC.mnew (g := 8) new_spec (Incl.refl _) (fun G hok hA => ?_)) | refine c_seq ?_ | refine c_reg ?_ | refine r_nil ?_ | refine e_n ?_ | refine CutC.go ?_ | refine r_val (by rfl) ?_ | refine c_no (by rfl) (by first | with_reducible assumption | decide) ?_ | refine c_skip ?_ | refine c_block ?_ | refine c_loop ?_)
    refine LoopC.inv (γ := Nat × GMon × Blocks) (fun p => p.1 ≤ n ∧ F1 ⊆ p.2.2 ∧ p.2.1.ok p.2.2 p.1 ∧ p.2.1.ln = p.1 ∧ 0 ≤ p.2.1.br ∧ 0 ≤ p.2.1.at_)
      (fun p => [(0, .slice a n c), (3, .pointer (some ⟨p.2.1.m, 0, none⟩)), (4, .int .i64 p.2.1.br), (5, .int .i64 p.2.1.at_), (6, .int .i64 p.2.1.ru), (7, .int .i64 (p.1 : Nat))]) (fun p => p.2.1.L p.2.2 R) (fun p => n - p.1) ?_ ?_
    · have e1 : G.br = 0 := congrArg AMon.br hA
      have e2 : G.at_ = 0 := congrArg AMon.at_ hA
      have e3 : G.ru = 0 := congrArg AMon.ru hA
      have e4 : G.ln = 0 := congrArg AMon.ln hA
      refine MeetC.mk (0, G, F1) ⟨by omega, List.Subset.refl _, hok, e4, by simp only; omega, by simp only; omega⟩ ?_ (Incl.refl _)
      simp only [e1, e2, e3]
      exact ⟨rfl, rfl, rfl, rfl, rfl, rfl, rfl⟩
    · rintro ⟨k, G1, X⟩ ⟨hk, hX, hok1, hln, hbr, hat⟩ f0
      simp only at hk hX hok1 hln hbr hat ⊢
      have h2 := h1.mono hX
      by_cases hlt : k < n
      · have hd1 : decide ((k : Int) < (n : Int)) = true := by simp; omega
        obtain ⟨e, he⟩ : ∃ e, evs[k]? = some e := ⟨evs[k]'(by omega), List.getElem?_eq_getElem _⟩
        obtain ⟨d, hdk, hd⟩ := h2.deps k e he
        rcases h2.row.2 with h0 | ⟨b, o, arr, T, fr, rfl, hm, hrow⟩
        · omega
        haveI hS : ∀ {L R : Units} [Unit_ L X R], Has L b (.cells arr T fr) := fun {L R} h => ⟨h.ok.mem_iff.2 (by simp [hm])⟩
        have hec : (evs.map Ev.cells)[k]? = some e.cells := by simp [he]
        repeat (first | (refine r_index (by rfl) (by rfl) (by rfl) hlt ?_) | (refine r_load (by rfl) ?_; refine LoadC.row (b := b) hrow hec rfl (by rfl) ?_) | refine c_seq ?_ | refine c_reg ?_ | refine r_nil ?_ | refine e_n ?_ | refine CutC.go ?_ | refine r_lenS (by rfl) (by rfl) ?_ | refine r_val (by rfl) ?_ | refine c_yes (by rfl) (by first | with_reducible assumption | decide) ?_ | refine c_skip ?_ | refine c_block ?_)
        refine r_fun (by rfl) (by rfl) ?_
        refine CallC.madd (g := 9) (add_spec G1 k hok1 (by omega) (by rw [hln]; omega) e d hd) (Incl.refl _) (fun G2 X2 hX2 hok2 hm2 hA2 => ?_)
        have hSt := AMon.add_stays G1.abs (e.abs d)
        rw [← hA2] at hSt
        rw [← hm2]
        obtain ⟨s1, s2, s3, s4, s5⟩ := hSt
        have hln2 : G2.ln = G1.ln + 1 := s1
        have hdn : 0 ≤ G2.br ∧ (0 < G1.br → 0 < G2.br ∧ G2.br ≤ G1.br) := s2 hbr
        have hold : G1.at_ ≠ 0 → G2.at_ = G1.at_ ∧ G2.ru = G1.ru := s3
        have hnew : G1.at_ = 0 → 0 < G2.br → G2.at_ = G1.ln + 1 ∧ G2.ru = G2.br := s4
        have hnone : G1.at_ = 0 → ¬ 0 < G2.br → G2.at_ = 0 := s5
        clear s1 s2 s3 s4 s5 hA2
        have hat2 : 0 ≤ G2.at_ := by
          by_cases h0 : G1.at_ = 0
          · by_cases h1 : 0 < G2.br
            · have := (hnew h0 h1).1; omega
            · have := hnone h0 h1; omega
          · have := (hold h0).1; omega
        have hwr : IntKind.i64.wrap ((k : Int) + 1) = (k : Int) + 1 := by rw [IntWalk.i64_in _ (by omega)]
        have q1 : G1.br > 0 → (G2.br == 0) = false ∧ decide (G2.br > G1.br) = false := fun h => by have := hdn.2 h; simp; omega
        have q2 : G1.at_ > 0 → (G2.at_ != G1.at_) = false ∧ (G2.ru != G1.ru) = false ∧ (G1.at_ == 0) = false := fun h => by have := hold (by omega); simp [this.1, this.2]; omega
        have q3 : ¬ G1.at_ > 0 → (G1.at_ == 0) = true := fun h => by simp; omega
        have q4 : ¬ G1.at_ > 0 → G2.br > 0 → (G2.at_ != IntKind.i64.wrap ((k : Int) + 1)) = false ∧ (G2.ru != G2.br) = false := fun h h' => by have := hnew (by omega) h'; rw [hwr, this.1, this.2, hln]; simp
        by_cases p1 : G1.br > 0
        · have b1 : decide (G1.br > 0) = true := by simp [p1]
          obtain ⟨b2, b3⟩ := q1 p1
          by_cases p2 : G1.at_ > 0
          · have b4 : decide (G1.at_ > 0) = true := by simp [p2]
            obtain ⟨b5, b6, b7⟩ := q2 p2
            repeat (first | (refine r_fun (by rfl) (by rfl) ?_; refine CallC.igives (g := 10) (first_spec G2) (Incl.refl _) ?_) | refine c_seq ?_ | refine c_reg ?_ | refine r_nil ?_ | refine e_n ?_ | refine CutC.go ?_ | refine r_val (by rfl) ?_ | refine r_gT (by rfl) (by first | with_reducible assumption | decide) ?_ | refine r_gF (by rfl) (by first | with_reducible assumption | decide) ?_ | refine r_gnT (by rfl) (by first | with_reducible assumption | decide) ?_ | refine r_go (by rfl) ?_ | refine r_pickT (by rfl) (by first | with_reducible assumption | decide) (by rfl) ?_ | refine r_pickF (by rfl) (by first | with_reducible assumption | decide) (by rfl) ?_ | refine c_no (by rfl) (by first | with_reducible assumption | decide) ?_ | refine c_skip ?_ | refine b_n ?_)
            exact MeetC.mk (k + 1, G2, X2) ⟨⟨by simp only; omega, List.Subset.trans hX hX2, hok2, by simp only; rw [hln2, hln]; rfl, by simp only; omega, by simp only; omega⟩, by simp only; omega⟩ ⟨rfl, rfl, rfl, rfl, rfl, i64_succ (by omega), rfl⟩ (Incl.refl _)
          · have b4 : decide (G1.at_ > 0) = false := by simp [p2]
            have b7 := q3 p2
            by_cases p3 : G2.br > 0
            · have b8 : decide (G2.br > 0) = true := by simp [p3]
              obtain ⟨b9, b10⟩ := q4 p2 p3
              repeat (first | (refine r_fun (by rfl) (by rfl) ?_; refine CallC.igives (g := 10) (first_spec G2) (Incl.refl _) ?_) | refine c_seq ?_ | refine c_reg ?_ | refine r_nil ?_ | refine e_n ?_ | refine CutC.go ?_ | refine r_val (by rfl) ?_ | refine r_gT (by rfl) (by first | with_reducible assumption | decide) ?_ | refine r_gF (by rfl) (by first | with_reducible assumption | decide) ?_ | refine r_gnT (by rfl) (by first | with_reducible assumption | decide) ?_ | refine r_go (by rfl) ?_ | refine r_pickT (by rfl) (by first | with_reducible assumption | decide) (by rfl) ?_ | refine r_pickF (by rfl) (by first | with_reducible assumption | decide) (by rfl) ?_ | refine c_no (by rfl) (by first | with_reducible assumption | decide) ?_ | refine c_skip ?_ | refine b_n ?_)
              exact MeetC.mk (k + 1, G2, X2) ⟨⟨by simp only; omega, List.Subset.trans hX hX2, hok2, by simp only; rw [hln2, hln]; rfl, by simp only; omega, by simp only; omega⟩, by simp only; omega⟩ ⟨rfl, rfl, rfl, rfl, rfl, i64_succ (by omega), rfl⟩ (Incl.refl _)
            · have b8 : decide (G2.br > 0) = false := by simp [p3]
              repeat (first | (refine r_fun (by rfl) (by rfl) ?_; refine CallC.igives (g := 10) (first_spec G2) (Incl.refl _) ?_) | refine c_seq ?_ | refine c_reg ?_ | refine r_nil ?_ | refine e_n ?_ | refine CutC.go ?_ | refine r_val (by rfl) ?_ | refine r_gT (by rfl) (by first | with_reducible assumption | decide) ?_ | refine r_gF (by rfl) (by first | with_reducible assumption | decide) ?_ | refine r_gnT (by rfl) (by first | with_reducible assumption | decide) ?_ | refine r_go (by rfl) ?_ | refine r_pickT (by rfl) (by first | with_reducible assumption | decide) (by rfl) ?_ | refine r_pickF (by rfl) (by first | with_reducible assumption | decide) (by rfl) ?_ | refine c_no (by rfl) (by first | with_reducible assumption | decide) ?_ | refine c_skip ?_ | refine b_n ?_)
              exact MeetC.mk (k + 1, G2, X2) ⟨⟨by simp only; omega, List.Subset.trans hX hX2, hok2, by simp only; rw [hln2, hln]; rfl, by simp only; omega, by simp only; omega⟩, by simp only; omega⟩ ⟨rfl, rfl, rfl, rfl, rfl, i64_succ (by omega), rfl⟩ (Incl.refl _)
        · have b1 : decide (G1.br > 0) = false := by simp [p1]
          by_cases p2 : G1.at_ > 0
          · have b4 : decide (G1.at_ > 0) = true := by simp [p2]
            obtain ⟨b5, b6, b7⟩ := q2 p2
            repeat (first | (refine r_fun (by rfl) (by rfl) ?_; refine CallC.igives (g := 10) (first_spec G2) (Incl.refl _) ?_) | refine c_seq ?_ | refine c_reg ?_ | refine r_nil ?_ | refine e_n ?_ | refine CutC.go ?_ | refine r_val (by rfl) ?_ | refine r_gT (by rfl) (by first | with_reducible assumption | decide) ?_ | refine r_gF (by rfl) (by first | with_reducible assumption | decide) ?_ | refine r_gnT (by rfl) (by first | with_reducible assumption | decide) ?_ | refine r_go (by rfl) ?_ | refine r_pickT (by rfl) (by first | with_reducible assumption | decide) (by rfl) ?_ | refine r_pickF (by rfl) (by first | with_reducible assumption | decide) (by rfl) ?_ | refine c_no (by rfl) (by first | with_reducible assumption | decide) ?_ | refine c_skip ?_ | refine b_n ?_)
            exact MeetC.mk (k + 1, G2, X2) ⟨⟨by simp only; omega, List.Subset.trans hX hX2, hok2, by simp only; rw [hln2, hln]; rfl, by simp only; omega, by simp only; omega⟩, by simp only; omega⟩ ⟨rfl, rfl, rfl, rfl, rfl, i64_succ (by omega), rfl⟩ (Incl.refl _)
          · have b4 : decide (G1.at_ > 0) = false := by simp [p2]
            have b7 := q3 p2
            by_cases p3 : G2.br > 0
            · have b8 : decide (G2.br > 0) = true := by simp [p3]
              obtain ⟨b9, b10⟩ := q4 p2 p3
              repeat (first | (refine r_fun (by rfl) (by rfl) ?_; refine CallC.igives (g := 10) (first_spec G2) (Incl.refl _) ?_) | refine c_seq ?_ | refine c_reg ?_ | refine r_nil ?_ | refine e_n ?_ | refine CutC.go ?_ | refine r_val (by rfl) ?_ | refine r_gT (by rfl) (by first | with_reducible assumption | decide) ?_ | refine r_gF (by rfl) (by first | with_reducible assumption | decide) ?_ | refine r_gnT (by rfl) (by first | with_reducible assumption | decide) ?_ | refine r_go (by rfl) ?_ | refine r_pickT (by rfl) (by first | with_reducible assumption | decide) (by rfl) ?_ | refine r_pickF (by rfl) (by first | with_reducible assumption | decide) (by rfl) ?_ | refine c_no (by rfl) (by first | with_reducible assumption | decide) ?_ | refine c_skip ?_ | refine b_n ?_)
              exact MeetC.mk (k + 1, G2, X2) ⟨⟨by simp only; omega, List.Subset.trans hX hX2, hok2, by simp only; rw [hln2, hln]; rfl, by simp only; omega, by simp only; omega⟩, by simp only; omega⟩ ⟨rfl, rfl, rfl, rfl, rfl, i64_succ (by omega), rfl⟩ (Incl.refl _)
            · have b8 : decide (G2.br > 0) = false := by simp [p3]
              repeat (first | (refine r_fun (by rfl) (by rfl) ?_; refine CallC.igives (g := 10) (first_spec G2) (Incl.refl _) ?_) | refine c_seq ?_ | refine c_reg ?_ | refine r_nil ?_ | refine e_n ?_ | refine CutC.go ?_ | refine r_val (by rfl) ?_ | refine r_gT (by rfl) (by first | with_reducible assumption | decide) ?_ | refine r_gF (by rfl) (by first | with_reducible assumption | decide) ?_ | refine r_gnT (by rfl) (by first | with_reducible assumption | decide) ?_ | refine r_go (by rfl) ?_ | refine r_pickT (by rfl) (by first | with_reducible assumption | decide) (by rfl) ?_ | refine r_pickF (by rfl) (by first | with_reducible assumption | decide) (by rfl) ?_ | refine c_no (by rfl) (by first | with_reducible assumption | decide) ?_ | refine c_skip ?_ | refine b_n ?_)
              exact MeetC.mk (k + 1, G2, X2) ⟨⟨by simp only; omega, List.Subset.trans hX hX2, hok2, by simp only; rw [hln2, hln]; rfl, by simp only; omega, by simp only; omega⟩, by simp only; omega⟩ ⟨rfl, rfl, rfl, rfl, rfl, i64_succ (by omega), rfl⟩ (Incl.refl _)
      · have hd1 : decide ((k : Int) < (n : Int)) = false := by simp; omega
        repeat (first | refine c_seq ?_ | refine c_reg ?_ | refine r_nil ?_ | refine e_n ?_ | refine CutC.go ?_ | refine r_lenS (by rfl) (by rfl) ?_ | refine r_val (by rfl) ?_ | refine c_no (by rfl) (by first | with_reducible assumption | decide) ?_ | refine c_ret ?_ | refine c_exit ?_ | refine e_x ?_ | refine b_x1 ?_ | refine EndC.mk rfl ?_)
        exact ⟨X, List.Subset.trans hF1 hX, Gives.mk rfl Incl.of⟩
end Go.Proofs.Ythijlgjfgliinaa
end
section
/- A law's frame: what is read of the arguments as units, and that they read again as they did. -/
set_option linter.all false
namespace Go
open Go.ChangeShapes Go.WideShapes Go.RowKit Go.Deep

/-- All blocks of a world. -/
def blocksOf (w : World) : Blocks := w.heap.toList.zipIdx.map fun p => (p.2, p.1)
theorem blocksOf_mem {w : World} {b : Nat} {o : Obj} (h : w.heap[b]? = some o) : (b, o) ∈ blocksOf w := by
  unfold blocksOf
  refine List.mem_map.2 ⟨(o, b), ?_, rfl⟩
  rw [List.mem_zipIdx_iff_getElem?]
  simpa using h
theorem blocksOf_at {w : World} : ∀ p ∈ blocksOf w, w.heap[p.1]? = some p.2 := by
  intro p hp
  unfold blocksOf at hp
  obtain ⟨q, hq, rfl⟩ := List.mem_map.1 hp
  rw [List.mem_zipIdx_iff_getElem?] at hq
  simpa using hq
theorem blocksOf_nodup (w : World) : ((blocksOf w).map (·.1)).Nodup := by
  unfold blocksOf
  rw [List.map_map]
  have : ((fun x : Nat × Obj => x.1) ∘ fun p : Obj × Nat => (p.2, p.1)) = fun p : Obj × Nat => p.2 := rfl
  rw [this, show (fun p : Obj × Nat => p.2) = Prod.snd from rfl, List.zipIdx_map_snd]
  exact List.nodup_range'
/-- The outer world of one world. -/
abbrev envOf (w : World) : Env := ⟨w.os, w.output⟩
theorem satOf (w : World) : @Sat (envOf w) w [blocksOf w] :=
  letI := envOf w
  show SatB w _ from ⟨by simpa using blocksOf_nodup w, fun p hp => blocksOf_at p (by simpa using hp), rfl, rfl⟩
/-- Behind a call: what was there is there. -/
structure Kept (W W' : World) : Prop where
  heap : ∀ i : Nat, i < W.heap.size → W'.heap[i]? = W.heap[i]?
  os : W'.os = W.os
  out : W'.output = W.output
/-- The whole call, from a judgement over the units. -/
theorem kept_of_does {P : Program} {g : FuncId} {args : Array Value} {v : Value} {W : World}
    (h : letI := envOf W; Does P g args [blocksOf W] (fun en M => ∃ F', blocksOf W ⊆ F' ∧ Gives [F'] v en M)) : Calls P g args W fun e W' => e = .returned v ∧ Kept W W' := by
  letI := envOf W
  refine (h ⟨W, satOf W⟩).mono ?_
  rintro e w' ⟨M, ⟨y, rfl⟩, F', hF, rfl, hi⟩
  have hs : SatB y.w [F'].flatten := hi _ y.ok
  refine ⟨rfl, fun i hlt => ?_, hs.os, hs.out⟩
  have h1 : W.heap[i]? = some W.heap[i] := Array.getElem?_eq_getElem hlt
  rw [h1]
  exact hs.at_ (i, W.heap[i]) (by simpa using hF (blocksOf_mem h1))
section
variable {H : Type} {enc : TypeId × Value → H} {P : Program} {W W' : World}
theorem Kept.sameAt (k : Kept W W') {p : MemPlace} (hp : p.block < W.heap.size) : W.sameAt W' p := by
  cases p with
  | cell b off =>
    show W'.cell? ⟨b, off, none⟩ = W.cell? ⟨b, off, none⟩
    unfold World.cell?
    rw [k.heap b hp]
  | map b => exact k.heap b hp
theorem Kept.keptBut (k : Kept W W') (may : MemPlace → Prop) : W.keptBut W' may := by
  refine ⟨k.os, k.out, fun i hi => ?_⟩
  rw [k.heap i hi]
  cases W.heap[i]? with
  | none => rfl
  | some o => cases o <;> simp
theorem TrodAll.stays {T : TypeId → Prop} (K : Kids P T) (hz : ∀ {t e : TypeId}, T t → P.underlying t = some (.slice e) → 0 < P.cellsOf e) {sp : Nat → Bool} {base : Nat} :
    ∀ {ts : List TypeId} {vs : List Value} {ds : List (DataW H)} {ps : List MemPlace}, (∀ t ∈ ts, T t) → DataW.TrodAll enc P W base (fun _ => true) true ts vs ds ps →
      (∀ p ∈ ps, W.sameAt W' p) → (∀ p ∈ ps, sp p.block = true) → DataW.TrodAll enc P W' base sp true ts vs ds ps
  | [], [], [], _, _, h, _, _ => h
  | _ :: _, _ :: _, _ :: _, _, hT, ⟨p, q, ⟨n, h1⟩, h2, e⟩, hk, hs =>
    ⟨p, q, ⟨n, DataW.trod_stays K hz (fun h => by cases h) (hT _ (List.mem_cons.2 (Or.inl rfl))) h1 (fun x hx => hk x (by rw [e]; exact List.mem_append_left _ hx)) (fun x hx => hs x (by rw [e]; exact List.mem_append_left _ hx))⟩,
      TrodAll.stays K hz (fun t ht => hT t (List.mem_cons.2 (Or.inr ht))) h2 (fun x hx => hk x (by rw [e]; exact List.mem_append_right _ hx)) (fun x hx => hs x (by rw [e]; exact List.mem_append_right _ hx)), e⟩
/-- How 'post' is laid together where what was there is there. -/
theorem post_of_kept {T : TypeId → Prop} (K : Kids P T) (hz : ∀ {t e : TypeId}, T t → P.underlying t = some (.slice e) → 0 < P.cellsOf e) {f : Func} {s : ChangeSpec} {apart fresh handsOn again : Bool} {args : Array Value} {v : Value} {ds gs : List (DataW H)} {before : List MemPlace}
    (hT : ∀ t ∈ f.params.toList, T t) (hv : s.vars = []) (k : Kept W W') (hW : DataW.Whole enc P f.params.toList s.vars apart W args.toList ds gs before)
    (hres : ∀ (b : Nat) (sp : Nat → Bool) (hd : Bool), DataW.TrodAll enc P W' b sp hd f.resultTypes.toList (v.resultList f.resultTypes.size) (s.fn H ds).results [])
    (hargs : (s.fn H ds).args = ds) (hvs : (s.fn H ds).vars = [])
    (hok : ∀ (j : Nat) (t : TypeId) (r : Value), f.resultTypes[j]? = some t → (v.resultList f.resultTypes.size)[j]? = some r → Value.okWide P W' .any 0 t r) :
    s.post enc P f apart fresh handsOn again W args v W' := by
  have hlt := hW.lt
  have hold : ∀ p ∈ before, (fun b => decide (b < W.heap.size)) p.block = true := fun p hp => by simpa using hlt p hp
  have hW' := hW
  obtain ⟨p, q, hA, hV, hpq, hfz, hnd⟩ := hW
  rw [hv] at hV
  obtain ⟨rfl, rfl⟩ := trodVars_none hV
  rw [List.append_nil] at hpq
  subst hpq
  have hA' : ∀ sp : Nat → Bool, (∀ p ∈ before, sp p.block = true) → DataW.TrodAll enc P W' 0 sp true f.params.toList args.toList (s.fn H (ds ++ [])).args before := fun sp hs => by
    rw [List.append_nil, hargs]
    exact TrodAll.stays K hz hT hA (fun p hp => k.sameAt (hlt p hp)) hs
  have hV' : ∀ sp : Nat → Bool, DataW.TrodVars enc P W' sp s.vars (s.fn H (ds ++ [])).vars [] := fun sp => by
    rw [List.append_nil, hvs, hv]; rfl
  have hR' : ∀ (b : Nat) (sp : Nat → Bool) (hd : Bool), DataW.TrodAll enc P W' b sp hd f.resultTypes.toList (v.resultList f.resultTypes.size) (s.fn H (ds ++ [])).results [] := fun b sp hd => by
    rw [List.append_nil]; exact hres b sp hd
  refine ⟨ds, [], before, [], before, [], hW', hR' _ _ _, hA' _ hold, hV' _, k.keptBut _, fun _ => ?_⟩
  refine ⟨hok, _, _, ([] ++ before) ++ [], ⟨[] ++ before, [], trodAll_append (hA' _ (fun _ _ => rfl)) (hR' _ _ _), hV' _, rfl, ?_, ?_⟩, ?_⟩
  · intro b off hp
    have hp' : MemPlace.cell b off ∈ before := by simpa using hp
    have h1 := hfz b off hp'
    unfold World.frozen? at h1 ⊢
    rw [k.heap b (hlt _ hp')]
    exact h1
  · intro ha
    have := hnd ha
    simpa using this
  · intro p hp _
    simpa using hp
end
end Go
end
