/- What a stay owes. -/
import Derived.Test.YthijlgjfgliinaaMon3
set_option linter.all false
namespace Go.Proofs.Ythijlgjfgliinaa
open Go.RowKit
variable [Env]
set_option maxRecDepth 100000
/-- What a stay that went on must have delivered, of some messages. -/
def owesB (has : Bool) (all : List Mg) (br : Int) (l : List Mg) : Int := l.foldl (fun br x => if x.svc = 2 ∧ has = true then brk br 6 (!hasMg all x) else br) br
theorem owesB_cons (has : Bool) (all : List Mg) (br : Int) (x : Mg) (l : List Mg) : owesB has all br (x :: l) = owesB has all (if x.svc = 2 ∧ has = true then brk br 6 (!hasMg all x) else br) l := rfl
def OwInv (sb eb mb lb nb m : Nat) (st : Value) (br ln at_ ru : Int) (has : Bool) (all : List Mg) (l : List Mg) (n : Nat) (R : Units) (v : Value) (w : World) : Prop :=
  ∃ (k : Nat) (br' : Int), k ≤ n ∧ v = .int .i64 k ∧ owesB has all br l = owesB has all br' (l.drop k) ∧ ∃ y : St ([(m, monO sb eb mb st lb nb br' ln at_ ru)] :: R), w = y.w
set_option maxHeartbeats 2000000 in
theorem owes_some {F U1 U2 : Blocks} {m sb eb mb lb nb : Nat} {st : Value} {br ln at_ ru : Int} (bb n1 n2 c1' c2' cb : Nat) (pr ep re me mem : Int) (tr : Option Nat) (we : Bool) (a1 a2 : Option Addr) (m1 m2 l : List GM) (all lm : List Mg) (hall : Hid ((m1 ++ m2).map GM.mg = all)) (hlm : Hid (l.map GM.mg = lm))
    (h1 : SlIn U1 a1 n1 6 (m1.map GM.cells)) (h2 : SlIn U2 a2 n2 6 (m2.map GM.cells)) (hn : n1 + n2 ≤ 1000000) (hm12 : ∀ g ∈ m1 ++ m2, g.ok F) (hl : ∀ g ∈ l, g.ok F)
    (b o c n : Nat) (arr : Array Value) (T : TypeId) (fr : Nat × Nat) (hlen : Hid (l.length = n)) (hn2 : n ≤ 9223372036854775807) (hrow : RowAt arr o 6 (l.map GM.cells)) (oo : Value)
    {R RF R1 R2 : Units} [hF : Unit_ R F RF] [hU1 : Unit_ R U1 R1] [hU2 : Unit_ R U2 R2] [Has R b (.cells arr T fr)] [Has R bb (stayO pr ep re me (.slice a1 n1 c1') (.slice a2 n2 c2') cb tr we)] (x : St ([(m, monO sb eb mb st lb nb br ln at_ ru)] :: R)) :
    Calls Try.prog 38 #[.pointer (some ⟨m, 0, none⟩), .pointer (some ⟨bb, 0, none⟩), oo, .slice (some ⟨b, o, none⟩) n c, .int .u64 mem] x.w
      (Ret ([(m, monO sb eb mb st lb nb (owesB (hasB mem pr) all br lm) ln at_ ru)] :: R) (.tuple #[])) := by
  have H1 := Lib.hid h1
  have H2 := Lib.hid h2
  have HM := Lib.hid hm12
  have HLL : Hid (((m1 ++ m2).map GM.cells).length = n1 + n2) := Lib.hid (by have e1 := h1.1; have e2 := h2.1; simp at e1 e2 ⊢; omega)
  clear h1 h2 hm12
  go_enter Try.func38, Try.ntmps38
  go_wp2_with fail
  go_loopw [14] (fun v wr => OwInv sb eb mb lb nb m st br ln at_ ru (hasB mem pr) all lm n R v wr) (fun v _ => n - (intOf v).toNat)
  case atStart => exact ⟨0, br, by omega, rfl, rfl, x, rfl⟩
  case round =>
    obtain ⟨k, br', hk, rfl, hfold, y, rfl⟩ := hrel
    by_cases hlt : k < n
    · obtain ⟨g, hg⟩ : ∃ g, l[k]? = some g := ⟨l[k]'(by rw [hlen.out]; exact hlt), List.getElem?_eq_getElem _⟩
      obtain ⟨c0, c1, c2, c3, c4, c5⟩ := row_msg hrow hg
      have Hg := Lib.hid (hl g (List.mem_of_getElem? hg))
      have hd : lm.drop k = g.mg :: lm.drop (k + 1) := by
        have h1 : lm[k]? = some g.mg := by rw [← hlm.out]; simp [hg]
        obtain ⟨h2, h3⟩ := List.getElem?_eq_some_iff.1 h1
        rw [List.drop_eq_getElem_cons h2, h3]
      rw [hd, owesB_cons] at hfold
      have HI := Lib.hid hfold
      clear hfold hd hg hl hrow
      cases hsv : (g.r.svc == 2)
      · have HF : Hid (¬ (g.mg.svc = 2 ∧ hasB mem pr = true)) := Lib.hid (by simp [GM.mg]; intro h; rw [h] at hsv; simp at hsv)
        go_wp2_with (first | ((with_reducible refine wpList_alloc_st rfl (by simp only [Value.cells]; rfl) ?_); intro tb y) | ((with_reducible refine at_store ?_); refine wpList_storeAll rfl rfl rfl (by rfl) rfl ?_; intro y))
        go_roundw
        case rel => exact ⟨k + 1, br', by omega, by go_num, by have h_ := HI.out; rw [if_neg HF.out] at h_; first | exact h_ | (rw [hhas] at h_; exact h_), toSt _⟩
        case measure => simp [intOf]; omega
      · cases hhas : hasB mem pr
        · have HF : Hid (¬ (g.mg.svc = 2 ∧ hasB mem pr = true)) := Lib.hid (by simp [hhas])
          go_wp2_with (first | ((with_reducible refine wpList_alloc_st rfl (by simp only [Value.cells]; rfl) ?_); intro tb y) | ((with_reducible refine at_store ?_); refine wpList_storeAll rfl rfl rfl (by rfl) rfl ?_; intro y) | (go_at_call 30; refine (has_spec _ _ _).mono ?_; rintro e w' ⟨rfl, y, rfl⟩))
          go_roundw
          case rel => exact ⟨k + 1, br', by omega, by go_num, by have h_ := HI.out; rw [if_neg HF.out] at h_; first | exact h_ | (rw [hhas] at h_; exact h_), toSt _⟩
          case measure => simp [intOf]; omega
        · have HF : Hid (g.mg.svc = 2 ∧ hasB mem pr = true) := Lib.hid ⟨by simpa [GM.mg] using hsv, hhas⟩
          go_wp2_with (first | ((with_reducible refine wpList_alloc_st rfl (by simp only [Value.cells]; rfl) ?_); intro tb y) | ((with_reducible refine at_store ?_); refine wpList_storeAll rfl rfl rfl (by rfl) rfl ?_; intro y) | (go_at_call 30; refine (has_spec _ _ _).mono ?_; rintro e w' ⟨rfl, y, rfl⟩) | (go_at_call 35; refine (all35 (U1 := U1) (U2 := U2) bb n1 n2 c1' c2' cb pr ep re me tr we a1 a2 m1 m2 H1.out H2.out hn _).mono ?_; rintro e w' ⟨r, hok, rfl, y, rfl⟩; obtain ⟨ra, rc, hrv, hrs⟩ := r.val_slice hok 34; rw [HLL.out] at hrv hrs; rw [hrv]; clear hrv hok; have HRS := Lib.hid hrs; clear hrs) | (go_at_call 56; refine (contains56 (F := F) (U := r.u 34) tb _ _ _ g (m1 ++ m2) all hall HRS.out (by omega) Hg.out HM.out _).mono ?_; rintro e w' ⟨rfl, y, rfl⟩) | (go_at_call 20; refine (breaks_spec _ _ _).mono ?_; rintro e w' ⟨rfl, y, rfl⟩))
          go_roundw
          case rel => exact ⟨k + 1, _, by omega, by go_num, by have h_ := HI.out; rw [if_pos HF.out, hhas] at h_; exact h_, toSt _⟩
          case measure => simp [intOf]; omega
    · have hkn : k = n := by omega
      have HI := Lib.hid hfold
      clear hfold hrow hl
      have e : lm.drop k = [] := by rw [List.drop_eq_nil_iff, ← hlm.out]; simp [hlen.out]; omega
      rw [e] at HI
      go_wp2_with fail
      go_end0
      have e2 : owesB (hasB mem pr) all br lm = br' := HI.out
      rw [e2]
      exact Ret.fin _ rfl
end Go.Proofs.Ythijlgjfgliinaa
