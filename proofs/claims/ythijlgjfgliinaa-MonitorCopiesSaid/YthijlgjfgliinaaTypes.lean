/- Messages and events as their cells; whether a trace is short. -/
import Derived.Test.YthijlgjfgliinaaProg
import Derived.Test.YthijlgjfgliinaaMap
import Derived.Lib.Hide
set_option linter.all false
namespace Go.Proofs.Ythijlgjfgliinaa
open Go.RowKit
variable [Env]

/-- A message as its cells tell: of its Deps only where they lie. -/
structure RM where
  frm : Int
  seq : Int
  stamp : Int
  svc : Int
  da : Option Addr
  dn : Nat
  dc : Nat
  pay : ByteArray
/-- An event as its cells tell. -/
structure Ev where
  kind : Int
  proc : Int
  epoch : Int
  rep : Int
  nepoch : Int
  nrep : Int
  members : Int
  m : RM
  vnum : Int
  vepoch : Int
  vrep : Int
  vmem : Int
  na : Option Addr
  nn : Nat
  nc : Nat
  state : ByteArray
def RM.cells (m : RM) : List Value := [.int .i64 m.frm, .int .u32 m.seq, .int .u64 m.stamp, .int .i64 m.svc, .slice m.da m.dn m.dc, .string m.pay]
def Ev.cells (e : Ev) : List Value := [.int .i64 e.kind, .int .i64 e.proc, .int .u64 e.epoch, .int .i64 e.rep, .int .u64 e.nepoch, .int .i64 e.nrep, .int .u64 e.members, .int .i64 e.m.frm, .int .u32 e.m.seq, .int .u64 e.m.stamp, .int .i64 e.m.svc, .slice e.m.da e.m.dn e.m.dc, .string e.m.pay, .int .u64 e.vnum, .int .u64 e.vepoch, .int .i64 e.vrep, .int .u64 e.vmem, .slice e.na e.nn e.nc, .string e.state]

/-- From place o on an array has a row of things of s cells each. -/
def RowAt (arr : Array Value) (o s : Nat) (els : List (List Value)) : Prop := ∀ i c, els[i]? = some c → ∀ j v, c[j]? = some v → arr[o + i * s + j]? = some v

def cut20 (n : Int) : Int := if 20000 < n then 20000 else n
def few1 (n : Int) (e : Ev) : Int := n + cut20 e.m.pay.size / 8 + cut20 e.m.dn / 8 + cut20 e.nn / 8 + cut20 e.state.size / 16
def fewFrom : Int → Nat → List Ev → Bool
  | _, _, [] => true
  | n, i, e :: l => if 500 ≤ i ∨ 20000 < few1 n e then false else fewFrom (few1 n e) (i + 1) l
/-- Is a trace short enough? -/
def few (l : List Ev) : Bool := fewFrom 0 0 l
theorem cut20_le (n : Int) (h : 0 ≤ n) : 0 ≤ cut20 n ∧ cut20 n ≤ 20000 := by unfold cut20; split <;> omega

def FewInv (evs : List Ev) (L : Units) (v3 v4 : Value) (wr : World) : Prop :=
  ∃ (k : Nat) (n : Int), k ≤ evs.length ∧ v4 = .int .i64 k ∧ v3 = .int .i64 n ∧ 0 ≤ n ∧ n ≤ 20000 ∧ few evs = fewFrom n k (evs.drop k) ∧ ∃ y : St L, wr = y.w
set_option maxHeartbeats 1000000 in
set_option maxRecDepth 100000 in
theorem few_spec (evs : List Ev) (b off c : Nat) (arr : Array Value) (T : TypeId) (fr : Nat × Nat) {L : Units} [Has L b (.cells arr T fr)] (hrow : RowAt arr off 19 (evs.map Ev.cells)) (hlen : evs.length ≤ 9223372036854775807) (x : St L) :
    Calls Try.prog 7 #[.slice (some ⟨b, off, none⟩) evs.length c] x.w (Ret L (.bool (few evs))) := by
  have hne : Nonempty (St L) := ⟨x⟩
  go_enter Try.func7, Try.ntmps7
  go_wp2_with fail
  go_loopw [3, 4] (fun v3 v4 wr => FewInv evs L v3 v4 wr) (fun _ v4 _ => evs.length - (intOf v4).toNat)
  case atStart => exact ⟨0, 0, by omega, rfl, rfl, by omega, by omega, rfl, x, rfl⟩
  case round =>
    obtain ⟨k, n, hk, rfl, rfl, hn0, hn1, hfew, y, rfl⟩ := hrel
    by_cases hlt : k < evs.length
    · obtain ⟨e, he⟩ : ∃ e, evs[k]? = some e := ⟨evs[k], List.getElem?_eq_getElem hlt⟩
      have hr := fun j v => hrow k e.cells (by simp [he]) j v
      have h12 : arr[off + k * 19 + 7 + 5]? = some (.string e.m.pay) := hr 12 _ rfl
      have h11 : arr[off + k * 19 + 7 + 4]? = some (.slice e.m.da e.m.dn e.m.dc) := hr 11 _ rfl
      have h17 : arr[off + k * 19 + 17]? = some (.slice e.na e.nn e.nc) := hr 17 _ rfl
      have h18 : arr[off + k * 19 + 18]? = some (.string e.state) := hr 18 _ rfl
      have hd : evs.drop k = e :: evs.drop (k + 1) := by rw [List.drop_eq_getElem_cons hlt]; congr 1; rw [List.getElem?_eq_getElem hlt] at he; exact Option.some.inj he
      rw [hd] at hfew
      simp only [fewFrom] at hfew
      obtain ⟨m1, hm1⟩ : ∃ m, cut20 e.m.pay.size = m := ⟨_, rfl⟩
      obtain ⟨m2, hm2⟩ : ∃ m, cut20 e.m.dn = m := ⟨_, rfl⟩
      obtain ⟨m3, hm3⟩ : ∃ m, cut20 e.nn = m := ⟨_, rfl⟩
      obtain ⟨m4, hm4⟩ : ∃ m, cut20 e.state.size = m := ⟨_, rfl⟩
      have b1 := cut20_le e.m.pay.size (by omega)
      have b2 := cut20_le e.m.dn (by omega)
      have b3 := cut20_le e.nn (by omega)
      have b4 := cut20_le e.state.size (by omega)
      have hf1 : few1 n e = n + m1 / 8 + m2 / 8 + m3 / 8 + m4 / 16 := by unfold few1; rw [hm1, hm2, hm3, hm4]
      rw [hf1] at hfew
      rw [hm1] at b1; rw [hm2] at b2; rw [hm3] at b3; rw [hm4] at b4
      unfold cut20 at hm1 hm2 hm3 hm4
      have hfew' := Lib.hid hfew
      obtain ⟨b10, b11⟩ := b1; obtain ⟨b20, b21⟩ := b2; obtain ⟨b30, b31⟩ := b3; obtain ⟨b40, b41⟩ := b4
      clear hr he hfew hd hf1
      by_cases h5 : k < 500
      · have h5b : decide ((500 : Int) ≤ k) = false := by simp; omega
        by_cases hbig : 20000 < n + m1 / 8 + m2 / 8 + m3 / 8 + m4 / 16
        · have hbb : decide (20000 < n + m1 / 8 + m2 / 8 + m3 / 8 + m4 / 16) = true := by simp [hbig]
          go_wp2_with fail
          refine wp_region_st (by kernel_rfl) (by kernel_rfl) ?_
          repeat (go_big_quiet_step (fail))
          refine wpQuiet_nil ?_
          intro z
          go_wp2_with fail
          go_ret
          exact Ret.mk z rfl (by rw [hfew'.out, if_pos (Or.inr hbig)]; rfl) rfl
        · have hbb : decide (20000 < n + m1 / 8 + m2 / 8 + m3 / 8 + m4 / 16) = false := by simp; omega
          go_wp2_with fail
          refine wp_region_st (by kernel_rfl) (by kernel_rfl) ?_
          repeat (go_big_quiet_step (fail))
          refine wpQuiet_nil ?_
          intro z
          go_wp2_with fail
          go_roundw
          case rel => exact ⟨k + 1, _, by omega, by go_num, rfl, by omega, by omega, by rw [hfew'.out, if_neg (by omega)], z, rfl⟩
          case measure => simp [intOf]; omega
      · have h5b : decide ((500 : Int) ≤ k) = true := by simp; omega
        go_wp2_with fail
        refine wp_region_st (by kernel_rfl) (by kernel_rfl) ?_
        repeat (go_big_quiet_step (fail))
        refine wpQuiet_nil ?_
        intro z
        go_wp2_with fail
        go_ret
        exact Ret.mk z rfl (by rw [hfew'.out, if_pos (Or.inl (by omega))]; rfl) rfl
    · have : k = evs.length := by omega
      subst this
      have hfew' := Lib.hid hfew
      clear hfew
      go_wp2_with fail
      go_ret
      exact Ret.mk y rfl (by rw [hfew'.out, List.drop_length]; rfl) rfl
end Go.Proofs.Ythijlgjfgliinaa
