/- Part 11 of the proof of what MonJudges says. -/
import Derived.Test.YthijlgjfgliinaaJg06
import Derived.Test.YthijlgjfgliinaaJg09
import Derived.Test.YthijlgjfgliinaaJg10
section
/- A message is delivered: what is asked of it, as the laws see it; a stay that took it. -/
set_option linter.all false
namespace Go.Proofs.Ythijlgjfgliinaa
open Go.RowKit
variable [Env]
set_option maxRecDepth 100000
/-- What a delivery breaks of the order of what was delivered. -/
def lastB (br : Int) (all : List Mg) (x : Mg) : Int := match all.getLast? with
  | some l => brk br 3 (decide (0 ≤ ord2 l.stamp l.frm x.stamp x.frm))
  | none => br
/-- What a delivery breaks of what it came behind. -/
def depsB (count : Int → Int) : Nat → List Int → Int → Int
  | _, [], br => br
  | q, n :: l, br => depsB count (q + 1) l (brk br 4 (decide (count q < wrap64 n)))
/-- What a delivery breaks of the stays that went on. -/
def tellStep (ep rp mem : Int) (x : Mg) (br : Int) (o : AStay) : Int := if (confEq o.epoch o.rep ep rp && o.went) = true then owesB (hasB mem o.proc) o.all br [x] else br
def tellB (ep rp mem : Int) (x : Mg) (l : List AStay) (br : Int) : Int := l.foldl (tellStep ep rp mem x) br
theorem look_count {L : Units} (r : Nat) (g : GMap Int Int) (k : Int) [h : Has L r (g.obj ikey ikey)] (x : St L) : (Instr.lookup 63 (.map (some r)) (.int .i64 k) false).run Try.prog x.w = .ok (.int .i64 ((g.get k).getD 0)) x.w := by
  have := run_lookup_g (P := Try.prog) KL3 (T := 63) (et := 3) (z := .int .i64 0) (ev := ikey) Try.underlying63 (fun w => by simp [go_sem]) g (St.heap (h := h) x) k false
  rw [this]
  cases g.get k <;> rfl
theorem upd_count {L M : Units} (r : Nat) (g : GMap Int Int) (a v : Int) [h : Has L r (g.obj ikey ikey)] [Lay L r ((g.put a v).obj ikey ikey) M] (x : St L) : (Instr.mapUpdate 63 (.map (some r)) (.int .i64 a) (.int .i64 v)).run Try.prog x.w = .ok () (x.lay r ((g.put a v).obj ikey ikey)).w :=
  run_mapUpdate_g (P := Try.prog) KL3 (T := 63) (et := 3) Try.underlying63 g (St.heap (h := h) x) a v
theorem ptr_set2 {stays : List GStay} {bi : Nat} {b b' : GStay} (hb : stays[bi]? = some b) (h : b'.blk = b.blk) : (stays.set bi b').map ptrCell = stays.map ptrCell := by
  rw [List.map_set]
  apply List.ext_getElem?
  intro i
  rw [List.getElem?_set]
  split
  · rename_i h'; subst h'
    split
    · rw [List.getElem?_map, hb]; simp [ptrCell, h]
    · rename_i h; rw [List.getElem?_eq_none]; simpa using h
  · rfl
/-- A stay that took a message, ahead of its way on. -/
def GStay.take0 (s : GStay) (g : GM) (r : Row) (c : GMap Int Int) : GStay := { s with r0 := r, m0 := s.m0 ++ [g], count := c }
def GStay.take1 (s : GStay) (g : GM) (r : Row) (c : GMap Int Int) : GStay := { s with r1 := r, m1 := s.m1 ++ [g], count := c }
theorem take0_obj (s : GStay) (g : GM) (r' : Row) (c : GMap Int Int) (n0 n1 : Nat) (v0 v1 : Value) (h0 : s.m0.length = n0) (h1 : s.m1.length = n1) (hv0 : r'.val (n0 + 1) = v0) (hv1 : s.r1.val n1 = v1) (ht : s.tr = none) :
    (s.take0 g r' c).obj = stayO s.proc s.epoch s.rep s.members v0 v1 s.cb none s.went := by
  subst h0 h1 hv0 hv1
  have : (s.m0 ++ [g]).length = s.m0.length + 1 := by simp
  unfold GStay.obj GStay.take0
  show stayO s.proc s.epoch s.rep s.members (r'.val (s.m0 ++ [g]).length) (s.r1.val s.m1.length) s.cb (s.tr.map _) s.went = _
  rw [this, ht]
  rfl
theorem take0_ok {F : Blocks} {s : GStay} {g : GM} {r' : Row} {c : GMap Int Int} (hs : s.ok F) (hg : g.ok F) (hr : RowOk r' 6 (s.m0.map GM.cells ++ [GM.cells g])) (hf : s.m0.length + 1 + s.m1.length ≤ 1000000) : (s.take0 g r' c).ok F where
  k0 := by
    show RowOk r' 6 ((s.m0 ++ [g]).map GM.cells)
    rw [List.map_append]; exact hr
  k1 := hs.k1
  few := by
    show (s.m0 ++ [g]).length + s.m1.length ≤ 1000000
    rw [List.length_append, List.length_singleton]; exact hf
  msgs := by
    intro q hq
    have hq' : q ∈ (s.m0 ++ [g]) ++ s.m1 := hq
    simp only [List.mem_append, List.mem_singleton] at hq'
    rcases hq' with (h | h) | h
    · exact hs.msgs q (List.mem_append_left _ h)
    · exact h ▸ hg
    · exact hs.msgs q (List.mem_append_right _ h)
  tr := hs.tr
theorem take0_eqv {stays : List GStay} {si : Nat} {s : GStay} {X : Blocks} (hX : ∀ s', (SU (stays.set si s')).Perm (s'.u ++ X)) (g : GM) (r' : Row) (c : GMap Int Int) (o : Obj) (ho : (s.take0 g r' c).obj = o) (L : Units) :
    Eqv ([(s.blk, o)] :: [(s.cb, c.obj ikey ikey)] :: r'.u 34 :: s.r1.u 34 :: X :: L) (SU (stays.set si (s.take0 g r' c)) :: L) := by
  subst ho
  exact (((s.take0 g r' c).u_split _).symm.trans (Eqv.split _ _ _).symm).trans (Eqv.head (hX _).symm _)
theorem tell_no {ep rp mem : Int} {x : Mg} {br : Int} {o : AStay} (h : (confEq o.epoch o.rep ep rp && o.went) = false) : tellStep ep rp mem x br o = br := by simp [tellStep, h]
theorem tell_yes {ep rp mem : Int} {x : Mg} {br : Int} {o : AStay} (h : (confEq o.epoch o.rep ep rp && o.went) = true) : tellStep ep rp mem x br o = owesB (hasB mem o.proc) o.all br [x] := by simp [tellStep, h]

theorem take1_obj (s : GStay) (g : GM) (r' : Row) (c : GMap Int Int) (n0 n1 : Nat) (v0 v1 : Value) (h0 : s.m0.length = n0) (h1 : s.m1.length = n1) (hv0 : s.r0.val n0 = v0) (hv1 : r'.val (n1 + 1) = v1) (tb : Nat) (te : Ev) (ht : s.tr = some (tb, te)) :
    (s.take1 g r' c).obj = stayO s.proc s.epoch s.rep s.members v0 v1 s.cb (some tb) s.went := by
  subst h0 h1 hv0 hv1
  have : (s.m1 ++ [g]).length = s.m1.length + 1 := by simp
  unfold GStay.obj GStay.take1
  show stayO s.proc s.epoch s.rep s.members (s.r0.val s.m0.length) (r'.val (s.m1 ++ [g]).length) s.cb (s.tr.map _) s.went = _
  rw [this, ht]
  rfl
theorem take1_ok {F : Blocks} {s : GStay} {g : GM} {r' : Row} {c : GMap Int Int} (hs : s.ok F) (hg : g.ok F) (hr : RowOk r' 6 (s.m1.map GM.cells ++ [GM.cells g])) (hf : s.m0.length + (s.m1.length + 1) ≤ 1000000) : (s.take1 g r' c).ok F where
  k0 := hs.k0
  k1 := by
    show RowOk r' 6 ((s.m1 ++ [g]).map GM.cells)
    rw [List.map_append]; exact hr
  few := by
    show s.m0.length + (s.m1 ++ [g]).length ≤ 1000000
    rw [List.length_append, List.length_singleton]; exact hf
  msgs := by
    intro q hq
    have hq' : q ∈ s.m0 ++ (s.m1 ++ [g]) := hq
    simp only [List.mem_append, List.mem_singleton] at hq'
    rcases hq' with h | (h | h)
    · exact hs.msgs q (List.mem_append_left _ h)
    · exact hs.msgs q (List.mem_append_right _ h)
    · exact h ▸ hg
  tr := hs.tr
theorem take1_eqv {stays : List GStay} {si : Nat} {s : GStay} {X : Blocks} (hX : ∀ s', (SU (stays.set si s')).Perm (s'.u ++ X)) (g : GM) (r' : Row) (c : GMap Int Int) (o : Obj) (ho : (s.take1 g r' c).obj = o) (L : Units) :
    Eqv ([(s.blk, o)] :: [(s.cb, c.obj ikey ikey)] :: s.r0.u 34 :: r'.u 34 :: X :: L) (SU (stays.set si (s.take1 g r' c)) :: L) := by
  subst ho
  exact (((s.take1 g r' c).u_split _).symm.trans (Eqv.split _ _ _).symm).trans (Eqv.head (hX _).symm _)
/-- What the last loop goes through: the stays, one of them anew. -/
structure TellCtx (F : Blocks) (stays : List GStay) (si : Nat) (s s' : GStay) (ss : List GStay) (nst : Nat) : Prop where
  eq : stays.set si s' = ss
  len : ss.length = nst
  mem : s' ∈ ss
  ptr : ss.map ptrCell = stays.map ptrCell
  ok : ∀ o ∈ ss, o.ok F
theorem TellCtx.mk' {F : Blocks} {stays : List GStay} {si : Nat} {s s' : GStay} {nst : Nat} (hsi : stays[si]? = some s) (hb : s'.blk = s.blk) (hl : stays.length = nst) (hok : ∀ o ∈ stays, o.ok F) (hs : s'.ok F) : TellCtx F stays si s s' (stays.set si s') nst where
  eq := rfl
  len := by rw [List.length_set]; exact hl
  mem := List.mem_set (List.getElem?_eq_some_iff.1 hsi).1 _
  ptr := ptr_set2 hsi hb
  ok := by
    intro o ho
    rcases List.mem_or_eq_of_mem_set ho with h | h
    · exact hok o h
    · subst h; exact hs
theorem CallC.row {g : FuncId} {args : Array Value} {L : Units} {els : List (List Value)} {n N : Nat} {K : Value → Units → Prop} {E : List PanicEntry → Units → Prop} (h : ∀ x : St L, Calls Try.prog g args x.w (RowRet L els n)) (hl : els.length = N) (hn : n = N)
    (k : ∀ (r : Row) (a : Option Addr) (c : Nat), SlIn (r.u 34) a N 6 els → K (.slice a N c) (r.u 34 :: L)) : CallC Try.prog g args L K E := by
  intro x
  subst hn
  refine (h x).mono ?_
  rintro e w ⟨r, hok, rfl, y, rfl⟩
  obtain ⟨a, c, hv, hs⟩ := r.val_slice hok 34
  rw [hl] at hv hs
  exact ⟨_, ⟨y, rfl⟩, by rw [hv]; exact k r a c hs⟩
end Go.Proofs.Ythijlgjfgliinaa
end
