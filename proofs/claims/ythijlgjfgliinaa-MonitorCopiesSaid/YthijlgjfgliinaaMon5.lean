/- A stay, as it lies in memory and as the laws see it; what a stay that goes on must agree on. -/
import Derived.Test.YthijlgjfgliinaaMon4
import Derived.Test.YthijlgjfgliinaaEqs
set_option linter.all false
namespace Go.Proofs.Ythijlgjfgliinaa
open Go.RowKit
variable [Env]
set_option maxRecDepth 100000

/-- What a stay owes: nothing, of no messages. -/
theorem owes_nil {m sb eb mb lb nb : Nat} {st : Value} {br ln at_ ru : Int} (bv oo : Value) (a : Option Addr) (c : Nat) (mem : Int) {R : Units} (x : St ([(m, monO sb eb mb st lb nb br ln at_ ru)] :: R)) :
    Calls Try.prog 38 #[.pointer (some ⟨m, 0, none⟩), bv, oo, .slice a 0 c, .int .u64 mem] x.w (Ret ([(m, monO sb eb mb st lb nb br ln at_ ru)] :: R) (.tuple #[])) := by
  go_enter Try.func38, Try.ntmps38
  go_wp2_with fail
  go_loopw [14] (fun v wr => v = .int .i64 0 ∧ ∃ y : St ([(m, monO sb eb mb st lb nb br ln at_ ru)] :: R), wr = y.w) (fun _ _ => 0)
  case atStart => exact ⟨rfl, x, rfl⟩
  case round =>
    obtain ⟨rfl, y, rfl⟩ := hrel
    go_wp2_with fail
    go_end0
    exact Ret.fin _ rfl
theorem owes38 {F U1 U2 U3 : Blocks} {m sb eb mb lb nb : Nat} {st : Value} {br ln at_ ru : Int} (bb n1 n2 c1 c2 cb n c : Nat) (pr ep re me mem : Int) (tr : Option Nat) (we : Bool) (a1 a2 a : Option Addr) (m1 m2 l : List GM)
    (all lm : List Mg) (hall : Hid ((m1 ++ m2).map GM.mg = all)) (hlm : Hid (l.map GM.mg = lm))
    (h1 : SlIn U1 a1 n1 6 (m1.map GM.cells)) (h2 : SlIn U2 a2 n2 6 (m2.map GM.cells)) (h3 : SlIn U3 a n 6 (l.map GM.cells)) (hn : n1 + n2 ≤ 1000000) (hn3 : n ≤ 1000000) (hm12 : ∀ g ∈ m1 ++ m2, g.ok F) (hl : ∀ g ∈ l, g.ok F) (oo : Value)
    {L R RF R1 R2 R3 : Units} [hp : Pick L m (monO sb eb mb st lb nb br ln at_ ru) R] [hF : Unit_ R F RF] [hU1 : Unit_ R U1 R1] [hU2 : Unit_ R U2 R2] [hU3 : Unit_ R U3 R3] [Has R bb (stayO pr ep re me (.slice a1 n1 c1) (.slice a2 n2 c2) cb tr we)] (x : St L) :
    Calls Try.prog 38 #[.pointer (some ⟨m, 0, none⟩), .pointer (some ⟨bb, 0, none⟩), oo, .slice a n c, .int .u64 mem] x.w
      (Ret ([(m, monO sb eb mb st lb nb (owesB (hasB mem pr) all br lm) ln at_ ru)] :: R) (.tuple #[])) := by
  rw [St.re_w x hp.ok]
  generalize x.re hp.ok = x
  have hlen : l.length = n := by simpa using h3.1
  rcases h3.2 with h0 | ⟨b, o, arr, T, fr, rfl, hb, hrow⟩
  · subst h0
    have : l = [] := List.eq_nil_of_length_eq_zero hlen
    subst this
    have : lm = [] := hlm.out.symm
    subst this
    exact owes_nil _ oo a c mem x
  · haveI : Has R b (.cells arr T fr) := ⟨hU3.ok.mem_iff.2 (by simp [hb])⟩
    exact owes_some (F := F) (U1 := U1) (U2 := U2) bb n1 n2 c1 c2 cb pr ep re me mem tr we a1 a2 m1 m2 l all lm hall hlm h1 h2 hn hm12 hl b o c n arr T fr (Lib.hid hlen) (by omega) hrow oo x

/-- Are two rows of messages the same? -/
def eqMgs (l m : List Mg) : Bool := decide (l = m)
theorem equalFunc46' {F U U' : Blocks} (a a' : Option Addr) (n n' c c' : Nat) (ms ms' : List GM) (h : SlIn U a n 6 (ms.map GM.cells)) (h' : SlIn U' a' n' 6 (ms'.map GM.cells)) (hn2 : n ≤ 9223372036854775807) (hms : ∀ m ∈ ms, m.ok F) (hms' : ∀ m ∈ ms', m.ok F)
    {L R R2 R3 : Units} [hF : Unit_ L F R] [hU : Unit_ L U R2] [hU' : Unit_ L U' R3] (x : St L) :
    Calls Try.prog 46 #[.slice a n c, .slice a' n' c', .func (.func 34) #[] #[]] x.w (Ret L (.bool (eqMgs (ms.map GM.mg) (ms'.map GM.mg)))) := equalFunc46 a a' n n' c c' ms ms' h h' hn2 hms hms' x
/-- A stay, as it lies in memory. -/
structure GStay where
  blk : Nat
  proc : Int
  epoch : Int
  rep : Int
  members : Int
  r0 : Row
  r1 : Row
  m0 : List GM
  m1 : List GM
  cb : Nat
  count : GMap Int Int
  tr : Option (Nat × Ev)
  went : Bool
abbrev ikey (k : Int) : Value := .int .i64 k
abbrev GStay.obj (s : GStay) : Obj := stayO s.proc s.epoch s.rep s.members (s.r0.val s.m0.length) (s.r1.val s.m1.length) s.cb (s.tr.map (·.1)) s.went
def GStay.u (s : GStay) : Blocks := (s.blk, s.obj) :: (s.cb, s.count.obj ikey ikey) :: (s.r0.u 34 ++ s.r1.u 34)
def SU (l : List GStay) : Blocks := l.flatMap GStay.u
/-- The block of an event. -/
abbrev evO (e : Ev) : Obj := .cells #[.int .i64 e.kind, .int .i64 e.proc, .int .u64 e.epoch, .int .i64 e.rep, .int .u64 e.nepoch, .int .i64 e.nrep, .int .u64 e.members, .int .i64 e.m.frm, .int .u32 e.m.seq, .int .u64 e.m.stamp, .int .i64 e.m.svc, .slice e.m.da e.m.dn e.m.dc, .string e.m.pay, .int .u64 e.vnum, .int .u64 e.vepoch, .int .i64 e.vrep, .int .u64 e.vmem, .slice e.na e.nn e.nc, .string e.state] 39
structure GStay.ok (F : Blocks) (s : GStay) : Prop where
  k0 : RowOk s.r0 6 (s.m0.map GM.cells)
  k1 : RowOk s.r1 6 (s.m1.map GM.cells)
  few : s.m0.length + s.m1.length ≤ 1000000
  msgs : ∀ g ∈ s.m0 ++ s.m1, g.ok F
  tr : ∀ t e, s.tr = some (t, e) → (t, evO e) ∈ F

/-- The way on of a stay, as the laws see it: its New, its Members. -/
structure ATr where
  nepoch : Int
  nrep : Int
  members : Int
deriving DecidableEq
/-- A stay, as the laws see it. -/
structure AStay where
  proc : Int
  epoch : Int
  rep : Int
  members : Int
  p0 : List Mg
  p1 : List Mg
  count : Int → Int
  tr : Option ATr
  went : Bool
def GStay.abs (s : GStay) : AStay := ⟨s.proc, s.epoch, s.rep, s.members, s.m0.map GM.mg, s.m1.map GM.mg, fun q => (s.count.get q).getD 0, s.tr.map fun t => ⟨t.2.nepoch, t.2.nrep, t.2.members⟩, s.went⟩
def AStay.all (s : AStay) : List Mg := s.p0 ++ s.p1
/-- Nothing to compare. -/
def skipB (o b : AStay) : Bool :=
  !o.went || (o.proc == b.proc || (o.tr.isNone || (b.tr.isNone || !(match o.tr, b.tr with | some s, some t => confEq o.epoch o.rep b.epoch b.rep && confEq s.nepoch s.nrep t.nepoch t.nrep | _, _ => true))))
def unlikeB (o b : AStay) : Bool := !((match o.tr, b.tr with | some s, some t => s.members == t.members | _, _ => true) && (eqMgs o.p0 b.p0 && eqMgs o.p1 b.p1))
/-- What a stay that goes on breaks, of one stay. -/
def closeStep (b : AStay) (br : Int) (o : AStay) : Int :=
  if o.epoch = b.epoch ∧ o.rep = b.rep then
    let br1 := owesB (hasB o.members b.proc) b.all br o.p0
    let br2 := match o.tr with | some t => owesB (hasB t.members b.proc) b.all br1 o.p1 | none => br1
    if skipB o b then br2 else brk br2 5 (unlikeB o b)
  else br
def closeB (b : AStay) (l : List AStay) (br : Int) : Int := l.foldl (closeStep b) br

theorem SU_focus {l : List GStay} {i : Nat} {s : GStay} (h : l[i]? = some s) : ∃ X : Blocks, (SU l).Perm (s.u ++ X) ∧ ∀ s', (SU (l.set i s')).Perm (s'.u ++ X) := by
  induction l generalizing i with
  | nil => simp at h
  | cons a l ih =>
    cases i with
    | zero =>
      simp only [List.getElem?_cons_zero, Option.some.injEq] at h
      subst h
      exact ⟨SU l, List.Perm.refl _, fun s' => List.Perm.refl _⟩
    | succ i =>
      simp only [List.getElem?_cons_succ] at h
      obtain ⟨X, h1, h2⟩ := ih h
      refine ⟨a.u ++ X, ?_, fun s' => ?_⟩
      · show (a.u ++ SU l).Perm _
        refine (List.Perm.append_left _ h1).trans ?_
        rw [← List.append_assoc, ← List.append_assoc]
        exact List.Perm.append_right _ List.perm_append_comm
      · show (a.u ++ SU (l.set i s')).Perm _
        refine (List.Perm.append_left _ (h2 s')).trans ?_
        rw [← List.append_assoc, ← List.append_assoc]
        exact List.Perm.append_right _ List.perm_append_comm
theorem mem_SU {l : List GStay} {s : GStay} (h : s ∈ l) {p : Nat × Obj} (hp : p ∈ s.u) : p ∈ SU l := List.mem_flatMap.2 ⟨s, h, hp⟩
theorem GStay.u_split (s : GStay) (L : Units) : Eqv (s.u :: L) ([(s.blk, s.obj)] :: [(s.cb, s.count.obj ikey ikey)] :: s.r0.u 34 :: s.r1.u 34 :: L) := by
  unfold Eqv GStay.u
  simp
end Go.Proofs.Ythijlgjfgliinaa
