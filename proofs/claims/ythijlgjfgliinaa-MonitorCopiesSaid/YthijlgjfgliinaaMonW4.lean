/- A monitor as it lies in memory, and as the laws see it; what an event does to it. -/
import Derived.Test.YthijlgjfgliinaaMonW3
import Derived.Test.YthijlgjfgliinaaMon9
set_option linter.all false
namespace Go.Proofs.Ythijlgjfgliinaa
open Go.RowKit
variable [Env]
/-- An event, as the laws see it. -/
structure AEv where
  kind : Int
  proc : Int
  epoch : Int
  rep : Int
  nepoch : Int
  nrep : Int
  members : Int
  m : Mg
deriving DecidableEq
def Ev.abs (e : Ev) (d : List Int) : AEv := ⟨e.kind, e.proc, e.epoch, e.rep, e.nepoch, e.nrep, e.members, GM.mg ⟨e.m, d⟩⟩
def AEv.place (e : AEv) : Place := ⟨e.epoch, e.rep, e.m.frm, e.m.seq⟩
def AEv.had (e : AEv) : Had := ⟨e.proc, e.place⟩
/-- A monitor, as the laws see it. -/
structure AMon where
  sends : Place → List Mg
  seen : Had → Bool
  mem : Int × Int → Option Int
  stays : List AStay
  live : Int → Bool
  now : Int → Option Nat
  br : Int
  ln : Int
  at_ : Int
  ru : Int
def upd {κ β : Type} [DecidableEq κ] (f : κ → β) (k : κ) (b : β) : κ → β := fun c => if c = k then b else f c
def atwice (e r p : Int) (o : AStay) : Bool := confEq o.epoch o.rep e r && o.proc == p
def atwiceF (e r p : Int) (l : List AStay) (br : Int) : Int := l.foldl (fun br o => brk br 1 (atwice e r p o)) br
def aleave (tr : Option ATr) (e : AEv) : Bool := match tr with
  | none => true
  | some t => !confEq t.nepoch t.nrep e.epoch e.rep || (!inB t.members e.members || !hasB t.members e.proc)
def AStay.fresh (e : AEv) : AStay := ⟨e.proc, e.epoch, e.rep, e.members, [], [], fun _ => 0, none, false⟩
def AMon.stay (A : AMon) (e : AEv) : Option (Nat × AStay) := match A.now e.proc with
  | none => none
  | some i => match A.stays[i]? with
    | none => none
    | some s => if A.live e.proc && confEq s.epoch s.rep e.epoch e.rep then some (i, s) else none
def AMon.regular (A : AMon) (e : AEv) : AMon :=
  let b1 := atwiceF e.epoch e.rep e.proc A.stays (brk (brk A.br 1 (!A.live e.proc || !hasB e.members e.proc)) 1 (toldB (A.mem (e.epoch, e.rep)) e.members))
  let p : Int × List AStay := match (A.now e.proc).bind fun i => (A.stays[i]?).map fun b => (i, b) with
    | none => (b1, A.stays)
    | some (i, b) => (closeB { b with went := true } (A.stays.set i { b with went := true }) (brk (brk b1 1 (decide (ord2 e.epoch e.rep b.epoch b.rep ≤ 0))) 1 (aleave b.tr e)), A.stays.set i { b with went := true })
  { A with br := p.1, stays := p.2 ++ [AStay.fresh e], mem := upd A.mem (e.epoch, e.rep) (some e.members), now := upd A.now e.proc (some A.stays.length) }
def AMon.send (A : AMon) (e : AEv) : AMon :=
  { A with
    sends := if e.proc = e.m.frm then upd A.sends e.place (A.sends e.place ++ [e.m]) else A.sends
    br := brk A.br 1 (match A.stay e with | some (_, s) => s.tr.isSome | none => true) }
def AStay.take (s : AStay) (x : Mg) : AStay := match s.tr with
  | none => { s with p0 := s.p0 ++ [x], count := upd s.count x.frm (s.count x.frm + 1) }
  | some _ => { s with p1 := s.p1 ++ [x], count := upd s.count x.frm (s.count x.frm + 1) }
def AStay.next (s : AStay) : Int × Int := match s.tr with
  | none => (0, 0)
  | some t => (t.nepoch, t.nrep)
def AStay.told (s : AStay) : Int := match s.tr with
  | none => s.members
  | some t => t.members
def AMon.deliver (A : AMon) (e : AEv) : AMon :=
  let b1 := del1 A.br e.m (A.sends e.place) (A.seen e.had)
  match A.stay e with
  | none => { A with br := brk b1 1 true, seen := upd A.seen e.had true }
  | some (i, s) => { A with
      br := tellB s.epoch s.rep s.told e.m (A.stays.set i (s.take e.m)) (depsB s.count 0 e.m.deps (lastB (brk b1 2 (!confEq e.nepoch e.nrep s.next.1 s.next.2)) s.all e.m))
      seen := upd A.seen e.had true
      stays := A.stays.set i (s.take e.m) }
def AMon.trans (A : AMon) (e : AEv) : AMon := match A.stay e with
  | none => { A with br := brk A.br 1 true }
  | some (i, s) => { A with br := brk A.br 1 s.tr.isSome, stays := A.stays.set i { s with tr := some ⟨e.nepoch, e.nrep, e.members⟩ } }
/-- What an event does, ahead of what is told of the first breach. -/
def AMon.act (A : AMon) (e : AEv) : AMon :=
  if e.kind = 5 ∨ e.kind = 6 then { A with live := upd A.live e.proc (e.kind == 5), now := upd A.now e.proc none }
  else if e.kind = 3 then A.regular e
  else if e.kind = 1 then A.send e
  else if e.kind = 2 then A.deliver e
  else if e.kind = 4 then A.trans e
  else A
def AMon.first (A : AMon) : AMon := if 0 < A.br ∧ A.at_ = 0 then { A with at_ := A.ln, ru := A.br } else A
def AMon.add (A : AMon) (e : AEv) : AMon := (({ A with ln := A.ln + 1 } : AMon).act e).first

/-- A monitor, as it lies in memory. -/
structure GMon where
  m : Nat
  sb : Nat
  eb : Nat
  mb : Nat
  lb : Nat
  nb : Nat
  stR : Row
  stays : List GStay
  sends : GMap Place SV
  seen : GMap Had Bool
  mem : GMap (Int × Int) Int
  lv : GMap Int Bool
  nw : GMap Int Nat
  now : Int → Option Nat
  br : Int
  ln : Int
  at_ : Int
  ru : Int
def GMon.abs (G : GMon) : AMon where
  sends p := ((G.sends.get p).getD (Row.nil, [])).2.map GM.mg
  seen h := (G.seen.get h).getD false
  mem c := G.mem.get c
  stays := G.stays.map GStay.abs
  live p := (G.lv.get p).getD false
  now := G.now
  br := G.br
  ln := G.ln
  at_ := G.at_
  ru := G.ru
abbrev GMon.L (G : GMon) (F : Blocks) (R : Units) : Units :=
  [(G.m, monO G.sb G.eb G.mb (G.stR.val G.stays.length) G.lb G.nb G.br G.ln G.at_ G.ru)] :: [(G.sb, sendsO G.sends)] :: [(G.eb, seenO G.seen)] :: [(G.mb, G.mem.obj confKey setV)] :: [(G.lb, G.lv.obj ikey bval)] :: [(G.nb, G.nw.obj ikey pval)] :: SR G.sends :: SU G.stays :: F :: G.stR.u 57 :: R
structure GMon.ok (F : Blocks) (k : Nat) (G : GMon) : Prop where
  row : RowOk G.stR 1 (G.stays.map ptrCell)
  stays : ∀ s ∈ G.stays, s.ok F
  len : G.stays.length ≤ k
  few : ∀ s ∈ G.stays, s.m0.length + s.m1.length ≤ k
  count : ∀ s ∈ G.stays, ∀ p, 0 ≤ (s.count.get p).getD 0 ∧ (s.count.get p).getD 0 ≤ k
  sends : ∀ p, RowOk ((G.sends.get p).getD (Row.nil, [])).1 6 (((G.sends.get p).getD (Row.nil, [])).2.map GM.cells) ∧ (∀ q ∈ ((G.sends.get p).getD (Row.nil, [])).2, q.ok F) ∧ ((G.sends.get p).getD (Row.nil, [])).2.length ≤ k
  now : ∀ p, G.nw.get p = (G.now p).bind fun i => (G.stays[i]?).map GStay.blk
  nowlt : ∀ p i, G.now p = some i → i < G.stays.length
theorem GStay.ok.mono {U V : Blocks} {s : GStay} (h : s.ok U) (hs : U ⊆ V) : s.ok V := ⟨h.k0, h.k1, h.few, fun g hg => (h.msgs g hg).mono hs, fun t e he => hs (h.tr t e he)⟩
theorem GMon.ok.mono {U V : Blocks} {k l : Nat} {G : GMon} (h : G.ok U k) (hs : U ⊆ V) (hk : k ≤ l) : G.ok V l where
  row := h.row
  stays s hs' := (h.stays s hs').mono hs
  len := Nat.le_trans h.len hk
  few s hs' := Nat.le_trans (h.few s hs') hk
  count s hs' p := ⟨(h.count s hs' p).1, by have := (h.count s hs' p).2; omega⟩
  sends p := ⟨(h.sends p).1, fun q hq => ((h.sends p).2.1 q hq).mono hs, Nat.le_trans (h.sends p).2.2 hk⟩
  now := h.now
  nowlt := h.nowlt
/-- The stay of an event. -/
def GMon.cur (G : GMon) (p : Int) : Option (Nat × GStay) := (G.now p).bind fun i => (G.stays[i]?).map fun s => (i, s)
theorem GMon.ok.cur {F : Blocks} {k : Nat} {G : GMon} (h : G.ok F k) (p : Int) : G.nw.get p = ((G.cur p).map (·.2)).map GStay.blk := by
  rw [h.now]
  unfold GMon.cur
  cases G.now p with
  | none => rfl
  | some i => cases hs : G.stays[i]? <;> simp [hs]
theorem GMon.abs_cur (G : GMon) (p : Int) : ((G.abs.now p).bind fun i => (G.abs.stays[i]?).map fun b => (i, b)) = (G.cur p).map fun x => (x.1, x.2.abs) := by
  unfold GMon.cur
  show ((G.now p).bind fun i => ((G.stays.map GStay.abs)[i]?).map fun b => (i, b)) = _
  cases G.now p with
  | none => rfl
  | some i => cases hs : G.stays[i]? <;> simp [hs]
theorem GMon.abs_stay (G : GMon) (e : Ev) (d : List Int) : G.abs.stay (e.abs d) = match G.cur e.proc with
    | some (i, s) => if (G.lv.get e.proc).getD false && confEq s.epoch s.rep e.epoch e.rep then some (i, s.abs) else none
    | none => none := by
  unfold GMon.cur GMon.abs AMon.stay
  show (match G.now e.proc with | none => none | some i => match (G.stays.map GStay.abs)[i]? with | none => none | some s => if (G.lv.get e.proc).getD false && confEq s.epoch s.rep e.epoch e.rep then some (i, s) else none) = _
  cases G.now e.proc with
  | none => rfl
  | some i => cases hs : G.stays[i]? <;> simp [hs, GStay.abs]
theorem twice_abs (e r p : Int) (l : List GStay) (br : Int) : twiceF e r p l br = atwiceF e r p (l.map GStay.abs) br := by
  induction l generalizing br with
  | nil => rfl
  | cons o l ih =>
    show twiceF e r p l _ = atwiceF e r p (l.map GStay.abs) _
    rw [ih]
    rfl
theorem leave_abs (s : GStay) (e : Ev) (d : List Int) : leaveB s.tr e = aleave s.abs.tr (e.abs d) := by
  unfold leaveB aleave GStay.abs
  cases s.tr <;> rfl
end Go.Proofs.Ythijlgjfgliinaa
