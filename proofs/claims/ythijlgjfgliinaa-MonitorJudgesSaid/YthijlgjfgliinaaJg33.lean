/- Part 33 of the proof of what MonJudges says. -/
import Derived.Test.YthijlgjfgliinaaJg32
import Derived.Test.YthijlgjfgliinaaJg19
section
/- The judge: regular (41), whole. -/
set_option linter.all false
namespace Go.Proofs.Ythijlgjfgliinaa
open Go.RowKit
open Go.W
variable [Env]
/-- The stays, once a configuration began. -/
def regStays (stays : List JSt) (cur : Option (Nat × JSt)) (i : Nat) (e : Ev) (blk : Nat) : List JSt := (match cur with | none => stays | some (j, b) => stays.set j { b with nx := some i }) ++ [JSt.fresh blk e (cur.map (·.2.blk))]
def regCk (evs : List Ev) (stays : List JSt) (cur : Option (Nat × JSt)) (live : Bool) (e : Ev) : List Ck := (1, !live || !hasB e.members e.proc) :: (twCk e stays ++ (match cur with | none => [] | some (_, b) => goesCk evs e b))
theorem JU_push (eb eo : Nat) (l : List JSt) (sb : Nat) (e : Ev) (bf : Option Nat) (L : Units) : Eqv ([(sb, (JSt.fresh sb e bf).obj eb eo)] :: JU eb eo l :: L) (JU eb eo (l ++ [JSt.fresh sb e bf]) :: L) := by
  unfold Eqv JU
  have h2 : (JSt.fresh sb e bf).u eb eo = [(sb, (JSt.fresh sb e bf).obj eb eo)] := rfl
  simp only [List.flatMap_append, List.flatMap_cons, List.flatMap_nil, List.append_nil, List.flatten_cons, h2]
  rw [← List.append_assoc]
  exact List.Perm.append_right _ List.perm_append_comm
abbrev RhL (t bb nb eb eo : Nat) (lv sv : Value) (nm : Int) (g : GMap Int Bool) (nw : GMap Int Nat) (stR : Row) (stays : List JSt) (F : Blocks) (T : Units) : Units :=
  [(t, traceO lv sv bb nm)] :: stR.u 98 :: [(nb, nw.obj ikey pval)] :: [(bb, g.obj ikey bval)] :: JU eb eo stays :: F :: T
attribute [local irreducible] opsC wpC quietC LoopC DrawC CutC LoadC StoreC ReadC UpdC RunC CallC QCallC EndC thenC inBlockC
set_option maxRecDepth 100000
set_option synthInstance.maxHeartbeats 400000
section
variable {F : Blocks} {t bb nb eb eo : Nat} {lv : Value} {nm : Int} {nw : GMap Int Nat} {evs : List Ev} {ns : List (List Nm)} {T : Units} {g : GMap Int Bool}
set_option maxHeartbeats 16000000 in
theorem regular41 (hE : EvIn F eb eo evs ns) (i : Nat) (e : Ev) (he : evs[i]? = some e) (live : Bool) (stays : List JSt) (cur : Option (Nat × JSt)) (hc : ∀ j b, cur = some (j, b) → stays[j]? = some b ∧ ∀ q, b.tr = some q → q < evs.length) (hnw : nw.get e.proc = cur.map (·.2.blk))
    (stR : Row) (hst : RowOk stR 1 (stays.map jptr)) (hn : stays.length ≤ 1000) :
    Does Try.prog 41 #[.pointer (some ⟨t, 0, none⟩), .pointer (some ⟨eb, eo + i * 19, none⟩), .bool live, .map (some nb)] (RhL t bb nb eb eo lv (stR.val stays.length) nm g nw stR stays F T)
      (fun en M => ∃ z : Row × Nat, RowOk z.1 1 ((regStays stays cur i e z.2).map jptr) ∧ Gives (RhL t bb nb eb eo lv (z.1.val (stays.length + 1)) nm (GMap.bads g (regCk evs stays cur live e)) (nw.put e.proc z.2) z.1 (regStays stays cur i e z.2) F T) (.tuple #[]) en M) := by
  have hE0 := hE
  obtain ⟨⟨earr, eT, efr, hEm, hrow⟩, hnames⟩ := hE
  haveI hEB : ∀ {L R : Units} [Unit_ L F R], Has L eb (.cells earr eT efr) := fun {L R} h => ⟨h.ok.mem_iff.2 (by simp [hEm])⟩
  have hec : (evs.map Ev.cells)[i]? = some e.cells := by simp [he]
  obtain ⟨sa, sc, hsv, hsin⟩ := stR.val_slice hst 98
  rw [List.length_map] at hsv hsin
  rw [hsv]
  refine does_of_wpC (args := [.pointer (some ⟨t, 0, none⟩), .pointer (some ⟨eb, eo + i * 19, none⟩), .bool live, .map (some nb)]) Try.func41 rfl (by kernel_rfl) ?_
  cases cur with
  | none =>
    have hnw' : nw.get e.proc = none := hnw
    repeat (first | refine c_seq ?_ | refine c_draw ?_)
    refine d_tail 18 (by kernel_rfl) ?_
    simp only [List.take_succ_cons, List.take_zero, List.drop_succ_cons, List.drop_zero]
    repeat (first | (refine q_load (by rfl) ?_; refine LoadC.rowCell (b := eb) (q := 1) hrow hec rfl (by rfl) ?_) | (refine q_load (by rfl) ?_; refine LoadC.rowPart (b := eb) (q := 2) (n := 2) (vs := [.int .u64 e.epoch, .int .i64 e.rep]) hrow hec rfl rfl (by rfl) ?_) | (refine q_load (by rfl) ?_; refine LoadC.rowCell (b := eb) (q := 6) hrow hec rfl (by rfl) ?_) | (refine q_look (by rfl) (by rfl) ?_; refine ReadC.of (fun x => look_jnow nb nw _ _ hnw' x) ?_) | (refine q_nil ?_) | refine r_nil ?_ | refine e_n ?_ | refine r_val (by rfl) ?_ | refine r_box (by rfl) (by rfl) (fun _ => ?_) | refine r_build (by rfl) (by rfl) ?_ | refine q_field (by rfl) (by rfl) ?_ | refine q_val (by rfl) ?_)
    rename_i sb
    refine CutC.weak (N := RgL t bb nb eb eo sb lv (.slice sa stays.length sc) nm g nw stR stays e none F T) (Incl.trans (Incl.of (N := [(t, traceO lv (.slice sa stays.length sc) bb nm)] :: stR.u 98 :: [(nb, nw.obj ikey pval)] :: [(bb, g.obj ikey bval)] :: [(sb, .cells #[.int .i64 e.proc, .int .u64 e.epoch, .int .i64 e.rep, .int .u64 e.members, .slice none 0 0, .pointer none, .pointer none, .pointer none, .int .i64 0, .pointer none, .slice none 0 0, .bool false, .pointer none] 109)] :: JU eb eo stays :: F :: T)) (Incl.of' (by rfl))) ?_
    refine CutC.over [(0, .pointer (some ⟨t, 0, none⟩)), (1, .pointer (some ⟨eb, eo + i * 19, none⟩)), (2, .bool live), (3, .map (some nb)), (8, .pointer (some ⟨sb, 0, none⟩))] ⟨rfl, rfl, rfl, rfl, rfl, rfl⟩ ?_
    intro f1
    refine reg_mid (lv := lv) (nm := nm) hE0 i e he none live stays stR stays.length sa sc hsv hst rfl hn (fun f ha => CutC.over _ ha fun f2 => ?_) f1
    refine reg_last0 hE0 i e he stR (stays.map jptr) stays.length sa sc hsv hst (by simp) hn (Y := JU eb eo stays :: F :: T) (fun r' M hok' hM => ?_) f2
    refine ⟨(r', sb), ?_, Gives.mk rfl (Incl.trans hM ?_)⟩
    · show RowOk r' 1 ((stays ++ [JSt.fresh sb e none]).map jptr)
      rw [List.map_append]; exact hok'
    · have hb : regCk evs stays none live e = (1, !live || !hasB e.members e.proc) :: twCk e stays := by unfold regCk; simp
      rw [hb]
      exact Incl.eqv (Eqv.cons _ (Eqv.cons _ (Eqv.cons _ (Eqv.cons _ (JU_push eb eo stays sb e none (F :: T))))))
  | some p =>
    obtain ⟨j, b⟩ := p
    obtain ⟨hj, hq⟩ := hc j b rfl
    have hnw' : nw.get e.proc = some b.blk := hnw
    obtain ⟨X, hX1, hX2⟩ := flat_focus (JSt.u eb eo) hj
    repeat (first | refine c_seq ?_ | refine c_draw ?_)
    refine d_tail 18 (by kernel_rfl) ?_
    simp only [List.take_succ_cons, List.take_zero, List.drop_succ_cons, List.drop_zero]
    repeat (first | (refine q_load (by rfl) ?_; refine LoadC.rowCell (b := eb) (q := 1) hrow hec rfl (by rfl) ?_) | (refine q_load (by rfl) ?_; refine LoadC.rowPart (b := eb) (q := 2) (n := 2) (vs := [.int .u64 e.epoch, .int .i64 e.rep]) hrow hec rfl rfl (by rfl) ?_) | (refine q_load (by rfl) ?_; refine LoadC.rowCell (b := eb) (q := 6) hrow hec rfl (by rfl) ?_) | (refine q_look (by rfl) (by rfl) ?_; refine ReadC.of (fun x => look_jnow nb nw _ _ hnw' x) ?_) | (refine q_nil ?_) | refine r_nil ?_ | refine e_n ?_ | refine r_val (by rfl) ?_ | refine r_box (by rfl) (by rfl) (fun _ => ?_) | refine r_build (by rfl) (by rfl) ?_ | refine q_field (by rfl) (by rfl) ?_ | refine q_val (by rfl) ?_)
    rename_i sb
    refine CutC.weak (N := RgL t bb nb eb eo sb lv (.slice sa stays.length sc) nm g nw stR stays e (some b.blk) F T) (Incl.trans (Incl.of (N := [(t, traceO lv (.slice sa stays.length sc) bb nm)] :: stR.u 98 :: [(nb, nw.obj ikey pval)] :: [(bb, g.obj ikey bval)] :: [(sb, .cells #[.int .i64 e.proc, .int .u64 e.epoch, .int .i64 e.rep, .int .u64 e.members, .slice none 0 0, .pointer none, .pointer none, .pointer none, .int .i64 0, .pointer none, .slice none 0 0, .bool false, .pointer (some ⟨b.blk, 0, none⟩)] 109)] :: JU eb eo stays :: F :: T)) (Incl.of' (by rfl))) ?_
    refine CutC.over [(0, .pointer (some ⟨t, 0, none⟩)), (1, .pointer (some ⟨eb, eo + i * 19, none⟩)), (2, .bool live), (3, .map (some nb)), (8, .pointer (some ⟨sb, 0, none⟩))] ⟨rfl, rfl, rfl, rfl, rfl, rfl⟩ ?_
    intro f1
    refine reg_mid (lv := lv) (nm := nm) hE0 i e he (some b.blk) live stays stR stays.length sa sc hsv hst rfl hn (fun f ha => ?_) f1
    have hb : regCk evs stays (some (j, b)) live e = ((1, !live || !hasB e.members e.proc) :: twCk e stays) ++ goesCk evs e b := rfl
    have hin : Incl (RgL t bb nb eb eo sb lv (.slice sa stays.length sc) nm (GMap.bads g ((1, !live || !hasB e.members e.proc) :: twCk e stays)) nw stR stays e (some b.blk) F T)
        ([(t, traceO lv (.slice sa stays.length sc) bb nm)] :: stR.u 98 :: [(nb, nw.obj ikey pval)] :: [(bb, (GMap.bads g ((1, !live || !hasB e.members e.proc) :: twCk e stays)).obj ikey bval)] :: [(sb, (JSt.fresh sb e (some b.blk)).obj eb eo)] :: [(b.blk, b.obj eb eo)] :: b.gr.u 111 :: b.ur.u 34 :: X :: F :: T) := by
      refine Incl.eqv (Eqv.cons _ (Eqv.cons _ (Eqv.cons _ (Eqv.cons _ (Eqv.cons _ ?_)))))
      exact (Eqv.head hX1 _).trans ((Eqv.split _ _ _).trans (JSt.u_split eb eo b _))
    refine CutC.weak hin (CutC.over _ ha fun f2 => ?_)
    refine reg_last1 hE0 i e he b (b.gr.val b.gots.length) (b.ur.val b.ups.length) hq stR (stays.map jptr) stays.length sa sc hsv hst (by simp) hn (Y := b.gr.u 111 :: b.ur.u 34 :: X :: F :: T) (fun r' M hok' hM => ?_) f2
    have hsl : stays.length + 1 = stays.length + 1 := rfl
    refine ⟨(r', sb), ?_, Gives.mk rfl (Incl.trans hM ?_)⟩
    · show RowOk r' 1 ((stays.set j { b with nx := some i } ++ [JSt.fresh sb e (some b.blk)]).map jptr)
      rw [List.map_append]
      have : (stays.set j { b with nx := some i }).map jptr = stays.map jptr := by
        rw [List.map_set]
        refine List.ext_getElem? fun k => ?_
        rw [List.getElem?_set]
        split
        · rename_i hjk
          subst hjk
          split
          · rw [List.getElem?_map, hj]; rfl
          · rename_i h
            rw [List.getElem?_eq_none (by omega)]
        · rfl
      rw [this]
      exact hok'
    · rw [hb, GMap.bads_app]
      have hx := hX2 { b with nx := some i }
      refine Incl.eqv (Eqv.cons _ (Eqv.cons _ (Eqv.cons _ (Eqv.cons _ ?_))))
      have h1 : Eqv ([(b.blk, jstN eb eo b i (b.gr.val b.gots.length) (b.ur.val b.ups.length) (evp eb eo b.tr))] :: b.gr.u 111 :: b.ur.u 34 :: X :: F :: T) (JU eb eo (stays.set j { b with nx := some i }) :: F :: T) :=
        ((JSt.u_split eb eo { b with nx := some i } (X :: F :: T)).symm.trans (Eqv.split _ _ _).symm).trans (Eqv.head hx.symm _)
      exact (Eqv.cons _ h1).trans (JU_push eb eo (stays.set j { b with nx := some i }) sb e (some b.blk) (F :: T))
end
end Go.Proofs.Ythijlgjfgliinaa
end
section
/- What the judge checks of a trace, beside what the monitor does; that both break the same rules. -/
set_option linter.all false
namespace Go.Proofs.Ythijlgjfgliinaa
open Go.RowKit
variable [Env]
/-! ### What the judge checks -/
/-- While a trace is gone through. -/
def AMon.jchecks (A : AMon) (e : AEv) : List Ck :=
  if e.kind = 5 ∨ e.kind = 6 then []
  else if e.kind = 3 then
    (1, !A.live e.proc || !hasB e.members e.proc) :: (A.stays.map (fun o => ((1 : Int), confEq o.epoch o.rep e.epoch e.rep && (o.members != e.members || o.proc == e.proc))) ++
      (match (A.now e.proc).bind fun i => (A.stays[i]?).map fun b => (i, b) with
        | none => []
        | some (_, b) => [(1, decide (ord2 e.epoch e.rep b.epoch b.rep ≤ 0)), (1, aleave b.tr e)]))
  else if e.kind = 1 then [(1, match A.stay e with | some (_, s) => s.tr.isSome | none => true)]
  else if e.kind = 2 then (match A.stay e with | none => [(1, true)] | some (_, s) => [(2, !confEq e.nepoch e.nrep s.next.1 s.next.2)])
  else if e.kind = 4 then (match A.stay e with | none => [(1, true)] | some (_, s) => [(1, s.tr.isSome)])
  else []
def sentOf (l : List AEv) (p : Place) : List Mg := (l.filter fun e => e.kind == 1 && (e.proc == e.m.frm && decide (e.place = p))).map (·.m)
def behindAt (pre : List AEv) (e : AEv) : List Ck := if e.kind = 2 then [(2, (cntMg e.m (sentOf pre e.place) : Int) != 1)] else []
def onceAt (pre : List AEv) (e : AEv) : List Ck := if e.kind = 2 then [(3, pre.any fun x => x.kind == 2 && decide (x.had = e.had))] else []
/-- Something checked at each event, of it and of those ahead. -/
def eachCk (f : List AEv → AEv → List Ck) : List AEv → List AEv → List Ck
  | _, [] => []
  | pre, e :: l => f pre e ++ eachCk f (pre ++ [e]) l
def cntOf (l : List Mg) (q : Int) : Int := (l.filter fun x => x.frm == q).length
def ordCk : List Mg → List Mg → List Ck
  | _, [] => []
  | pre, x :: l => lastCk pre x ++ (depsCk (cntOf pre) 0 x.deps ++ ordCk (pre ++ [x]) l)
def pair5 (a b : AStay) : List Ck :=
  if confEq a.epoch a.rep b.epoch b.rep && (a.proc != b.proc && (a.went && b.went)) then
    (match a.tr, b.tr with
      | some t, some u => if confEq t.nepoch t.nrep u.nepoch u.nrep then [(5, t.members != u.members || (!eqMgs a.p0 b.p0 || !eqMgs a.p1 b.p1))] else []
      | _, _ => [])
  else []
def safe6 (a b : AStay) : List Ck := owesCk (hasB a.members b.proc) b.all a.p0 ++ (match a.tr with | some t => owesCk (hasB t.members b.proc) b.all a.p1 | none => [])
def safeAt (a b : AStay) : List Ck := if confEq a.epoch a.rep b.epoch b.rep && b.went then safe6 a b else []
def togCk (all : List AStay) : List AStay → List AStay → List Ck
  | _, [] => []
  | pre, a :: l => pre.flatMap (pair5 a) ++ (all.flatMap (safeAt a) ++ togCk all (pre ++ [a]) l)
/-- A run. -/
def arun (l : List AEv) : AMon := l.foldl AMon.add AMon.fresh
def runCk (f : AMon → AEv → List Ck) : AMon → List AEv → List Ck
  | _, [] => []
  | A, e :: l => f A e ++ runCk f (A.add e) l
def mcks (l : List AEv) : List Ck := runCk AMon.checks AMon.fresh l
def jthr (l : List AEv) : List Ck := runCk AMon.jchecks AMon.fresh l
def jcks (l : List AEv) : List Ck := jthr l ++ (eachCk behindAt [] l ++ (eachCk onceAt [] l ++ ((arun l).stays.flatMap (fun s => ordCk [] s.all) ++ togCk (arun l).stays [] (arun l).stays)))
theorem arun_snoc (l : List AEv) (e : AEv) : arun (l ++ [e]) = (arun l).add e := by unfold arun; rw [List.foldl_append]; rfl
theorem runCk_snoc (f : AMon → AEv → List Ck) (e : AEv) : ∀ (l : List AEv) (A : AMon), runCk f A (l ++ [e]) = runCk f A l ++ f (l.foldl AMon.add A) e
  | [], A => by simp [runCk]
  | x :: l, A => by simp only [List.cons_append, runCk, List.foldl_cons, runCk_snoc f e l, List.append_assoc]
theorem eachCk_snoc (f : List AEv → AEv → List Ck) (e : AEv) : ∀ (l pre : List AEv), eachCk f pre (l ++ [e]) = eachCk f pre l ++ f (pre ++ l) e
  | [], pre => by simp [eachCk]
  | x :: l, pre => by simp only [List.cons_append, eachCk, eachCk_snoc f e l, List.append_assoc, List.singleton_append, List.nil_append, List.cons_append]
theorem mcks_snoc (l : List AEv) (e : AEv) : mcks (l ++ [e]) = mcks l ++ (arun l).checks e := runCk_snoc _ e l _
theorem jthr_snoc (l : List AEv) (e : AEv) : jthr (l ++ [e]) = jthr l ++ (arun l).jchecks e := runCk_snoc _ e l _
theorem behind_snoc (l : List AEv) (e : AEv) : eachCk behindAt [] (l ++ [e]) = eachCk behindAt [] l ++ behindAt l e := by rw [eachCk_snoc, List.nil_append]
theorem once_snoc (l : List AEv) (e : AEv) : eachCk onceAt [] (l ++ [e]) = eachCk onceAt [] l ++ onceAt l e := by rw [eachCk_snoc, List.nil_append]
theorem ordCk_snoc (x : Mg) : ∀ (l pre : List Mg), ordCk pre (l ++ [x]) = ordCk pre l ++ (lastCk (pre ++ l) x ++ depsCk (cntOf (pre ++ l)) 0 x.deps)
  | [], pre => by simp [ordCk]
  | y :: l, pre => by simp only [List.cons_append, ordCk, ordCk_snoc x l, List.append_assoc, List.singleton_append, List.nil_append, List.cons_append]
/-! ### An event, field by field -/
theorem AMon.add_f (A : AMon) (e : AEv) : (A.add e).stays = (A.act e).stays ∧ (A.add e).live = (A.act e).live ∧ (A.add e).now = (A.act e).now ∧ (A.add e).sends = (A.act e).sends ∧ (A.add e).seen = (A.act e).seen ∧ (A.add e).mem = (A.act e).mem ∧ (A.add e).br = (A.act e).br := by
  have h : ∀ B : AMon, B.first.stays = B.stays ∧ B.first.live = B.live ∧ B.first.now = B.now ∧ B.first.sends = B.sends ∧ B.first.seen = B.seen ∧ B.first.mem = B.mem ∧ B.first.br = B.br := by
    intro B; unfold AMon.first; split <;> exact ⟨rfl, rfl, rfl, rfl, rfl, rfl, rfl⟩
  unfold AMon.add
  have h2 : ∀ n : Int, (({ A with ln := n } : AMon).act e).stays = (A.act e).stays ∧ (({ A with ln := n } : AMon).act e).live = (A.act e).live ∧ (({ A with ln := n } : AMon).act e).now = (A.act e).now ∧ (({ A with ln := n } : AMon).act e).sends = (A.act e).sends ∧ (({ A with ln := n } : AMon).act e).seen = (A.act e).seen ∧ (({ A with ln := n } : AMon).act e).mem = (A.act e).mem ∧ (({ A with ln := n } : AMon).act e).br = (A.act e).br := by
    intro n
    unfold AMon.act
    repeat' split
    · exact ⟨rfl, rfl, rfl, rfl, rfl, rfl, rfl⟩
    · unfold AMon.regular
      refine ⟨?_, ?_, ?_, ?_, ?_, ?_, ?_⟩ <;> first | rfl | trivial
    · exact ⟨rfl, rfl, rfl, rfl, rfl, rfl, rfl⟩
    · unfold AMon.deliver
      have : ({ A with ln := n } : AMon).stay e = A.stay e := rfl
      simp only [this]
      cases A.stay e <;> (refine ⟨?_, ?_, ?_, ?_, ?_, ?_, ?_⟩ <;> first | rfl | trivial)
    · unfold AMon.trans
      have : ({ A with ln := n } : AMon).stay e = A.stay e := rfl
      simp only [this]
      cases A.stay e <;> (refine ⟨?_, ?_, ?_, ?_, ?_, ?_, ?_⟩ <;> first | rfl | trivial)
    · exact ⟨rfl, rfl, rfl, rfl, rfl, rfl, rfl⟩
  obtain ⟨a1, a2, a3, a4, a5, a6, a7⟩ := h (({ A with ln := A.ln + 1 } : AMon).act e)
  obtain ⟨b1, b2, b3, b4, b5, b6, b7⟩ := h2 (A.ln + 1)
  exact ⟨a1.trans b1, a2.trans b2, a3.trans b3, a4.trans b4, a5.trans b5, a6.trans b6, a7.trans b7⟩
theorem arun_br : ∀ (l : List AEv) (A : AMon), (l.foldl AMon.add A).br = brks A.br (runCk AMon.checks A l)
  | [], A => rfl
  | e :: l, A => by
    rw [List.foldl_cons, arun_br l, runCk, brks_app, (AMon.add_f A e).2.2.2.2.2.2, AMon.act_checks]
theorem AMon.stay_some {A : AMon} {e : AEv} {i : Nat} {s : AStay} (h : A.stay e = some (i, s)) : A.now e.proc = some i ∧ A.stays[i]? = some s ∧ A.live e.proc = true ∧ s.epoch = e.epoch ∧ s.rep = e.rep := by
  unfold AMon.stay at h
  split at h
  · cases h
  · rename_i j hj
    split at h
    · cases h
    · rename_i s' hs
      split at h
      · rename_i hc
        simp only [Option.some.injEq, Prod.mk.injEq] at h
        obtain ⟨rfl, rfl⟩ := h
        simp only [Bool.and_eq_true, confEq_iff] at hc
        exact ⟨hj, hs, hc.1, hc.2.1, hc.2.2⟩
      · cases h
end Go.Proofs.Ythijlgjfgliinaa
end
