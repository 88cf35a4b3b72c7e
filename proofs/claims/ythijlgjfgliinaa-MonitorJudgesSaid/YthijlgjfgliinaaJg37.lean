/- Part 37 of the proof of what MonJudges says. -/
import Derived.Test.YthijlgjfgliinaaJg33
import Derived.Test.YthijlgjfgliinaaJg36
section
/- The judge: inner (42), whole. -/
set_option linter.all false
namespace Go.Proofs.Ythijlgjfgliinaa
open Go.RowKit
open Go.W
variable [Env]
theorem flat_focus2 {α : Type} (u : α → Blocks) {l : List α} {i : Nat} {s : α} (h : l[i]? = some s) : (l.flatMap u).Perm (u s ++ (l.eraseIdx i).flatMap u) ∧ ∀ s', ((l.set i s').flatMap u).Perm (u s' ++ (l.eraseIdx i).flatMap u) := by
  induction l generalizing i with
  | nil => simp at h
  | cons a l ih =>
    cases i with
    | zero =>
      simp only [List.getElem?_cons_zero, Option.some.injEq] at h
      subst h
      exact ⟨List.Perm.refl _, fun s' => List.Perm.refl _⟩
    | succ i =>
      simp only [List.getElem?_cons_succ] at h
      obtain ⟨h1, h2⟩ := ih h
      refine ⟨?_, fun s' => ?_⟩
      · show (u a ++ l.flatMap u).Perm (u s ++ (u a ++ (l.eraseIdx i).flatMap u))
        refine (List.Perm.append_left _ h1).trans ?_
        rw [← List.append_assoc, ← List.append_assoc]
        exact List.Perm.append_right _ List.perm_append_comm
      · show (u a ++ (l.set i s').flatMap u).Perm (u s' ++ (u a ++ (l.eraseIdx i).flatMap u))
        refine (List.Perm.append_left _ (h2 s')).trans ?_
        rw [← List.append_assoc, ← List.append_assoc]
        exact List.Perm.append_right _ List.perm_append_comm
/-- The stays around one. -/
theorem JU_focus (eb eo : Nat) {l : List JSt} {i : Nat} {s : JSt} (h : l[i]? = some s) (L : Units) : Eqv (JU eb eo l :: L) ([(s.blk, s.obj eb eo)] :: s.gr.u 111 :: s.ur.u 34 :: JU eb eo (l.eraseIdx i) :: L) :=
  ((Eqv.head (flat_focus2 (JSt.u eb eo) h).1 L).trans (Eqv.split _ _ _)).trans (JSt.u_split eb eo s _)
theorem JU_back (eb eo : Nat) {l : List JSt} {i : Nat} {s : JSt} (h : l[i]? = some s) (s' : JSt) (L : Units) : Eqv ([(s'.blk, s'.obj eb eo)] :: s'.gr.u 111 :: s'.ur.u 34 :: JU eb eo (l.eraseIdx i) :: L) (JU eb eo (l.set i s') :: L) :=
  ((JSt.u_split eb eo s' _).symm.trans (Eqv.split _ _ _).symm).trans (Eqv.head ((flat_focus2 (JSt.u eb eo) h).2 s').symm L)
def stayOf (cur : Option (Nat × JSt)) (live : Bool) (e : Ev) : Option (Nat × JSt) := match cur with
  | none => none
  | some (j, s) => if live && confEq s.epoch s.rep e.epoch e.rep then some (j, s) else none
def nextOf (evs : List Ev) (tr : Option Nat) : Int × Int := match tr.bind fun q => evs[q]? with
  | none => (0, 0)
  | some t => (t.nepoch, t.nrep)
def innerCk (evs : List Ev) (cur : Option (Nat × JSt)) (live : Bool) (e : Ev) : List Ck := match stayOf cur live e with
  | none => [(1, true)]
  | some (_, s) => if e.kind = 2 then [(2, !confEq e.nepoch e.nrep (nextOf evs s.tr).1 (nextOf evs s.tr).2)] else [(1, s.tr.isSome)]
/-- What becomes of the stays at a message, a way on. -/
def InnerTo (k : Nat) (e : Ev) (d : List Int) (cur : Option (Nat × JSt)) (live : Bool) (stays stays' : List JSt) : Prop := match stayOf cur live e with
  | none => stays' = stays
  | some (j, s) => if e.kind = 2 then ∃ r' : Row, RowOk r' 8 ((s.gots ++ [(⟨k, ⟨e.m, d⟩, s.tr.isSome⟩ : JGot)]).map JGot.cells) ∧ stays' = stays.set j { s with gr := r', gots := s.gots ++ [⟨k, ⟨e.m, d⟩, s.tr.isSome⟩] }
    else if e.kind = 4 then stays' = stays.set j { s with tr := some k } else stays' = stays
section
variable {F : Blocks} {t bb nb eb eo : Nat} {lv sv : Value} {nm : Int} {nw : GMap Int Nat} {evs : List Ev} {ns : List (List Nm)} {T : Units} {g : GMap Int Bool} {stR : Row}
set_option synthInstance.maxHeartbeats 400000
set_option maxHeartbeats 4000000 in
theorem inner42 (hE : EvIn F eb eo evs ns) (i : Nat) (e : Ev) (d : List Int) (he : evs[i]? = some e) (hk : e.kind = 1 ∨ e.kind = 2 ∨ e.kind = 4) (live : Bool) (stays : List JSt) (cur : Option (Nat × JSt))
    (hc : ∀ j b, cur = some (j, b) → stays[j]? = some b ∧ (∀ q, b.tr = some q → q < evs.length) ∧ RowOk b.gr 8 (b.gots.map JGot.cells) ∧ b.gots.length ≤ 1000) :
    Does Try.prog 42 #[.pointer (some ⟨t, 0, none⟩), .int .i64 (i : Nat), .pointer (some ⟨eb, eo + i * 19, none⟩), .bool live, .pointer ((cur.map (·.2.blk)).map (⟨·, 0, none⟩))] (RhL t bb nb eb eo lv sv nm g nw stR stays F T)
      (fun en M => ∃ stays' : List JSt, InnerTo i e d cur live stays stays' ∧ Gives (RhL t bb nb eb eo lv sv nm (GMap.bads g (innerCk evs cur live e)) nw stR stays' F T) (.tuple #[]) en M) := by
  obtain ⟨⟨earr, eT, efr, hEm, hrow⟩, hnames⟩ := hE
  have fin : ∀ (stays' : List JSt) {N : Units}, InnerTo i e d cur live stays stays' → Incl N (RhL t bb nb eb eo lv sv nm (GMap.bads g (innerCk evs cur live e)) nw stR stays' F T) → ∀ en M, Gives N (.tuple #[]) en M → ∃ stays' : List JSt, InnerTo i e d cur live stays stays' ∧ Gives (RhL t bb nb eb eo lv sv nm (GMap.bads g (innerCk evs cur live e)) nw stR stays' F T) (.tuple #[]) en M := by
    rintro stays' N h1 hi en M ⟨rfl, hM⟩
    exact ⟨stays', h1, rfl, hM.trans hi⟩
  cases cur with
  | none =>
    have hd := inner_none (t := t) (bb := bb) (lv := lv) (sv := sv) (nm := nm) (g := g) (i : Int) ⟨eb, eo + i * 19, none⟩ live (L := RhL t bb nb eb eo lv sv nm g nw stR stays F T)
    exact hd.mono (fin stays rfl (show Incl _ (RhL t bb nb eb eo lv sv nm (GMap.bad g 1 true) nw stR stays F T) from Incl.of))
  | some p =>
    obtain ⟨j, s⟩ := p
    obtain ⟨hj, hq, hgr, hgl⟩ := hc j s rfl
    have hfoc : Incl (RhL t bb nb eb eo lv sv nm g nw stR stays F T) ([(s.blk, s.obj eb eo)] :: [(t, traceO lv sv bb nm)] :: [(bb, g.obj ikey bval)] :: s.gr.u 111 :: F :: stR.u 98 :: [(nb, nw.obj ikey pval)] :: s.ur.u 34 :: JU eb eo (stays.eraseIdx j) :: T) := by
      refine Incl.trans (Incl.eqv (Eqv.cons _ (Eqv.cons _ (Eqv.cons _ (Eqv.cons _ (JU_focus eb eo hj (F :: T))))))) Incl.of
    have hback : ∀ (s' : JSt) (g' : GMap Int Bool), Incl ([(s'.blk, s'.obj eb eo)] :: [(t, traceO lv sv bb nm)] :: [(bb, g'.obj ikey bval)] :: s'.gr.u 111 :: F :: stR.u 98 :: [(nb, nw.obj ikey pval)] :: s'.ur.u 34 :: JU eb eo (stays.eraseIdx j) :: T) (RhL t bb nb eb eo lv sv nm g' nw stR (stays.set j s') F T) := fun s' g' =>
      Incl.trans (Incl.of (N := [(t, traceO lv sv bb nm)] :: stR.u 98 :: [(nb, nw.obj ikey pval)] :: [(bb, g'.obj ikey bval)] :: [(s'.blk, s'.obj eb eo)] :: s'.gr.u 111 :: s'.ur.u 34 :: JU eb eo (stays.eraseIdx j) :: F :: T)) (Incl.eqv (Eqv.cons _ (Eqv.cons _ (Eqv.cons _ (Eqv.cons _ (JU_back eb eo hj s' (F :: T)))))))
    have hset : stays.set j s = stays := by
      refine List.ext_getElem? fun k => ?_
      rw [set_get hj]
      split
      · rename_i h; rw [← h, hj]
      · rfl
    cases ho : (live && confEq s.epoch s.rep e.epoch e.rep) with
    | false =>
      have hst : stayOf (some (j, s)) live e = none := by simp [stayOf, ho]
      have hd := inner_off (t := t) (bb := bb) (lv := lv) (sv := sv) (nm := nm) (g := g) hEm hrow s i e he live ho (gv := s.gr.val s.gots.length) (uv := s.ur.val s.ups.length) (tv := evp eb eo s.tr) (L := [(s.blk, s.obj eb eo)] :: [(t, traceO lv sv bb nm)] :: [(bb, g.obj ikey bval)] :: s.gr.u 111 :: F :: stR.u 98 :: [(nb, nw.obj ikey pval)] :: s.ur.u 34 :: JU eb eo (stays.eraseIdx j) :: T)
        (R := [(s.blk, s.obj eb eo)] :: [(t, traceO lv sv bb nm)] :: s.gr.u 111 :: F :: stR.u 98 :: [(nb, nw.obj ikey pval)] :: s.ur.u 34 :: JU eb eo (stays.eraseIdx j) :: T) (hs := ⟨by simp [JSt.obj]⟩)
      refine (Does.incl hfoc hd).mono (fin stays (by unfold InnerTo; rw [hst]) ?_)
      have h2 := hback s (GMap.bads g (innerCk evs (some (j, s)) live e))
      rw [hset] at h2
      have hck : innerCk evs (some (j, s)) live e = [(1, true)] := by unfold innerCk; rw [hst]
      rw [hck] at h2 ⊢
      exact Incl.trans (Incl.of (N := [(s.blk, s.obj eb eo)] :: [(t, traceO lv sv bb nm)] :: [(bb, (GMap.bad g 1 true).obj ikey bval)] :: s.gr.u 111 :: F :: stR.u 98 :: [(nb, nw.obj ikey pval)] :: s.ur.u 34 :: JU eb eo (stays.eraseIdx j) :: T)) h2
    | true =>
      have hst : stayOf (some (j, s)) live e = some (j, s) := by simp [stayOf, ho]
      simp only [Bool.and_eq_true] at ho
      obtain ⟨rfl, ho⟩ := ho
      have hin : Incl (RhL t bb nb eb eo lv sv nm g nw stR stays F T) (InL t bb lv sv nm g eb eo s (s.gr.val s.gots.length) (s.ur.val s.ups.length) s.tr F (s.gr.u 111 :: stR.u 98 :: [(nb, nw.obj ikey pval)] :: s.ur.u 34 :: JU eb eo (stays.eraseIdx j) :: T)) :=
        hfoc.trans (show Incl ([(s.blk, jstO eb eo s (s.gr.val s.gots.length) (s.ur.val s.ups.length) (evp eb eo s.tr))] :: _) _ from Incl.of)
      rcases hk with hk | hk | hk
      · have hd := inner_send (t := t) (bb := bb) (lv := lv) (sv := sv) (nm := nm) (g := g) hEm hrow s i e he hk ho s.tr (gv := s.gr.val s.gots.length) (uv := s.ur.val s.ups.length) (T := s.gr.u 111 :: stR.u 98 :: [(nb, nw.obj ikey pval)] :: s.ur.u 34 :: JU eb eo (stays.eraseIdx j) :: T)
        have hck : innerCk evs (some (j, s)) true e = [(1, s.tr.isSome)] := by unfold innerCk; rw [hst]; simp [hk]
        refine (Does.incl hin hd).mono (fin stays (by unfold InnerTo; rw [hst]; simp [hk]) ?_)
        have h2 := hback s (GMap.bads g (innerCk evs (some (j, s)) true e))
        rw [hset] at h2
        rw [hck] at h2 ⊢
        exact Incl.trans (show Incl _ ([(s.blk, jstO eb eo s (s.gr.val s.gots.length) (s.ur.val s.ups.length) (evp eb eo s.tr))] :: [(t, traceO lv sv bb nm)] :: [(bb, (GMap.bad g 1 s.tr.isSome).obj ikey bval)] :: s.gr.u 111 :: F :: stR.u 98 :: [(nb, nw.obj ikey pval)] :: s.ur.u 34 :: JU eb eo (stays.eraseIdx j) :: T) from Incl.of) h2
      · have hck : ∀ n1 n2, nextOf evs s.tr = (n1, n2) → innerCk evs (some (j, s)) true e = [(2, !confEq e.nepoch e.nrep n1 n2)] := fun n1 n2 h => by unfold innerCk; rw [hst]; simp [hk, h]
        obtain ⟨ga, gc, hgv, _⟩ := s.gr.val_slice hgr 111
        rw [List.length_map] at hgv
        have hin2 : Incl (RhL t bb nb eb eo lv sv nm g nw stR stays F T) (s.gr.u 111 :: InL t bb lv sv nm g eb eo s (.slice ga s.gots.length gc) (s.ur.val s.ups.length) s.tr F (stR.u 98 :: [(nb, nw.obj ikey pval)] :: s.ur.u 34 :: JU eb eo (stays.eraseIdx j) :: T)) := by
          rw [← hgv]
          exact hin.trans Incl.of
        have hto : ∀ (r' : Row), RowOk r' 8 ((s.gots ++ [(⟨i, ⟨e.m, d⟩, s.tr.isSome⟩ : JGot)]).map JGot.cells) → InnerTo i e d (some (j, s)) true stays (stays.set j { s with gr := r', gots := s.gots ++ [⟨i, ⟨e.m, d⟩, s.tr.isSome⟩] }) := fun r' h => by
          unfold InnerTo; rw [hst]; simp only [hk, if_true]; exact ⟨r', h, rfl⟩
        have hend : ∀ (r' : Row) (a' : Option Addr) (c' : Nat) (n1 n2 : Int), nextOf evs s.tr = (n1, n2) → r'.val (s.gots.length + 1) = .slice a' (s.gots.length + 1) c' →
            Incl (r'.u 111 :: InL t bb lv sv nm (GMap.bad g 2 (!confEq e.nepoch e.nrep n1 n2)) eb eo s (.slice a' (s.gots.length + 1) c') (s.ur.val s.ups.length) s.tr F (stR.u 98 :: [(nb, nw.obj ikey pval)] :: s.ur.u 34 :: JU eb eo (stays.eraseIdx j) :: T))
              (RhL t bb nb eb eo lv sv nm (GMap.bads g (innerCk evs (some (j, s)) true e)) nw stR (stays.set j { s with gr := r', gots := s.gots ++ [⟨i, ⟨e.m, d⟩, s.tr.isSome⟩] }) F T) := by
          intro r' a' c' n1 n2 hn hv'
          have h2 := hback { s with gr := r', gots := s.gots ++ [⟨i, ⟨e.m, d⟩, s.tr.isSome⟩] } (GMap.bads g (innerCk evs (some (j, s)) true e))
          rw [hck n1 n2 hn] at h2 ⊢
          have ho2 : ({ s with gr := r', gots := s.gots ++ [⟨i, ⟨e.m, d⟩, s.tr.isSome⟩] } : JSt).obj eb eo = jstO eb eo s (.slice a' (s.gots.length + 1) c') (s.ur.val s.ups.length) (evp eb eo s.tr) := by
            unfold JSt.obj
            simp only [List.length_append, List.length_cons, List.length_nil, Nat.zero_add, hv']
          rw [ho2] at h2
          exact Incl.trans (show Incl _ ([(s.blk, jstO eb eo s (.slice a' (s.gots.length + 1) c') (s.ur.val s.ups.length) (evp eb eo s.tr))] :: [(t, traceO lv sv bb nm)] :: [(bb, (GMap.bad g 2 (!confEq e.nepoch e.nrep n1 n2)).obj ikey bval)] :: r'.u 111 :: F :: stR.u 98 :: [(nb, nw.obj ikey pval)] :: s.ur.u 34 :: JU eb eo (stays.eraseIdx j) :: T) from Incl.of) h2
        cases htr : s.tr with
        | none =>
          rw [htr] at hin2 hto hend
          have hd := inner_deliver0 (t := t) (bb := bb) (lv := lv) (sv := sv) (nm := nm) (g := g) hEm hrow s i e d he hk ho s.gots s.gr ga s.gots.length gc hgr rfl hgl hgv (gv := .pointer none) (uv := s.ur.val s.ups.length) (T := stR.u 98 :: [(nb, nw.obj ikey pval)] :: s.ur.u 34 :: JU eb eo (stays.eraseIdx j) :: T)
          refine (Does.incl hin2 hd).mono ?_
          rintro en M ⟨⟨r', a', c'⟩, ⟨h1, h2⟩, hG⟩
          exact fin _ (hto r' h1) (hend r' a' c' 0 0 rfl h2) en M hG
        | some q =>
          obtain ⟨e1, he1⟩ : ∃ e1, evs[q]? = some e1 := ⟨evs[q]'(hq q htr), List.getElem?_eq_getElem _⟩
          rw [htr] at hin2 hto hend
          have hd := inner_deliver1 (t := t) (bb := bb) (lv := lv) (sv := sv) (nm := nm) (g := g) hEm hrow s i e d he q e1 he1 hk ho s.gots s.gr ga s.gots.length gc hgr rfl hgl hgv (gv := .pointer none) (uv := s.ur.val s.ups.length) (T := stR.u 98 :: [(nb, nw.obj ikey pval)] :: s.ur.u 34 :: JU eb eo (stays.eraseIdx j) :: T)
          refine (Does.incl hin2 hd).mono ?_
          rintro en M ⟨⟨r', a', c'⟩, ⟨h1, h2⟩, hG⟩
          exact fin _ (hto r' h1) (hend r' a' c' e1.nepoch e1.nrep (by simp [nextOf, he1]) h2) en M hG
      · have hd := inner_trans (t := t) (bb := bb) (lv := lv) (sv := sv) (nm := nm) (g := g) hEm hrow s i e he hk ho s.tr (gv := s.gr.val s.gots.length) (uv := s.ur.val s.ups.length) (T := s.gr.u 111 :: stR.u 98 :: [(nb, nw.obj ikey pval)] :: s.ur.u 34 :: JU eb eo (stays.eraseIdx j) :: T)
        have hck : innerCk evs (some (j, s)) true e = [(1, s.tr.isSome)] := by unfold innerCk; rw [hst]; simp [hk]
        refine (Does.incl hin hd).mono (fin (stays.set j { s with tr := some i }) (by unfold InnerTo; rw [hst]; simp [hk]) ?_)
        have h2 := hback { s with tr := some i } (GMap.bads g (innerCk evs (some (j, s)) true e))
        rw [hck] at h2 ⊢
        exact Incl.trans (show Incl _ ([(s.blk, jstO eb eo s (s.gr.val s.gots.length) (s.ur.val s.ups.length) (evp eb eo (some i)))] :: [(t, traceO lv sv bb nm)] :: [(bb, (GMap.bad g 1 s.tr.isSome).obj ikey bval)] :: s.gr.u 111 :: F :: stR.u 98 :: [(nb, nw.obj ikey pval)] :: s.ur.u 34 :: JU eb eo (stays.eraseIdx j) :: T) from Incl.of) h2
end
end Go.Proofs.Ythijlgjfgliinaa
end
section
/- The judge: upper (43), whole. -/
set_option linter.all false
namespace Go.Proofs.Ythijlgjfgliinaa
open Go.RowKit
open Go.W
variable [Env]
/-- What becomes of the stays at an event of views. -/
def UpperTo (evs : List Ev) (ns : List (List Nm)) (i : Nat) (e : Ev) (d : List Int) (l : List Nm) (cur : Option (Nat × JSt)) (stays : List JSt) (nm : Int) (stays' : List JSt) (nm' : Int) : Prop :=
  if e.kind = 7 then nm' = nm ∧ stays' = (match cur with | none => stays | some (j, s) => stays.set j (s.view i))
  else if 8 ≤ e.kind ∧ e.kind ≤ 12 then
    match cur with
    | none => stays' = stays ∧ nm' = wrongNm nm 3 true
    | some (j, s) => ∃ (j' : Nat) (b s' : JSt), stays[j']? = some b ∧ (if e.kind = 12 ∧ s.vw = none ∧ s.bf ≠ none then s.bf = some b.blk else j' = j) ∧ Mined evs ns i e d l b nm s' nm' ∧ stays' = stays.set j' s'
  else stays' = stays ∧ nm' = nm
section
variable {F : Blocks} {t bb nb eb eo : Nat} {lv sv : Value} {nm : Int} {nw : GMap Int Nat} {evs : List Ev} {ns : List (List Nm)} {T : Units} {g : GMap Int Bool} {stR : Row}
set_option synthInstance.maxHeartbeats 400000
set_option maxHeartbeats 4000000 in
theorem upper43 (hE : EvIn F eb eo evs ns) (i : Nat) (e : Ev) (d : List Int) (l : List Nm) (he : evs[i]? = some e) (hl : ns[i]? = some l) (hk6 : e.kind < 1 ∨ 6 < e.kind) (stays : List JSt) (cur : Option (Nat × JSt))
    (hc : ∀ j b, cur = some (j, b) → stays[j]? = some b ∧ ∀ k, b.bf = some k → ∃ j' b', j' ≠ j ∧ stays[j']? = some b' ∧ b'.blk = k)
    (hs : ∀ s ∈ stays, (∀ v, s.vw = some v → v < evs.length) ∧ RowOk s.ur 6 (s.ups.map GM.cells) ∧ s.ups.length ≤ 1000) :
    Does Try.prog 43 #[.pointer (some ⟨t, 0, none⟩), .int .i64 (i : Nat), .pointer (some ⟨eb, eo + i * 19, none⟩), .pointer ((cur.map (·.2.blk)).map (⟨·, 0, none⟩))] (RhL t bb nb eb eo lv sv nm g nw stR stays F T)
      (fun en M => ∃ z : List JSt × Int, UpperTo evs ns i e d l cur stays nm z.1 z.2 ∧ Gives (RhL t bb nb eb eo lv sv z.2 g nw stR z.1 F T) (.tuple #[]) en M) := by
  have hfoc : ∀ {j : Nat} {s : JSt}, stays[j]? = some s → Incl (RhL t bb nb eb eo lv sv nm g nw stR stays F T) (s.mU eb eo t bb lv sv nm F (s.gr.u 111 :: [(bb, g.obj ikey bval)] :: stR.u 98 :: [(nb, nw.obj ikey pval)] :: JU eb eo (stays.eraseIdx j) :: T)) := fun {j s} hj =>
    Incl.trans (Incl.eqv (Eqv.cons _ (Eqv.cons _ (Eqv.cons _ (Eqv.cons _ (JU_focus eb eo hj (F :: T))))))) Incl.of
  have hback : ∀ {j : Nat} {s : JSt}, stays[j]? = some s → ∀ (s' : JSt) (nm' : Int), s'.gr = s.gr → Incl (s'.mU eb eo t bb lv sv nm' F (s.gr.u 111 :: [(bb, g.obj ikey bval)] :: stR.u 98 :: [(nb, nw.obj ikey pval)] :: JU eb eo (stays.eraseIdx j) :: T)) (RhL t bb nb eb eo lv sv nm' g nw stR (stays.set j s') F T) := fun {j s} hj s' nm' hgr => by
    rw [← hgr]
    exact Incl.trans (Incl.of (N := [(t, traceO lv sv bb nm')] :: stR.u 98 :: [(nb, nw.obj ikey pval)] :: [(bb, g.obj ikey bval)] :: [(s'.blk, s'.obj eb eo)] :: s'.gr.u 111 :: s'.ur.u 34 :: JU eb eo (stays.eraseIdx j) :: F :: T)) (Incl.eqv (Eqv.cons _ (Eqv.cons _ (Eqv.cons _ (Eqv.cons _ (JU_back eb eo hj s' (F :: T)))))))
  by_cases h7 : e.kind = 7
  · obtain ⟨⟨earr, eT, efr, hEm, hrow⟩, hnames⟩ := hE
    cases cur with
    | none =>
      have hd := upper_none (t := t) hEm hrow i e he h7 (T := [(t, traceO lv sv bb nm)] :: stR.u 98 :: [(nb, nw.obj ikey pval)] :: [(bb, g.obj ikey bval)] :: JU eb eo stays :: T)
      refine (Does.incl (M := F :: [(t, traceO lv sv bb nm)] :: stR.u 98 :: [(nb, nw.obj ikey pval)] :: [(bb, g.obj ikey bval)] :: JU eb eo stays :: T) Incl.of hd).mono ?_
      rintro en M ⟨rfl, hM⟩
      exact ⟨(stays, nm), by unfold UpperTo; rw [if_pos h7]; exact ⟨rfl, rfl⟩, rfl, hM.trans Incl.of⟩
    | some p =>
      obtain ⟨j, s⟩ := p
      obtain ⟨hj, _⟩ := hc j s rfl
      have hd := upper_view (t := t) hEm hrow s i e he h7 (gv := s.gr.val s.gots.length) (uv := s.ur.val s.ups.length) (tv := evp eb eo s.tr) (T := [(t, traceO lv sv bb nm)] :: s.ur.u 34 :: s.gr.u 111 :: [(bb, g.obj ikey bval)] :: stR.u 98 :: [(nb, nw.obj ikey pval)] :: JU eb eo (stays.eraseIdx j) :: T)
      refine (Does.incl ((hfoc hj).trans (show Incl ([(t, traceO lv sv bb nm)] :: [(s.blk, jstO eb eo s (s.gr.val s.gots.length) (s.ur.val s.ups.length) (evp eb eo s.tr))] :: _) _ from Incl.of)) hd).mono ?_
      rintro en M ⟨rfl, hM⟩
      refine ⟨(stays.set j (s.view i), nm), by unfold UpperTo; rw [if_pos h7]; exact ⟨rfl, rfl⟩, rfl, (hM.trans ?_).trans (hback hj (s.view i) nm rfl)⟩
      exact show Incl _ ([(t, traceO lv sv bb nm)] :: [(s.blk, jstO eb eo (s.view i) (s.gr.val s.gots.length) (s.ur.val s.ups.length) (evp eb eo s.tr))] :: s.ur.u 34 :: F :: s.gr.u 111 :: [(bb, g.obj ikey bval)] :: stR.u 98 :: [(nb, nw.obj ikey pval)] :: JU eb eo (stays.eraseIdx j) :: T) from Incl.of
  · by_cases hkk : 8 ≤ e.kind ∧ e.kind ≤ 12
    · cases cur with
      | none =>
        have hd := mine_nil (t := t) (bb := bb) (lv := lv) (sv := sv) (nm := nm) (T := stR.u 98 :: [(nb, nw.obj ikey pval)] :: [(bb, g.obj ikey bval)] :: JU eb eo stays :: T)
          (R := Done fun M => ∃ z : List JSt × Int, UpperTo evs ns i e d l none stays nm z.1 z.2 ∧ Incl M (RhL t bb nb eb eo lv sv z.2 g nw stR z.1 F T)) hE i e he ⟨rfl, (stays, wrongNm nm 3 true), by unfold UpperTo; rw [if_neg h7, if_pos hkk]; exact ⟨rfl, rfl⟩, Incl.of⟩
        have hu := upper_mine (F := F) hE i e he hkk none (Does.incl (L := RhL t bb nb eb eo lv sv nm g nw stR stays F T) Incl.of hd)
        refine hu.mono ?_
        rintro en M ⟨rfl, z, hz, hM⟩
        exact ⟨z, hz, rfl, hM⟩
      | some p =>
        obtain ⟨j, s⟩ := p
        obtain ⟨hj, hbf⟩ := hc j s rfl
        obtain ⟨hv, hur, hul⟩ := hs s (List.mem_of_getElem? hj)
        by_cases hb : e.kind = 12 ∧ s.vw = none ∧ s.bf ≠ none
        · obtain ⟨k, hk⟩ : ∃ k, s.bf = some k := by
            cases h : s.bf with
            | none => exact absurd h hb.2.2
            | some k => exact ⟨k, rfl⟩
          obtain ⟨j', b, hjj, hj', hbk⟩ := hbf k hk
          subst hbk
          obtain ⟨hv', hur', hul'⟩ := hs b (List.mem_of_getElem? hj')
          have hsm : s ∈ stays.eraseIdx j' := List.mem_eraseIdx_iff_getElem?.2 ⟨j, fun h => hjj h.symm, hj⟩
          have hd := mine_before (t := t) (bb := bb) (lv := lv) (sv := sv) (nm := nm) (T := b.gr.u 111 :: [(bb, g.obj ikey bval)] :: stR.u 98 :: [(nb, nw.obj ikey pval)] :: JU eb eo (stays.eraseIdx j') :: T)
            (R := Done fun M => ∃ z : List JSt × Int, UpperTo evs ns i e d l (some (j, s)) stays nm z.1 z.2 ∧ Incl M (RhL t bb nb eb eo lv sv z.2 g nw stR z.1 F T)) hE i e d l he hl hb.1 s b hb.2.1 hk hv' hur' hul'
            (fun {nm} => ⟨by
              have : (s.blk, s.obj eb eo) ∈ JU eb eo (stays.eraseIdx j') := mem_JU hsm (by simp [JSt.u])
              simp [this]⟩)
            (fun s' nm' hm M hM => ⟨rfl, (stays.set j' s', nm'), by
              unfold UpperTo; rw [if_neg h7, if_pos hkk]; exact ⟨j', b, s', hj', by rw [if_pos hb]; exact hk, hm, rfl⟩, hM.trans (hback hj' s' nm' hm.core.2.2.2.2.2.1)⟩)
          have hu := upper_mine (F := F) hE i e he hkk (some s.blk) (Does.incl (hfoc hj') hd)
          refine hu.mono ?_
          rintro en M ⟨rfl, z, hz, hM⟩
          exact ⟨z, hz, rfl, hM⟩
        · have hd := mine_direct (t := t) (bb := bb) (lv := lv) (sv := sv) (nm := nm) (T := s.gr.u 111 :: [(bb, g.obj ikey bval)] :: stR.u 98 :: [(nb, nw.obj ikey pval)] :: JU eb eo (stays.eraseIdx j) :: T)
            (R := Done fun M => ∃ z : List JSt × Int, UpperTo evs ns i e d l (some (j, s)) stays nm z.1 z.2 ∧ Incl M (RhL t bb nb eb eo lv sv z.2 g nw stR z.1 F T)) hE i e d l he hl hkk s hv hur hul hb
            (fun s' nm' hm M hM => ⟨rfl, (stays.set j s', nm'), by
              unfold UpperTo; rw [if_neg h7, if_pos hkk]; exact ⟨j, s, s', hj, by rw [if_neg hb], hm, rfl⟩, hM.trans (hback hj s' nm' hm.core.2.2.2.2.2.1)⟩)
          have hu := upper_mine (F := F) hE i e he hkk (some s.blk) (Does.incl (hfoc hj) hd)
          refine hu.mono ?_
          rintro en M ⟨rfl, z, hz, hM⟩
          exact ⟨z, hz, rfl, hM⟩
    · have hd := upper_other (t := t) (F := F) (L := RhL t bb nb eb eo lv sv nm g nw stR stays F T) hE i e he (by omega) (cur.map (·.2.blk))
      refine Does.mono hd ?_
      rintro en M ⟨rfl, hM⟩
      exact ⟨(stays, nm), by unfold UpperTo; rw [if_neg h7, if_neg hkk]; exact ⟨rfl, rfl⟩, rfl, hM⟩
end
end Go.Proofs.Ythijlgjfgliinaa
end
section
/- The judge: a trace that is gone through, as it lies and as the laws see it. -/
set_option linter.all false
namespace Go.Proofs.Ythijlgjfgliinaa
open Go.RowKit
variable [Env]
/-- A stay: of the judge, as it lies; of the laws. -/
structure SRel (evs : List Ev) (s : JSt) (a : AStay) : Prop where
  proc : a.proc = s.proc
  epoch : a.epoch = s.epoch
  rep : a.rep = s.rep
  members : a.members = s.members
  gots : s.gots.map (fun j => (j.g.mg, j.tr)) = a.p0.map (·, false) ++ a.p1.map (·, true)
  tr : a.tr = (s.tr.bind fun q => evs[q]?).map fun t => ⟨t.nepoch, t.nrep, t.members⟩
  went : a.went = s.nx.isSome
structure SOk (F : Blocks) (evs : List Ev) (k : Nat) (s : JSt) : Prop where
  gr : RowOk s.gr 8 (s.gots.map JGot.cells)
  gl : s.gots.length ≤ k
  gm : ∀ j ∈ s.gots, j.g.ok F
  gt : ∀ j ∈ s.gots, j.tr = true → s.tr ≠ none
  ur : RowOk s.ur 6 (s.ups.map GM.cells)
  ul : s.ups.length ≤ k
  um : ∀ g ∈ s.ups, g.ok F
  tr : ∀ q, s.tr = some q → q < evs.length
  nx : ∀ q, s.nx = some q → q < evs.length
  vw : ∀ q, s.vw = some q → q < evs.length
  rd : ∀ q, s.rd = some q → q < evs.length
theorem SOk.mono {F : Blocks} {evs : List Ev} {k l : Nat} {s : JSt} (h : SOk F evs k s) (hk : k ≤ l) : SOk F evs l s :=
  ⟨h.gr, Nat.le_trans h.gl hk, h.gm, h.gt, h.ur, Nat.le_trans h.ul hk, h.um, h.tr, h.nx, h.vw, h.rd⟩
structure JTr where
  t : Nat
  bb : Nat
  lb : Nat
  nb : Nat
  stR : Row
  stays : List JSt
  bad : GMap Int Bool
  nm : Int
  lv : GMap Int Bool
  nw : GMap Int Nat
abbrev JTr.L (J : JTr) (eb eo : Nat) (lval : Value) (F : Blocks) (T : Units) : Units := RhL J.t J.bb J.nb eb eo lval (J.stR.val J.stays.length) J.nm J.bad J.nw J.stR J.stays F ([(J.lb, J.lv.obj ikey bval)] :: T)
/-- Each one's stay ahead lies ahead. -/
def BfOk (l : List JSt) : Prop := ∀ (j : Nat) (s : JSt) (b : Nat), l[j]? = some s → s.bf = some b → ∃ (j' : Nat) (s' : JSt), j' < j ∧ l[j']? = some s' ∧ s'.blk = b
structure JTr.ok (F : Blocks) (evs : List Ev) (k : Nat) (A : AMon) (J : JTr) : Prop where
  row : RowOk J.stR 1 (J.stays.map jptr)
  len : J.stays.length ≤ k
  sok : ∀ s ∈ J.stays, SOk F evs k s
  alen : J.stays.length = A.stays.length
  rel : ∀ (i : Nat) (s : JSt) (a : AStay), J.stays[i]? = some s → A.stays[i]? = some a → SRel evs s a
  lv : ∀ p, (J.lv.get p).getD false = A.live p
  nw : ∀ p, J.nw.get p = (A.now p).bind fun i => (J.stays[i]?).map JSt.blk
  bf : BfOk J.stays
/-- The stay a process is in. -/
def JTr.cur (J : JTr) (A : AMon) (p : Int) : Option (Nat × JSt) := (A.now p).bind fun i => (J.stays[i]?).map fun s => (i, s)
theorem JTr.cur_nw {F : Blocks} {evs : List Ev} {k : Nat} {A : AMon} {J : JTr} (h : J.ok F evs k A) (p : Int) : J.nw.get p = (J.cur A p).map (·.2.blk) := by
  rw [h.nw]
  unfold JTr.cur
  cases A.now p with
  | none => rfl
  | some i => cases hs : J.stays[i]? <;> simp [hs]
theorem JTr.cur_at {J : JTr} {A : AMon} {p : Int} {j : Nat} {s : JSt} (h : J.cur A p = some (j, s)) : A.now p = some j ∧ J.stays[j]? = some s := by
  unfold JTr.cur at h
  obtain ⟨i, hi, hm⟩ := Option.bind_eq_some_iff.1 h
  obtain ⟨s', hs, he⟩ := Option.map_eq_some_iff.1 hm
  cases he
  exact ⟨hi, hs⟩
theorem stay_abs (A : AMon) (e : Ev) (d : List Int) : A.stay (e.abs d) = (A.now e.proc).bind fun i => (A.stays[i]?).bind fun s => if A.live e.proc && confEq s.epoch s.rep e.epoch e.rep then some (i, s) else none := by
  unfold AMon.stay
  show (match A.now e.proc with | none => none | some i => match A.stays[i]? with | none => none | some s => if A.live e.proc && confEq s.epoch s.rep e.epoch e.rep then some (i, s) else none) = _
  cases A.now e.proc with
  | none => rfl
  | some i =>
    simp only [Option.bind_some]
    cases A.stays[i]? <;> rfl
/-- The stay of an event: of the judge and of the laws. -/
theorem JTr.stay_eq {F : Blocks} {evs : List Ev} {k : Nat} {A : AMon} {J : JTr} (h : J.ok F evs k A) (e : Ev) (d : List Int) :
    (stayOf (J.cur A e.proc) (A.live e.proc) e = none ∧ A.stay (e.abs d) = none) ∨ ∃ j s a, stayOf (J.cur A e.proc) (A.live e.proc) e = some (j, s) ∧ A.stay (e.abs d) = some (j, a) ∧ J.stays[j]? = some s ∧ A.stays[j]? = some a ∧ SRel evs s a := by
  rw [stay_abs]
  unfold JTr.cur
  cases hn : A.now e.proc with
  | none => left; exact ⟨rfl, rfl⟩
  | some i =>
    simp only [Option.bind_some]
    cases hs : J.stays[i]? with
    | none =>
      have ha : A.stays[i]? = none := by
        rw [List.getElem?_eq_none_iff] at hs ⊢
        have := h.alen; omega
      left
      rw [ha]
      exact ⟨rfl, rfl⟩
    | some s =>
      have hlt := (List.getElem?_eq_some_iff.1 hs).1
      obtain ⟨a, ha⟩ : ∃ a, A.stays[i]? = some a := ⟨A.stays[i]'(by rw [← h.alen]; exact hlt), List.getElem?_eq_getElem _⟩
      have hr := h.rel i s a hs ha
      rw [ha]
      simp only [Option.map_some, Option.bind_some, stayOf, hr.epoch, hr.rep]
      cases hb : (A.live e.proc && confEq s.epoch s.rep e.epoch e.rep) with
      | false => left; simp
      | true => right; exact ⟨i, s, a, by simp, by simp, hs, ha, hr⟩
section
variable {F : Blocks} {evs : List Ev} {ns : List (List Nm)} {k : Nat} {A : AMon} {J : JTr}
theorem now_keep {l l' : List JSt} {o : Option Nat} (h : ∀ i : Nat, (l[i]?).map JSt.blk = (l'[i]?).map JSt.blk) : (o.bind fun i => (l[i]?).map JSt.blk) = o.bind fun i => (l'[i]?).map JSt.blk := by
  cases o with
  | none => rfl
  | some i => exact h i
theorem blk_set {l : List JSt} {j : Nat} {s s' : JSt} (hj : l[j]? = some s) (hb : s'.blk = s.blk) (i : Nat) : (l[i]?).map JSt.blk = ((l.set j s')[i]?).map JSt.blk := by
  rw [set_get hj]
  split
  · rename_i h; subst h; rw [hj]; simp [hb]
  · rfl
theorem jptr_set {l : List JSt} {j : Nat} {s s' : JSt} (hj : l[j]? = some s) (hb : s'.blk = s.blk) : (l.set j s').map jptr = l.map jptr := by
  refine List.ext_getElem? fun i => ?_
  rw [List.getElem?_map, List.getElem?_map, set_get hj]
  split
  · rename_i h; subst h; rw [hj]; simp [jptr, hb]
  · rfl
theorem bf_set {l : List JSt} {j : Nat} {s s' : JSt} (hj : l[j]? = some s) (hb : s'.blk = s.blk) (hf : s'.bf = s.bf) (h : BfOk l) : BfOk (l.set j s') := by
  intro i x b hx hxb
  have key : ∃ (j' : Nat) (y : JSt), j' < i ∧ l[j']? = some y ∧ y.blk = b := by
    rw [set_get hj] at hx
    split at hx
    · rename_i e; subst e; cases hx; exact h j s b hj (hf ▸ hxb)
    · exact h i x b hx hxb
  obtain ⟨j', y, h1, h2, h3⟩ := key
  by_cases hjj : j = j'
  · subst hjj
    rw [hj] at h2
    cases h2
    exact ⟨j, s', h1, by rw [set_get hj, if_pos rfl], hb.trans h3⟩
  · exact ⟨j', y, h1, by rw [set_get hj, if_neg hjj]; exact h2, h3⟩
/-- One stay of the judge and of the laws changes. -/
theorem JTr.ok.set (h : J.ok F evs k A) {A' : AMon} {j : Nat} {s s' : JSt} {a a' : AStay} (hj : J.stays[j]? = some s) (ha : A.stays[j]? = some a) (hb : s'.blk = s.blk) (hf : s'.bf = s.bf) (hok : SOk F evs (k + 1) s') (hr : SRel evs s' a') (hs : A'.stays = A.stays.set j a') (hl : A'.live = A.live) (hn : A'.now = A.now) (g : GMap Int Bool) (nm : Int) :
    ({ J with stays := J.stays.set j s', bad := g, nm := nm } : JTr).ok F evs (k + 1) A' where
  row := by
    show RowOk J.stR 1 ((J.stays.set j s').map jptr)
    rw [jptr_set hj hb]; exact h.row
  len := by simp only [List.length_set]; have := h.len; omega
  sok := by
    intro x hx
    rcases (mem_set_iff hj).1 hx with rfl | ⟨i, _, hi⟩
    · exact hok
    · exact (h.sok x (List.mem_of_getElem? hi)).mono (by omega)
  alen := by simp only [List.length_set, hs]; exact h.alen
  rel := by
    intro i x y hx hy
    simp only at hx
    rw [hs] at hy
    rw [set_get hj] at hx
    rw [set_get ha] at hy
    split at hx
    · rename_i e; rw [if_pos e] at hy; cases hx; cases hy; exact hr
    · rename_i e; rw [if_neg e] at hy; exact h.rel i x y hx hy
  lv := by rw [hl]; exact h.lv
  nw := by
    intro p
    rw [hn]
    exact (h.nw p).trans (now_keep (fun i => blk_set hj hb i))
  bf := bf_set hj hb hf h.bf
/-- Nothing changes of the stays. -/
theorem JTr.ok.keep (h : J.ok F evs k A) {A' : AMon} (hs : A'.stays = A.stays) (hl : A'.live = A.live) (hn : A'.now = A.now) (g : GMap Int Bool) (nm : Int) : ({ J with bad := g, nm := nm } : JTr).ok F evs (k + 1) A' where
  row := h.row
  len := by have := h.len; simp only; omega
  sok s hs' := (h.sok s hs').mono (by omega)
  alen := by rw [hs]; exact h.alen
  rel := by rw [hs]; exact h.rel
  lv := by rw [hl]; exact h.lv
  nw := by rw [hn]; exact h.nw
  bf := h.bf
theorem JTr.ok.power (h : J.ok F evs k A) {A' : AMon} (p : Int) (b : Bool) (hs : A'.stays = A.stays) (hl : A'.live = upd A.live p b) (hn : A'.now = upd A.now p none) : ({ J with lv := J.lv.put p b, nw := J.nw.del p } : JTr).ok F evs (k + 1) A' where
  row := h.row
  len := by have := h.len; simp only; omega
  sok s hs' := (h.sok s hs').mono (by omega)
  alen := by rw [hs]; exact h.alen
  rel := by rw [hs]; exact h.rel
  lv q := by
    rw [hl, GMap.get_put]
    unfold upd
    split
    · rfl
    · exact h.lv q
  nw q := by
    rw [hn, GMap.get_del]
    unfold upd
    split
    · rfl
    · exact h.nw q
  bf := h.bf
theorem JTr.ok.push (h : J.ok F evs k A) (hS : SInv A) {A' : AMon} {e : Ev} {d : List Int} {sb : Nat} {r' : Row} (hr' : RowOk r' 1 ((regStays J.stays (J.cur A e.proc) k e sb).map jptr)) (hk : k < evs.length)
    (hs : A'.stays = (match J.cur A e.proc with | none => A.stays | some (j, _) => A.stays.modify j fun a => { a with went := true }) ++ [AStay.fresh (e.abs d)]) (hl : A'.live = A.live) (hn : A'.now = upd A.now e.proc (some A.stays.length)) (g : GMap Int Bool) :
    ({ J with stR := r', stays := regStays J.stays (J.cur A e.proc) k e sb, bad := g, nw := J.nw.put e.proc sb } : JTr).ok F evs (k + 1) A' := by
  have hfok : ∀ bf, SOk F evs (k + 1) (JSt.fresh sb e bf) := fun bf => ⟨RowOk.mkNil 8, by simp [JSt.fresh], by simp [JSt.fresh], by simp [JSt.fresh], RowOk.mkNil 6, by simp [JSt.fresh], by simp [JSt.fresh], by simp [JSt.fresh], by simp [JSt.fresh], by simp [JSt.fresh], by simp [JSt.fresh]⟩
  have hfrel : ∀ bf, SRel evs (JSt.fresh sb e bf) (AStay.fresh (e.abs d)) := fun bf => ⟨rfl, rfl, rfl, rfl, rfl, rfl, rfl⟩
  -- the stays ahead of the new one
  obtain ⟨st1, a1, hst1, ha1, hl1, hal, hok1, hrel1, hblk1, hbf1⟩ : ∃ (st1 : List JSt) (a1 : List AStay), regStays J.stays (J.cur A e.proc) k e sb = st1 ++ [JSt.fresh sb e ((J.cur A e.proc).map (·.2.blk))] ∧ A'.stays = a1 ++ [AStay.fresh (e.abs d)] ∧ st1.length = J.stays.length ∧ a1.length = A.stays.length ∧
      (∀ s ∈ st1, SOk F evs (k + 1) s) ∧ (∀ (i : Nat) (s : JSt) (a : AStay), st1[i]? = some s → a1[i]? = some a → SRel evs s a) ∧ (∀ i : Nat, (J.stays[i]?).map JSt.blk = (st1[i]?).map JSt.blk) ∧ BfOk st1 := by
    cases hc : J.cur A e.proc with
    | none =>
      rw [hc] at hs
      exact ⟨J.stays, A.stays, rfl, hs, rfl, rfl, fun s hs' => (h.sok s hs').mono (by omega), h.rel, fun i => rfl, h.bf⟩
    | some p =>
      obtain ⟨j, b⟩ := p
      rw [hc] at hs
      obtain ⟨_, hj⟩ := JTr.cur_at hc
      have hlt := (List.getElem?_eq_some_iff.1 hj).1
      obtain ⟨a, ha⟩ : ∃ a, A.stays[j]? = some a := ⟨A.stays[j]'(by rw [← h.alen]; exact hlt), List.getElem?_eq_getElem _⟩
      have hr := h.rel j b a hj ha
      have hb := h.sok b (List.mem_of_getElem? hj)
      refine ⟨J.stays.set j { b with nx := some k }, _, rfl, hs, by simp, by simp, ?_, ?_, fun i => blk_set (s' := { b with nx := some k }) hj rfl i, bf_set (s' := { b with nx := some k }) hj rfl rfl h.bf⟩
      · intro x hx
        rcases (mem_set_iff hj).1 hx with rfl | ⟨i, _, hi⟩
        · have := hb.mono (Nat.le_succ k)
          exact ⟨this.gr, this.gl, this.gm, this.gt, this.ur, this.ul, this.um, this.tr, fun q hq => by cases hq; exact hk, this.vw, this.rd⟩
        · exact (h.sok x (List.mem_of_getElem? hi)).mono (by omega)
      · intro i x y hx hy
        rw [set_get hj] at hx
        rw [List.getElem?_modify] at hy
        split at hx
        · rename_i e'
          subst e'
          rw [ha] at hy
          cases hx
          simp only [if_true, Option.map_eq_map, Option.map_some, Option.some.injEq] at hy
          rw [← hy]
          exact ⟨hr.proc, hr.epoch, hr.rep, hr.members, hr.gots, hr.tr, rfl⟩
        · rename_i e'
          simp only [if_neg e', Option.map_eq_map, Option.map_id', id_eq] at hy
          exact h.rel i x y hx hy
  rw [hst1] at hr' ⊢
  refine ⟨hr', ?_, ?_, ?_, ?_, ?_, ?_, ?_⟩
  · simp only [List.length_append, List.length_singleton]; have := h.len; omega
  · intro s hs'
    rcases List.mem_append.1 hs' with hs' | hs'
    · exact hok1 s hs'
    · rw [List.mem_singleton.1 hs']; exact hfok _
  · rw [ha1]; simp only [List.length_append, List.length_singleton]; have := h.alen; omega
  · intro i x y hx hy
    rw [ha1] at hy
    simp only at hx
    have hal' := h.alen
    by_cases hi : i < st1.length
    · rw [List.getElem?_append_left hi] at hx
      rw [List.getElem?_append_left (by omega)] at hy
      exact hrel1 i x y hx hy
    · rw [List.getElem?_append_right (by omega)] at hx
      rw [List.getElem?_append_right (by omega)] at hy
      have hi0 : i - st1.length = 0 := by
        have := (List.getElem?_eq_some_iff.1 hx).1
        simp at this; omega
      have hi1 : i - a1.length = 0 := by omega
      rw [hi0] at hx
      rw [hi1] at hy
      simp only [List.getElem?_cons_zero, Option.some.injEq] at hx hy
      subst hx hy
      exact hfrel _
  · intro p; rw [hl]; exact h.lv p
  · intro p
    show (J.nw.put e.proc sb).get p = _
    rw [GMap.get_put, hn]
    unfold upd
    have hal' := h.alen
    split
    · simp only [Option.bind_some]
      rw [List.getElem?_append_right (by omega)]
      have : A.stays.length - st1.length = 0 := by omega
      rw [this]
      rfl
    · rw [h.nw]
      cases hp : A.now p with
      | none => rfl
      | some i =>
        simp only [Option.bind_some]
        rw [hblk1]
        by_cases hi : i < st1.length
        · rw [List.getElem?_append_left hi]
        · obtain ⟨y, hy, _⟩ := hS.now p i hp
          have := (List.getElem?_eq_some_iff.1 hy).1
          omega
  · intro j s b hj hb
    simp only at hj
    have hput : ∀ (j' : Nat) (y : JSt), st1[j']? = some y → (st1 ++ [JSt.fresh sb e ((J.cur A e.proc).map (·.2.blk))])[j']? = some y := fun j' y hy => by
      rw [List.getElem?_append_left (List.getElem?_eq_some_iff.1 hy).1]; exact hy
    by_cases hlt : j < st1.length
    · rw [List.getElem?_append_left hlt] at hj
      obtain ⟨j', y, h1, h2, h3⟩ := hbf1 j s b hj hb
      exact ⟨j', y, h1, hput j' y h2, h3⟩
    · rw [List.getElem?_append_right (by omega)] at hj
      have hi0 : j - st1.length = 0 := by
        have := (List.getElem?_eq_some_iff.1 hj).1
        simp at this; omega
      rw [hi0] at hj
      simp only [List.getElem?_cons_zero, Option.some.injEq] at hj
      subst hj
      have hb : (J.cur A e.proc).map (·.2.blk) = some b := hb
      obtain ⟨⟨q, s⟩, hc, hq⟩ := Option.map_eq_some_iff.1 hb
      obtain ⟨_, hqs⟩ := JTr.cur_at hc
      have hqlt := (List.getElem?_eq_some_iff.1 hqs).1
      have h4 := hblk1 q
      rw [hqs] at h4
      obtain ⟨y, hy, hyb⟩ := Option.map_eq_some_iff.1 h4.symm
      exact ⟨q, y, by omega, hput q y hy, hyb.trans hq⟩
end
end Go.Proofs.Ythijlgjfgliinaa
end
