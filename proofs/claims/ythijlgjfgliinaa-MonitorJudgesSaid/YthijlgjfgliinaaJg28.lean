/- Part 28 of the proof of what MonJudges says. -/
import Derived.Test.YthijlgjfgliinaaJg25
import Derived.Test.YthijlgjfgliinaaJg26
import Derived.Test.YthijlgjfgliinaaJg27
section
/- The judge: an event of an incarnation, whole (mine, 58). -/
set_option linter.all false
namespace Go.Proofs.Ythijlgjfgliinaa
open Go.RowKit
open Go.W
variable [Env]
/-- Events, with their names, as they lie: where they begin. -/
structure EvIn (F : Blocks) (eb eo : Nat) (evs : List Ev) (ns : List (List Nm)) : Prop where
  row : ∃ earr eT efr, (eb, Obj.cells earr eT efr) ∈ F ∧ Go.RowAt earr eo 19 (evs.map Ev.cells)
  names : ∀ (i : Nat) (e : Ev), evs[i]? = some e → ∃ l, ns[i]? = some l ∧ SlIn F e.na e.nn 2 (l.map Nm.cells) ∧ e.nn ≤ 140737488355328
/-- Is it an event of the stay's view? -/
def mineOk (evs : List Ev) (ns : List (List Nm)) (s : JSt) (e : Ev) (l : List Nm) : Bool :=
  match s.vw with
  | none => false
  | some v => match evs[v]?, ns[v]? with
    | some ve, some vl => !s.out && (match l with
      | [x] => x.1 == e.proc && (hasN vl x && decide (e.vw = ve.vw))
      | _ => false)
    | _, _ => false
/-- What an event of an incarnation leaves of a stay. -/
structure Mined (evs : List Ev) (ns : List (List Nm)) (i : Nat) (e : Ev) (d : List Int) (l : List Nm) (s : JSt) (nm : Int) (s' : JSt) (nm' : Int) : Prop where
  core : s'.blk = s.blk ∧ s'.proc = s.proc ∧ s'.epoch = s.epoch ∧ s'.rep = s.rep ∧ s'.members = s.members ∧ s'.gr = s.gr ∧ s'.gots = s.gots ∧ s'.tr = s.tr ∧ s'.nx = s.nx ∧ s'.bf = s.bf ∧ s'.vw = s.vw ∧ s'.va = s.va
  rd : s'.rd = if mineOk evs ns s e l && (e.kind == 11 && s.rd.isNone) then some i else s.rd
  out : s'.out = (s.out || (mineOk evs ns s e l && e.kind == 12))
  ups : s'.ups = if mineOk evs ns s e l && (e.kind == 9 && s.rd.isSome) then s.ups ++ [⟨e.m, d⟩] else s.ups
  ur : RowOk s'.ur 6 (s'.ups.map GM.cells)
  nm : nm' = wrongNm nm 3 (if mineOk evs ns s e l then (if e.kind == 11 then s.rd.isSome else (e.kind == 8 || e.kind == 9) && s.rd.isNone) else true)
theorem wrongNm_false (nm r : Int) : wrongNm nm r false = nm := rfl
/-- The judge's stay: what of it an event of views reaches. -/
abbrev JSt.mU (eb eo : Nat) (s : JSt) (t bb : Nat) (lv sv : Value) (nm : Int) (F : Blocks) (T : Units) : Units := MiL t bb lv sv nm s.blk (s.obj eb eo) (s.ur.u 34) F T
set_option maxHeartbeats 4000000 in
theorem mine_stay {F : Blocks} {t bb eb eo : Nat} {lv sv : Value} {nm : Int} {evs : List Ev} {ns : List (List Nm)} {T : Units} {R : Ending → Units → Prop} (hE : EvIn F eb eo evs ns) (i : Nat) (e : Ev) (d : List Int) (l : List Nm) (he : evs[i]? = some e) (hl : ns[i]? = some l) (hk : 8 ≤ e.kind ∧ e.kind ≤ 12)
    (s : JSt) (hv : ∀ v, s.vw = some v → v < evs.length) (hu : RowOk s.ur 6 (s.ups.map GM.cells)) (hn : s.ups.length ≤ 1000)
    (hR : ∀ s' nm', Mined evs ns i e d l s nm s' nm' → ∀ M, Incl M (s'.mU eb eo t bb lv sv nm' F T) → R (.returned (.tuple #[])) M) (f0 : Nat → Value) :
    wpC Try.prog mineTail (bodyC Try.f58 R) (Fr.over f0 [(0, .pointer (some ⟨t, 0, none⟩)), (1, .pointer (some ⟨eb, eo + i * 19, none⟩)), (2, .pointer (some ⟨s.blk, 0, none⟩))]) (s.mU eb eo t bb lv sv nm F T) := by
  obtain ⟨⟨earr, eT, efr, hEm, hrow⟩, hnames⟩ := hE
  obtain ⟨l0, hl0, hxs, hxm⟩ := hnames i e he
  rw [hl] at hl0
  cases hl0
  have hll : l.length = e.nn := by have := hxs.1; simpa using this
  -- what is wrong
  have bad : mineOk evs ns s e l = false → R (.returned (.tuple #[])) (s.mU eb eo t bb lv sv (wrongNm nm 3 true) F T) := fun hb =>
    hR s _ ⟨⟨rfl, rfl, rfl, rfl, rfl, rfl, rfl, rfl, rfl, rfl, rfl, rfl⟩, by simp [hb], by simp [hb], by simp [hb], hu, by simp [hb]⟩ _ (Incl.refl _)
  cases hvw : s.vw with
  | none =>
    have hb := bad (by simp [mineOk, hvw])
    obtain ⟨blk, proc, epoch, rep, members, gr, gots, tr, nx, vw, va, rd, ur, ups, out, bf⟩ := s
    simp only at hvw
    subst hvw
    exact mine_noview hEm hrow i e he hb f0
  | some v =>
    have hvlt := hv v hvw
    obtain ⟨ve, hve⟩ : ∃ ve, evs[v]? = some ve := ⟨evs[v], List.getElem?_eq_getElem hvlt⟩
    obtain ⟨vl, hvl, hvn, hvm⟩ := hnames v ve hve
    cases hout : s.out with
    | true =>
      have hb := bad (by simp [mineOk, hvw, hve, hvl, hout])
      obtain ⟨blk, proc, epoch, rep, members, gr, gots, tr, nx, vw, va, rd, ur, ups, out, bf⟩ := s
      simp only at hvw hout
      subst hvw hout
      exact mine_out hEm hrow i e he v hb f0
    | false =>
      by_cases hn1 : e.nn = 1
      · obtain ⟨x, rfl⟩ : ∃ x, l = [x] := by
          match l, (show l.length = 1 by omega) with
          | [x], _ => exact ⟨x, rfl⟩
        have hok : mineOk evs ns s e [x] = (x.1 == e.proc && (hasN vl x && decide (e.vw = ve.vw))) := by simp [mineOk, hvw, hve, hvl, hout]
        cases hp : (x.1 == e.proc) with
        | false =>
          have hb := bad (by rw [hok, hp]; rfl)
          obtain ⟨blk, proc, epoch, rep, members, gr, gots, tr, nx, vw, va, rd, ur, ups, out, bf⟩ := s
          simp only at hvw hout
          subst hvw hout
          exact mine_proc hEm hrow i e he v hn1 x hxs (by simpa using hp) hb f0
        | true =>
          have hp' : (x.1 != e.proc) = false := by simpa using hp
          cases hh : hasN vl x with
          | false =>
            have hb := bad (by rw [hok, hh, hp]; rfl)
            obtain ⟨blk, proc, epoch, rep, members, gr, gots, tr, nx, vw, va, rd, ur, ups, out, bf⟩ := s
            simp only at hvw hout
            subst hvw hout
            exact mine_has hEm hrow i e he v ve vl hve hvn hvm hn1 x hxs hp' hh hb f0
          | true =>
            cases hw : decide (e.vw = ve.vw) with
            | false =>
              have hb := bad (by rw [hok, hh, hp, hw]; rfl)
              obtain ⟨blk, proc, epoch, rep, members, gr, gots, tr, nx, vw, va, rd, ur, ups, out, bf⟩ := s
              simp only at hvw hout
              subst hvw hout
              exact mine_vw hEm hrow i e he v ve vl hve hvn hvm hn1 x hxs hp' hh (by rw [show (⟨e.vnum, e.vepoch, e.vrep, e.vmem⟩ : Vw) = e.vw from rfl, show (⟨ve.vnum, ve.vepoch, ve.vrep, ve.vmem⟩ : Vw) = ve.vw from rfl, hw]; rfl) hb f0
            | true =>
              have hgood : mineOk evs ns s e [x] = true := by rw [hok, hh, hp, hw]; rfl
              obtain ⟨ua, uc, huv, _⟩ := s.ur.val_slice hu 34
              rw [List.length_map] at huv
              have hrest : ∀ f1 : Nat → Value, wpC Try.prog mineRest (bodyC Try.f58 R) (Fr.over f1 [(0, .pointer (some ⟨t, 0, none⟩)), (1, .pointer (some ⟨eb, eo + i * 19, none⟩)), (2, .pointer (some ⟨s.blk, 0, none⟩))]) (s.mU eb eo t bb lv sv nm F T) := by
                intro f1
                have hkk : e.kind = 8 ∨ e.kind = 9 ∨ e.kind = 10 ∨ e.kind = 11 ∨ e.kind = 12 := by omega
                rcases hkk with hk | hk | hk | hk | hk
                · have hb := hR s (wrongNm nm 3 s.rd.isNone) ⟨⟨rfl, rfl, rfl, rfl, rfl, rfl, rfl, rfl, rfl, rfl, rfl, rfl⟩, by simp [hk], by simp [hk], by simp [hk], hu, by simp [hgood, hk]⟩ _ (Incl.refl _)
                  exact mine_cast hEm hrow i e he s.vw hk hb f1
                · cases hrd : s.rd with
                  | none =>
                    have hb := hR s (wrongNm nm 3 true) ⟨⟨rfl, rfl, rfl, rfl, rfl, rfl, rfl, rfl, rfl, rfl, rfl, rfl⟩, by simp [hk], by simp [hk], by simp [hk, hrd], hu, by simp [hgood, hk, hrd]⟩ _ (Incl.refl _)
                    obtain ⟨blk, proc, epoch, rep, members, gr, gots, tr, nx, vw, va, rd, ur, ups, out, bf⟩ := s
                    simp only at hrd
                    subst hrd
                    exact mine_up0 hEm hrow i e he _ hk hb f1
                  | some r =>
                    have hm : ∀ (r' : Row), RowOk r' 6 ((s.ups ++ [(⟨e.m, d⟩ : GM)]).map GM.cells) → Mined evs ns i e d [x] s nm { s with ur := r', ups := s.ups ++ [⟨e.m, d⟩] } nm := fun r' hr' =>
                      ⟨⟨rfl, rfl, rfl, rfl, rfl, rfl, rfl, rfl, rfl, rfl, rfl, rfl⟩, by simp [hk], by simp [hk], by simp [hk, hrd, hgood], hr', by simp [hgood, hk, hrd, wrongNm_false]⟩
                    have hb : ∀ (r' : Row) (a' : Option Addr) (c' : Nat), RowOk r' 6 ((s.ups ++ [(⟨e.m, d⟩ : GM)]).map GM.cells) → r'.val (s.ups.length + 1) = .slice a' (s.ups.length + 1) c' → ∀ M : Units, Incl M (MiL t bb lv sv nm s.blk (mO (.int .i64 s.proc) (.int .u64 s.epoch) (.int .i64 s.rep) (.int .u64 s.members) (s.gr.val s.gots.length) (evp eb eo s.tr) (evp eb eo s.nx) eb eo s.vw s.va (some r) (.slice a' (s.ups.length + 1) c') s.out (.pointer (s.bf.map fun b => ⟨b, 0, none⟩))) (r'.u 34) F T) → R (.returned (.tuple #[])) M := by
                      intro r' a' c' hok' hv' M hM
                      refine hR _ _ (hm r' hok') M ?_
                      have : ({ s with ur := r', ups := s.ups ++ [(⟨e.m, d⟩ : GM)] } : JSt).obj eb eo = mO (.int .i64 s.proc) (.int .u64 s.epoch) (.int .i64 s.rep) (.int .u64 s.members) (s.gr.val s.gots.length) (evp eb eo s.tr) (evp eb eo s.nx) eb eo s.vw s.va (some r) (.slice a' (s.ups.length + 1) c') s.out (.pointer (s.bf.map fun b => ⟨b, 0, none⟩)) := by
                        unfold JSt.obj
                        simp only [List.length_append, List.length_cons, List.length_nil, Nat.zero_add, hv', hrd]
                      show Incl M (MiL t bb lv sv nm s.blk _ (r'.u 34) F T)
                      rw [this]
                      exact hM
                    have hobj : s.obj eb eo = mO (.int .i64 s.proc) (.int .u64 s.epoch) (.int .i64 s.rep) (.int .u64 s.members) (s.gr.val s.gots.length) (evp eb eo s.tr) (evp eb eo s.nx) eb eo s.vw s.va (some r) (.slice ua s.ups.length uc) s.out (.pointer (s.bf.map fun b => ⟨b, 0, none⟩)) := by
                      unfold JSt.obj
                      rw [huv, ← hrd]
                    show wpC Try.prog mineRest (bodyC Try.f58 R) _ (MiL t bb lv sv nm s.blk (s.obj eb eo) (s.ur.u 34) F T)
                    rw [hobj]
                    exact mine_up1 hEm hrow i e d he s.vw r hk s.ups s.ur ua s.ups.length uc hu rfl hn huv hb f1
                · have hb := hR s nm ⟨⟨rfl, rfl, rfl, rfl, rfl, rfl, rfl, rfl, rfl, rfl, rfl, rfl⟩, by simp [hk], by simp [hk], by simp [hk], hu, by simp [hgood, hk, wrongNm_false]⟩ _ (Incl.refl _)
                  exact mine_block hEm hrow i e he s.vw hk hb f1
                · have hb := hR { s with rd := if s.rd.isNone then some i else s.rd } (wrongNm nm 3 s.rd.isSome) ⟨⟨rfl, rfl, rfl, rfl, rfl, rfl, rfl, rfl, rfl, rfl, rfl, rfl⟩, by simp [hk, hgood], by simp [hk], by simp [hk], hu, by simp [hgood, hk]⟩ _ (Incl.refl _)
                  exact mine_ready hEm hrow i e he s.vw hk hb f1
                · have hb := hR { s with out := true } nm ⟨⟨rfl, rfl, rfl, rfl, rfl, rfl, rfl, rfl, rfl, rfl, rfl, rfl⟩, by simp [hk], by simp [hk, hgood], by simp [hk], hu, by simp [hgood, hk, wrongNm_false]⟩ _ (Incl.refl _)
                  exact mine_out1 hEm hrow i e he s.vw hk hb f1
              obtain ⟨blk, proc, epoch, rep, members, gr, gots, tr, nx, vw, va, rd, ur, ups, out, bf⟩ := s
              simp only at hvw hout
              subst hvw hout
              exact mine_ok hEm hrow i e he v ve vl hve hvn hvm hn1 x hxs hp' hh (by rw [show (⟨e.vnum, e.vepoch, e.vrep, e.vmem⟩ : Vw) = e.vw from rfl, show (⟨ve.vnum, ve.vepoch, ve.vrep, ve.vmem⟩ : Vw) = ve.vw from rfl, hw]; rfl) hrest f0
      · have hb := bad (by
          unfold mineOk
          rw [hvw]
          simp only [hve, hvl, hout]
          match l, (show l.length ≠ 1 by omega) with
          | [], _ => rfl
          | [x], h => exact absurd rfl h
          | x :: y :: l, _ => rfl)
        obtain ⟨blk, proc, epoch, rep, members, gr, gots, tr, nx, vw, va, rd, ur, ups, out, bf⟩ := s
        simp only at hvw hout
        subst hvw hout
        exact mine_nn hEm hrow i e he v hn1 hb f0
end Go.Proofs.Ythijlgjfgliinaa
end
