/- Part 20 of the proof of what MonJudges says. -/
import Derived.Test.YthijlgjfgliinaaJg19
section
/- The judge: has, part; two rows of messages. -/
set_option linter.all false
namespace Go.Proofs.Ythijlgjfgliinaa
open Go.RowKit
open Go.W
variable [Env]
/-- A function value is made. -/
theorem _root_.Go.W.r_mkfun {P : Program} {ops : Array Oper} {Q : Exit → Fr → Units → Prop} {rest : List Oper} {L : Units} {d : Tmp} {ty : TypeId} {pos : String} {af : Array Edge} {l : List (Nat × Value)} {base : Nat → Value} {df : List Deferred}
    {g : FuncId} {fs cs : Array Operand} {vf vc : List Value} (h1 : evL ⟨l, base, df⟩ fs.toList = some vf) (h2 : evL ⟨l, base, df⟩ cs.toList = some vc)
    (k : opsC P ops Q rest ⟨(d, .func (.func g) vf.toArray vc.toArray) :: l, base, df⟩ L) : opsC P ops Q (⟨some d, .makeFunc (.func g) fs cs, ty, pos, af, none⟩ :: rest) ⟨l, base, df⟩ L :=
  opsC_none rfl (opC_run rfl (v := .func (.func g) vf.toArray vc.toArray) (fun w => by
    have e1 : fs.map (⟨l, base, df⟩ : Fr).ev = vf.toArray := by apply Array.ext'; rw [Array.toList_map, evL_eq h1]
    have e2 : cs.map (⟨l, base, df⟩ : Fr).ev = vc.toArray := by apply Array.ext'; rw [Array.toList_map, evL_eq h2]
    show (Instr.makeFunc (.func g) (fs.map (⟨l, base, df⟩ : Fr).ev) (cs.map (⟨l, base, df⟩ : Fr).ev) >>= fun v => pure (Next.value v)).run P w = _
    rw [e1, e2]
    simp [Instr.makeFunc, Sem.run_bind, Result.andThen]
    try rfl) k)
attribute [local irreducible] opsC wpC quietC LoopC DrawC CutC LoadC StoreC ReadC UpdC RunC CallC QCallC EndC thenC inBlockC
set_option maxRecDepth 100000
set_option maxHeartbeats 4000000 in
theorem has59 {F U : Blocks} (sb : Nat) (x : GM) (hx : x.ok F) (a : Option Addr) (n c : Nat) (gs : List JGot) (hs : SlIn U a n 8 (gs.map JGot.cells)) (hg : ∀ j ∈ gs, j.g.ok F) (hn : n ≤ 1000) {v0 v1 v2 v3 v5 v6 v7 v8 v9 v10 v11 v12 : Value}
    {L R R2 : Units} [hF : Unit_ L F R] [hU : Unit_ L U R2] [H : Has L sb (.cells #[v0, v1, v2, v3, .slice a n c, v5, v6, v7, v8, v9, v10, v11, v12] 109)] :
    Does Try.prog 59 #[.pointer (some ⟨sb, 0, none⟩), .agg #[.int .i64 x.r.frm, .int .u32 x.r.seq, .int .u64 x.r.stamp, .int .i64 x.r.svc, .slice x.r.da x.r.dn x.r.dc, .string x.r.pay]] L (Gives L (.bool (hasJ gs x.mg))) := by
  refine does_of_wpC (args := [.pointer (some ⟨sb, 0, none⟩), .agg #[.int .i64 x.r.frm, .int .u32 x.r.seq, .int .u64 x.r.stamp, .int .i64 x.r.svc, .slice x.r.da x.r.dn x.r.dc, .string x.r.pay]]) Try.func59 rfl (by kernel_rfl) ?_
  repeat (first | (refine r_mkfun (by rfl) (by rfl) ?_) | (refine r_fun (by rfl) (by rfl) ?_; refine CallC.gives (g := 66) (contains66 (F := F) (U := U) _ x hx a n c gs hs hg hn) ?_) | refine c_seq ?_ | refine c_reg ?_ | refine r_nil ?_ | refine e_n ?_ | refine CutC.go ?_ | refine r_field0 (by rfl) (by rfl) ?_ | refine r_val (by rfl) ?_ | (refine r_load (by rfl) ?_; refine LoadC.one (by rfl) (by rfl) ?_) | refine c_ret ?_ | refine EndC.mk rfl ?_ | refine r_box (by rfl) (by rfl) (fun _ => ?_))
  exact Gives.mk rfl Incl.of
def partJ (gs : List JGot) (t : Bool) : List GM := (gs.filter fun j => j.tr == t).map (·.g)
theorem partJ_succ {gs : List JGot} {k : Nat} {j : JGot} (h : gs[k]? = some j) (t : Bool) : partJ (gs.take (k + 1)) t = partJ (gs.take k) t ++ (if j.tr == t then [j.g] else []) := by
  unfold partJ
  rw [List.take_add_one, h, List.filter_append, List.map_append]
  congr 1
  simp only [Option.toList_some, List.filter_cons, List.filter_nil]
  split <;> simp
set_option maxHeartbeats 4000000 in
theorem part47 {U : Blocks} (sb : Nat) (t : Bool) (a : Option Addr) (n c : Nat) (gs : List JGot) (hs : SlIn U a n 8 (gs.map JGot.cells)) (hn : n ≤ 1000) {v0 v1 v2 v3 v5 v6 v7 v8 v9 v10 v11 v12 : Value}
    {L R2 : Units} [hU : Unit_ L U R2] [H : Has L sb (.cells #[v0, v1, v2, v3, .slice a n c, v5, v6, v7, v8, v9, v10, v11, v12] 109)] :
    Does Try.prog 47 #[.pointer (some ⟨sb, 0, none⟩), .bool t] L (RowM ((partJ gs t).map GM.cells) (partJ gs t).length L) := by
  have hl : gs.length = n := by have := hs.1; simpa using this
  refine does_of_wpC (args := [.pointer (some ⟨sb, 0, none⟩), .bool t]) Try.func47 rfl (by kernel_rfl) ?_
  repeat (first | refine c_seq ?_ | refine c_reg ?_ | refine r_nil ?_ | refine e_n ?_ | refine CutC.go ?_ | refine r_field0 (by rfl) (by rfl) ?_ | refine r_lenS (by rfl) (by rfl) ?_ | refine r_val (by rfl) ?_ | (refine r_load (by rfl) ?_; refine LoadC.one (by rfl) (by rfl) ?_) | refine c_block ?_ | refine c_loop ?_)
  refine LoopC.inv (γ := Nat × Row × Option Addr × Nat) (fun p => p.1 ≤ n ∧ RowOk p.2.1 6 ((partJ (gs.take p.1) t).map GM.cells) ∧ p.2.1.val (partJ (gs.take p.1) t).length = .slice p.2.2.1 (partJ (gs.take p.1) t).length p.2.2.2) (fun p => [(1, .bool t), (5, .slice p.2.2.1 (partJ (gs.take p.1) t).length p.2.2.2), (11, .slice a n c), (12, .int .i64 n), (13, .int .i64 (p.1 : Nat))]) (fun p => p.2.1.u 34 :: L) (fun p => n - p.1)
    (MeetC.mk (0, Row.nil, none, 0) ⟨by omega, RowOk.mkNil 6, rfl⟩ ⟨rfl, rfl, rfl, rfl, rfl, rfl⟩ (Incl.eqv (Eqv.nil _).symm)) ?_
  rintro ⟨k, r, ra, rc⟩ ⟨hk, hr, hrv⟩ f0
  dsimp only at hk hr hrv ⊢
  have hpl : (partJ (gs.take k) t).length ≤ k := by
    unfold partJ
    rw [List.length_map]
    refine Nat.le_trans (List.length_filter_le _ _) ?_
    rw [List.length_take]; omega
  by_cases hlt : k < n
  · have hd1 : decide ((k : Int) < (n : Int)) = true := by simp; omega
    obtain ⟨j, hj⟩ : ∃ j, gs[k]? = some j := ⟨gs[k]'(by omega), List.getElem?_eq_getElem _⟩
    rcases hs.2 with h0 | ⟨b, o, arr, T, fr, rfl, hm, hrow⟩
    · omega
    haveI hS : ∀ {L R : Units} [Unit_ L U R], Has L b (.cells arr T fr) := fun {L R} h => ⟨h.ok.mem_iff.2 (by simp [hm])⟩
    have hjc : (gs.map JGot.cells)[k]? = some j.cells := by simp [hj]
    have hsc := partJ_succ hj t
    cases he : (j.tr == t)
    · rw [he] at hsc
      simp only [Bool.false_eq_true, if_false, List.append_nil] at hsc
      repeat (first | (refine r_index (by rfl) (by rfl) (by rfl) hlt ?_) | (refine r_load (by rfl) ?_; refine LoadC.row (b := b) hrow hjc rfl (by rfl) ?_) | refine c_seq ?_ | refine c_reg ?_ | refine r_nil ?_ | refine e_n ?_ | refine CutC.go ?_ | refine r_field0 (by rfl) (by rfl) ?_ | refine r_val (by rfl) ?_ | (refine r_load (by rfl) ?_; refine LoadC.one (by rfl) (by rfl) ?_) | (refine r_store (by rfl) (by rfl) ?_; refine StoreC.all (by rfl) (by rfl) (by rfl) (by rfl) (by rfl) ?_) | refine c_yes (by rfl) (by first | with_reducible assumption | decide) ?_ | refine c_no (by rfl) (by first | with_reducible assumption | decide) ?_ | refine c_skip ?_ | refine c_block ?_ | refine b_n ?_ | refine r_alloc (by rfl) (by rfl) (fun _ => ?_))
      exact MeetC.mk (k + 1, r, ra, rc) ⟨⟨by simp only; omega, by simp only; rw [hsc]; exact hr, by simp only; rw [hsc]; exact hrv⟩, by simp only; omega⟩ ⟨rfl, by show Value.slice ra (partJ (gs.take k) t).length rc = Value.slice ra (partJ (gs.take (k + 1)) t).length rc; rw [hsc], rfl, rfl, i64_succ (by omega), rfl⟩ Incl.of
    · rw [he] at hsc
      simp only [if_true] at hsc
      repeat (first | (refine r_index (by rfl) (by rfl) (by rfl) hlt ?_) | (refine r_load (by rfl) ?_; refine LoadC.row (b := b) hrow hjc rfl (by rfl) ?_) | refine c_seq ?_ | refine c_reg ?_ | refine r_nil ?_ | refine e_n ?_ | refine CutC.go ?_ | refine r_field0 (by rfl) (by rfl) ?_ | refine r_val (by rfl) ?_ | (refine r_load (by rfl) ?_; refine LoadC.one (by rfl) (by rfl) ?_) | (refine r_store (by rfl) (by rfl) ?_; refine StoreC.all (by rfl) (by rfl) (by rfl) (by rfl) (by rfl) ?_) | refine c_yes (by rfl) (by first | with_reducible assumption | decide) ?_ | refine c_skip ?_ | refine c_block ?_ | refine r_alloc (by rfl) (by rfl) (fun _ => ?_) | refine r_slice (by rfl) (by rfl) (fun _ => ?_) | (refine r_load (by rfl) ?_; refine LoadC.agg (by rfl) (by rfl) ?_))
      refine r_app (by rfl) (by rfl) ?_
      refine RunC.appS (P := Try.prog) (e := 34) (s := 6) (bytes := 72) (z := msgZero) r ((partJ (gs.take k) t).map GM.cells) [GM.cells j.g] _ hrv (by rfl) Try.info34 rfl (by rw [List.length_map]) hr (cells_len (ms := [j.g]) rfl) (SlIn.oneMsg _ j.g.r j.g.d) (cells_one [j.g]) (by omega) (by omega) (fun r' a' c' hok' hv' hs' => ?_)
      have hlen : (partJ (gs.take (k + 1)) t).length = (partJ (gs.take k) t).length + 1 := by rw [hsc]; simp
      repeat (first | refine c_reg ?_ | refine r_nil ?_ | refine e_n ?_ | refine CutC.go ?_ | refine r_val (by rfl) ?_ | refine b_n ?_)
      exact MeetC.mk (k + 1, r', a', c') ⟨⟨by simp only; omega, by simp only; rw [hsc, List.map_append]; exact hok', by simp only; rw [hlen]; exact hv'⟩, by simp only; omega⟩ ⟨rfl, by show Value.slice a' ((partJ (gs.take k) t).length + 1) c' = Value.slice a' (partJ (gs.take (k + 1)) t).length c'; rw [hlen], rfl, rfl, i64_succ (by omega), rfl⟩ Incl.of
  · have hd1 : decide ((k : Int) < (n : Int)) = false := by simp; omega
    have hkn : k = gs.length := by omega
    subst hkn
    repeat (first | refine c_seq ?_ | refine c_reg ?_ | refine r_nil ?_ | refine e_n ?_ | refine CutC.go ?_ | refine r_val (by rfl) ?_ | refine c_no (by rfl) (by first | with_reducible assumption | decide) ?_ | refine c_ret ?_ | refine c_exit ?_ | refine e_x ?_ | refine b_x1 ?_ | refine EndC.mk rfl ?_)
    rw [List.take_length] at hr hrv
    refine ⟨r, hr, Gives.mk ?_ (Incl.refl _)⟩
    rw [hrv]
    show Value.slice ra (partJ (gs.take gs.length) t).length rc = _
    rw [List.take_length]
end Go.Proofs.Ythijlgjfgliinaa
end
section
/- The judge: are two rows of messages the same? -/
set_option linter.all false
namespace Go.Proofs.Ythijlgjfgliinaa
open Go.RowKit
open Go.W
variable [Env]
theorem eqMgs_step {l m : List Mg} {k : Nat} {a b : Mg} (hl : l[k]? = some a) (hm : m[k]? = some b) (h : l.take k = m.take k) (hab : a = b) : l.take (k + 1) = m.take (k + 1) := by
  rw [List.take_add_one, List.take_add_one, hl, hm, h, hab]
attribute [local irreducible] opsC wpC quietC LoopC DrawC CutC LoadC StoreC ReadC UpdC RunC CallC QCallC EndC thenC inBlockC
set_option maxRecDepth 100000
set_option maxHeartbeats 4000000 in
theorem eq46 {F U U' : Blocks} (a a' : Option Addr) (n n' c c' : Nat) (ms ms' : List GM) (hs : SlIn U a n 6 (ms.map GM.cells)) (hs' : SlIn U' a' n' 6 (ms'.map GM.cells)) (hg : ∀ g ∈ ms, g.ok F) (hg' : ∀ g ∈ ms', g.ok F) (hn : n ≤ 1000)
    {L R R2 R3 : Units} [hF : Unit_ L F R] [hU : Unit_ L U R2] [hU' : Unit_ L U' R3] :
    Does Try.prog 46 #[.slice a n c, .slice a' n' c', .func (.func 44) #[] #[]] L (Gives L (.bool (eqMgs (ms.map GM.mg) (ms'.map GM.mg)))) := by
  have hl : ms.length = n := by have := hs.1; simpa using this
  have hl' : ms'.length = n' := by have := hs'.1; simpa using this
  refine does_of_wpC (args := [.slice a n c, .slice a' n' c', .func (.func 44) #[] #[]]) Try.func46 rfl (by kernel_rfl) ?_
  by_cases hnn : n = n'
  · subst hnn
    have b0 : ((n : Int) != (n : Int)) = false := by simp
    repeat (first | refine c_seq ?_ | refine c_reg ?_ | refine r_nil ?_ | refine e_n ?_ | refine CutC.go ?_ | refine r_lenS (by rfl) (by rfl) ?_ | refine r_val (by rfl) ?_ | refine c_no (by rfl) (by first | with_reducible assumption | decide) ?_ | refine c_skip ?_ | refine c_block ?_ | refine c_loop ?_)
    refine LoopC.inv (γ := Nat) (fun k => k ≤ n ∧ (ms.map GM.mg).take k = (ms'.map GM.mg).take k) (fun k => [(0, .slice a n c), (1, .slice a' n c'), (2, .func (.func 44) #[] #[]), (15, .slice a n c), (16, .int .i64 n), (17, .int .i64 (k : Nat))]) (fun _ => L) (fun k => n - k)
      (MeetC.mk 0 ⟨by omega, rfl⟩ ⟨rfl, rfl, rfl, rfl, rfl, rfl, rfl⟩ (Incl.refl _)) ?_
    rintro k ⟨hk, hh⟩ f0
    by_cases hlt : k < n
    · have hd1 : decide ((k : Int) < (n : Int)) = true := by simp; omega
      obtain ⟨q, hq⟩ : ∃ q, ms[k]? = some q := ⟨ms[k]'(by omega), List.getElem?_eq_getElem _⟩
      obtain ⟨q', hq'⟩ : ∃ q, ms'[k]? = some q := ⟨ms'[k]'(by omega), List.getElem?_eq_getElem _⟩
      have hqo := hg q (List.mem_of_getElem? hq)
      have hqo' := hg' q' (List.mem_of_getElem? hq')
      rcases hs.2 with h0 | ⟨b, o, arr, T, fr, rfl, hm, hrow⟩
      · omega
      rcases hs'.2 with h0 | ⟨b', o', arr', T', fr', rfl, hm', hrow'⟩
      · omega
      haveI hS : ∀ {L R : Units} [Unit_ L U R], Has L b (.cells arr T fr) := fun {L R} h => ⟨h.ok.mem_iff.2 (by simp [hm])⟩
      haveI hS' : ∀ {L R : Units} [Unit_ L U' R], Has L b' (.cells arr' T' fr') := fun {L R} h => ⟨h.ok.mem_iff.2 (by simp [hm'])⟩
      have hqc : (ms.map GM.cells)[k]? = some q.cells := by simp [hq]
      have hqc' : (ms'.map GM.cells)[k]? = some q'.cells := by simp [hq']
      have hm1 : (ms.map GM.mg)[k]? = some q.mg := by simp [hq]
      have hm2 : (ms'.map GM.mg)[k]? = some q'.mg := by simp [hq']
      have hsm := fun {L R : Units} [Unit_ L F R] (y : St L) => same_spec44 (F := F) q q' hqo hqo' y
      cases he : decide (q.mg = q'.mg)
      · have hne : eqMgs (ms.map GM.mg) (ms'.map GM.mg) = false := by
          unfold eqMgs
          refine decide_eq_false fun e => ?_
          rw [e, hm2] at hm1
          simp only [Option.some.injEq] at hm1
          exact of_decide_eq_false he hm1.symm
        rw [he] at hsm
        repeat (first | (refine r_index (b := b) (by rfl) (by rfl) (by rfl) hlt ?_) | (refine r_index (b := b') (by rfl) (by rfl) (by rfl) hlt ?_) | (refine r_load (by rfl) ?_; refine LoadC.row (b := b) hrow hqc rfl (by rfl) ?_) | (refine r_load (by rfl) ?_; refine LoadC.row (b := b') hrow' hqc' rfl (by rfl) ?_) | (refine r_call (first := #[]) (cap := #[]) (g := 44) (by rfl) (by rfl) (by rfl) (by rfl) ?_; refine CallC.ret (fun y => hsm y) ?_) | refine c_seq ?_ | refine c_reg ?_ | refine r_nil ?_ | refine e_n ?_ | refine CutC.go ?_ | refine r_val (by rfl) ?_ | (refine r_store (by rfl) (by rfl) ?_; refine StoreC.all (by rfl) (by rfl) (by rfl) (by rfl) (by rfl) ?_) | refine c_yes (by rfl) (by first | with_reducible assumption | decide) ?_ | refine c_skip ?_ | refine c_ret ?_ | refine e_r ?_ | refine c_block ?_ | refine b_r ?_ | refine EndC.mk rfl ?_ | refine r_alloc (by rfl) (by rfl) (fun _ => ?_) | (refine r_load (by rfl) ?_; refine LoadC.agg (by rfl) (by rfl) ?_))
        exact Gives.mk (by rw [hne]; rfl) Incl.of
      · have hse := eqMgs_step hm1 hm2 hh (of_decide_eq_true he)
        rw [he] at hsm
        repeat (first | (refine r_index (b := b) (by rfl) (by rfl) (by rfl) hlt ?_) | (refine r_index (b := b') (by rfl) (by rfl) (by rfl) hlt ?_) | (refine r_load (by rfl) ?_; refine LoadC.row (b := b) hrow hqc rfl (by rfl) ?_) | (refine r_load (by rfl) ?_; refine LoadC.row (b := b') hrow' hqc' rfl (by rfl) ?_) | (refine r_call (first := #[]) (cap := #[]) (g := 44) (by rfl) (by rfl) (by rfl) (by rfl) ?_; refine CallC.ret (fun y => hsm y) ?_) | refine c_seq ?_ | refine c_reg ?_ | refine r_nil ?_ | refine e_n ?_ | refine CutC.go ?_ | refine r_val (by rfl) ?_ | (refine r_store (by rfl) (by rfl) ?_; refine StoreC.all (by rfl) (by rfl) (by rfl) (by rfl) (by rfl) ?_) | refine c_yes (by rfl) (by first | with_reducible assumption | decide) ?_ | refine c_no (by rfl) (by first | with_reducible assumption | decide) ?_ | refine c_skip ?_ | refine c_block ?_ | refine b_n ?_ | refine r_alloc (by rfl) (by rfl) (fun _ => ?_) | (refine r_load (by rfl) ?_; refine LoadC.agg (by rfl) (by rfl) ?_))
        exact MeetC.mk (k + 1) ⟨⟨by omega, hse⟩, by omega⟩ ⟨rfl, rfl, rfl, rfl, rfl, i64_succ (by omega), rfl⟩ Incl.of
    · have hd1 : decide ((k : Int) < (n : Int)) = false := by simp; omega
      have he : eqMgs (ms.map GM.mg) (ms'.map GM.mg) = true := by
        unfold eqMgs
        rw [List.take_of_length_le (by simp; omega), List.take_of_length_le (by simp; omega)] at hh
        simp [hh]
      repeat (first | refine c_seq ?_ | refine c_reg ?_ | refine r_nil ?_ | refine e_n ?_ | refine CutC.go ?_ | refine r_val (by rfl) ?_ | refine c_no (by rfl) (by first | with_reducible assumption | decide) ?_ | refine c_ret ?_ | refine c_exit ?_ | refine e_x ?_ | refine b_x1 ?_ | refine EndC.mk rfl ?_)
      exact Gives.mk (by rw [he]; rfl) (Incl.refl _)
  · have b0 : ((n : Int) != (n' : Int)) = true := by simp; omega
    have he : eqMgs (ms.map GM.mg) (ms'.map GM.mg) = false := by
      unfold eqMgs
      refine decide_eq_false fun e => ?_
      have := congrArg List.length e
      simp at this; omega
    repeat (first | refine c_seq ?_ | refine c_reg ?_ | refine r_nil ?_ | refine e_n ?_ | refine CutC.go ?_ | refine r_lenS (by rfl) (by rfl) ?_ | refine r_val (by rfl) ?_ | refine c_yes (by rfl) (by first | with_reducible assumption | decide) ?_ | refine c_ret ?_ | refine e_r ?_ | refine EndC.mk rfl ?_)
    exact Gives.mk (by rw [he]; rfl) (Incl.refl _)
end Go.Proofs.Ythijlgjfgliinaa
end
section
/- The judge: safe messages of one stay, that another one must have. -/
set_option linter.all false
namespace Go.Proofs.Ythijlgjfgliinaa
open Go.RowKit
open Go.W
variable [Env]
def safeC (am tm bp : Int) (gb : List JGot) (j : JGot) : Bool := j.g.r.svc == 2 && (hasB (if j.tr then tm else am) bp && !hasJ gb j.g.mg)
def safeF (am tm bp : Int) (gb : List JGot) (ga : List JGot) (g : GMap Int Bool) : GMap Int Bool := ga.foldl (fun g j => GMap.bad g 6 (safeC am tm bp gb j)) g
attribute [local irreducible] opsC wpC quietC LoopC DrawC CutC LoadC StoreC ReadC UpdC RunC CallC QCallC EndC thenC inBlockC
set_option maxRecDepth 100000
set_option synthInstance.maxHeartbeats 400000
set_option maxHeartbeats 4000000 in
theorem safe48 {F UA UB : Blocks} {t bb ab xb eb eo : Nat} {lv sv : Value} {nm am tm bp : Int} {earr : Array Value} {eT : TypeId} {efr : Nat × Nat} {trp : Option Addr} {v0 v1 v2 v6 v7 v8 v9 v10 v11 v12 w1 w2 w3 w5 w6 w7 w8 w9 w10 w11 w12 : Value}
    (g : GMap Int Bool) (aa ba : Option Addr) (na nb ca cb : Nat) (ga gb : List JGot) (hsa : SlIn UA aa na 8 (ga.map JGot.cells)) (hsb : SlIn UB ba nb 8 (gb.map JGot.cells)) (hga : ∀ j ∈ ga, j.g.ok F) (hgb : ∀ j ∈ gb, j.g.ok F) (hna : na ≤ 1000) (hnb : nb ≤ 1000)
    (htr : ∀ j ∈ ga, j.tr = true → trp = some ⟨eb, eo, none⟩) (hmem : trp = some ⟨eb, eo, none⟩ → (eb, Obj.cells earr eT efr) ∈ F ∧ earr[eo + 6]? = some (.int .u64 tm))
    {L R R1 R2 R3 : Units} [hp : Pick L bb (g.obj ikey bval) R] [ht : Has R t (traceO lv sv bb nm)] [ha : Has R ab (.cells #[v0, v1, v2, .int .u64 am, .slice aa na ca, .pointer trp, v6, v7, v8, v9, v10, v11, v12] 109)]
    [hb : Has R xb (.cells #[.int .i64 bp, w1, w2, w3, .slice ba nb cb, w5, w6, w7, w8, w9, w10, w11, w12] 109)] [hF : Unit_ R F R1] [hUA : Unit_ R UA R2] [hUB : Unit_ R UB R3] :
    Does Try.prog 48 #[.pointer (some ⟨t, 0, none⟩), .pointer (some ⟨ab, 0, none⟩), .pointer (some ⟨xb, 0, none⟩)] L (Gives ([(bb, (safeF am tm bp gb ga g).obj ikey bval)] :: R) (.tuple #[])) := by
  have hl : ga.length = na := by have := hsa.1; simpa using this
  refine Does.incl (M := [(bb, g.obj ikey bval)] :: R) (Incl.eqv hp.ok) ?_
  refine does_of_wpC (args := [.pointer (some ⟨t, 0, none⟩), .pointer (some ⟨ab, 0, none⟩), .pointer (some ⟨xb, 0, none⟩)]) Try.func48 rfl (by kernel_rfl) ?_
  repeat (first | refine c_seq ?_ | refine c_reg ?_ | refine r_nil ?_ | refine e_n ?_ | refine CutC.go ?_ | refine r_field0 (by rfl) (by rfl) ?_ | refine r_lenS (by rfl) (by rfl) ?_ | refine r_val (by rfl) ?_ | (refine r_load (by rfl) ?_; refine LoadC.one (by rfl) (by rfl) ?_) | refine c_block ?_ | refine c_loop ?_)
  refine LoopC.inv (γ := Nat × GMap Int Bool) (fun p => p.1 ≤ na ∧ safeF am tm bp gb ga g = safeF am tm bp gb (ga.drop p.1) p.2) (fun p => [(0, .pointer (some ⟨t, 0, none⟩)), (1, .pointer (some ⟨ab, 0, none⟩)), (2, .pointer (some ⟨xb, 0, none⟩)), (12, .slice aa na ca), (13, .int .i64 na), (14, .int .i64 (p.1 : Nat))]) (fun p => [(bb, p.2.obj ikey bval)] :: R) (fun p => na - p.1)
    (MeetC.mk (0, g) ⟨by omega, rfl⟩ ⟨rfl, rfl, rfl, rfl, rfl, rfl, rfl⟩ (Incl.refl _)) ?_
  rintro ⟨k, g1⟩ ⟨hk, hh⟩ f0
  dsimp only at hk hh ⊢
  by_cases hlt : k < na
  · have hd1 : decide ((k : Int) < (na : Int)) = true := by simp; omega
    obtain ⟨j, hj⟩ : ∃ j, ga[k]? = some j := ⟨ga[k]'(by omega), List.getElem?_eq_getElem _⟩
    have hjm := List.mem_of_getElem? hj
    have hjo := hga j hjm
    rcases hsa.2 with h0 | ⟨b, o, arr, T, fr, rfl, hm, hrow⟩
    · omega
    haveI hS : ∀ {L R : Units} [Unit_ L UA R], Has L b (.cells arr T fr) := fun {L R} h => ⟨h.ok.mem_iff.2 (by simp [hm])⟩
    have hjc : (ga.map JGot.cells)[k]? = some j.cells := by simp [hj]
    have hdr : ga.drop k = j :: ga.drop (k + 1) := by
      obtain ⟨h2, h3⟩ := List.getElem?_eq_some_iff.1 hj
      rw [List.drop_eq_getElem_cons h2, h3]
    rw [hdr] at hh
    have hh : safeF am tm bp gb ga g = safeF am tm bp gb (ga.drop (k + 1)) (GMap.bad g1 6 (safeC am tm bp gb j)) := hh
    cases htj : j.tr
    · have hsc : safeC am tm bp gb j = (j.g.r.svc == 2 && (hasB am bp && !hasJ gb j.g.mg)) := by unfold safeC; rw [htj]; rfl
      cases hb1 : (j.g.r.svc == 2)
      · rw [hb1] at hsc
        rw [Bool.false_and] at hsc
        repeat (first | (refine r_index (b := b) (by rfl) (by rfl) (by rfl) hlt ?_) | (refine r_load (by rfl) ?_; refine LoadC.row (b := b) hrow hjc rfl (by rfl) ?_) | (refine r_fun (by rfl) (by rfl) ?_; refine CallC.gives (g := 45) (breaks45 (t := t) (bb := bb) (lv := lv) (sv := sv) (nm := nm) (g := g1) 6 _) ?_) | refine c_seq ?_ | refine c_reg ?_ | refine r_nil ?_ | refine e_n ?_ | refine CutC.go ?_ | refine r_field0 (by rfl) (by rfl) ?_ | refine r_field (by rfl) (by rfl) ?_ | refine r_val (by rfl) ?_ | (refine r_load (by rfl) ?_; refine LoadC.one (by rfl) (by rfl) ?_) | (refine r_store (by rfl) (by rfl) ?_; refine StoreC.all (by rfl) (by rfl) (by rfl) (by rfl) (by rfl) ?_) | refine r_gnT (by rfl) (by first | with_reducible assumption | decide) ?_ | refine r_pickF (by rfl) (by first | with_reducible assumption | decide) (by rfl) ?_ | refine c_yes (by rfl) (by first | with_reducible assumption | decide) ?_ | refine c_no (by rfl) (by first | with_reducible assumption | decide) ?_ | refine c_skip ?_ | refine c_block ?_ | refine b_n ?_ | refine r_alloc (by rfl) (by rfl) (fun _ => ?_))
        exact MeetC.mk (k + 1, GMap.bad g1 6 (safeC am tm bp gb j)) ⟨⟨by simp only; omega, hh⟩, by simp only; omega⟩ ⟨rfl, rfl, rfl, rfl, rfl, i64_succ (by omega), rfl⟩ (by rw [hsc]; exact Incl.of)
      · rw [hb1] at hsc
        cases hb2 : hasB am bp
        · rw [hb2] at hsc
          rw [Bool.false_and, Bool.and_false] at hsc
          repeat (first | (refine r_index (b := b) (by rfl) (by rfl) (by rfl) hlt ?_) | (refine r_load (by rfl) ?_; refine LoadC.row (b := b) hrow hjc rfl (by rfl) ?_) | (refine r_fun (by rfl) (by rfl) ?_; refine CallC.gives (g := 45) (breaks45 (t := t) (bb := bb) (lv := lv) (sv := sv) (nm := nm) (g := g1) 6 _) ?_) | (refine r_fun (by rfl) (by rfl) ?_; refine CallC.ret (g := 30) (fun y => has_spec _ _ y) ?_) | refine c_seq ?_ | refine c_reg ?_ | refine r_nil ?_ | refine e_n ?_ | refine CutC.go ?_ | refine r_field0 (by rfl) (by rfl) ?_ | refine r_field (by rfl) (by rfl) ?_ | refine r_val (by rfl) ?_ | (refine r_load (by rfl) ?_; refine LoadC.one (by rfl) (by rfl) ?_) | (refine r_store (by rfl) (by rfl) ?_; refine StoreC.all (by rfl) (by rfl) (by rfl) (by rfl) (by rfl) ?_) | refine r_gT (by rfl) (by first | with_reducible assumption | decide) ?_ | refine r_gnT (by rfl) (by first | with_reducible assumption | decide) ?_ | refine r_pickT (by rfl) (by first | with_reducible assumption | decide) (by rfl) ?_ | refine r_pickF (by rfl) (by first | with_reducible assumption | decide) (by rfl) ?_ | refine c_yes (by rfl) (by first | with_reducible assumption | decide) ?_ | refine c_no (by rfl) (by first | with_reducible assumption | decide) ?_ | refine c_skip ?_ | refine c_block ?_ | refine b_n ?_ | refine r_alloc (by rfl) (by rfl) (fun _ => ?_))
          exact MeetC.mk (k + 1, GMap.bad g1 6 (safeC am tm bp gb j)) ⟨⟨by simp only; omega, hh⟩, by simp only; omega⟩ ⟨rfl, rfl, rfl, rfl, rfl, i64_succ (by omega), rfl⟩ (by rw [hsc]; exact Incl.of)
        · rw [hb2] at hsc
          rw [Bool.true_and, Bool.true_and] at hsc
          repeat (first | (refine r_index (b := b) (by rfl) (by rfl) (by rfl) hlt ?_) | (refine r_load (by rfl) ?_; refine LoadC.row (b := b) hrow hjc rfl (by rfl) ?_) | (refine r_fun (by rfl) (by rfl) ?_; refine CallC.gives (g := 45) (breaks45 (t := t) (bb := bb) (lv := lv) (sv := sv) (nm := nm) (g := g1) 6 _) ?_) | (refine r_fun (by rfl) (by rfl) ?_; refine CallC.ret (g := 30) (fun y => has_spec _ _ y) ?_) | (refine r_fun (by rfl) (by rfl) ?_; refine CallC.gives (g := 59) (has59 (F := F) (U := UB) xb j.g hjo ba nb cb gb hsb hgb hnb) ?_) | refine c_seq ?_ | refine c_reg ?_ | refine r_nil ?_ | refine e_n ?_ | refine CutC.go ?_ | refine r_field0 (by rfl) (by rfl) ?_ | refine r_field (by rfl) (by rfl) ?_ | refine r_val (by rfl) ?_ | (refine r_load (by rfl) ?_; refine LoadC.one (by rfl) (by rfl) ?_) | (refine r_store (by rfl) (by rfl) ?_; refine StoreC.all (by rfl) (by rfl) (by rfl) (by rfl) (by rfl) ?_) | refine r_gT (by rfl) (by first | with_reducible assumption | decide) ?_ | refine r_pickT (by rfl) (by first | with_reducible assumption | decide) (by rfl) ?_ | refine c_yes (by rfl) (by first | with_reducible assumption | decide) ?_ | refine c_no (by rfl) (by first | with_reducible assumption | decide) ?_ | refine c_skip ?_ | refine c_block ?_ | refine b_n ?_ | refine r_alloc (by rfl) (by rfl) (fun _ => ?_) | (refine r_load (by rfl) ?_; refine LoadC.agg (by rfl) (by rfl) ?_))
          exact MeetC.mk (k + 1, GMap.bad g1 6 (safeC am tm bp gb j)) ⟨⟨by simp only; omega, hh⟩, by simp only; omega⟩ ⟨rfl, rfl, rfl, rfl, rfl, i64_succ (by omega), rfl⟩ (by rw [hsc]; exact Incl.of)
    · have hsc : safeC am tm bp gb j = (j.g.r.svc == 2 && (hasB tm bp && !hasJ gb j.g.mg)) := by unfold safeC; rw [htj]; rfl
      have htp := htr j hjm htj
      subst htp
      obtain ⟨he, he6⟩ := hmem rfl
      haveI hE : ∀ {L R : Units} [Unit_ L F R], Has L eb (.cells earr eT efr) := fun {L R} h => ⟨h.ok.mem_iff.2 (by simp [he])⟩
      cases hb1 : (j.g.r.svc == 2)
      · rw [hb1] at hsc
        rw [Bool.false_and] at hsc
        repeat (first | (refine r_load (by rfl) ?_; refine LoadC.at (b := eb) (c := earr) (T := eT) (fz := efr) (by rfl) he6 ?_) | (refine r_index (b := b) (by rfl) (by rfl) (by rfl) hlt ?_) | (refine r_load (by rfl) ?_; refine LoadC.row (b := b) hrow hjc rfl (by rfl) ?_) | (refine r_fun (by rfl) (by rfl) ?_; refine CallC.gives (g := 45) (breaks45 (t := t) (bb := bb) (lv := lv) (sv := sv) (nm := nm) (g := g1) 6 _) ?_) | refine c_seq ?_ | refine c_reg ?_ | refine r_nil ?_ | refine e_n ?_ | refine CutC.go ?_ | refine r_field0 (by rfl) (by rfl) ?_ | refine r_field (by rfl) (by rfl) ?_ | refine r_val (by rfl) ?_ | (refine r_load (by rfl) ?_; refine LoadC.one (by rfl) (by rfl) ?_) | (refine r_store (by rfl) (by rfl) ?_; refine StoreC.all (by rfl) (by rfl) (by rfl) (by rfl) (by rfl) ?_) | refine r_gnT (by rfl) (by first | with_reducible assumption | decide) ?_ | refine r_pickF (by rfl) (by first | with_reducible assumption | decide) (by rfl) ?_ | refine c_yes (by rfl) (by first | with_reducible assumption | decide) ?_ | refine c_skip ?_ | refine c_block ?_ | refine b_n ?_ | refine r_alloc (by rfl) (by rfl) (fun _ => ?_))
        exact MeetC.mk (k + 1, GMap.bad g1 6 (safeC am tm bp gb j)) ⟨⟨by simp only; omega, hh⟩, by simp only; omega⟩ ⟨rfl, rfl, rfl, rfl, rfl, i64_succ (by omega), rfl⟩ (by rw [hsc]; exact Incl.of)
      · rw [hb1] at hsc
        cases hb2 : hasB tm bp
        · rw [hb2] at hsc
          rw [Bool.false_and, Bool.and_false] at hsc
          repeat (first | (refine r_load (by rfl) ?_; refine LoadC.at (b := eb) (c := earr) (T := eT) (fz := efr) (by rfl) he6 ?_) | (refine r_index (b := b) (by rfl) (by rfl) (by rfl) hlt ?_) | (refine r_load (by rfl) ?_; refine LoadC.row (b := b) hrow hjc rfl (by rfl) ?_) | (refine r_fun (by rfl) (by rfl) ?_; refine CallC.gives (g := 45) (breaks45 (t := t) (bb := bb) (lv := lv) (sv := sv) (nm := nm) (g := g1) 6 _) ?_) | (refine r_fun (by rfl) (by rfl) ?_; refine CallC.ret (g := 30) (fun y => has_spec _ _ y) ?_) | refine c_seq ?_ | refine c_reg ?_ | refine r_nil ?_ | refine e_n ?_ | refine CutC.go ?_ | refine r_field0 (by rfl) (by rfl) ?_ | refine r_field (by rfl) (by rfl) ?_ | refine r_val (by rfl) ?_ | (refine r_load (by rfl) ?_; refine LoadC.one (by rfl) (by rfl) ?_) | (refine r_store (by rfl) (by rfl) ?_; refine StoreC.all (by rfl) (by rfl) (by rfl) (by rfl) (by rfl) ?_) | refine r_gT (by rfl) (by first | with_reducible assumption | decide) ?_ | refine r_gnT (by rfl) (by first | with_reducible assumption | decide) ?_ | refine r_pickT (by rfl) (by first | with_reducible assumption | decide) (by rfl) ?_ | refine r_pickF (by rfl) (by first | with_reducible assumption | decide) (by rfl) ?_ | refine c_yes (by rfl) (by first | with_reducible assumption | decide) ?_ | refine c_skip ?_ | refine c_block ?_ | refine b_n ?_ | refine r_alloc (by rfl) (by rfl) (fun _ => ?_))
          exact MeetC.mk (k + 1, GMap.bad g1 6 (safeC am tm bp gb j)) ⟨⟨by simp only; omega, hh⟩, by simp only; omega⟩ ⟨rfl, rfl, rfl, rfl, rfl, i64_succ (by omega), rfl⟩ (by rw [hsc]; exact Incl.of)
        · rw [hb2] at hsc
          rw [Bool.true_and, Bool.true_and] at hsc
          repeat (first | (refine r_load (by rfl) ?_; refine LoadC.at (b := eb) (c := earr) (T := eT) (fz := efr) (by rfl) he6 ?_) | (refine r_index (b := b) (by rfl) (by rfl) (by rfl) hlt ?_) | (refine r_load (by rfl) ?_; refine LoadC.row (b := b) hrow hjc rfl (by rfl) ?_) | (refine r_fun (by rfl) (by rfl) ?_; refine CallC.gives (g := 45) (breaks45 (t := t) (bb := bb) (lv := lv) (sv := sv) (nm := nm) (g := g1) 6 _) ?_) | (refine r_fun (by rfl) (by rfl) ?_; refine CallC.ret (g := 30) (fun y => has_spec _ _ y) ?_) | (refine r_fun (by rfl) (by rfl) ?_; refine CallC.gives (g := 59) (has59 (F := F) (U := UB) xb j.g hjo ba nb cb gb hsb hgb hnb) ?_) | refine c_seq ?_ | refine c_reg ?_ | refine r_nil ?_ | refine e_n ?_ | refine CutC.go ?_ | refine r_field0 (by rfl) (by rfl) ?_ | refine r_field (by rfl) (by rfl) ?_ | refine r_val (by rfl) ?_ | (refine r_load (by rfl) ?_; refine LoadC.one (by rfl) (by rfl) ?_) | (refine r_store (by rfl) (by rfl) ?_; refine StoreC.all (by rfl) (by rfl) (by rfl) (by rfl) (by rfl) ?_) | refine r_gT (by rfl) (by first | with_reducible assumption | decide) ?_ | refine r_pickT (by rfl) (by first | with_reducible assumption | decide) (by rfl) ?_ | refine c_yes (by rfl) (by first | with_reducible assumption | decide) ?_ | refine c_skip ?_ | refine c_block ?_ | refine b_n ?_ | refine r_alloc (by rfl) (by rfl) (fun _ => ?_) | (refine r_load (by rfl) ?_; refine LoadC.agg (by rfl) (by rfl) ?_))
          exact MeetC.mk (k + 1, GMap.bad g1 6 (safeC am tm bp gb j)) ⟨⟨by simp only; omega, hh⟩, by simp only; omega⟩ ⟨rfl, rfl, rfl, rfl, rfl, i64_succ (by omega), rfl⟩ (by rw [hsc]; exact Incl.of)
  · have hd1 : decide ((k : Int) < (na : Int)) = false := by simp; omega
    have hkn : ga.drop k = [] := by rw [List.drop_eq_nil_iff]; omega
    rw [hkn] at hh
    repeat (first | refine c_seq ?_ | refine c_reg ?_ | refine r_nil ?_ | refine e_n ?_ | refine CutC.go ?_ | refine r_val (by rfl) ?_ | refine c_no (by rfl) (by first | with_reducible assumption | decide) ?_ | refine c_exit ?_ | refine e_x ?_ | refine b_x1 ?_ | refine EndC.mk rfl ?_)
    refine Gives.mk rfl ?_
    rw [hh]
    exact Incl.refl _
end Go.Proofs.Ythijlgjfgliinaa
end
section
/- The judge: a stay, as it lies; what stands in none. -/
set_option linter.all false
namespace Go.Proofs.Ythijlgjfgliinaa
open Go.RowKit
open Go.W
variable [Env]
/-- A pointer to an event of the trace. -/
abbrev evp (eb eo : Nat) (i : Option Nat) : Value := .pointer (i.map fun i => ⟨eb, eo + i * 19, none⟩)
/-- A stay of the judge, as it lies: its pointers to events by their places in the trace. -/
structure JSt where
  blk : Nat
  proc : Int
  epoch : Int
  rep : Int
  members : Int
  gr : Row
  gots : List JGot
  tr : Option Nat
  nx : Option Nat
  vw : Option Nat
  va : Int
  rd : Option Nat
  ur : Row
  ups : List GM
  out : Bool
  bf : Option Nat
abbrev jstO (eb eo : Nat) (s : JSt) (gv uv tv : Value) : Obj := .cells #[.int .i64 s.proc, .int .u64 s.epoch, .int .i64 s.rep, .int .u64 s.members, gv, tv, evp eb eo s.nx, evp eb eo s.vw, .int .i64 s.va, evp eb eo s.rd, uv, .bool s.out, .pointer (s.bf.map fun b => ⟨b, 0, none⟩)] 109
def JSt.obj (eb eo : Nat) (s : JSt) : Obj := jstO eb eo s (s.gr.val s.gots.length) (s.ur.val s.ups.length) (evp eb eo s.tr)
def JSt.u (eb eo : Nat) (s : JSt) : Blocks := (s.blk, s.obj eb eo) :: (s.gr.u 111 ++ s.ur.u 34)
attribute [local irreducible] opsC wpC quietC LoopC DrawC CutC LoadC StoreC ReadC UpdC RunC CallC QCallC EndC thenC inBlockC
set_option maxRecDepth 100000
set_option synthInstance.maxHeartbeats 400000
set_option maxHeartbeats 4000000 in
/-- An event that stands in no stay. -/
theorem inner_none {t bb : Nat} {lv sv : Value} {nm : Int} {g : GMap Int Bool} (i : Int) (xa : Addr) (live : Bool) {L R : Units} [hp : Pick L bb (g.obj ikey bval) R] [ht : Has R t (traceO lv sv bb nm)] :
    Does Try.prog 42 #[.pointer (some ⟨t, 0, none⟩), .int .i64 i, .pointer (some xa), .bool live, .pointer none] L (Gives ([(bb, (GMap.bad g 1 true).obj ikey bval)] :: R) (.tuple #[])) := by
  refine Does.incl (M := [(bb, g.obj ikey bval)] :: R) (Incl.eqv hp.ok) ?_
  refine does_of_wpC (args := [.pointer (some ⟨t, 0, none⟩), .int .i64 i, .pointer (some xa), .bool live, .pointer none]) Try.func42 rfl (by kernel_rfl) ?_
  cases live
  all_goals
    repeat (first | refine c_seq ?_ | refine c_draw ?_)
    refine d_tail 16 (by kernel_rfl) ?_
    simp only [List.take_succ_cons, List.take_zero, List.drop_succ_cons, List.drop_zero]
    repeat (first | (refine r_fun (by rfl) (by rfl) ?_; refine CallC.gives (g := 45) (breaks45 (t := t) (bb := bb) (lv := lv) (sv := sv) (nm := nm) (g := g) 1 _) ?_) | (refine q_nil ?_) | refine c_seq ?_ | refine c_reg ?_ | refine r_nil ?_ | refine e_n ?_ | refine CutC.go ?_ | refine r_val (by rfl) ?_ | refine c_yes (by rfl) (by first | with_reducible assumption | decide) ?_ | refine c_ret ?_ | refine e_r ?_ | refine EndC.mk rfl ?_ | refine q_val (by rfl) ?_ | refine q_gF (by rfl) (by first | with_reducible assumption | decide) ?_ | refine q_gnF (by rfl) (by first | with_reducible assumption | decide) ?_)
    exact Gives.mk rfl (Incl.refl _)
end Go.Proofs.Ythijlgjfgliinaa
end
section
/- The judge: an event that stands in no stay of its configuration; one that is sent. -/
set_option linter.all false
namespace Go.Proofs.Ythijlgjfgliinaa
open Go.RowKit
open Go.W
variable [Env]
theorem _root_.Go.LoadC.rowPart {P : Program} {L : Units} {t : TypeId} {b o k s q n : Nat} {arr : Array Value} {T : TypeId} {fz : Nat × Nat} {els : List (List Value)} {cs vs : List Value} {K : Value → Prop} [Has L b (.cells arr T fz)] (hrow : Go.RowAt arr o s els) (hk : els[k]? = some cs) (hv : (cs.drop q).take n = vs) (hn : vs.length = n) (ht : aggSize P t = some n) (h : K (.agg vs.toArray)) :
    LoadC P t (.pointer (some ⟨b, o + k * s + q, none⟩)) L K := by
  refine LoadC.aggAt (n := n) (vs := vs) (c := arr) (T := T) (fz := fz) ht ?_ hn h
  apply List.ext_getElem?
  intro j
  rw [List.getElem?_take]
  split
  · rename_i hj
    rw [List.getElem?_drop, Array.getElem?_toList]
    obtain ⟨v, hvj⟩ : ∃ v, vs[j]? = some v := ⟨vs[j]'(by omega), List.getElem?_eq_getElem _⟩
    have h1 : cs[q + j]? = some v := by
      rw [← hv, List.getElem?_take, if_pos hj, List.getElem?_drop] at hvj
      exact hvj
    rw [hvj, ← hrow k cs hk (q + j) v h1, Nat.add_assoc]
  · rename_i hj
    rw [List.getElem?_eq_none (by omega)]
theorem _root_.Go.LoadC.rowCell {P : Program} {L : Units} {t : TypeId} {b o k s q : Nat} {arr : Array Value} {T : TypeId} {fz : Nat × Nat} {els : List (List Value)} {cs : List Value} {v : Value} {K : Value → Prop} [Has L b (.cells arr T fz)] (hrow : Go.RowAt arr o s els) (hk : els[k]? = some cs) (hv : cs[q]? = some v) (ht : nonAgg P t = true) (h : K v) :
    LoadC P t (.pointer (some ⟨b, o + k * s + q, none⟩)) L K :=
  LoadC.at (c := arr) (T := T) (fz := fz) ht (hrow k cs hk q v hv) h
attribute [local irreducible] opsC wpC quietC LoopC DrawC CutC LoadC StoreC ReadC UpdC RunC CallC QCallC EndC thenC inBlockC
set_option maxRecDepth 100000
set_option synthInstance.maxHeartbeats 400000
set_option maxHeartbeats 4000000 in
/-- A process that is not up, or is in another configuration. -/
theorem inner_off {F : Blocks} {t bb eb eo : Nat} {earr : Array Value} {eT : TypeId} {efr : Nat × Nat} {lv sv gv uv tv : Value} {nm : Int} {g : GMap Int Bool} {evs : List Ev} (hE : (eb, Obj.cells earr eT efr) ∈ F) (hrow : Go.RowAt earr eo 19 (evs.map Ev.cells)) (s : JSt) (i : Nat) (e : Ev) (he : evs[i]? = some e) (live : Bool) (ho : (live && confEq s.epoch s.rep e.epoch e.rep) = false)
    {L R R1 : Units} [hp : Pick L bb (g.obj ikey bval) R] [ht : Has R t (traceO lv sv bb nm)] [hs : Has R s.blk (jstO eb eo s gv uv tv)] [hF : Unit_ R F R1] :
    Does Try.prog 42 #[.pointer (some ⟨t, 0, none⟩), .int .i64 (i : Nat), .pointer (some ⟨eb, eo + i * 19, none⟩), .bool live, .pointer (some ⟨s.blk, 0, none⟩)] L (Gives ([(bb, (GMap.bad g 1 true).obj ikey bval)] :: R) (.tuple #[])) := by
  refine Does.incl (M := [(bb, g.obj ikey bval)] :: R) (Incl.eqv hp.ok) ?_
  haveI hEB : ∀ {L R : Units} [Unit_ L F R], Has L eb (.cells earr eT efr) := fun {L R} h => ⟨h.ok.mem_iff.2 (by simp [hE])⟩
  have hec : (evs.map Ev.cells)[i]? = some e.cells := by simp [he]
  refine does_of_wpC (args := [.pointer (some ⟨t, 0, none⟩), .int .i64 (i : Nat), .pointer (some ⟨eb, eo + i * 19, none⟩), .bool live, .pointer (some ⟨s.blk, 0, none⟩)]) Try.func42 rfl (by kernel_rfl) ?_
  cases live
  · repeat (first | refine c_seq ?_ | refine c_draw ?_)
    refine d_tail 16 (by kernel_rfl) ?_
    simp only [List.take_succ_cons, List.take_zero, List.drop_succ_cons, List.drop_zero]
    repeat (first | (refine r_fun (by rfl) (by rfl) ?_; refine CallC.gives (g := 45) (breaks45 (t := t) (bb := bb) (lv := lv) (sv := sv) (nm := nm) (g := g) 1 _) ?_) | (refine q_nil ?_) | refine c_seq ?_ | refine c_reg ?_ | refine r_nil ?_ | refine e_n ?_ | refine CutC.go ?_ | refine r_val (by rfl) ?_ | refine c_yes (by rfl) (by first | with_reducible assumption | decide) ?_ | refine c_ret ?_ | refine e_r ?_ | refine EndC.mk rfl ?_ | refine q_val (by rfl) ?_ | refine q_gnF (by rfl) (by first | with_reducible assumption | decide) ?_)
    exact Gives.mk rfl (Incl.refl _)
  · rw [Bool.true_and] at ho
    have hn : (!confEq s.epoch s.rep e.epoch e.rep) = true := by rw [ho]; rfl
    repeat (first | refine c_seq ?_ | refine c_draw ?_)
    refine d_tail 16 (by kernel_rfl) ?_
    simp only [List.take_succ_cons, List.take_zero, List.drop_succ_cons, List.drop_zero]
    repeat (first | (refine q_load (by rfl) ?_; refine LoadC.rowPart (b := eb) (q := 2) (n := 2) hrow hec rfl rfl (by rfl) ?_) | (refine q_eq (by rfl) (by rfl) (by kernel_rfl) (fun x => neq30 x.w _ _ _ _) ?_) | (refine r_fun (by rfl) (by rfl) ?_; refine CallC.gives (g := 45) (breaks45 (t := t) (bb := bb) (lv := lv) (sv := sv) (nm := nm) (g := g) 1 _) ?_) | (refine q_nil ?_) | refine c_seq ?_ | refine c_reg ?_ | refine r_nil ?_ | refine e_n ?_ | refine CutC.go ?_ | refine r_val (by rfl) ?_ | refine c_yes (by rfl) (by first | with_reducible assumption | decide) ?_ | refine c_ret ?_ | refine e_r ?_ | refine EndC.mk rfl ?_ | refine q_field0 (by rfl) (by rfl) ?_ | refine q_field (by rfl) (by rfl) ?_ | refine q_val (by rfl) ?_ | refine q_gF (by rfl) (by first | with_reducible assumption | decide) ?_ | (refine q_load (by rfl) ?_; refine LoadC.agg (by rfl) (by rfl) ?_))
    exact Gives.mk rfl (Incl.refl _)
end Go.Proofs.Ythijlgjfgliinaa
end
section
/- The judge: an event that stands in a stay: one that is sent, a way on. -/
set_option linter.all false
namespace Go.Proofs.Ythijlgjfgliinaa
open Go.RowKit
open Go.W
variable [Env]
attribute [local irreducible] opsC wpC quietC LoopC DrawC CutC LoadC StoreC ReadC UpdC RunC CallC QCallC EndC thenC inBlockC
set_option maxRecDepth 100000
set_option synthInstance.maxHeartbeats 400000
abbrev InL (t bb : Nat) (lv sv : Value) (nm : Int) (g : GMap Int Bool) (eb eo : Nat) (s : JSt) (gv uv : Value) (tr : Option Nat) (F : Blocks) (T : Units) : Units := [(t, traceO lv sv bb nm)] :: [(bb, g.obj ikey bval)] :: [(s.blk, jstO eb eo s gv uv (evp eb eo tr))] :: F :: T
theorem incl_swap (A B : Blocks) (R : Units) : Incl (A :: B :: R) (B :: A :: R) := by
  exact Incl.eqv (by first | exact Eqv.swap _ _ _ | (constructor; intros; simp; try grind))
set_option maxHeartbeats 4000000 in
theorem inner_send {F : Blocks} {t bb eb eo : Nat} {earr : Array Value} {eT : TypeId} {efr : Nat × Nat} {lv sv gv uv : Value} {nm : Int} {g : GMap Int Bool} {evs : List Ev} (hE : (eb, Obj.cells earr eT efr) ∈ F) (hrow : Go.RowAt earr eo 19 (evs.map Ev.cells)) (s : JSt) (i : Nat) (e : Ev) (he : evs[i]? = some e) (hk : e.kind = 1) (ho : confEq s.epoch s.rep e.epoch e.rep = true) (tr : Option Nat) {T : Units} :
    Does Try.prog 42 #[.pointer (some ⟨t, 0, none⟩), .int .i64 (i : Nat), .pointer (some ⟨eb, eo + i * 19, none⟩), .bool true, .pointer (some ⟨s.blk, 0, none⟩)] (InL t bb lv sv nm g eb eo s gv uv tr F T) (Gives (InL t bb lv sv nm (GMap.bad g 1 tr.isSome) eb eo s gv uv tr F T) (.tuple #[])) := by
  haveI hEB : ∀ {L R : Units} [Unit_ L F R], Has L eb (.cells earr eT efr) := fun {L R} h => ⟨h.ok.mem_iff.2 (by simp [hE])⟩
  have hec : (evs.map Ev.cells)[i]? = some e.cells := by simp [he]
  have hn : (!confEq s.epoch s.rep e.epoch e.rep) = false := by rw [ho]; rfl
  have hk1 : (e.kind == 1) = true := by simp [hk]
  cases tr
  all_goals
    refine does_of_wpC (args := [.pointer (some ⟨t, 0, none⟩), .int .i64 (i : Nat), .pointer (some ⟨eb, eo + i * 19, none⟩), .bool true, .pointer (some ⟨s.blk, 0, none⟩)]) Try.func42 rfl (by kernel_rfl) ?_
    repeat (first | refine c_seq ?_ | refine c_draw ?_)
    refine d_tail 16 (by kernel_rfl) ?_
    simp only [List.take_succ_cons, List.take_zero, List.drop_succ_cons, List.drop_zero]
    repeat (first | (refine q_load (by rfl) ?_; refine LoadC.rowPart (b := eb) (q := 2) (n := 2) hrow hec rfl rfl (by rfl) ?_) | (refine q_eq (by rfl) (by rfl) (by kernel_rfl) (fun x => neq30 x.w _ _ _ _) ?_) | (refine r_load (by rfl) ?_; refine LoadC.rowCell (b := eb) (q := 0) hrow hec rfl (by rfl) ?_) | (refine r_fun (by rfl) (by rfl) ?_; refine CallC.gives (g := 45) (breaks45 (t := t) (bb := bb) (lv := lv) (sv := sv) (nm := nm) (g := g) 1 _) ?_) | (refine q_nil ?_) | refine c_seq ?_ | refine c_reg ?_ | refine r_nil ?_ | refine e_n ?_ | refine CutC.go ?_ | refine r_field0 (by rfl) (by rfl) ?_ | refine r_field (by rfl) (by rfl) ?_ | refine r_val (by rfl) ?_ | (refine r_load (by rfl) ?_; refine LoadC.one (by rfl) (by rfl) ?_) | refine c_yes (by rfl) (by first | with_reducible assumption | decide) ?_ | refine c_no (by rfl) (by first | with_reducible assumption | decide) ?_ | refine c_skip ?_ | refine c_block ?_ | refine b_n ?_ | refine EndC.mk rfl ?_ | refine q_field0 (by rfl) (by rfl) ?_ | refine q_field (by rfl) (by rfl) ?_ | refine q_val (by rfl) ?_ | refine q_gF (by rfl) (by first | with_reducible assumption | decide) ?_ | (refine q_load (by rfl) ?_; refine LoadC.agg (by rfl) (by rfl) ?_))
    exact Gives.mk rfl (incl_swap _ _ _)
end Go.Proofs.Ythijlgjfgliinaa
end
