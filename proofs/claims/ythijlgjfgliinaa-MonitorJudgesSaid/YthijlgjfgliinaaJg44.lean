/- Part 44 of the proof of what MonJudges says. -/
import Derived.Test.YthijlgjfgliinaaJg43
section
/- The judge: together (29): which two stays are not compared. -/
set_option linter.all false
namespace Go.Proofs.Ythijlgjfgliinaa
open Go.RowKit
open Go.W
variable [Env]
noncomputable def togPair : Code := match Try.f29.body with
  | some (.seq _ (.block _ (.loop (.seq _ (.seq _ (.seq (.block _ (.seq _ (.seq (.seq _ (.block _ (.loop (.seq _ (.seq _ (.seq (.block _ (.seq _ c)) _)))))) _))) _)))))) => c
  | _ => .skip
noncomputable def togEq : Code := match togPair with
  | .seq _ c => c
  | _ => .skip
abbrev tSL (t : Nat) (sa : Option Addr) (n sc i j : Nat) (a b : JSt) : List (Nat × Value) := [(0, .pointer (some ⟨t, 0, none⟩)), (2, .int .i64 (i : Nat)), (3, .pointer (some ⟨a.blk, 0, none⟩)), (5, .pointer (some ⟨b.blk, 0, none⟩)), (11, .slice sa n sc), (12, .int .i64 n), (13, .int .i64 (i : Nat)), (23, .slice sa i sc), (24, .int .i64 i), (25, .int .i64 (j : Nat))]
/-- A stay's block, its pointers to events laid open. -/
abbrev stO (eb eo : Nat) (s : JSt) (gv uv tv nv : Value) : Obj := .cells #[.int .i64 s.proc, .int .u64 s.epoch, .int .i64 s.rep, .int .u64 s.members, gv, tv, nv, evp eb eo s.vw, .int .i64 s.va, evp eb eo s.rd, uv, .bool s.out, .pointer (s.bf.map fun b => ⟨b, 0, none⟩)] 109
theorem has_stO {eb eo : Nat} {stays : List JSt} {s : JSt} (hm : s ∈ stays) {gv tv nv : Value} (hg : s.gr.val s.gots.length = gv) (ht : evp eb eo s.tr = tv) (hn : evp eb eo s.nx = nv) {L R : Units} (h : Unit_ L (JU eb eo stays) R) : Has L s.blk (stO eb eo s gv (s.ur.val s.ups.length) tv nv) := by
  subst hg ht hn
  exact ⟨h.ok.mem_iff.2 (List.mem_append_left _ (mem_JU hm (by simp [JSt.u, JSt.obj])))⟩
attribute [local irreducible] opsC wpC quietC LoopC DrawC CutC LoadC StoreC ReadC UpdC RunC CallC QCallC EndC thenC inBlockC
set_option maxRecDepth 100000
set_option synthInstance.maxHeartbeats 400000
section
variable {F : Blocks} {T : Units} {t bb eb eo : Nat} {lval : Value} {nm : Int} {g1 : GMap Int Bool} {Q : Exit → Fr → Units → Prop} {stays : List JSt} {stR : Row} {n sc i j : Nat} {sa : Option Addr} {a b : JSt} {gva gvb : Value}
set_option maxHeartbeats 16000000 in
theorem tog_conf (ha : a ∈ stays) (hb : b ∈ stays) (hga : a.gr.val a.gots.length = gva) (hgb : b.gr.val b.gots.length = gvb) (c1 : (!confEq a.epoch a.rep b.epoch b.rep) = true)
    (hX : ∀ f' M, AllAt f' (tSL t sa n sc i j a b) → Incl M (OnL t bb eb eo lval (.slice sa n sc) nm g1 stR stays F T) → Q (.exit 3) f' M) (f0 : Nat → Value) :
    wpC Try.prog togPair Q (Fr.over f0 (tSL t sa n sc i j a b)) (OnL t bb eb eo lval (.slice sa n sc) nm g1 stR stays F T) := by
  haveI hA : ∀ {L R : Units} [Unit_ L (JU eb eo stays) R], Has L a.blk (stO eb eo a gva (a.ur.val a.ups.length) (evp eb eo a.tr) (evp eb eo a.nx)) := fun {L R} h => has_stO ha hga rfl rfl h
  haveI hB : ∀ {L R : Units} [Unit_ L (JU eb eo stays) R], Has L b.blk (stO eb eo b gvb (b.ur.val b.ups.length) (evp eb eo b.tr) (evp eb eo b.nx)) := fun {L R} h => has_stO hb hgb rfl rfl h
  repeat (first | refine c_seq ?_ | refine c_draw ?_)
  simp only [List.append_eq, List.cons_append, List.nil_append]
  refine d_tail 64 (by kernel_rfl) ?_
  simp only [List.take_succ_cons, List.take_zero, List.drop_succ_cons, List.drop_zero]
  repeat (first | (refine q_eq (by rfl) (by rfl) (by kernel_rfl) (fun x => neq30 x.w _ _ _ _) ?_) | (refine q_nil ?_) | refine r_nil ?_ | refine e_n ?_ | refine CutC.go ?_ | refine r_val (by rfl) ?_ | refine c_yes (by rfl) (by first | with_reducible assumption | decide) ?_ | refine c_exit ?_ | refine e_x ?_ | refine q_field0 (by rfl) (by rfl) ?_ | refine q_val (by rfl) ?_ | refine q_gnF (by rfl) (by first | with_reducible assumption | decide) ?_ | refine q_pickT (by rfl) (by first | with_reducible assumption | decide) (by rfl) ?_ | (refine q_load (by rfl) ?_; refine LoadC.agg (by rfl) (by rfl) ?_))
  exact hX _ _ ⟨rfl, rfl, rfl, rfl, rfl, rfl, rfl, rfl, rfl, rfl, rfl⟩ (Incl.refl _)
set_option maxHeartbeats 16000000 in
theorem tog_proc (ha : a ∈ stays) (hb : b ∈ stays) (hga : a.gr.val a.gots.length = gva) (hgb : b.gr.val b.gots.length = gvb) (c1 : (!confEq a.epoch a.rep b.epoch b.rep) = false) (c2 : (a.proc == b.proc) = true)
    (hX : ∀ f' M, AllAt f' (tSL t sa n sc i j a b) → Incl M (OnL t bb eb eo lval (.slice sa n sc) nm g1 stR stays F T) → Q (.exit 3) f' M) (f0 : Nat → Value) :
    wpC Try.prog togPair Q (Fr.over f0 (tSL t sa n sc i j a b)) (OnL t bb eb eo lval (.slice sa n sc) nm g1 stR stays F T) := by
  haveI hA : ∀ {L R : Units} [Unit_ L (JU eb eo stays) R], Has L a.blk (stO eb eo a gva (a.ur.val a.ups.length) (evp eb eo a.tr) (evp eb eo a.nx)) := fun {L R} h => has_stO ha hga rfl rfl h
  haveI hB : ∀ {L R : Units} [Unit_ L (JU eb eo stays) R], Has L b.blk (stO eb eo b gvb (b.ur.val b.ups.length) (evp eb eo b.tr) (evp eb eo b.nx)) := fun {L R} h => has_stO hb hgb rfl rfl h
  repeat (first | refine c_seq ?_ | refine c_draw ?_)
  simp only [List.append_eq, List.cons_append, List.nil_append]
  refine d_tail 64 (by kernel_rfl) ?_
  simp only [List.take_succ_cons, List.take_zero, List.drop_succ_cons, List.drop_zero]
  repeat (first | (refine q_eq (by rfl) (by rfl) (by kernel_rfl) (fun x => neq30 x.w _ _ _ _) ?_) | (refine q_nil ?_) | refine r_nil ?_ | refine e_n ?_ | refine CutC.go ?_ | refine r_val (by rfl) ?_ | refine c_yes (by rfl) (by first | with_reducible assumption | decide) ?_ | refine c_exit ?_ | refine e_x ?_ | refine q_field0 (by rfl) (by rfl) ?_ | refine q_val (by rfl) ?_ | (refine q_load (by rfl) ?_; refine LoadC.one (by rfl) (by rfl) ?_) | refine q_gF (by rfl) (by first | with_reducible assumption | decide) ?_ | refine q_gnF (by rfl) (by first | with_reducible assumption | decide) ?_ | refine q_pickT (by rfl) (by first | with_reducible assumption | decide) (by rfl) ?_ | refine q_pickF (by rfl) (by first | with_reducible assumption | decide) (by rfl) ?_ | (refine q_load (by rfl) ?_; refine LoadC.agg (by rfl) (by rfl) ?_))
  exact hX _ _ ⟨rfl, rfl, rfl, rfl, rfl, rfl, rfl, rfl, rfl, rfl, rfl⟩ (Incl.refl _)
set_option maxHeartbeats 16000000 in
theorem tog_nx1 (ha : a ∈ stays) (hb : b ∈ stays) (hga : a.gr.val a.gots.length = gva) (hgb : b.gr.val b.gots.length = gvb) (c1 : (!confEq a.epoch a.rep b.epoch b.rep) = false) (c2 : (a.proc == b.proc) = false) (c3 : a.nx = none)
    (hX : ∀ f' M, AllAt f' (tSL t sa n sc i j a b) → Incl M (OnL t bb eb eo lval (.slice sa n sc) nm g1 stR stays F T) → Q (.exit 3) f' M) (f0 : Nat → Value) :
    wpC Try.prog togPair Q (Fr.over f0 (tSL t sa n sc i j a b)) (OnL t bb eb eo lval (.slice sa n sc) nm g1 stR stays F T) := by
  haveI hA : ∀ {L R : Units} [Unit_ L (JU eb eo stays) R], Has L a.blk (stO eb eo a gva (a.ur.val a.ups.length) (evp eb eo a.tr) (.pointer none)) := fun {L R} h => has_stO ha hga rfl (by rw [c3]; rfl) h
  haveI hB : ∀ {L R : Units} [Unit_ L (JU eb eo stays) R], Has L b.blk (stO eb eo b gvb (b.ur.val b.ups.length) (evp eb eo b.tr) (evp eb eo b.nx)) := fun {L R} h => has_stO hb hgb rfl rfl h
  repeat (first | refine c_seq ?_ | refine c_draw ?_)
  simp only [List.append_eq, List.cons_append, List.nil_append]
  refine d_tail 64 (by kernel_rfl) ?_
  simp only [List.take_succ_cons, List.take_zero, List.drop_succ_cons, List.drop_zero]
  repeat (first | (refine q_eq (by rfl) (by rfl) (by kernel_rfl) (fun x => neq30 x.w _ _ _ _) ?_) | (refine q_nil ?_) | refine r_nil ?_ | refine e_n ?_ | refine CutC.go ?_ | refine r_val (by rfl) ?_ | refine c_yes (by rfl) (by first | with_reducible assumption | decide) ?_ | refine c_exit ?_ | refine e_x ?_ | refine q_field0 (by rfl) (by rfl) ?_ | refine q_val (by rfl) ?_ | (refine q_load (by rfl) ?_; refine LoadC.one (by rfl) (by rfl) ?_) | refine q_gF (by rfl) (by first | with_reducible assumption | decide) ?_ | refine q_gnF (by rfl) (by first | with_reducible assumption | decide) ?_ | refine q_pickF (by rfl) (by first | with_reducible assumption | decide) (by rfl) ?_ | (refine q_load (by rfl) ?_; refine LoadC.agg (by rfl) (by rfl) ?_))
  exact hX _ _ ⟨rfl, rfl, rfl, rfl, rfl, rfl, rfl, rfl, rfl, rfl, rfl⟩ (Incl.refl _)
end
end Go.Proofs.Ythijlgjfgliinaa
end
