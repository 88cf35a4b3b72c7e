/- Part 46 of the proof of what MonJudges says. -/
import Derived.Test.YthijlgjfgliinaaJg44
section
/- The judge: together (29): which two stays are compared. -/
set_option linter.all false
namespace Go.Proofs.Ythijlgjfgliinaa
open Go.RowKit
open Go.W
variable [Env]
attribute [local irreducible] opsC wpC quietC LoopC DrawC CutC LoadC StoreC ReadC UpdC RunC CallC QCallC EndC thenC inBlockC
set_option maxRecDepth 100000
set_option synthInstance.maxHeartbeats 400000
section
variable {F : Blocks} {T : Units} {t bb eb eo : Nat} {lval : Value} {nm : Int} {g1 : GMap Int Bool} {Q : Exit → Fr → Units → Prop} {stays : List JSt} {stR : Row} {n sc i j : Nat} {sa : Option Addr} {a b : JSt} {gva gvb : Value}
set_option maxHeartbeats 16000000 in
theorem tog_new (ha : a ∈ stays) (hb : b ∈ stays) (hga : a.gr.val a.gots.length = gva) (hgb : b.gr.val b.gots.length = gvb) {earr : Array Value} {eT : TypeId} {efr : Nat × Nat} {evs : List Ev} (hEm : (eb, Obj.cells earr eT efr) ∈ F) (hrow : Go.RowAt earr eo 19 (evs.map Ev.cells)) (ea eb' : Ev) (c1 : (!confEq a.epoch a.rep b.epoch b.rep) = false) (c2 : (a.proc == b.proc) = false) (x y u v : Nat) (c3 : a.nx = some x) (c4 : b.nx = some y) (c5 : a.tr = some u) (c6 : b.tr = some v) (hea : evs[u]? = some ea) (heb : evs[v]? = some eb') (c7 : (!confEq ea.nepoch ea.nrep eb'.nepoch eb'.nrep) = true)
    (hX : ∀ f' M, AllAt f' (tSL t sa n sc i j a b) → Incl M (OnL t bb eb eo lval (.slice sa n sc) nm g1 stR stays F T) → Q (.exit 3) f' M) (f0 : Nat → Value) :
    wpC Try.prog togPair Q (Fr.over f0 (tSL t sa n sc i j a b)) (OnL t bb eb eo lval (.slice sa n sc) nm g1 stR stays F T) := by
  haveI hEB : ∀ {L R : Units} [Unit_ L F R], Has L eb (.cells earr eT efr) := fun {L R} h => ⟨h.ok.mem_iff.2 (by simp [hEm])⟩
  have hqa : (evs.map Ev.cells)[u]? = some ea.cells := by simp [hea]
  have hqb : (evs.map Ev.cells)[v]? = some eb'.cells := by simp [heb]
  haveI hA : ∀ {L R : Units} [Unit_ L (JU eb eo stays) R], Has L a.blk (stO eb eo a gva (a.ur.val a.ups.length) (.pointer (some ⟨eb, eo + u * 19, none⟩)) (.pointer (some ⟨eb, eo + x * 19, none⟩))) := fun {L R} h => has_stO ha hga (by rw [c5]; rfl) (by rw [c3]; rfl) h
  haveI hB : ∀ {L R : Units} [Unit_ L (JU eb eo stays) R], Has L b.blk (stO eb eo b gvb (b.ur.val b.ups.length) (.pointer (some ⟨eb, eo + v * 19, none⟩)) (.pointer (some ⟨eb, eo + y * 19, none⟩))) := fun {L R} h => has_stO hb hgb (by rw [c6]; rfl) (by rw [c4]; rfl) h
  repeat (first | refine c_seq ?_ | refine c_draw ?_)
  simp only [List.append_eq, List.cons_append, List.nil_append]
  refine d_tail 64 (by kernel_rfl) ?_
  simp only [List.take_succ_cons, List.take_zero, List.drop_succ_cons, List.drop_zero]
  repeat (first | (refine q_eq (by rfl) (by rfl) (by kernel_rfl) (fun x => neq30 x.w _ _ _ _) ?_) | (refine q_load (by rfl) ?_; refine LoadC.rowPart (b := eb) (q := 4) (n := 2) (vs := [.int .u64 ea.nepoch, .int .i64 ea.nrep]) hrow hqa rfl rfl (by rfl) ?_) | (refine q_load (by rfl) ?_; refine LoadC.rowPart (b := eb) (q := 4) (n := 2) (vs := [.int .u64 eb'.nepoch, .int .i64 eb'.nrep]) hrow hqb rfl rfl (by rfl) ?_) | (refine q_nil ?_) | refine r_nil ?_ | refine e_n ?_ | refine CutC.go ?_ | refine r_val (by rfl) ?_ | refine c_yes (by rfl) (by first | with_reducible assumption | decide) ?_ | refine c_exit ?_ | refine e_x ?_ | refine q_field0 (by rfl) (by rfl) ?_ | refine q_field (by rfl) (by rfl) ?_ | refine q_val (by rfl) ?_ | (refine q_load (by rfl) ?_; refine LoadC.one (by rfl) (by rfl) ?_) | refine q_gF (by rfl) (by first | with_reducible assumption | decide) ?_ | refine q_pickF (by rfl) (by first | with_reducible assumption | decide) (by rfl) ?_ | (refine q_load (by rfl) ?_; refine LoadC.agg (by rfl) (by rfl) ?_))
  exact hX _ _ ⟨rfl, rfl, rfl, rfl, rfl, rfl, rfl, rfl, rfl, rfl, rfl⟩ (Incl.refl _)
set_option maxHeartbeats 16000000 in
theorem tog_ok (ha : a ∈ stays) (hb : b ∈ stays) (hga : a.gr.val a.gots.length = gva) (hgb : b.gr.val b.gots.length = gvb) {earr : Array Value} {eT : TypeId} {efr : Nat × Nat} {evs : List Ev} (hEm : (eb, Obj.cells earr eT efr) ∈ F) (hrow : Go.RowAt earr eo 19 (evs.map Ev.cells)) (ea eb' : Ev) (c1 : (!confEq a.epoch a.rep b.epoch b.rep) = false) (c2 : (a.proc == b.proc) = false) (x y u v : Nat) (c3 : a.nx = some x) (c4 : b.nx = some y) (c5 : a.tr = some u) (c6 : b.tr = some v) (hea : evs[u]? = some ea) (heb : evs[v]? = some eb') (c7 : (!confEq ea.nepoch ea.nrep eb'.nepoch eb'.nrep) = false)
    (hX : ∀ f' M, AllAt f' (tSL t sa n sc i j a b) → Incl M (OnL t bb eb eo lval (.slice sa n sc) nm g1 stR stays F T) → CutC Try.prog togEq Q f' M) (f0 : Nat → Value) :
    wpC Try.prog togPair Q (Fr.over f0 (tSL t sa n sc i j a b)) (OnL t bb eb eo lval (.slice sa n sc) nm g1 stR stays F T) := by
  haveI hEB : ∀ {L R : Units} [Unit_ L F R], Has L eb (.cells earr eT efr) := fun {L R} h => ⟨h.ok.mem_iff.2 (by simp [hEm])⟩
  have hqa : (evs.map Ev.cells)[u]? = some ea.cells := by simp [hea]
  have hqb : (evs.map Ev.cells)[v]? = some eb'.cells := by simp [heb]
  haveI hA : ∀ {L R : Units} [Unit_ L (JU eb eo stays) R], Has L a.blk (stO eb eo a gva (a.ur.val a.ups.length) (.pointer (some ⟨eb, eo + u * 19, none⟩)) (.pointer (some ⟨eb, eo + x * 19, none⟩))) := fun {L R} h => has_stO ha hga (by rw [c5]; rfl) (by rw [c3]; rfl) h
  haveI hB : ∀ {L R : Units} [Unit_ L (JU eb eo stays) R], Has L b.blk (stO eb eo b gvb (b.ur.val b.ups.length) (.pointer (some ⟨eb, eo + v * 19, none⟩)) (.pointer (some ⟨eb, eo + y * 19, none⟩))) := fun {L R} h => has_stO hb hgb (by rw [c6]; rfl) (by rw [c4]; rfl) h
  repeat (first | refine c_seq ?_ | refine c_draw ?_)
  simp only [List.append_eq, List.cons_append, List.nil_append]
  refine d_tail 64 (by kernel_rfl) ?_
  simp only [List.take_succ_cons, List.take_zero, List.drop_succ_cons, List.drop_zero]
  repeat (first | (refine q_eq (by rfl) (by rfl) (by kernel_rfl) (fun x => neq30 x.w _ _ _ _) ?_) | (refine q_load (by rfl) ?_; refine LoadC.rowPart (b := eb) (q := 4) (n := 2) (vs := [.int .u64 ea.nepoch, .int .i64 ea.nrep]) hrow hqa rfl rfl (by rfl) ?_) | (refine q_load (by rfl) ?_; refine LoadC.rowPart (b := eb) (q := 4) (n := 2) (vs := [.int .u64 eb'.nepoch, .int .i64 eb'.nrep]) hrow hqb rfl rfl (by rfl) ?_) | (refine q_nil ?_) | refine r_nil ?_ | refine e_n ?_ | refine r_val (by rfl) ?_ | refine q_field0 (by rfl) (by rfl) ?_ | refine q_field (by rfl) (by rfl) ?_ | refine q_val (by rfl) ?_ | (refine q_load (by rfl) ?_; refine LoadC.one (by rfl) (by rfl) ?_) | refine q_gF (by rfl) (by first | with_reducible assumption | decide) ?_ | refine q_pickF (by rfl) (by first | with_reducible assumption | decide) (by rfl) ?_ | (refine q_load (by rfl) ?_; refine LoadC.agg (by rfl) (by rfl) ?_))
  refine CutC.go ?_
  repeat (first | refine e_n ?_ | refine c_no (by rfl) (by first | with_reducible assumption | decide) ?_ | refine c_skip ?_)
  exact hX _ _ ⟨rfl, rfl, rfl, rfl, rfl, rfl, rfl, rfl, rfl, rfl, rfl⟩ (Incl.refl _)
end
end Go.Proofs.Ythijlgjfgliinaa
end
