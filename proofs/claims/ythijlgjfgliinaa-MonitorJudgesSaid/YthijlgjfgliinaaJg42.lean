/- Part 42 of the proof of what MonJudges says. -/
import Derived.Test.YthijlgjfgliinaaJg41
import Derived.Test.YthijlgjfgliinaaJg12
section
/- The judge: once (28): the orders of the stays. -/
set_option linter.all false
namespace Go.Proofs.Ythijlgjfgliinaa
open Go.RowKit
open Go.W
variable [Env]
noncomputable def onceTail : Code := match Try.f28.body with
  | some (.seq _ (.seq _ c)) => c
  | _ => .skip
abbrev gotO (j : JGot) : Obj := .cells #[.int .i64 j.at_, .int .i64 j.g.r.frm, .int .u32 j.g.r.seq, .int .u64 j.g.r.stamp, .int .i64 j.g.r.svc, .slice j.g.r.da j.g.r.dn j.g.r.dc, .string j.g.r.pay, .bool j.tr] 111
def JSt.msgs (s : JSt) : List Mg := s.gots.map (·.g.mg)
def ordJ (l : List JSt) : List Ck := l.flatMap fun s => ordCk [] s.msgs
abbrev OnL (t bb eb eo : Nat) (lval sv : Value) (nm : Int) (g : GMap Int Bool) (stR : Row) (stays : List JSt) (F : Blocks) (T : Units) : Units :=
  [(t, traceO lval sv bb nm)] :: stR.u 98 :: [(bb, g.obj ikey bval)] :: JU eb eo stays :: F :: T
attribute [local irreducible] opsC wpC quietC LoopC DrawC CutC LoadC StoreC ReadC UpdC RunC CallC QCallC EndC thenC inBlockC
set_option maxRecDepth 100000
set_option synthInstance.maxHeartbeats 400000
section
variable {F : Blocks} {T : Units} {t bb eb eo : Nat} {lval : Value} {nm : Int} {g : GMap Int Bool} {R : Ending → Units → Prop}
set_option maxHeartbeats 32000000 in
theorem once_tail (stays : List JSt) (stR : Row) (n : Nat) (sa : Option Addr) (sc : Nat) (hsv : stR.val n = .slice sa n sc) (hst : RowOk stR 1 (stays.map jptr)) (hl : stays.length = n) (hn : n ≤ 1000)
    (hs : ∀ s ∈ stays, RowOk s.gr 8 (s.gots.map JGot.cells) ∧ s.gots.length ≤ 1000 ∧ ∀ j ∈ s.gots, j.g.ok F)
    (hR : ∀ M, Incl M (OnL t bb eb eo lval (.slice sa n sc) nm (GMap.bads g (ordJ stays)) stR stays F T) → R (.returned (.tuple #[])) M) (f0 : Nat → Value) :
    wpC Try.prog onceTail (bodyC Try.f28 R) (Fr.over f0 [(0, .pointer (some ⟨t, 0, none⟩))]) (OnL t bb eb eo lval (.slice sa n sc) nm g stR stays F T) := by
  repeat (first | refine c_seq ?_ | refine c_reg ?_ | refine r_nil ?_ | refine e_n ?_ | refine CutC.go ?_ | refine r_field0 (by rfl) (by rfl) ?_ | refine r_lenS (by rfl) (by rfl) ?_ | refine r_val (by rfl) ?_ | (refine r_load (by rfl) ?_; refine LoadC.one (by rfl) (by rfl) ?_) | refine c_block ?_ | refine c_loop ?_)
  refine LoopC.inv (γ := Nat × GMap Int Bool) (fun p => p.1 ≤ n ∧ GMap.bads g (ordJ stays) = GMap.bads p.2 (ordJ (stays.drop p.1))) (fun p => [(0, .pointer (some ⟨t, 0, none⟩)), (49, .slice sa n sc), (50, .int .i64 n), (51, .int .i64 (p.1 : Nat))]) (fun p => OnL t bb eb eo lval (.slice sa n sc) nm p.2 stR stays F T) (fun p => n - p.1)
    (MeetC.mk (0, g) ⟨by omega, rfl⟩ ⟨rfl, rfl, rfl, rfl, rfl⟩ (Incl.refl _)) ?_
  rintro ⟨k, g1⟩ ⟨hk, hh⟩ f1
  dsimp only at hk hh ⊢
  by_cases hlt : k < n
  · have hd1 : decide ((k : Int) < (n : Int)) = true := by simp; omega
    obtain ⟨s, ho⟩ : ∃ s, stays[k]? = some s := ⟨stays[k]'(by omega), List.getElem?_eq_getElem _⟩
    have hom := List.mem_of_getElem? ho
    obtain ⟨hgr, hgl, hgo⟩ := hs s hom
    have hdr : stays.drop k = s :: stays.drop (k + 1) := by
      obtain ⟨h2, h3⟩ := List.getElem?_eq_some_iff.1 ho
      rw [List.drop_eq_getElem_cons h2, h3]
    have hsplit : ordJ (s :: stays.drop (k + 1)) = ordCk [] s.msgs ++ ordJ (stays.drop (k + 1)) := rfl
    rw [hdr, hsplit, GMap.bads_app] at hh
    obtain ⟨a0, c0, hav, hsl⟩ := stR.val_slice hst 98
    rw [List.length_map, hl] at hav hsl
    rw [hsv] at hav
    obtain ⟨rfl, _, rfl⟩ : sa = a0 ∧ n = n ∧ sc = c0 := by injection hav with h1 h2 h3; exact ⟨h1, h2, h3⟩
    rcases hsl.2 with h0 | ⟨Sb, So, Sarr, ST, Sfr, rfl, hSm, hSrow⟩
    · omega
    haveI hSB : ∀ {L R : Units} [Unit_ L (stR.u 98) R], Has L Sb (.cells Sarr ST Sfr) := fun {L R} h => ⟨h.ok.mem_iff.2 (by simp [hSm])⟩
    have hoc : (stays.map jptr)[k]? = some [.pointer (some ⟨s.blk, 0, none⟩)] := by simp [ho, jptr]
    obtain ⟨ga, gc, hgv, hgsl⟩ := s.gr.val_slice hgr 111
    rw [List.length_map] at hgv hgsl
    haveI hOB : ∀ {L R : Units} [Unit_ L (JU eb eo stays) R], Has L s.blk (jstO eb eo s (.slice ga s.gots.length gc) (s.ur.val s.ups.length) (evp eb eo s.tr)) := fun {L R} h => ⟨by
      rw [← hgv]
      exact h.ok.mem_iff.2 (List.mem_append_left _ (mem_JU hom (by simp [JSt.u, JSt.obj])))⟩
    repeat (first | (refine r_index (by rfl) (by rfl) (by rfl) hlt ?_) | (refine r_load (by rfl) ?_; refine LoadC.row1 (b := Sb) hSrow hoc (by rfl) ?_) | refine c_seq ?_ | refine c_reg ?_ | refine r_nil ?_ | refine e_n ?_ | refine CutC.go ?_ | refine r_val (by rfl) ?_ | refine c_yes (by rfl) (by first | with_reducible assumption | decide) ?_ | refine c_skip ?_ | refine c_block ?_)
    refine r_map ikey ikey (fun cb => ?_)
    repeat (first | refine c_seq ?_ | refine c_reg ?_ | refine r_nil ?_ | refine e_n ?_ | refine CutC.go ?_ | refine r_field0 (by rfl) (by rfl) ?_ | refine r_lenS (by rfl) (by rfl) ?_ | refine r_val (by rfl) ?_ | (refine r_load (by rfl) ?_; refine LoadC.one (by rfl) (by rfl) ?_) | refine c_block ?_ | refine c_loop ?_)
    have hgval : Value.slice ga s.gots.length gc = .slice ga s.gots.length gc := rfl
    refine LoopC.inv (γ := Nat × GMap Int Bool × GMap Int Int) (fun p => p.1 ≤ s.gots.length ∧ (∀ q, (p.2.2.get q).getD 0 = cntOf (s.msgs.take p.1) q) ∧ GMap.bads g1 (ordCk [] s.msgs) = GMap.bads p.2.1 (ordCk (s.msgs.take p.1) (s.msgs.drop p.1)))
      (fun p => [(0, .pointer (some ⟨t, 0, none⟩)), (49, .slice (some ⟨Sb, So, none⟩) n sc), (50, .int .i64 n), (51, .int .i64 (k : Nat)), (7, .pointer (some ⟨s.blk, 0, none⟩)), (8, .map (some cb)), (59, .slice ga s.gots.length gc), (60, .int .i64 s.gots.length), (61, .int .i64 (p.1 : Nat))])
      (fun p => [(cb, p.2.2.obj ikey ikey)] :: OnL t bb eb eo lval (.slice (some ⟨Sb, So, none⟩) n sc) nm p.2.1 stR stays F T) (fun p => s.gots.length - p.1)
      (MeetC.mk (0, g1, GMap.empty Int Int) ⟨by omega, fun q => by rw [GMap.get_empty]; rfl, rfl⟩ ⟨rfl, rfl, rfl, rfl, rfl, rfl, rfl, rfl, rfl, rfl⟩ (Incl.refl _)) ?_
    rintro ⟨i, g2, cm⟩ ⟨hi, hcm, hio⟩ f2
    dsimp only at hi hcm hio ⊢
    by_cases hilt : i < s.gots.length
    · have hd2 : decide ((i : Int) < (s.gots.length : Int)) = true := by simp; omega
      obtain ⟨j, hj⟩ : ∃ j, s.gots[i]? = some j := ⟨s.gots[i], List.getElem?_eq_getElem hilt⟩
      have hjo := hgo j (List.mem_of_getElem? hj)
      have hjm : s.msgs[i]? = some j.g.mg := by simp [JSt.msgs, hj]
      have hmd : s.msgs.drop i = j.g.mg :: s.msgs.drop (i + 1) := by
        obtain ⟨h2, h3⟩ := List.getElem?_eq_some_iff.1 hjm
        rw [List.drop_eq_getElem_cons h2, h3]
      have hmt : s.msgs.take (i + 1) = s.msgs.take i ++ [j.g.mg] := by rw [List.take_add_one, hjm]; rfl
      rw [hmd] at hio
      have hio : GMap.bads g1 (ordCk [] s.msgs) = GMap.bads (GMap.bads (GMap.bads g2 (lastCk (s.msgs.take i) j.g.mg)) (depsCk (cntOf (s.msgs.take i)) 0 j.g.mg.deps)) (ordCk (s.msgs.take (i + 1)) (s.msgs.drop (i + 1))) := by
        rw [hio, hmt]
        show GMap.bads g2 (lastCk (s.msgs.take i) j.g.mg ++ (depsCk (cntOf (s.msgs.take i)) 0 j.g.mg.deps ++ ordCk (s.msgs.take i ++ [j.g.mg]) (s.msgs.drop (i + 1)))) = _
        rw [GMap.bads_app, GMap.bads_app]
      rcases hgsl.2 with h0 | ⟨Gb, Go_, Garr, GT, Gfr, rfl, hGm, hGrow⟩
      · omega
      have hGmem : ∀ {L R : Units} [Unit_ L (JU eb eo stays) R], Has L Gb (.cells Garr GT Gfr) := fun {L R} h => ⟨h.ok.mem_iff.2 (List.mem_append_left _ (mem_JU hom (by simp [JSt.u, hGm])))⟩
      haveI hGB : ∀ {L R : Units} [Unit_ L (JU eb eo stays) R], Has L Gb (.cells Garr GT Gfr) := hGmem
      have hjc : (s.gots.map JGot.cells)[i]? = some j.cells := by simp [hj]
      obtain ⟨dep, hdep⟩ : ∃ dep, j.g.mg.deps = dep := ⟨_, rfl⟩
      repeat (first | refine c_seq ?_ | refine c_reg ?_ | refine r_nil ?_ | refine e_n ?_ | refine r_val (by rfl) ?_)
      refine CutC.go ?_
      repeat (first | refine c_seq ?_ | refine e_n ?_ | refine c_yes (by rfl) (by first | with_reducible assumption | decide) ?_ | refine c_skip ?_)
      refine CutC.go ?_
      repeat (first | (refine r_index (b := Gb) (by rfl) (by rfl) (by rfl) hilt ?_) | (refine r_load (by rfl) ?_; refine LoadC.row (b := Gb) hGrow hjc rfl (by rfl) ?_) | refine c_seq ?_ | refine c_reg ?_ | refine r_nil ?_ | refine e_n ?_ | refine r_val (by rfl) ?_ | (refine r_store (by rfl) (by rfl) ?_; refine StoreC.all (by rfl) (by rfl) (by rfl) (by rfl) (by rfl) ?_) | refine c_block ?_ | refine r_alloc (by rfl) (by rfl) (fun _ => ?_))
      rename_i gb
      refine CutC.go ?_
      refine wpC_cut (γ := Unit) (fun _ => True) (fun _ => [(0, .pointer (some ⟨t, 0, none⟩)), (49, .slice (some ⟨Sb, So, none⟩) n sc), (50, .int .i64 n), (51, .int .i64 (k : Nat)), (7, .pointer (some ⟨s.blk, 0, none⟩)), (8, .map (some cb)), (59, .slice (some ⟨Gb, Go_, none⟩) s.gots.length gc), (60, .int .i64 s.gots.length), (61, .int .i64 (i : Nat)), (10, .pointer (some ⟨gb, 0, none⟩))]) (fun _ => [(gb, gotO j)] :: [(cb, cm.obj ikey ikey)] :: OnL t bb eb eo lval (.slice (some ⟨Sb, So, none⟩) n sc) nm (GMap.bads g2 (lastCk (s.msgs.take i) j.g.mg)) stR stays F T) ?_ ?_
      · by_cases hpos : 0 < i
        · obtain ⟨i', rfl⟩ : ∃ i', i = i' + 1 := ⟨i - 1, by omega⟩
          obtain ⟨q, hq⟩ : ∃ q, s.gots[i']? = some q := ⟨s.gots[i']'(by omega), List.getElem?_eq_getElem _⟩
          have hqc : (s.gots.map JGot.cells)[i']? = some q.cells := by simp [hq]
          have hqm : s.msgs[i']? = some q.g.mg := by simp [JSt.msgs, hq]
          have hgl' : (s.msgs.take (i' + 1)).getLast? = some q.g.mg := by
            rw [List.take_add_one, hqm]; simp
          have hkey : GMap.bads g2 (lastCk (s.msgs.take (i' + 1)) j.g.mg) = GMap.bad g2 3 (decide (ord2 q.g.r.stamp q.g.r.frm j.g.r.stamp j.g.r.frm ≥ 0)) := by
            unfold lastCk
            rw [hgl']
            rfl
          have hix : Value.int .i64 (IntKind.i64.wrap (((i' + 1 : Nat) : Int) - 1)) = .int .i64 ((i' : Nat) : Int) := by rw [IntWalk.i64_in _ (by omega)]; congr 1; omega
          have hb0 : decide (((i' + 1 : Nat) : Int) > 0) = true := by first | (simp; done) | (simp; omega)
          have hi'lt : i' < s.gots.length := by omega
          repeat (first | refine c_draw ?_)
          refine d_tail 20 (by kernel_rfl) ?_
          simp only [List.take_succ_cons, List.take_zero, List.drop_succ_cons, List.drop_zero]
          repeat (first | (refine q_index (k := i') (by rfl) (by exact hix) (by rfl) hi'lt ?_) | (refine q_load (by rfl) ?_; refine LoadC.rowPart (b := Gb) (q := 1) (n := 6) (vs := [.int .i64 q.g.r.frm, .int .u32 q.g.r.seq, .int .u64 q.g.r.stamp, .int .i64 q.g.r.svc, .slice q.g.r.da q.g.r.dn q.g.r.dc, .string q.g.r.pay]) hGrow hqc rfl rfl (by rfl) ?_) | (refine q_fun (by rfl) (by rfl) ?_; refine QCallC.ret (g := 37) (fun x => of_spec _ _ _ _ _ _ _ _ x) ?_) | (refine q_fun (by rfl) (by rfl) ?_; refine QCallC.ret (g := 36) (fun x => compare_spec _ _ _ _ x) ?_) | (refine r_fun (by rfl) (by rfl) ?_; refine CallC.gives (g := 45) (breaks45 (t := t) (bb := bb) (lv := lval) (sv := .slice (some ⟨Sb, So, none⟩) n sc) (nm := nm) (g := g2) 3 _) ?_) | (refine q_nil ?_) | refine r_nil ?_ | refine e_n ?_ | refine q_field0 (by rfl) (by rfl) ?_ | refine q_field (by rfl) (by rfl) ?_ | refine q_val (by rfl) ?_ | (refine q_load (by rfl) ?_; refine LoadC.one (by rfl) (by rfl) ?_) | refine q_gT (by rfl) (by first | with_reducible assumption | decide) ?_ | refine q_pickT (by rfl) (by first | with_reducible assumption | decide) (by rfl) ?_ | (refine q_load (by rfl) ?_; refine LoadC.agg (by rfl) (by rfl) ?_))
          exact MeetC.mk () trivial ⟨rfl, rfl, rfl, rfl, rfl, rfl, rfl, rfl, rfl, rfl, rfl⟩ (by rw [hkey]; exact Incl.of)
        · have hi0 : i = 0 := by omega
          subst hi0
          have hb0 : decide (((0 : Nat) : Int) > 0) = false := by simp
          repeat (first | refine c_draw ?_)
          refine d_tail 20 (by kernel_rfl) ?_
          simp only [List.take_succ_cons, List.take_zero, List.drop_succ_cons, List.drop_zero]
          repeat (first | (refine r_fun (by rfl) (by rfl) ?_; refine CallC.gives (g := 45) (breaks45 (t := t) (bb := bb) (lv := lval) (sv := .slice (some ⟨Sb, So, none⟩) n sc) (nm := nm) (g := g2) 3 _) ?_) | (refine q_nil ?_) | refine r_nil ?_ | refine e_n ?_ | refine q_val (by rfl) ?_ | refine q_gnT (by rfl) (by first | with_reducible assumption | decide) ?_)
          exact MeetC.mk () trivial ⟨rfl, rfl, rfl, rfl, rfl, rfl, rfl, rfl, rfl, rfl, rfl⟩ (show Incl _ ([(gb, gotO j)] :: [(cb, cm.obj ikey ikey)] :: OnL t bb eb eo lval (.slice (some ⟨Sb, So, none⟩) n sc) nm (GMap.bad g2 3 false) stR stays F T) from Incl.of)
      intro _ _ f3
      generalize GMap.bads g2 (lastCk (s.msgs.take i) j.g.mg) = g3 at hio ⊢
      have hdl : j.g.d.length = j.g.r.dn := hjo.1.1
      have hdn2 : j.g.r.dn ≤ 35184372088832 := hjo.2
      have hdeq : j.g.mg.deps = j.g.d := rfl
      rw [hdeq] at hio
      repeat (first | refine c_seq ?_ | refine c_reg ?_ | refine r_nil ?_ | refine e_n ?_ | refine CutC.go ?_ | refine r_field0 (by rfl) (by rfl) ?_ | refine r_field (by rfl) (by rfl) ?_ | refine r_lenS (by rfl) (by rfl) ?_ | refine r_val (by rfl) ?_ | (refine r_load (by rfl) ?_; refine LoadC.one (by rfl) (by rfl) ?_) | refine c_block ?_ | refine c_loop ?_)
      refine LoopC.inv (γ := Nat × GMap Int Bool) (fun p => p.1 ≤ j.g.r.dn ∧ GMap.bads g3 (depsCk (cntOf (s.msgs.take i)) 0 j.g.d) = GMap.bads p.2 (depsCk (cntOf (s.msgs.take i)) p.1 (j.g.d.drop p.1)))
        (fun p => (89, .slice j.g.r.da j.g.r.dn j.g.r.dc) :: (90, .int .i64 j.g.r.dn) :: (91, .int .i64 (p.1 : Nat)) :: [(0, .pointer (some ⟨t, 0, none⟩)), (49, .slice (some ⟨Sb, So, none⟩) n sc), (50, .int .i64 n), (51, .int .i64 (k : Nat)), (7, .pointer (some ⟨s.blk, 0, none⟩)), (8, .map (some cb)), (59, .slice (some ⟨Gb, Go_, none⟩) s.gots.length gc), (60, .int .i64 s.gots.length), (61, .int .i64 (i : Nat)), (10, .pointer (some ⟨gb, 0, none⟩))])
        (fun p => [(gb, gotO j)] :: [(cb, cm.obj ikey ikey)] :: OnL t bb eb eo lval (.slice (some ⟨Sb, So, none⟩) n sc) nm p.2 stR stays F T) (fun p => j.g.r.dn - p.1)
        (MeetC.mk (0, g3) ⟨by omega, rfl⟩ ⟨rfl, rfl, rfl, rfl, rfl, rfl, rfl, rfl, rfl, rfl, rfl, rfl, rfl, rfl⟩ (Incl.refl _)) ?_
      rintro ⟨u, g4⟩ ⟨hu, hud⟩ f4
      dsimp only at hu hud ⊢
      by_cases hult : u < j.g.r.dn
      · have hd3 : decide ((u : Int) < (j.g.r.dn : Int)) = true := by simp; omega
        obtain ⟨v, hv⟩ : ∃ v, j.g.d[u]? = some v := ⟨j.g.d[u]'(by omega), List.getElem?_eq_getElem _⟩
        rcases hjo.1.2 with h0 | ⟨Db, Do, Darr, DT, Dfr, hda, hDm, hDrow⟩
        · exfalso; omega
        haveI hDB : ∀ {L R : Units} [Unit_ L F R], Has L Db (.cells Darr DT Dfr) := fun {L R} h => ⟨h.ok.mem_iff.2 (by simp [hDm])⟩
        have hda : Value.slice j.g.r.da j.g.r.dn j.g.r.dc = .slice (some ⟨Db, Do, none⟩) j.g.r.dn j.g.r.dc := by rw [show j.g.r.da = some ⟨Db, Do, none⟩ from hda]
        have hdr4 : j.g.d.drop u = v :: j.g.d.drop (u + 1) := by
          obtain ⟨h2, h3⟩ := List.getElem?_eq_some_iff.1 hv
          rw [List.drop_eq_getElem_cons h2, h3]
        have hwv : GMap.bads g4 (depsCk (cntOf (s.msgs.take i)) u (v :: j.g.d.drop (u + 1))) = GMap.bads (GMap.bad g4 4 (decide (IntKind.i64.wrap v > (cm.get (u : Nat)).getD 0))) (depsCk (cntOf (s.msgs.take i)) (u + 1) (j.g.d.drop (u + 1))) := by
          rw [hcm]
          simp only [depsCk, wrap64, IntKind.wrap_i64, gt_iff_lt, GMap.bads_cons]
        rw [hdr4, hwv] at hud
        repeat (first | (refine r_index (by exact hda) (by rfl) (by rfl) hult ?_) | (refine r_load (by rfl) ?_; refine LoadC.at (b := Db) (c := Darr) (T := DT) (fz := Dfr) (by rfl) (by rw [Nat.mul_one]; exact hDrow u v hv) ?_) | (refine r_look (by rfl) (by rfl) ?_; refine ReadC.of (fun x => look_count cb cm (u : Nat) x) ?_) | (refine r_fun (by rfl) (by rfl) ?_; refine CallC.gives (g := 45) (breaks45 (t := t) (bb := bb) (lv := lval) (sv := .slice (some ⟨Sb, So, none⟩) n sc) (nm := nm) (g := g4) 4 _) ?_) | refine c_seq ?_ | refine c_reg ?_ | refine r_nil ?_ | refine e_n ?_ | refine CutC.go ?_ | refine r_val (by rfl) ?_ | refine c_yes (by rfl) (by first | with_reducible assumption | decide) ?_ | refine c_skip ?_ | refine c_block ?_ | refine b_n ?_)
        exact MeetC.mk (u + 1, GMap.bad g4 4 (decide (IntKind.i64.wrap v > (cm.get (u : Nat)).getD 0))) ⟨⟨by simp only; omega, hud⟩, by simp only; omega⟩ ⟨rfl, rfl, i64_succ (by omega), rfl, rfl, rfl, rfl, rfl, rfl, rfl, rfl, rfl, rfl, rfl⟩ Incl.of
      · have hd3 : decide ((u : Int) < (j.g.r.dn : Int)) = false := by simp; omega
        have hdr0 : j.g.d.drop u = [] := by rw [List.drop_eq_nil_iff]; omega
        rw [hdr0] at hud
        have hud : GMap.bads g3 (depsCk (cntOf (s.msgs.take i)) 0 j.g.d) = g4 := hud
        rw [hud] at hio
        have hcb : 0 ≤ (cm.get j.g.r.frm).getD 0 ∧ (cm.get j.g.r.frm).getD 0 ≤ 1000 := by
          rw [hcm]
          unfold cntOf
          have h1 := List.length_filter_le (fun x : Mg => x.frm == j.g.r.frm) (s.msgs.take i)
          rw [List.length_take] at h1
          omega
        have hw : IntKind.i64.wrap ((cm.get j.g.r.frm).getD 0 + 1) = (cm.get j.g.r.frm).getD 0 + 1 := IntWalk.i64_in _ (by omega)
        have hc2 : ∀ {L M : Units} [Has L cb (cm.obj ikey ikey)] [Lay L cb ((cm.put j.g.r.frm ((cm.get j.g.r.frm).getD 0 + 1)).obj ikey ikey) M] (x : St L), (Instr.mapUpdate 63 (.map (some cb)) (.int .i64 j.g.r.frm) (.int .i64 (IntKind.i64.wrap ((cm.get j.g.r.frm).getD 0 + 1)))).run Try.prog x.w = .ok () (x.lay cb ((cm.put j.g.r.frm ((cm.get j.g.r.frm).getD 0 + 1)).obj ikey ikey)).w := fun {L M} _ _ x => by rw [hw]; exact upd_count cb cm j.g.r.frm _ x
        repeat (first | (refine r_look (by rfl) (by rfl) ?_; refine ReadC.of (fun x => look_count cb cm j.g.r.frm x) ?_) | (refine r_upd (by rfl) (by rfl) (by rfl) ?_; refine UpdC.of (fun x => ⟨_, hc2 x⟩) ?_) | refine c_seq ?_ | refine c_reg ?_ | refine r_nil ?_ | refine e_n ?_ | refine CutC.go ?_ | refine r_field0 (by rfl) (by rfl) ?_ | refine r_field (by rfl) (by rfl) ?_ | refine r_val (by rfl) ?_ | (refine r_load (by rfl) ?_; refine LoadC.one (by rfl) (by rfl) ?_) | refine c_no (by rfl) (by first | with_reducible assumption | decide) ?_ | refine b_n ?_ | refine c_exit ?_ | refine e_x ?_ | refine b_x1 ?_)
        refine MeetC.mk (i + 1, g4, cm.put j.g.r.frm ((cm.get j.g.r.frm).getD 0 + 1)) ⟨⟨by simp only; omega, ?_, hio⟩, by simp only; omega⟩ ⟨rfl, rfl, rfl, rfl, rfl, rfl, rfl, rfl, i64_succ (by omega), rfl⟩ Incl.of
        intro q
        rw [hmt, cntOf_snoc, GMap.get_put]
        show _ = if q = j.g.r.frm then _ else _
        split
        · rename_i h; rw [h, ← hcm]; rfl
        · exact hcm q
    · have hd2 : decide ((i : Int) < (s.gots.length : Int)) = false := by simp; omega
      have hmd : s.msgs.drop i = [] := by rw [List.drop_eq_nil_iff]; simp [JSt.msgs]; omega
      rw [hmd] at hio
      have hio : GMap.bads g1 (ordCk [] s.msgs) = g2 := hio
      rw [hio] at hh
      repeat (first | refine c_seq ?_ | refine c_reg ?_ | refine r_nil ?_ | refine e_n ?_ | refine CutC.go ?_ | refine r_val (by rfl) ?_ | refine c_no (by rfl) (by first | with_reducible assumption | decide) ?_ | refine b_n ?_ | refine c_exit ?_ | refine e_x ?_ | refine b_x1 ?_)
      exact MeetC.mk (k + 1, g2) ⟨⟨by simp only; omega, hh⟩, by simp only; omega⟩ ⟨rfl, rfl, rfl, i64_succ (by omega), rfl⟩ Incl.of
  · have hd1 : decide ((k : Int) < (n : Int)) = false := by simp; omega
    have hkn : stays.drop k = [] := by rw [List.drop_eq_nil_iff]; omega
    rw [hkn] at hh
    have hh : GMap.bads g (ordJ stays) = g1 := hh
    rw [hh] at hR
    repeat (first | refine c_seq ?_ | refine c_reg ?_ | refine r_nil ?_ | refine e_n ?_ | refine CutC.go ?_ | refine r_val (by rfl) ?_ | refine c_no (by rfl) (by first | with_reducible assumption | decide) ?_ | refine c_exit ?_ | refine e_x ?_ | refine b_x1 ?_ | refine EndC.mk rfl ?_)
    exact hR _ (Incl.refl _)
end
end Go.Proofs.Ythijlgjfgliinaa
end
