/- Part 41 of the proof of what MonJudges says. -/
import Derived.Test.YthijlgjfgliinaaJg40
section
/- The judge: behind (27), walked. -/
set_option linter.all false
namespace Go.Proofs.Ythijlgjfgliinaa
open Go.RowKit
open Go.W
variable [Env]
/-- The places that lie in the map. -/
structure PlOk (evs : List Ev) (k : Nat) (m : GMap Place IV) : Prop where
  row : ∀ p, RowOk ((m.get p).getD (Row.nil, [])).1 1 (((m.get p).getD (Row.nil, [])).2.map ixCell)
  pl : ∀ p, ((m.get p).getD (Row.nil, [])).2 = plOf evs k p
theorem PlOk.empty (evs : List Ev) : PlOk evs 0 (GMap.empty Place IV) := ⟨fun p => by rw [GMap.get_empty]; exact RowOk.mkNil 1, fun p => by rw [GMap.get_empty]; rfl⟩
theorem PlOk.keep {evs : List Ev} {k : Nat} {m : GMap Place IV} {e : Ev} (h : PlOk evs k m) (he : evs[k]? = some e) (hn : ∀ p, isSend e p = false) : PlOk evs (k + 1) m :=
  ⟨h.row, fun p => by rw [h.pl, plOf_succ he, hn p]; simp⟩
theorem PlOk.put {evs : List Ev} {k : Nat} {m : GMap Place IV} {e : Ev} (h : PlOk evs k m) (he : evs[k]? = some e) (hs : e.kind = 1 ∧ e.proc = e.m.frm) (r' : Row) (hr : RowOk r' 1 ((plOf evs k e.place ++ [k]).map ixCell)) : PlOk evs (k + 1) (m.put e.place (r', plOf evs k e.place ++ [k])) where
  row p := by
    rw [GMap.get_put]
    split
    · exact hr
    · exact h.row p
  pl p := by
    rw [GMap.get_put, plOf_succ he]
    by_cases hp : p = e.place
    · rw [if_pos hp, hp]
      have : isSend e e.place = true := by unfold isSend; simp [hs.1, hs.2]
      simp [this]
    · rw [if_neg hp, h.pl]
      have : isSend e p = false := by
        unfold isSend
        have : decide (e.place = p) = false := decide_eq_false (fun h => hp h.symm)
        rw [this, Bool.and_false, Bool.and_false]
      rw [this]; simp
abbrev ixs1 (k : Nat) : List (List Value) := [[.int .i64 (k : Nat)]]
theorem Incl.skip {M N : Units} {u : Blocks} (h : Incl M N) : Incl (u :: M) N := fun w s => h w (SatB.sub (by simp only [List.flatten_cons]; exact List.sublist_append_right _ _) s)
attribute [local irreducible] opsC wpC quietC LoopC DrawC CutC LoadC StoreC ReadC UpdC RunC CallC QCallC EndC thenC inBlockC
set_option maxRecDepth 100000
set_option synthInstance.maxHeartbeats 400000
section
variable {F : Blocks} {evs : List Ev} {ds : List (List Int)} {T : Units} {t bb : Nat} {sv : Value} {nm : Int} {g : GMap Int Bool}
abbrev BhL (t bb mb b o n c : Nat) (sv : Value) (nm : Int) (g : GMap Int Bool) (m : GMap Place IV) (F : Blocks) (T : Units) : Units := [(t, traceO (.slice (some ⟨b, o, none⟩) n c) sv bb nm)] :: [(bb, g.obj ikey bval)] :: [(mb, placesO m)] :: MR 3 m :: F :: T
set_option maxHeartbeats 16000000 in
theorem behind_some {b o c n : Nat} {arr : Array Value} {eT : TypeId} {fr : Nat × Nat} (hm : (b, Obj.cells arr eT fr) ∈ F) (hrow : Go.RowAt arr o 19 (evs.map Ev.cells)) (hn : evs.length = n) (hn5 : n ≤ 500)
    (hdeps : ∀ (i : Nat) (e : Ev), evs[i]? = some e → ∃ d, ds[i]? = some d ∧ GM.ok F ⟨e.m, d⟩) :
    Does Try.prog 27 #[.pointer (some ⟨t, 0, none⟩)] ([(t, traceO (.slice (some ⟨b, o, none⟩) n c) sv bb nm)] :: [(bb, g.obj ikey bval)] :: F :: T)
      (Gives ([(t, traceO (.slice (some ⟨b, o, none⟩) n c) sv bb nm)] :: [(bb, (GMap.bads g (eachCk behindAt [] (absL evs ds))).obj ikey bval)] :: F :: T) (.tuple #[])) := by
  haveI hEB : ∀ {L R : Units} [Unit_ L F R], Has L b (.cells arr eT fr) := fun {L R} h => ⟨h.ok.mem_iff.2 (by simp [hm])⟩
  refine does_of_wpC (args := [.pointer (some ⟨t, 0, none⟩)]) Try.func27 rfl (by kernel_rfl) ?_
  repeat (first | refine c_seq ?_ | refine c_reg ?_)
  refine r_map Place.key ival (fun mb => ?_)
  repeat (first | refine c_seq ?_ | refine c_reg ?_ | refine r_nil ?_ | refine e_n ?_ | refine CutC.go ?_ | refine r_field0 (by rfl) (by rfl) ?_ | refine r_lenS (by rfl) (by rfl) ?_ | refine r_val (by rfl) ?_ | (refine r_load (by rfl) ?_; refine LoadC.one (by rfl) (by rfl) ?_) | refine c_block ?_ | refine c_loop ?_)
  refine LoopC.inv (γ := Nat × GMap Place IV × GMap Int Bool) (fun p => p.1 ≤ n ∧ PlOk evs p.1 p.2.1 ∧ p.2.2 = GMap.bads g (eachCk behindAt [] ((absL evs ds).take p.1))) (fun p => [(0, .pointer (some ⟨t, 0, none⟩)), (2, .map (some mb)), (13, .slice (some ⟨b, o, none⟩) n c), (14, .int .i64 n), (15, .int .i64 (p.1 : Nat))])
    (fun p => BhL t bb mb b o n c sv nm p.2.2 p.2.1 F T) (fun p => n - p.1)
    (MeetC.mk (0, GMap.empty Place IV, g) ⟨by omega, PlOk.empty evs, rfl⟩ ⟨rfl, rfl, rfl, rfl, rfl, rfl⟩ ?_) ?_
  · refine Incl.trans (Incl.of (N := [(t, traceO (.slice (some ⟨b, o, none⟩) n c) sv bb nm)] :: [(bb, g.obj ikey bval)] :: [(mb, placesO (GMap.empty Place IV))] :: F :: T)) ?_
    exact Incl.eqv (Eqv.cons _ (Eqv.cons _ (Eqv.cons _ (Eqv.nil _).symm)))
  · rintro ⟨k, m, g1⟩ ⟨hk, hP, hg1⟩ f0
    simp only at hk hP hg1 ⊢
    by_cases hlt : k < n
    · have hd1 : decide ((k : Int) < (n : Int)) = true := by simp; omega
      obtain ⟨e, he⟩ : ∃ e, evs[k]? = some e := ⟨evs[k]'(by omega), List.getElem?_eq_getElem _⟩
      obtain ⟨d, hdk, hd⟩ := hdeps k e he
      have hec : (evs.map Ev.cells)[k]? = some e.cells := by simp [he]
      have hat := absL_at he hdk
      have htk : (absL evs ds).take (k + 1) = (absL evs ds).take k ++ [e.abs d] := by rw [List.take_add_one, hat]; rfl
      have hstep : GMap.bads g (eachCk behindAt [] ((absL evs ds).take (k + 1))) = GMap.bads g1 (behindAt ((absL evs ds).take k) (e.abs d)) := by rw [htk, behind_snoc, GMap.bads_app, hg1]
      obtain ⟨r, js, hg⟩ : ∃ r js, (m.get e.place).getD (Row.nil, []) = (r, js) := ⟨_, _, rfl⟩
      have hjs : js = plOf evs k e.place := by have := hP.pl e.place; rw [hg] at this; exact this
      have hrow' : RowOk r 1 (js.map ixCell) := by have := hP.row e.place; rw [hg] at this; exact this
      obtain ⟨X, hX1, hX2⟩ := MR_focus 3 ([] : List Nat) ival hg
      have hjl : js.length ≤ k := by rw [hjs]; exact plOf_len _ _ _
      obtain ⟨ra, rc, hrv, hsl⟩ := r.val_slice hrow' 3
      rw [List.length_map] at hrv hsl
      have meet : ∀ (m' : GMap Place IV) (g2 : GMap Int Bool), PlOk evs (k + 1) m' → g2 = GMap.bads g1 (behindAt ((absL evs ds).take k) (e.abs d)) → ∀ {f : Fr} {M : Units}, Incl M (BhL t bb mb b o n c sv nm g2 m' F T) → AllAt f [(0, .pointer (some ⟨t, 0, none⟩)), (2, .map (some mb)), (13, .slice (some ⟨b, o, none⟩) n c), (14, .int .i64 n), (15, .int .i64 (k + 1 : Nat))] →
          MeetC (fun p : Nat × GMap Place IV × GMap Int Bool => (p.1 ≤ n ∧ PlOk evs p.1 p.2.1 ∧ p.2.2 = GMap.bads g (eachCk behindAt [] ((absL evs ds).take p.1))) ∧ n - p.1 < n - k) (fun p => [(0, .pointer (some ⟨t, 0, none⟩)), (2, .map (some mb)), (13, .slice (some ⟨b, o, none⟩) n c), (14, .int .i64 n), (15, .int .i64 (p.1 : Nat))])
            (fun p => BhL t bb mb b o n c sv nm p.2.2 p.2.1 F T) f M := by
        intro m' g2 h1 h2 f M hM ha
        exact MeetC.mk (k + 1, m', g2) ⟨⟨by simp only; omega, h1, by rw [hstep]; exact h2⟩, by simp only; omega⟩ ha hM
      have hfoc : Incl (BhL t bb mb b o n c sv nm g1 m F T) ([(t, traceO (.slice (some ⟨b, o, none⟩) n c) sv bb nm)] :: [(bb, g1.obj ikey bval)] :: [(mb, placesO m)] :: r.u 3 :: X :: F :: T) :=
        Incl.eqv (Eqv.cons _ (Eqv.cons _ (Eqv.cons _ ((Eqv.head hX1 _).trans (Eqv.split _ _ _)))))
      have hfoc2 : ∀ g2 : GMap Int Bool, Incl ([(t, traceO (.slice (some ⟨b, o, none⟩) n c) sv bb nm)] :: [(bb, g2.obj ikey bval)] :: [(mb, placesO m)] :: r.u 3 :: X :: F :: T) (BhL t bb mb b o n c sv nm g2 m F T) := fun g2 =>
        Incl.eqv (Eqv.cons _ (Eqv.cons _ (Eqv.cons _ ((Eqv.head hX1 _).trans (Eqv.split _ _ _)).symm)))
      have hback : ∀ (r' : Row), Incl ([(t, traceO (.slice (some ⟨b, o, none⟩) n c) sv bb nm)] :: [(bb, g1.obj ikey bval)] :: [(mb, placesO (m.put e.place (r', js ++ [k])))] :: r'.u 3 :: X :: F :: T) (BhL t bb mb b o n c sv nm g1 (m.put e.place (r', js ++ [k])) F T) := fun r' =>
        Incl.eqv (Eqv.cons _ (Eqv.cons _ (Eqv.cons _ ((Eqv.head (hX2 (r', js ++ [k])) _).trans (Eqv.split _ _ _)).symm)))
      by_cases k1 : e.kind = 1 ∧ e.proc = e.m.frm
      · have hb1 : (e.kind == 1) = true := by simp [k1.1]
        have hb2 : (e.proc == e.m.frm) = true := by simp [k1.2]
        have hbh : behindAt ((absL evs ds).take k) (e.abs d) = [] := by unfold behindAt; rw [if_neg (show ¬ (e.abs d).kind = 2 by show ¬ e.kind = 2; omega)]
        have h1 : ∀ {L M : Units} [Has L mb (placesO m)] [Lay L mb (placesO (m.touch e.place (Row.nil, []))) M] (x : St L), (Instr.mapEntry 100 (.map (some mb)) (.agg #[.int .u64 e.epoch, .int .i64 e.rep, .int .i64 e.m.frm, .int .u32 e.m.seq])).run Try.prog x.w = .ok (.tuple #[.slice ra js.length rc, .int .i64 (m.stamp e.place)]) (x.lay mb (placesO (m.touch e.place (Row.nil, [])))).w := fun x => by
          rw [← hrv]; exact entry_ix mb m e.place (r, js) hg x
        repeat (first | refine c_seq ?_ | refine c_reg ?_ | refine r_nil ?_ | refine e_n ?_ | refine r_val (by rfl) ?_)
        refine CutC.weak hfoc (CutC.go ?_)
        repeat (first | (refine r_index (b := b) (by rfl) (by rfl) (by rfl) hlt ?_) | (refine r_load (by rfl) ?_; refine LoadC.row (b := b) hrow hec rfl (by rfl) ?_) | (refine r_ent (by rfl) (by rfl) ?_; refine RunC.of (fun x => ⟨_, h1 x⟩) ?_) | (refine r_app (by rfl) (by rfl) ?_; refine RunC.appS (P := Try.prog) (e := 3) (s := 1) (bytes := 8) (z := .int .i64 0) r (js.map ixCell) (ixs1 k) _ hrv (by rfl) Try.info3 rfl (by simp) hrow' (by intro c hc; simp only [List.mem_singleton] at hc; subst hc; rfl) (SlIn.one57 _ _ 3) (by intro u hu; simp at hu; subst hu; rfl) (by omega) (by omega) (fun r' a' c' hok' hv' hs' => ?_)) | refine c_seq ?_ | refine c_reg ?_ | refine r_nil ?_ | refine e_n ?_ | refine CutC.go ?_ | refine r_field0 (by rfl) (by rfl) ?_ | refine r_field (by rfl) (by rfl) ?_ | refine r_val (by rfl) ?_ | (refine r_load (by rfl) ?_; refine LoadC.one (by rfl) (by rfl) ?_) | (refine r_store (by rfl) (by rfl) ?_; refine StoreC.all (by rfl) (by rfl) (by rfl) (by rfl) (by rfl) ?_) | refine r_gT (by rfl) (by first | with_reducible assumption | decide) ?_ | refine r_pickT (by rfl) (by first | with_reducible assumption | decide) (by rfl) ?_ | refine c_yes (by rfl) (by first | with_reducible assumption | decide) ?_ | refine c_skip ?_ | refine c_block ?_ | refine r_alloc (by rfl) (by rfl) (fun _ => ?_) | refine r_build (by rfl) (by rfl) ?_ | refine r_slice (by rfl) (by rfl) (fun _ => ?_) | (refine r_load (by rfl) ?_; refine LoadC.agg (by rfl) (by rfl) ?_))
        refine r_est (by rfl) (by rfl) (by rfl) ?_
        refine UpdC.of (fun x => ⟨_, by rw [← hv']; exact put_ix mb m e.place r' (js ++ [k]) (js.length + 1) (by simp) x⟩) ?_
        repeat (first | refine c_reg ?_ | refine r_nil ?_ | refine e_n ?_ | refine CutC.go ?_ | refine r_val (by rfl) ?_ | refine b_n ?_)
        refine meet (m.put e.place (r', js ++ [k])) g1 (by rw [hjs]; exact hP.put he k1 r' (by rw [← hjs, List.map_append]; exact hok')) (by rw [hbh]; rfl) (Incl.trans Incl.of (hback r')) ⟨rfl, rfl, rfl, rfl, i64_succ (by omega), rfl⟩
      have hns : ∀ p, isSend e p = false := fun p => by
        unfold isSend
        cases h1 : e.kind == 1 with
        | false => rfl
        | true =>
          cases h2 : e.proc == e.m.frm with
          | false => rfl
          | true => exact absurd ⟨by simpa using h1, by simpa using h2⟩ k1
      by_cases k2 : e.kind = 2
      · have hb1 : (e.kind == 1) = false := by simp [k2]
        have hb2 : (e.kind == 2) = true := by simp [k2]
        repeat (first | refine c_seq ?_ | refine c_reg ?_ | refine r_nil ?_ | refine e_n ?_ | refine r_val (by rfl) ?_)
        refine CutC.weak hfoc (CutC.go ?_)
        repeat (first | (refine r_index (b := b) (by rfl) (by rfl) (by rfl) hlt ?_) | (refine r_load (by rfl) ?_; refine LoadC.row (b := b) hrow hec rfl (by rfl) ?_) | (refine r_look (by rfl) (by rfl) ?_; refine ReadC.of (v := .slice ra js.length rc) (fun x => by rw [← hrv]; exact look_ix mb m e.place (r, js) hg x) ?_) | refine c_seq ?_ | refine c_reg ?_ | refine r_nil ?_ | refine e_n ?_ | refine CutC.go ?_ | refine r_field0 (by rfl) (by rfl) ?_ | refine r_field (by rfl) (by rfl) ?_ | refine r_lenS (by rfl) (by rfl) ?_ | refine r_val (by rfl) ?_ | (refine r_load (by rfl) ?_; refine LoadC.one (by rfl) (by rfl) ?_) | (refine r_store (by rfl) (by rfl) ?_; refine StoreC.all (by rfl) (by rfl) (by rfl) (by rfl) (by rfl) ?_) | refine r_gnT (by rfl) (by first | with_reducible assumption | decide) ?_ | refine r_pickF (by rfl) (by first | with_reducible assumption | decide) (by rfl) ?_ | refine c_yes (by rfl) (by first | with_reducible assumption | decide) ?_ | refine c_no (by rfl) (by first | with_reducible assumption | decide) ?_ | refine c_skip ?_ | refine c_block ?_ | refine r_alloc (by rfl) (by rfl) (fun _ => ?_) | refine r_build (by rfl) (by rfl) ?_ | refine c_loop ?_ | (refine r_load (by rfl) ?_; refine LoadC.agg (by rfl) (by rfl) ?_))
        rename_i xb kb
        obtain ⟨mgs, hmgs, hmgl⟩ : ∃ mgs : List Mg, sentOf ((absL evs ds).take k) e.place = mgs ∧ ∀ (q j : Nat), js[q]? = some j → ∃ (ej : Ev) (dj : List Int), evs[j]? = some ej ∧ j < n ∧ GM.ok F ⟨ej.m, dj⟩ ∧ mgs[q]? = some (GM.mg ⟨ej.m, dj⟩) := by
          refine ⟨_, rfl, fun q j hq => ?_⟩
          have hjk : j < k := by rw [hjs] at hq; exact plOf_lt (List.mem_of_getElem? hq)
          obtain ⟨ej, hej⟩ : ∃ ej, evs[j]? = some ej := ⟨evs[j]'(by omega), List.getElem?_eq_getElem _⟩
          obtain ⟨dj, hdj, hdo⟩ := hdeps j ej hej
          refine ⟨ej, dj, hej, by omega, hdo, ?_⟩
          rw [sentOf_pl (fun i e h => by obtain ⟨d, h1, _⟩ := hdeps i e h; exact ⟨d, h1⟩) e.place k (by omega), ← hjs]
          have hall : ∀ (l : List Nat) (q : Nat), (∀ j ∈ l, ∃ a, ((absL evs ds)[j]?).map (·.m) = some a) → (l.filterMap fun j => ((absL evs ds)[j]?).map (·.m))[q]? = (l[q]?).bind fun j => ((absL evs ds)[j]?).map (·.m) := by
            intro l
            induction l with
            | nil => intro q _; simp
            | cons x l ih =>
              intro q h
              obtain ⟨a, ha⟩ := h x (by simp)
              rw [List.filterMap_cons, ha]
              cases q with
              | zero => simp [ha]
              | succ q => simpa using ih q (fun j hj => h j (by simp [hj]))
          rw [hall js q (fun j' hj' => by
            have hj'k : j' < k := by rw [hjs] at hj'; exact plOf_lt hj'
            obtain ⟨e', he'⟩ : ∃ e', evs[j']? = some e' := ⟨evs[j']'(by omega), List.getElem?_eq_getElem _⟩
            obtain ⟨d', hd', _⟩ := hdeps j' e' he'
            exact ⟨_, by rw [absL_at he' hd']; rfl⟩), hq]
          simp only [Option.bind_some, absL_at hej hdj]
          rfl
        have hmlen : mgs.length = js.length := by
          rw [← hmgs, sentOf_pl (fun i e h => by obtain ⟨d, h1, _⟩ := hdeps i e h; exact ⟨d, h1⟩) e.place k (by omega), ← hjs]
          have : ∀ (l : List Nat), (∀ j ∈ l, ∃ a, ((absL evs ds)[j]?).map (·.m) = some a) → (l.filterMap fun j => ((absL evs ds)[j]?).map (·.m)).length = l.length := by
            intro l
            induction l with
            | nil => intro _; rfl
            | cons x l ih =>
              intro h
              obtain ⟨a, ha⟩ := h x (by simp)
              rw [List.filterMap_cons, ha]
              simp [ih (fun j hj => h j (by simp [hj]))]
          refine this js (fun j' hj' => ?_)
          have hj'k : j' < k := by rw [hjs] at hj'; exact plOf_lt hj'
          obtain ⟨e', he'⟩ : ∃ e', evs[j']? = some e' := ⟨evs[j']'(by omega), List.getElem?_eq_getElem _⟩
          obtain ⟨d', hd', _⟩ := hdeps j' e' he'
          exact ⟨_, by rw [absL_at he' hd']; rfl⟩
        have hbh : behindAt ((absL evs ds).take k) (e.abs d) = [(2, (cntMg (e.abs d).m mgs : Int) != 1)] := by
          unfold behindAt
          rw [if_pos (show (e.abs d).kind = 2 from k2)]
          rw [show (e.abs d).place = e.place from rfl, hmgs]
        refine LoopC.inv (γ := Nat × Nat) (fun p => p.1 ≤ js.length ∧ p.2 ≤ p.1 ∧ cntMg (e.abs d).m mgs = p.2 + cntMg (e.abs d).m (mgs.drop p.1)) (fun p => [(0, .pointer (some ⟨t, 0, none⟩)), (2, .map (some mb)), (4, .pointer (some ⟨xb, 0, none⟩)), (13, .slice (some ⟨b, o, none⟩) n c), (14, .int .i64 n), (15, .int .i64 (k : Nat)), (6, .int .i64 (p.2 : Nat)), (55, .slice ra js.length rc), (56, .int .i64 js.length), (57, .int .i64 (p.1 : Nat))])
          (fun _ => [(xb, evO e)] :: [(t, traceO (.slice (some ⟨b, o, none⟩) n c) sv bb nm)] :: [(bb, g1.obj ikey bval)] :: [(mb, placesO m)] :: r.u 3 :: X :: F :: T) (fun p => js.length - p.1)
          (MeetC.mk (0, 0) ⟨by omega, Nat.le_refl 0, by simp⟩ ⟨rfl, rfl, rfl, rfl, rfl, rfl, rfl, rfl, rfl, rfl, rfl⟩ Incl.of) ?_
        rintro ⟨q, cn⟩ ⟨hq, hcn, hcc⟩ f1
        simp only at hq hcn hcc ⊢
        by_cases hqlt : q < js.length
        · have hd2 : decide ((q : Int) < (js.length : Int)) = true := by simp; omega
          obtain ⟨jj, hjj⟩ : ∃ jj, js[q]? = some jj := ⟨js[q], List.getElem?_eq_getElem hqlt⟩
          obtain ⟨ej, dj, hej, hjn, hdj, hmq⟩ := hmgl q jj hjj
          have hejc : (evs.map Ev.cells)[jj]? = some ej.cells := by simp [hej]
          rcases hsl.2 with h0 | ⟨Rb, Ro, Rarr, RT, Rfr, rfl, hRm, hRrow⟩
          · omega
          haveI hRB : ∀ {L R : Units} [Unit_ L (r.u 3) R], Has L Rb (.cells Rarr RT Rfr) := fun {L R} h => ⟨h.ok.mem_iff.2 (by simp [hRm])⟩
          have hjc : (js.map ixCell)[q]? = some [.int .i64 (jj : Nat)] := by simp [hjj, ixCell]
          have hdr : mgs.drop q = GM.mg ⟨ej.m, dj⟩ :: mgs.drop (q + 1) := by
            obtain ⟨h2, h3⟩ := List.getElem?_eq_some_iff.1 hmq
            rw [List.drop_eq_getElem_cons h2, h3]
          have hst : cntMg (e.abs d).m (mgs.drop q) = (if GM.mg ⟨e.m, d⟩ = GM.mg ⟨ej.m, dj⟩ then 1 else 0) + cntMg (e.abs d).m (mgs.drop (q + 1)) := by rw [hdr]; rfl
          have hsm := fun {L R : Units} [Unit_ L F R] (y : St L) => same_spec44 (F := F) ⟨ej.m, dj⟩ ⟨e.m, d⟩ hdj hd y
          have hcm : decide (GM.mg ⟨ej.m, dj⟩ = GM.mg ⟨e.m, d⟩) = decide (GM.mg ⟨e.m, d⟩ = GM.mg ⟨ej.m, dj⟩) := by simp [eq_comm]
          rw [hcm] at hsm
          cases hdec : decide (GM.mg ⟨e.m, d⟩ = GM.mg ⟨ej.m, dj⟩) with
          | true =>
            have hif : cntMg (e.abs d).m mgs = cn + 1 + cntMg (e.abs d).m (mgs.drop (q + 1)) := by rw [hcc, hst, if_pos (of_decide_eq_true hdec)]; omega
            rw [hdec] at hsm
            repeat (first | (refine r_index (b := Rb) (by rfl) (by rfl) (by rfl) hqlt ?_) | (refine r_load (by rfl) ?_; refine LoadC.row1 (b := Rb) hRrow hjc (by rfl) ?_) | refine c_seq ?_ | refine c_reg ?_ | refine r_nil ?_ | refine e_n ?_ | refine CutC.go ?_ | refine r_val (by rfl) ?_ | refine c_yes (by rfl) (by first | with_reducible assumption | decide) ?_ | refine c_skip ?_ | refine c_block ?_ | refine c_draw ?_)
            refine d_tail 10 (by kernel_rfl) ?_
            simp only [List.take_succ_cons, List.take_zero, List.drop_succ_cons, List.drop_zero]
            repeat (first | (refine q_index (k := jj) (by rfl) (by rfl) (by rfl) hjn ?_) | (refine q_load (by rfl) ?_; refine LoadC.rowPart (b := b) (q := 7) (n := 6) (vs := [.int .i64 ej.m.frm, .int .u32 ej.m.seq, .int .u64 ej.m.stamp, .int .i64 ej.m.svc, .slice ej.m.da ej.m.dn ej.m.dc, .string ej.m.pay]) hrow hejc rfl rfl (by rfl) ?_) | (refine r_fun (by rfl) (by rfl) ?_; refine CallC.ret (g := 44) (fun y => hsm y) ?_) | (refine q_nil ?_) | refine c_reg ?_ | refine r_nil ?_ | refine e_n ?_ | refine CutC.go ?_ | refine r_val (by rfl) ?_ | refine c_yes (by rfl) (by first | with_reducible assumption | decide) ?_ | refine b_n ?_ | refine q_field0 (by rfl) (by rfl) ?_ | refine q_field (by rfl) (by rfl) ?_ | refine q_val (by rfl) ?_ | (refine q_load (by rfl) ?_; refine LoadC.one (by rfl) (by rfl) ?_) | (refine q_load (by rfl) ?_; refine LoadC.agg (by rfl) (by rfl) ?_))
            exact MeetC.mk (q + 1, cn + 1) ⟨⟨by simp only; omega, by simp only; omega, hif⟩, by simp only; omega⟩ ⟨rfl, rfl, rfl, rfl, rfl, rfl, i64_succ (by omega), rfl, rfl, i64_succ (by omega), rfl⟩ Incl.of
          | false =>
            have hif : cntMg (e.abs d).m mgs = cn + cntMg (e.abs d).m (mgs.drop (q + 1)) := by rw [hcc, hst, if_neg (of_decide_eq_false hdec)]; omega
            rw [hdec] at hsm
            repeat (first | (refine r_index (b := Rb) (by rfl) (by rfl) (by rfl) hqlt ?_) | (refine r_load (by rfl) ?_; refine LoadC.row1 (b := Rb) hRrow hjc (by rfl) ?_) | refine c_seq ?_ | refine c_reg ?_ | refine r_nil ?_ | refine e_n ?_ | refine CutC.go ?_ | refine r_val (by rfl) ?_ | refine c_yes (by rfl) (by first | with_reducible assumption | decide) ?_ | refine c_skip ?_ | refine c_block ?_ | refine c_draw ?_)
            refine d_tail 10 (by kernel_rfl) ?_
            simp only [List.take_succ_cons, List.take_zero, List.drop_succ_cons, List.drop_zero]
            repeat (first | (refine q_index (k := jj) (by rfl) (by rfl) (by rfl) hjn ?_) | (refine q_load (by rfl) ?_; refine LoadC.rowPart (b := b) (q := 7) (n := 6) (vs := [.int .i64 ej.m.frm, .int .u32 ej.m.seq, .int .u64 ej.m.stamp, .int .i64 ej.m.svc, .slice ej.m.da ej.m.dn ej.m.dc, .string ej.m.pay]) hrow hejc rfl rfl (by rfl) ?_) | (refine r_fun (by rfl) (by rfl) ?_; refine CallC.ret (g := 44) (fun y => hsm y) ?_) | (refine q_nil ?_) | refine c_reg ?_ | refine r_nil ?_ | refine e_n ?_ | refine CutC.go ?_ | refine r_val (by rfl) ?_ | refine c_no (by rfl) (by first | with_reducible assumption | decide) ?_ | refine c_skip ?_ | refine b_n ?_ | refine q_field0 (by rfl) (by rfl) ?_ | refine q_field (by rfl) (by rfl) ?_ | refine q_val (by rfl) ?_ | (refine q_load (by rfl) ?_; refine LoadC.one (by rfl) (by rfl) ?_) | (refine q_load (by rfl) ?_; refine LoadC.agg (by rfl) (by rfl) ?_))
            exact MeetC.mk (q + 1, cn) ⟨⟨by simp only; omega, by simp only; omega, hif⟩, by simp only; omega⟩ ⟨rfl, rfl, rfl, rfl, rfl, rfl, rfl, rfl, rfl, i64_succ (by omega), rfl⟩ Incl.of
        · have hd2 : decide ((q : Int) < (js.length : Int)) = false := by simp; omega
          have hdr0 : mgs.drop q = [] := by rw [List.drop_eq_nil_iff]; omega
          rw [hdr0] at hcc
          have hcc : cntMg (e.abs d).m mgs = cn := hcc
          rw [hcc] at hbh
          repeat (first | (refine r_fun (by rfl) (by rfl) ?_; refine CallC.gives (g := 45) (breaks45 (t := t) (bb := bb) (lv := .slice (some ⟨b, o, none⟩) n c) (sv := sv) (nm := nm) (g := g1) 2 _) ?_) | refine c_seq ?_ | refine c_reg ?_ | refine r_nil ?_ | refine e_n ?_ | refine CutC.go ?_ | refine r_val (by rfl) ?_ | refine c_no (by rfl) (by first | with_reducible assumption | decide) ?_ | refine b_n ?_ | refine c_exit ?_ | refine e_x ?_ | refine b_x1 ?_)
          exact meet m (GMap.bad g1 2 ((cn : Int) != 1)) (hP.keep he hns) (by rw [hbh]; rfl) (Incl.trans Incl.of (hfoc2 _)) ⟨rfl, rfl, rfl, rfl, i64_succ (by omega), rfl⟩
      have hb2 : (e.kind == 2) = false := by simp [k2]
      have hbh : behindAt ((absL evs ds).take k) (e.abs d) = [] := by unfold behindAt; rw [if_neg (show ¬ (e.abs d).kind = 2 from k2)]
      by_cases k0 : e.kind = 1
      · have hb1 : (e.kind == 1) = true := by simp [k0]
        have hb3 : (e.proc == e.m.frm) = false := by
          cases h2 : e.proc == e.m.frm with
          | false => rfl
          | true => exact absurd ⟨k0, by simpa using h2⟩ k1
        repeat (first | (refine r_index (b := b) (by rfl) (by rfl) (by rfl) hlt ?_) | (refine r_load (by rfl) ?_; refine LoadC.row (b := b) hrow hec rfl (by rfl) ?_) | refine c_seq ?_ | refine c_reg ?_ | refine r_nil ?_ | refine e_n ?_ | refine CutC.go ?_ | refine r_field0 (by rfl) (by rfl) ?_ | refine r_field (by rfl) (by rfl) ?_ | refine r_val (by rfl) ?_ | (refine r_load (by rfl) ?_; refine LoadC.one (by rfl) (by rfl) ?_) | (refine r_store (by rfl) (by rfl) ?_; refine StoreC.all (by rfl) (by rfl) (by rfl) (by rfl) (by rfl) ?_) | refine r_gT (by rfl) (by first | with_reducible assumption | decide) ?_ | refine r_pickT (by rfl) (by first | with_reducible assumption | decide) (by rfl) ?_ | refine c_yes (by rfl) (by first | with_reducible assumption | decide) ?_ | refine c_no (by rfl) (by first | with_reducible assumption | decide) ?_ | refine c_skip ?_ | refine c_block ?_ | refine b_n ?_ | refine r_alloc (by rfl) (by rfl) (fun _ => ?_) | refine r_build (by rfl) (by rfl) ?_ | (refine r_load (by rfl) ?_; refine LoadC.agg (by rfl) (by rfl) ?_))
        exact meet m g1 (hP.keep he hns) (by rw [hbh]; rfl) Incl.of ⟨rfl, rfl, rfl, rfl, i64_succ (by omega), rfl⟩
      · have hb1 : (e.kind == 1) = false := by simp [k0]
        repeat (first | (refine r_index (b := b) (by rfl) (by rfl) (by rfl) hlt ?_) | (refine r_load (by rfl) ?_; refine LoadC.row (b := b) hrow hec rfl (by rfl) ?_) | refine c_seq ?_ | refine c_reg ?_ | refine r_nil ?_ | refine e_n ?_ | refine CutC.go ?_ | refine r_field0 (by rfl) (by rfl) ?_ | refine r_field (by rfl) (by rfl) ?_ | refine r_val (by rfl) ?_ | (refine r_load (by rfl) ?_; refine LoadC.one (by rfl) (by rfl) ?_) | (refine r_store (by rfl) (by rfl) ?_; refine StoreC.all (by rfl) (by rfl) (by rfl) (by rfl) (by rfl) ?_) | refine r_gnT (by rfl) (by first | with_reducible assumption | decide) ?_ | refine r_pickF (by rfl) (by first | with_reducible assumption | decide) (by rfl) ?_ | refine c_yes (by rfl) (by first | with_reducible assumption | decide) ?_ | refine c_no (by rfl) (by first | with_reducible assumption | decide) ?_ | refine c_skip ?_ | refine c_block ?_ | refine b_n ?_ | refine r_alloc (by rfl) (by rfl) (fun _ => ?_) | refine r_build (by rfl) (by rfl) ?_ | (refine r_load (by rfl) ?_; refine LoadC.agg (by rfl) (by rfl) ?_))
        exact meet m g1 (hP.keep he hns) (by rw [hbh]; rfl) Incl.of ⟨rfl, rfl, rfl, rfl, i64_succ (by omega), rfl⟩
    · have hd1 : decide ((k : Int) < (n : Int)) = false := by simp; omega
      have hkn : k = n := by omega
      subst hkn
      have hall : (absL evs ds).take k = absL evs ds := by
        refine List.take_of_length_le ?_
        unfold absL
        rw [List.length_zipWith]; omega
      rw [hall] at hg1
      repeat (first | refine c_seq ?_ | refine c_reg ?_ | refine r_nil ?_ | refine e_n ?_ | refine CutC.go ?_ | refine r_val (by rfl) ?_ | refine c_no (by rfl) (by first | with_reducible assumption | decide) ?_ | refine c_exit ?_ | refine e_x ?_ | refine b_x1 ?_ | refine EndC.mk rfl ?_)
      refine Gives.mk rfl ?_
      rw [hg1]
      exact Incl.of
end
end Go.Proofs.Ythijlgjfgliinaa
end
