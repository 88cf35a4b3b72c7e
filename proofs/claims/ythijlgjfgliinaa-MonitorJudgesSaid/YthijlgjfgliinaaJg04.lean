/- Part 4 of the proof of what MonJudges says. -/
import Derived.Test.YthijlgjfgliinaaJg03
section
/- Rows that grow: what append comes to, over names of worlds. -/
set_option linter.all false
namespace Go
variable [Env]
/-- A row of a call's own: no block yet, or a block, what it has room for, its cells. -/
structure Row where
  b : Option Nat
  cap : Nat
  arr : Array Value
def Row.val (r : Row) (n : Nat) : Value := match r.b with
  | none => .slice none 0 0
  | some b => .slice (some ⟨b, 0, none⟩) n r.cap
def Row.u (r : Row) (T : TypeId) : Blocks := match r.b with
  | none => []
  | some b => [(b, .cells r.arr T)]
def Row.nil : Row := ⟨none, 0, #[]⟩
structure RowOk (r : Row) (s : Nat) (els : List (List Value)) : Prop where
  nil : r.b = none → els = []
  len : ∀ c ∈ els, c.length = s
  size : r.b ≠ none → r.arr.size = r.cap * s
  le : r.b ≠ none → els.length ≤ r.cap
  at_ : r.b ≠ none → r.arr.toList.take (els.length * s) = els.flatten
theorem RowOk.mkNil (s : Nat) : RowOk Row.nil s [] := ⟨fun _ => rfl, by simp, fun h => absurd rfl h, fun h => absurd rfl h, fun h => absurd rfl h⟩

/-- From place o on an array has a row of things of s cells each. -/
def RowAt (arr : Array Value) (o s : Nat) (els : List (List Value)) : Prop := ∀ i c, els[i]? = some c → ∀ j v, c[j]? = some v → arr[o + i * s + j]? = some v
theorem flatten_at {s : Nat} : ∀ (els : List (List Value)), (∀ c ∈ els, c.length = s) → ∀ i c, els[i]? = some c → ∀ j v, c[j]? = some v → els.flatten[i * s + j]? = some v
  | [], _, i, c, h, _, _, _ => by simp at h
  | e :: els, hl, 0, c, h, j, v, hv => by
    simp only [List.getElem?_cons_zero, Option.some.injEq] at h
    subst h
    have hj := (List.getElem?_eq_some_iff.1 hv).1
    rw [List.flatten_cons, Nat.zero_mul, Nat.zero_add, List.getElem?_append_left hj]
    exact hv
  | e :: els, hl, i + 1, c, h, j, v, hv => by
    simp only [List.getElem?_cons_succ] at h
    have he : e.length = s := hl e (by simp)
    have := flatten_at els (fun c hc => hl c (by simp [hc])) i c h j v hv
    rw [List.flatten_cons, List.getElem?_append_right (by rw [he, Nat.succ_mul]; omega), he, Nat.succ_mul]
    have e2 : i * s + s + j - s = i * s + j := by omega
    rw [e2]
    exact this
theorem RowOk.rowAt {r : Row} {s : Nat} {els : List (List Value)} (h : RowOk r s els) (hb : r.b ≠ none) : RowAt r.arr 0 s els := by
  intro i c hc j v hv
  have h1 := flatten_at els h.len i c hc j v hv
  rw [← h.at_ hb, List.getElem?_take] at h1
  split at h1
  · rw [Nat.zero_add]; simpa using h1
  · cases h1

/-- What a slice holds: nothing, or a row that is listed. -/
def SlIn (U : Blocks) (a : Option Addr) (n s : Nat) (els : List (List Value)) : Prop :=
  els.length = n ∧ (n = 0 ∨ ∃ b o arr T fr, a = some ⟨b, o, none⟩ ∧ (b, Obj.cells arr T fr) ∈ U ∧ RowAt arr o s els)
theorem Row.val_slice (r : Row) {s : Nat} {els : List (List Value)} (h : RowOk r s els) (T : TypeId) : ∃ a c, r.val els.length = .slice a els.length c ∧ SlIn (r.u T) a els.length s els := by
  cases hb : r.b with
  | none =>
    have := h.nil hb
    subst this
    exact ⟨none, 0, by simp [Row.val, hb], rfl, .inl rfl⟩
  | some b =>
    refine ⟨some ⟨b, 0, none⟩, r.cap, by simp [Row.val, hb], rfl, ?_⟩
    exact .inr ⟨b, 0, r.arr, T, (0, 0), rfl, by simp [Row.u, hb], h.rowAt (by simp [hb])⟩

theorem heap_setRow {w : World} {g : Nat} {cs0 cs : Array Value} {e : TypeId} {fr : Nat × Nat} (h : w.heap[g]? = some (.cells cs0 e fr)) : (w.setRow g cs).heap[g]? = some (.cells cs e fr) := by
  simp [World.setRow, Array.getElem?_modify, h]
theorem heap_setRow_ne {w : World} {g : Nat} {cs : Array Value} (c : Nat) (h : c ≠ g) : (w.setRow g cs).heap[c]? = w.heap[c]? := by
  simp only [World.setRow, Array.getElem?_modify]
  rw [if_neg (Ne.symm h)]

section
variable {P : Program}
theorem size_zeros (z : Array Value) (n : Nat) : (Builtin.zeroCells z n).size = n * z.size := by simp [Builtin.zeroCells]

/-- append onto a row, of what lies somewhere. -/
theorem run_append_row (r : Row) (els news : List (List Value)) (s bytes : Nat) (t ty e : TypeId) (i : TypeInfo) (z : Value) (ht : P.underlying t = some (.slice e)) (hi : P.info? e = some i) (hz : i.zero = some z)
    (hsize : i.size = s) (hby : i.bytes = bytes) (hzs : z.cells.size = s) (hok : RowOk r s els) (hnl : ∀ c ∈ news, c.length = s) {L R : Units} (x : St L) [hU : Unit_ L (r.u e) R]
    (ad : Option Addr) (m c : Nat) (hm : news.length = m) (hread : m ≠ 0 → ∃ a, ad = some a ∧ ∀ j u, news.flatten[j]? = some u → x.w.cell? (a.add j) = some u) (h1 : ∀ u ∈ news.flatten, u.oneCell' = true)
    (hbytes : (els.length + m) * bytes ≤ 140737488355328) (hlen : els.length + m ≤ 9223372036854775807) :
    ∃ (r' : Row) (y : St (r'.u e :: R)), (Builtin.append_ #[t, t] ty #[r.val els.length, .slice ad m c]).run P x.w = .ok (r'.val (els.length + m)) y.w ∧ RowOk r' s (els ++ news) := by
  subst hsize; subst hby
  have hfl : news.flatten.length = m * i.size := by
    rw [← hm]
    clear hread h1 hm hbytes hlen
    induction news with
    | nil => simp
    | cons c news ih => rw [List.flatten_cons, List.length_append, hnl c (by simp), ih (fun c hc => hnl c (by simp [hc])), List.length_cons, Nat.succ_mul]; omega
  have hel : els.flatten.length = els.length * i.size := by
    have := hok.len
    clear hread h1 hm hbytes hlen hok
    induction els with
    | nil => simp
    | cons c els ih => rw [List.flatten_cons, List.length_append, this c (by simp), ih (fun c hc => this c (by simp [hc])), List.length_cons, Nat.succ_mul]; omega
  have hlen' : ∀ c ∈ els ++ news, c.length = i.size := fun c hc => by
    rcases List.mem_append.1 hc with h | h
    · exact hok.len c h
    · exact hnl c h
  by_cases hm0 : m = 0
  · -- nothing comes
    subst hm0
    have hn : news = [] := List.eq_nil_of_length_eq_zero hm
    subst hn
    refine ⟨r, x.re hU.ok, ?_, by simpa using hok⟩
    show _ = Result.ok _ x.w
    cases hb : r.b with
    | none =>
      have := hok.nil hb
      subst this
      simp [Row.val, hb, Builtin.append_, run_underlying ht, sizeOf, typeInfo, hi, Builtin.lenOf, Builtin.firstCells, loadCells, loadCellsFrom]
      cases ad <;> simp [Builtin.firstCells, loadCells, loadCellsFrom]
    | some b =>
      have hle := hok.le (by simp [hb])
      simp [Row.val, hb, Builtin.append_, run_underlying ht, sizeOf, typeInfo, hi, Builtin.lenOf, hle]
      cases ad <;> simp [Builtin.firstCells, loadCells, loadCellsFrom, storeCells]
  · obtain ⟨a, rfl, hnews⟩ := hread hm0
    have fresh : ∀ (cap' : Nat) (w' : World), els.length + m ≤ cap' → Sat w' R → ∀ (nb : Nat), w'.heap.size = nb → ∃ (r' : Row) (y : St (r'.u e :: R)), (.ok (Value.slice (some ⟨nb, 0, none⟩) (els.length + m) cap') (w'.alloc (.cells (els.flatten.toArray ++ news.flatten.toArray ++ Builtin.zeroCells z.cells (cap' - (els.length + m))) e)) : Result Value) = .ok (r'.val (els.length + m)) y.w ∧ RowOk r' i.size (els ++ news) := by
      intro cap' w' hc hs nb hnb
      subst hnb
      refine ⟨⟨some w'.heap.size, cap', els.flatten.toArray ++ news.flatten.toArray ++ Builtin.zeroCells z.cells (cap' - (els.length + m))⟩, St.alloc ⟨w', hs⟩ _, rfl, ?_⟩
      refine ⟨fun h => (by cases h), hlen', fun _ => ?_, fun _ => (by simpa [hm] using hc), fun _ => ?_⟩
      · simp only [Array.size_append, List.size_toArray, size_zeros, hzs, hel, hfl, ← Nat.add_mul]
        congr 1
        omega
      · simp only [Array.toList_append, List.append_assoc, List.flatten_append, List.length_append, hm]
        rw [← List.append_assoc]
        have : (els.length + m) * i.size = (els.flatten ++ news.flatten).length := by rw [List.length_append, hel, hfl, Nat.add_mul]
        rw [this]
        exact List.take_left
    have hR : Sat x.w R := SatB.sub (by simp only [List.flatten_cons]; exact List.sublist_append_right _ _) (x.ok.eqv hU.ok)
    cases hb : r.b with
    | none =>
      have h0 := hok.nil hb
      subst h0
      have hr := run_append_nil (P := P) x.w t ty e i z ht hi hz a m c news.flatten hfl hnews (by omega) (by simp at hlen; omega) (by simp only [List.length_nil, Nat.zero_add] at hbytes; omega)
      have hf := fresh (grownCap x.w m 0 e) x.w.drew (by simpa using grownCap_ge x.w m 0 e) hR.drew x.w.heap.size rfl
      simp only [List.length_nil, Nat.zero_add, List.flatten_nil, List.nil_append] at hf hr ⊢
      have e0 : r.val 0 = .slice none 0 0 := by simp [Row.val, hb]
      rw [e0, hr]
      simpa using hf
    | some b =>
      have hbn : r.b ≠ none := by simp [hb]
      have e0 : r.val els.length = .slice (some ⟨b, 0, none⟩) els.length r.cap := by simp [Row.val, hb]
      have eu : r.u e = [(b, .cells r.arr e)] := by simp [Row.u, hb]
      have hx := x.ok.eqv hU.ok
      rw [eu] at hx
      have hblk : x.w.heap[b]? = some (.cells r.arr e (0, 0)) := hx.at_ (b, .cells r.arr e) (by simp)
      by_cases hroom : els.length + m ≤ r.cap
      · have hfit : els.length * i.size + news.flatten.length ≤ r.arr.size := by rw [hfl, hok.size hbn, ← Nat.add_mul]; exact Nat.mul_le_mul_right _ hroom
        have hr := run_append_room (P := P) x.w t ty e i ht hi b els.length r.cap r.arr hblk a m c news.flatten hfl hnews h1 hroom hfit
        rw [e0, hr]
        refine ⟨⟨some b, r.cap, (r.arr.toList.take (els.length * i.size) ++ news.flatten ++ r.arr.toList.drop (els.length * i.size + news.flatten.length)).toArray⟩, ⟨_, SatB.set hx _ (heap_setRow hblk) (heap_setRow_ne)⟩, rfl, ?_⟩
        refine ⟨fun h => (by cases h), hlen', fun _ => ?_, fun _ => (by simpa [hm] using hroom), fun _ => ?_⟩
        · simp only [List.size_toArray, List.length_append, List.length_take, List.length_drop, Array.length_toList]
          have := hok.size hbn
          omega
        · simp only [hok.at_ hbn, List.flatten_append, List.length_append, hm]
          have : (els.length + m) * i.size = (els.flatten ++ news.flatten).length := by rw [List.length_append, hel, hfl, Nat.add_mul]
          rw [this]
          exact List.take_left
      · have holds : ∀ j u, els.flatten[j]? = some u → x.w.cell? ((⟨b, 0, none⟩ : Addr).add j) = some u := by
          intro j u hu
          have hadd : (⟨b, 0, none⟩ : Addr).add j = ⟨b, j, none⟩ := by unfold Addr.add; split <;> simp_all
          rw [hadd, cell_of_row x.w b j r.arr e (0, 0) hblk]
          rw [← hok.at_ hbn, List.getElem?_take] at hu
          split at hu
          · simpa using hu
          · cases hu
        have hr := run_append_grow (P := P) x.w t ty e i z ht hi hz ⟨b, 0, none⟩ els.length r.cap els.flatten hel holds a m c news.flatten hfl hnews (by omega) (by omega) (growslice_fits (by omega) hbytes)
        rw [e0, hr]
        exact fresh _ x.w.drew (grownCap_ge x.w (els.length + m) r.cap e) hR.drew _ rfl

/-- The rule. -/
theorem wpList_append_row {ops : Array Oper} {Q : Exit → Act → World → Prop} {rest : List Oper} {a : Act} {d : Option Tmp} {ty : TypeId} {pos : String} {af : Array Edge} {so xo : Operand} {t : TypeId}
    (r : Row) (els news : List (List Value)) (s bytes : Nat) (e : TypeId) (i : TypeInfo) (z : Value) (ht : P.underlying t = some (.slice e)) (hi : P.info? e = some i) (hz : i.zero = some z)
    (hsize : i.size = s) (hby : i.bytes = bytes) (hzs : z.cells.size = s) (hok : RowOk r s els) (hnl : ∀ c ∈ news, c.length = s) {L R : Units} {x : St L} [hU : Unit_ L (r.u e) R]
    (ad : Option Addr) (m c : Nat) (hs : a.eval so = r.val els.length) (hxv : a.eval xo = .slice ad m c) (hm : news.length = m)
    (hread : m ≠ 0 → ∃ a, ad = some a ∧ ∀ j u, news.flatten[j]? = some u → x.w.cell? (a.add j) = some u) (h1 : ∀ u ∈ news.flatten, u.oneCell' = true)
    (hbytes : (els.length + m) * bytes ≤ 140737488355328) (hlen : els.length + m ≤ 9223372036854775807)
    (h : ∀ (r' : Row) (y : St (r'.u e :: R)), RowOk r' s (els ++ news) → wpList P ops Q rest (a.put d (r'.val (els.length + m))) y.w) :
    wpList P ops Q ({ dst := d, op := .call { callee := .builtin .append, args := #[so, xo], argTypes := #[t, t] }, type := ty, pos := pos, after := af, guard := none } :: rest) a x.w := by
  obtain ⟨r', y, hr, hok'⟩ := run_append_row r els news s bytes t ty e i z ht hi hz hsize hby hzs hok hnl x ad m c hm hread h1 hbytes hlen
  refine wpList_plain rfl fun K hK => ?_
  unfold Oper.wp
  have e1 : (execOp a.eval { dst := d, op := .call { callee := .builtin .append, args := #[so, xo], argTypes := #[t, t] }, type := ty, pos := pos, after := af, guard := none }).run P x.w = .ok (.value (r'.val (els.length + m))) y.w := by
    simp [execOp, resolve, invoke, builtin, hs, hxv, hr]
  rw [e1]
  exact hK _ _ (h r' y hok')
theorem SlIn.read {U : Blocks} {ad : Option Addr} {n s : Nat} {els : List (List Value)} (h : SlIn U ad n s els) (hl : ∀ c ∈ els, c.length = s) {L R : Units} (x : St L) (hU : Unit_ L U R) :
    n ≠ 0 → ∃ a, ad = some a ∧ ∀ j u, els.flatten[j]? = some u → x.w.cell? (a.add j) = some u := by
  intro hn
  rcases h.2 with h0 | ⟨b, o, arr, T, fr, ha, hb, hrow⟩
  · exact absurd h0 hn
  · refine ⟨_, ha, fun j u hj => ?_⟩
    have hh : x.w.heap[b]? = some (.cells arr T fr) := (x.ok.eqv hU.ok).at_ (b, .cells arr T fr) (by simp [hb])
    have e : (⟨b, o, none⟩ : Addr).add j = ⟨b, o + j, none⟩ := by unfold Addr.add; split <;> simp_all
    rw [e, St.cell, hh, cellOf_cells]
    have key : ∀ (els : List (List Value)) (k : Nat), (∀ c ∈ els, c.length = s) → (∀ i c, els[i]? = some c → ∀ j v, c[j]? = some v → arr[o + (k + i) * s + j]? = some v) → ∀ j u, els.flatten[j]? = some u → arr[o + k * s + j]? = some u := by
      intro els
      induction els with
      | nil => intro k _ _ j u h; simp at h
      | cons c els ih =>
        intro k hl hr j u hj
        have hc : c.length = s := hl c (by simp)
        rw [List.flatten_cons] at hj
        by_cases hlt : j < c.length
        · rw [List.getElem?_append_left hlt] at hj
          have := hr 0 c rfl j u hj
          simpa using this
        · rw [List.getElem?_append_right (by omega)] at hj
          have := ih (k + 1) (fun c hc => hl c (by simp [hc])) (fun i c' hc' j v hv => by
            have := hr (i + 1) c' (by simpa using hc') j v hv
            rw [show k + 1 + i = k + (i + 1) by omega]; exact this) (j - c.length) u hj
          rw [show o + (k + 1) * s + (j - c.length) = o + k * s + j by rw [Nat.add_mul, hc]; omega] at this
          exact this
    have := key els 0 hl (fun i c hc j v hv => by rw [Nat.zero_add]; exact hrow i c hc j v hv) j u hj
    simpa using this
/-- The rule, of what is a row in a unit. -/
theorem wpList_append_sl {ops : Array Oper} {Q : Exit → Act → World → Prop} {rest : List Oper} {a : Act} {d : Option Tmp} {ty : TypeId} {pos : String} {af : Array Edge} {so xo : Operand} {t : TypeId}
    (r : Row) (els news : List (List Value)) (s bytes : Nat) (e : TypeId) (i : TypeInfo) (z : Value) (ht : P.underlying t = some (.slice e)) (hi : P.info? e = some i) (hz : i.zero = some z)
    (hsize : i.size = s) (hby : i.bytes = bytes) (hzs : z.cells.size = s) (U : Blocks) {L R R2 : Units} {x : St L} [hU : Unit_ L (r.u e) R] [hU2 : Unit_ L U R2]
    (ad : Option Addr) (m c : Nat) (hs : a.eval so = r.val els.length) (hxv : a.eval xo = .slice ad m c) (hok : RowOk r s els) (hnl : ∀ c ∈ news, c.length = s)
    (hsl : SlIn U ad m s news) (h1 : ∀ u ∈ news.flatten, u.oneCell' = true)
    (hbytes : (els.length + m) * bytes ≤ 140737488355328) (hlen : els.length + m ≤ 9223372036854775807)
    (h : ∀ (r' : Row) (y : St (r'.u e :: R)), RowOk r' s (els ++ news) → wpList P ops Q rest (a.put d (r'.val (els.length + m))) y.w) :
    wpList P ops Q ({ dst := d, op := .call { callee := .builtin .append, args := #[so, xo], argTypes := #[t, t] }, type := ty, pos := pos, after := af, guard := none } :: rest) a x.w :=
  wpList_append_row r els news s bytes e i z ht hi hz hsize hby hzs hok hnl ad m c hs hxv hsl.1 (hsl.read hnl x hU2) h1 hbytes hlen h
/-- A whole variable is stored at once. -/
theorem wpList_storeAll {ops : Array Oper} {Q : Exit → Act → World → Prop} {rest : List Oper} {a : Act} {d : Option Tmp} {ty : TypeId} {pos : String} {af : Array Edge} {T T0 : TypeId} {ad vl : Operand}
    {L M : Units} {x : St L} {b : Nat} {c : Array Value} {cs : List Value} (ha : a.eval ad = .pointer (some ⟨b, 0, none⟩)) (hv : a.eval vl = .agg cs.toArray) [Has L b (.cells c T0)] [hl : Lay L b (.cells cs.toArray T0) M]
    (hs : (P.info? T).map (·.size) = some cs.length) (hc : c.size = cs.length) (h1' : cs.all Value.oneCell' = true)
    (h : ∀ y : St M, wpList P ops Q rest (a.put d undef) y.w) :
    wpList P ops Q ({ dst := d, op := .store T ad vl, type := ty, pos := pos, after := af, guard := none } :: rest) a x.w := by
  have h1 : ∀ v ∈ cs, v.oneCell' = true := fun v hv => List.all_eq_true.1 h1' v hv
  have hb : x.w.heap[b]? = some (.cells c T0 (0, 0)) := x.heap
  have hst := run_storeCells_at P b 0 T0 cs 0 c x.w hb (by omega) h1
  have e : (c.toList.take (0 + 0) ++ cs ++ c.toList.drop (0 + 0 + cs.length)).toArray = cs.toArray := by
    have : c.toList.drop (0 + 0 + cs.length) = [] := by rw [List.drop_eq_nil_iff]; simp [hc]
    rw [this]; simp
  rw [e] at hst
  have hy : Sat (x.w.setRow b cs.toArray) M := x.ok.lay (b := b) (heap_setRow hb) heap_setRow_ne
  refine wpList_plain rfl fun K hK => ?_
  unfold Oper.wp
  cases hi : P.info? T with
  | none => rw [hi] at hs; simp at hs
  | some i =>
    rw [hi] at hs
    simp only [Option.map_some, Option.some.injEq] at hs
    have e1 : (execOp a.eval { dst := d, op := .store T ad vl, type := ty, pos := pos, after := af, guard := none }).run P x.w = .ok .skip (x.w.setRow b cs.toArray) := by
      unfold execOp
      simp only [ha, hv]
      simp [Instr.storeAt, storeVar, Value.cells, sizeOf, typeInfo, hi, hs, hst, Instr.sureAddr]
    rw [e1]
    exact hK _ _ (h ⟨_, hy⟩)
/-- One cell is stored. -/
theorem wpList_store1 {ops : Array Oper} {Q : Exit → Act → World → Prop} {rest : List Oper} {a : Act} {d : Option Tmp} {ty : TypeId} {pos : String} {af : Array Edge} {T T0 : TypeId} {ad vl : Operand}
    {L M : Units} {x : St L} {b off : Nat} {c c' : Array Value} {v : Value} {i : TypeInfo} (ha : a.eval ad = .pointer (some ⟨b, off, none⟩)) (hv : a.eval vl = v) [Has L b (.cells c T0)] (h1 : v.oneCell' = true)
    (hi : P.info? T = some i) (hs : i.size = 1) (hc : c.setIfInBounds off v = c') (ho : off < c.size) [hl : Lay L b (.cells c' T0) M]
    (h : ∀ y : St M, wpList P ops Q rest (a.put d undef) y.w) :
    wpList P ops Q ({ dst := d, op := .store T ad vl, type := ty, pos := pos, after := af, guard := none } :: rest) a x.w := by
  have hb : x.w.heap[b]? = some (.cells c T0 (0, 0)) := x.heap
  have hcell : ∃ u, x.w.cell? ⟨b, off, none⟩ = some u := ⟨c[off], by rw [St.cell, hb, cellOf_cells]; simp [ho]⟩
  obtain ⟨u, hu⟩ := hcell
  have hfz : x.w.frozen? ⟨b, off, none⟩ = false := by rw [St.frozen, hb, frozenOf_cells]
  subst hc
  have hy : Sat (x.w.setCell ⟨b, off, none⟩ v) M := x.ok.lay (b := b) (setCell_blk _ _ _ _ hb) (setCell_other _ _ _ _)
  refine wpList_plain rfl fun K hK => ?_
  unfold Oper.wp
  have e1 : (execOp a.eval { dst := d, op := .store T ad vl, type := ty, pos := pos, after := af, guard := none }).run P x.w = .ok .skip (x.w.setCell ⟨b, off, none⟩ v) := by
    unfold execOp
    simp only [ha, hv]
    cases v <;> first | (simp [Value.oneCell'] at h1; done) | (simp [Instr.storeAt, storeVar, Value.cells, sizeOf, typeInfo, hi, hs, Instr.sureAddr, storeCells, Addr.add, store, Sem.run, hu, hfz]; done)
  rw [e1]
  exact hK _ _ (h ⟨_, hy⟩)
/-- Is the next operation a store? -/
theorem at_store {ops : Array Oper} {Q : Exit → Act → World → Prop} {rest : List Oper} {a : Act} {d : Option Tmp} {ty : TypeId} {pos : String} {af : Array Edge} {T : TypeId} {ad vl : Operand} {w : World}
    (h : wpList P ops Q ({ dst := d, op := .store T ad vl, type := ty, pos := pos, after := af, guard := none } :: rest) a w) :
    wpList P ops Q ({ dst := d, op := .store T ad vl, type := ty, pos := pos, after := af, guard := none } :: rest) a w := h
end
end Go
end
