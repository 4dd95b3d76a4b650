/- Plain words for chancerylaw2.lent: a row of elements of the call's own whose lists are lent one after the other. -/
import Derived.Test.YtejnfnpcabldeaaBerDC
import Derived.Maps.AppendAt
namespace Go.Proofs.Ytejnfnpcabldeaa
open Go.RowKit Ber
theorem rowE_set (L : List (El × Value)) (j : Nat) (h : j < L.length) (p : El × Value) : ((((((rowE L).set (j * 5) (.int .i64 p.1.c)).set (j * 5 + 1) (.int .i64 p.1.t)).set (j * 5 + 2) (.bool p.1.k)).set (j * 5 + 3) (.string p.1.b)).set (j * 5 + 4) p.2) = rowE (L.set j p) := by
  apply List.ext_getElem?
  intro i
  by_cases hi : i < L.length * 5
  · have h1 : i = (i / 5) * 5 + i % 5 := by omega
    have h2 : i / 5 < L.length := by omega
    have h3 : i % 5 < 5 := by omega
    have ha := rowE_at L (i / 5) h2 (i % 5) h3
    have hb := rowE_at (L.set j p) (i / 5) (by simpa using h2) (i % 5) h3
    rw [← h1] at ha hb
    rw [hb]
    have hl := rowE_length L
    simp only [List.getElem?_set, List.length_set, hl]
    by_cases hq : i / 5 = j
    · have hg : (L.set j p)[i / 5]'(by simpa using h2) = p := by subst hq; simp
      rw [hg]
      have hm : i % 5 = 0 ∨ i % 5 = 1 ∨ i % 5 = 2 ∨ i % 5 = 3 ∨ i % 5 = 4 := by omega
      rcases hm with hm | hm | hm | hm | hm
      all_goals
        rw [hm]
        rw [show i = j * 5 + i % 5 from by omega, hm]
        simp [cells1]
        omega
    · have hg : (L.set j p)[i / 5]'(by simpa using h2) = L[i / 5] := by rw [List.getElem_set_ne (fun e => hq e.symm)]
      rw [hg, ← ha]
      rw [if_neg (by omega), if_neg (by omega), if_neg (by omega), if_neg (by omega), if_neg (by omega)]
  · have hl := rowE_length L
    have hl2 := rowE_length (L.set j p)
    rw [List.length_set] at hl2
    rw [List.getElem?_eq_none (by simp only [List.length_set, hl]; omega), List.getElem?_eq_none (by rw [hl2]; omega)]
/-- the spare element -/
def spareE : El × Value := (.mk 0 (-77) false ⟨#[]⟩ [], .slice none 0 0)
def kvAt (L : List (El × Value)) (i : Nat) : Value := (L.getD i (zeroE, .slice none 0 0)).2
/-- the lists of the first j are lent -/
structure LenX (B : Nat) (ks : List El) (f : Nat → Value) (w : World) (p : Option Addr) (cap j : Nat) (L : List (El × Value)) (S : Nat → Prop) : Prop where
  map : L.map (·.1) = ks
  own : w.ownsRow B 24 5 (.slice p ks.length cap) ks.length (rowE L)
  done : ∀ i (h : i < ks.length), i < j → LtP S w ks[i].ks (kvAt L i)
  rest : ∀ i, i < ks.length → j ≤ i → kvAt L i = f i
  bd : ∀ q, S q → B ≤ q ∧ q < w.heap.size ∧ (Value.slice p ks.length cap).ownBlock ≠ some q
def Len (B : Nat) (ks : List El) (f : Nat → Value) (w : World) (p : Option Addr) (cap j : Nat) : Prop := ∃ L S, LenX B ks f w p cap j L S
theorem LenX.later {B : Nat} {ks : List El} {f : Nat → Value} {w w' : World} {p : Option Addr} {cap j : Nat} {L : List (El × Value)} {S : Nat → Prop} (h : LenX B ks f w p cap j L S) (hb : Below w.heap.size w w') : LenX B ks f w' p cap j L S :=
  ⟨h.map, own_below h.own hb, fun i hi hj => (h.done i hi hj).later hb, h.rest, fun q hq => ⟨(h.bd q hq).1, Nat.lt_of_lt_of_le (h.bd q hq).2.1 hb.size, (h.bd q hq).2.2⟩⟩
theorem LenX.len {B : Nat} {ks : List El} {f : Nat → Value} {w : World} {p : Option Addr} {cap j : Nat} {L : List (El × Value)} {S : Nat → Prop} (h : LenX B ks f w p cap j L S) : L.length = ks.length := by rw [← h.map]; simp
theorem LenX.at {B : Nat} {ks : List El} {f : Nat → Value} {w : World} {p : Option Addr} {cap j : Nat} {L : List (El × Value)} {S : Nat → Prop} (h : LenX B ks f w p cap j L S) (hj : j < ks.length) : ∃ g, p = some ⟨g, 0, none⟩ ∧ B ≤ g ∧ g < w.heap.size ∧ (∀ i, w.frozen? ⟨g, i, none⟩ = false) ∧ C5 w g (j * 5) ks[j].c ks[j].t ks[j].k ks[j].b (f j) := by
  rcases h.own.2 with ⟨_, h0⟩ | ⟨g, cap', cur, hv, hB, hg, hr⟩
  · omega
  · injection hv with e1 _ e3
    subst e1 e3
    have hl := h.len
    have hc : ∀ i, i < 5 → w.cell? ⟨g, j * 5 + i, none⟩ = (cells1 (ks[j], f j))[i]? := by
      intro i hi
      have hr := rowE_at L j (by omega) i hi
      have e : L[j]'(by omega) = (ks[j], f j) := by
        have e1 : (L[j]'(by omega)).1 = ks[j] := by have := h.map; subst this; simp
        have e2 := h.rest j hj (Nat.le_refl _)
        have e3 : kvAt L j = (L[j]'(by omega)).2 := by simp [kvAt, List.getD_eq_getElem?_getD, show j < L.length from by omega]
        rw [e3] at e2
        rw [← e1, ← e2]
      rw [e] at hr
      have hx : (rowE L)[j * 5 + i]? = some ((cells1 (ks[j], f j))[i]'(by simpa [cells1] using hi)) := by rw [hr]; exact List.getElem?_eq_getElem _
      have := h.own.cells (g := g) rfl _ _ hx
      rw [show (⟨g, j * 5 + i, none⟩ : Addr) = (⟨g, 0, none⟩ : Addr).add (j * 5 + i) from by unfold Addr.add; split <;> simp_all, this, ← hx, hr]
    exact ⟨g, rfl, hB, (Array.getElem?_eq_some_iff.1 hg).1, fun i => frozen_of_row w g i cur _ hg, hc 0 (by omega), hc 1 (by omega), hc 2 (by omega), hc 3 (by omega), hc 4 (by omega)⟩
/-- the world with an element written over -/
def W5 (w : World) (g o : Nat) (c t : Int) (k : Bool) (b : ByteArray) (kv : Value) : World :=
  ((((w.setCell ⟨g, o, none⟩ (.int .i64 c)).setCell ⟨g, o + 1, none⟩ (.int .i64 t)).setCell ⟨g, o + 2, none⟩ (.bool k)).setCell ⟨g, o + 3, none⟩ (.string b)).setCell ⟨g, o + 4, none⟩ kv
theorem W5.size (w : World) (g o : Nat) (c t : Int) (k : Bool) (b : ByteArray) (kv : Value) : (W5 w g o c t k b kv).heap.size = w.heap.size := by simp [W5]
theorem W5.other (w : World) (g o : Nat) (c t : Int) (k : Bool) (b : ByteArray) (kv : Value) (q : Nat) (h : q ≠ g) : (W5 w g o c t k b kv).heap[q]? = w.heap[q]? := by
  simp only [W5]
  rw [Below.heap_setCell _ _ _ _ h, Below.heap_setCell _ _ _ _ h, Below.heap_setCell _ _ _ _ h, Below.heap_setCell _ _ _ _ h, Below.heap_setCell _ _ _ _ h]
theorem W5.below {w : World} {g o : Nat} {c t : Int} {k : Bool} {b : ByteArray} {kv : Value} {B : Nat} {w0 : World} (h : Below B w0 w) (hg : B ≤ g) : Below B w0 (W5 w g o c t k b kv) :=
  ((((h.setCell (p := ⟨g, _, none⟩) hg _).setCell (p := ⟨g, _, none⟩) hg _).setCell (p := ⟨g, _, none⟩) hg _).setCell (p := ⟨g, _, none⟩) hg _).setCell (p := ⟨g, _, none⟩) hg _
/-- one list lent and written over its element -/
theorem LenX.step {B : Nat} {ks : List El} {f : Nat → Value} {w w3 : World} {g cap j : Nat} {L : List (El × Value)} {S : Nat → Prop} (h : LenX B ks f w (some ⟨g, 0, none⟩) cap j L S) (hj : j < ks.length) (hg : g < w.heap.size) (hb : Below w.heap.size w w3) {v : Value}
    (hB : B ≤ w.heap.size) (hv : LtP (fun q => w.heap.size ≤ q ∧ q < w3.heap.size) w3 ks[j].ks v) : Len B ks f (W5 w3 g (j * 5) ks[j].c ks[j].t ks[j].k ks[j].b v) (some ⟨g, 0, none⟩) cap (j + 1) := by
  have h3 := h.later hb
  have hl := h.len
  have hob : (Value.slice (some ⟨g, 0, none⟩) ks.length cap).ownBlock = some g := rfl
  refine ⟨L.set j (ks[j], v), fun q => S q ∨ (w.heap.size ≤ q ∧ q < w3.heap.size), ?_, ?_, ?_, ?_, ?_⟩
  · rw [List.map_set, h.map]; exact List.set_getElem_self hj
  · have o1 := (h3.own.stored (j * 5) (.int .i64 ks[j].c)).1
    have o2 := (o1.stored (j * 5 + 1) (.int .i64 ks[j].t)).1
    have o3 := (o2.stored (j * 5 + 2) (.bool ks[j].k)).1
    have o4 := (o3.stored (j * 5 + 3) (.string ks[j].b)).1
    have o5 := (o4.stored (j * 5 + 4) v).1
    rw [rowE_set L j (by omega) (ks[j], v)] at o5
    exact o5
  · intro i hi hij
    by_cases e : i = j
    · subst e
      have : kvAt (L.set i (ks[i], v)) i = v := by simp [kvAt, List.getD_eq_getElem?_getD, show i < L.length from by omega]
      rw [this]
      exact hv.keep (by rw [W5.size]; exact Nat.le_refl _) fun q hq hS => ⟨W5.other _ _ _ _ _ _ _ _ _ (by omega), .inr hS⟩
    · have : kvAt (L.set j (ks[j], v)) i = kvAt L i := by simp [kvAt, List.getD_eq_getElem?_getD, List.getElem?_set_ne (fun x => e x.symm)]
      rw [this]
      exact (h3.done i hi (by omega)).keep (by rw [W5.size]; exact Nat.le_refl _) fun q hq hS => ⟨W5.other _ _ _ _ _ _ _ _ _ (fun x => (h.bd q hS).2.2 (by rw [hob, x])), .inl hS⟩
  · intro i hi hij
    have : kvAt (L.set j (ks[j], v)) i = kvAt L i := by simp [kvAt, List.getD_eq_getElem?_getD, List.getElem?_set_ne (show j ≠ i by omega)]
    rw [this]
    exact h.rest i hi (by omega)
  · intro q hq
    rw [W5.size]
    rcases hq with hq | hq
    · exact ⟨(h3.bd q hq).1, (h3.bd q hq).2.1, (h3.bd q hq).2.2⟩
    · exact ⟨by omega, hq.2, by rw [hob]; simp; omega⟩
/-- the list with its spare element -/
theorem LenX.fin {B : Nat} {ks : List El} {f : Nat → Value} {w w4 : World} {o : Obj} {p : Option Addr} {cap : Nat} {L : List (El × Value)} {S : Nat → Prop} (h : LenX B ks f w p cap ks.length L S) {v : Value} (hF : FewK ks.length) (hf : ∀ i (hi : i < ks.length), Few ks[i].b.size)
    (hg : (w.alloc o).grownBy w4 (Value.slice p ks.length cap).ownBlock) (ho : w4.ownsRow B 24 5 v (ks.length + 1) (rowE L ++ cells1 spareE)) :
    ∃ g cap', v = .slice (some ⟨g, 0, none⟩) (ks.length + 1) cap' ∧ ks.length + 1 ≤ cap' ∧ cap' ≤ maxLen ∧ LtP (fun q => B ≤ q ∧ q < w4.heap.size) w4 ks (.slice (some ⟨g, 0, none⟩) ks.length cap') := by
  have hl := h.len
  have h1 := h.later ((Below.refl w.heap.size w).alloc (Nat.le_refl _) o)
  rcases ho.2 with ⟨_, h0⟩ | ⟨g, cap', cur, rfl, hB, hh, hnc, hcm, hcur, htk⟩
  · omega
  · have hgl : g < w4.heap.size := (Array.getElem?_eq_some_iff.1 hh).1
    have hrl := rowE_length L
    have hc : ∀ i (hi : i < ks.length) j, j < 5 → w4.cell? ⟨g, 0 + i * 5 + j, none⟩ = (cells1 (ks[i], kvAt L i))[j]? := by
      intro i hi j hj
      have hr := rowE_at L i (by omega) j hj
      have e : L[i]'(by omega) = (ks[i], kvAt L i) := by
        have e1 : (L[i]'(by omega)).1 = ks[i] := by have := h.map; subst this; simp
        have e3 : kvAt L i = (L[i]'(by omega)).2 := by simp [kvAt, List.getD_eq_getElem?_getD, show i < L.length from by omega]
        rw [e3, ← e1]
      rw [e] at hr
      have hx : (rowE L ++ cells1 spareE)[i * 5 + j]? = some ((cells1 (ks[i], kvAt L i))[j]'(by simpa [cells1] using hj)) := by
        rw [List.getElem?_append_left (by omega), hr]; exact List.getElem?_eq_getElem _
      have := ho.cells (g := g) rfl _ _ hx
      rw [show (⟨g, 0 + i * 5 + j, none⟩ : Addr) = (⟨g, 0, none⟩ : Addr).add (i * 5 + j) from by unfold Addr.add; split <;> simp_all <;> omega, this]
      exact (List.getElem?_eq_getElem _).symm
    refine ⟨g, cap', rfl, hnc, hcm, .mk ks cap' g 0 (fun i => kvAt L i) ⟨hnc, hcm⟩ hF ⟨hgl, hB, hgl⟩ (fun i hi => ⟨⟨hc i hi 0 (by omega), hc i hi 1 (by omega), hc i hi 2 (by omega), hc i hi 3 (by omega), hc i hi 4 (by omega)⟩, hf i hi⟩) ?_ ?_⟩
    · have hx : (rowE L ++ cells1 spareE)[ks.length * 5 + 1]? = some (.int .i64 (-77)) := by
        rw [List.getElem?_append_right (by omega), hrl, hl, show ks.length * 5 + 1 - ks.length * 5 = 1 from by omega]
        rfl
      have := ho.cells (g := g) rfl _ _ hx
      rw [show (⟨g, 0 + ks.length * 5 + 1, none⟩ : Addr) = (⟨g, 0, none⟩ : Addr).add (ks.length * 5 + 1) from by unfold Addr.add; split <;> simp_all <;> omega, this]
    · intro i hi
      exact (h1.done i hi hi).keep hg.size fun q hq hS => ⟨hg.block q hq (fun e => (h1.bd q hS).2.2 e.symm), (h1.bd q hS).1, Nat.lt_of_lt_of_le (h1.bd q hS).2.1 hg.size⟩
/-- the first copy: elements in memory as a row of the call's own -/
theorem LenX.start {B : Nat} {ks : List El} {f : Nat → Value} {w : World} {p : Option Addr} {cap : Nat} (ho : w.ownsRow B 24 5 (.slice p ks.length cap) ks.length (rowE ((List.range ks.length).map fun i => ((ks[i]?).getD zeroE, f i)))) : Len B ks f w p cap 0 := by
  refine ⟨_, fun _ => False, ?_, ho, fun i hi h => absurd h (by omega), fun i hi _ => ?_, fun q h => h.elim⟩
  · apply List.ext_getElem?
    intro i
    by_cases hi : i < ks.length
    · simp [hi]
    · simp [hi]
  · simp [kvAt, List.getD_eq_getElem?_getD, hi]
/-- the cells of elements in memory -/
theorem rowE_cells {w : World} {ks : List El} {g o : Nat} {f : Nat → Value} (h : ∀ i (h : i < ks.length), C5 w g (o + i * 5) ks[i].c ks[i].t ks[i].k ks[i].b (f i)) :
    ∀ j u, (rowE ((List.range ks.length).map fun i => ((ks[i]?).getD zeroE, f i)))[j]? = some u → w.cell? ((⟨g, o, none⟩ : Addr).add j) = some u := by
  intro j u hu
  have hl := rowE_length ((List.range ks.length).map fun i => ((ks[i]?).getD zeroE, f i))
  simp only [List.length_map, List.length_range] at hl
  have hj : j < ks.length * 5 := by
    have := (List.getElem?_eq_some_iff.1 hu).1
    omega
  have hr := rowE_at ((List.range ks.length).map fun i => ((ks[i]?).getD zeroE, f i)) (j / 5) (by simp; omega) (j % 5) (by omega)
  rw [show j / 5 * 5 + j % 5 = j from by omega, hu] at hr
  have hk : j / 5 < ks.length := by omega
  simp only [List.getElem_map, List.getElem_range, List.getElem?_eq_getElem hk, Option.getD_some] at hr
  obtain ⟨c0, c1, c2, c3, c4⟩ := h (j / 5) hk
  rw [show ((⟨g, o, none⟩ : Addr).add j) = ⟨g, o + j / 5 * 5 + j % 5, none⟩ from by unfold Addr.add; split <;> simp_all <;> omega]
  have hm : j % 5 = 0 ∨ j % 5 = 1 ∨ j % 5 = 2 ∨ j % 5 = 3 ∨ j % 5 = 4 := by omega
  rcases hm with hm | hm | hm | hm | hm
  all_goals
    rw [hm] at hr ⊢
    simp [cells1] at hr
    subst hr
    first | exact c0 | exact c1 | exact c2 | exact c3 | exact c4
theorem rowE_one {ks : List El} {f : Nat → Value} (h : ∀ i (_ : i < ks.length), ∃ a n cap, f i = .slice a n cap) : ∀ u ∈ rowE ((List.range ks.length).map fun i => ((ks[i]?).getD zeroE, f i)), u.oneCell' = true := by
  intro u hu
  simp only [rowE, List.mem_flatMap, List.mem_map, List.mem_range] at hu
  obtain ⟨x, ⟨i, hi, rfl⟩, hu⟩ := hu
  obtain ⟨a, n, cap, e⟩ := h i hi
  exact cells1_one _ a n cap e u hu
/-- append of elements in memory onto nothing -/
theorem run_append_els {P : Program} (w : World) (base : Nat) (t ty e : TypeId) (i : TypeInfo) (z : Value) (size bytes : Nat) (ht : P.underlying t = some (.slice e)) (hi : P.info? e = some i) (hz : i.zero = some z)
    (hsize : i.size = size) (hby : i.bytes = bytes) (hzs : z.cells.size = size) (hsz : 0 < size) (a : Option Addr) (m cap : Nat) (xs : List Value) (hl : xs.length = m * size) (ha : 0 < m → ∃ ad, a = some ad ∧ ∀ j u, xs[j]? = some u → w.cell? (ad.add j) = some u) (h1 : ∀ u ∈ xs, u.oneCell' = true)
    (h63 : m ≤ maxLen) (hbytes : m * bytes ≤ 140737488355328) (hbase : base ≤ w.heap.size) :
    ∃ p c w', (Builtin.append_ #[t, t] ty #[.slice none 0 0, .slice a m cap]).run P w = .ok (.slice p m c) w' ∧ w'.ownsRow base e size (.slice p m c) m xs ∧ w.grownBy w' none := by
  by_cases hm : m = 0
  · subst hm
    have hx : xs = [] := List.eq_nil_of_length_eq_zero (by simpa using hl)
    subst hx
    refine ⟨none, 0, w, ?_, World.ownsRow_nil _ _ _ _, World.grownBy.refl w _⟩
    cases a <;> simp [Builtin.append_, run_underlying ht, sizeOf, typeInfo, hi, Builtin.lenOf, Builtin.firstCells, loadCells, loadCellsFrom]
  · obtain ⟨ad, rfl, hc⟩ := ha (by omega)
    obtain ⟨v', w', hrun, h2, h3, _, h5⟩ := run_append_own_at (P := P) w base t ty e i z size bytes ht hi hz hsize hby hzs hsz (.slice none 0 0) 0 [] (World.ownsRow_nil _ _ _ _) ad m cap xs hl hc h1 (by simpa using h63) (by simpa using hbytes) hbase
    simp only [Nat.zero_add, List.nil_append] at h2
    rcases h2.2 with ⟨_, h0⟩ | ⟨g, c, cur, rfl, _⟩
    · omega
    · exact ⟨_, c, w', hrun, h2, h3⟩
theorem wpList_append_els {P : Program} {w : World} {ops : Array Oper} {rest : List Oper} {o : Oper} {a : Act} {Q : Exit → Act → World → Prop} (hgd : o.guard = none) (s x : Operand) (t : TypeId)
    (ho : o.op = .call { callee := .builtin .append, args := #[s, x], argTypes := #[t, t] })
    (base : Nat) (e : TypeId) (i : TypeInfo) (z : Value) (size bytes : Nat) (ht : P.underlying t = some (.slice e)) (hi : P.info? e = some i) (hz : i.zero = some z)
    (hsize : i.size = size) (hby : i.bytes = bytes) (hzs : z.cells.size = size) (hsz : 0 < size) (ad : Option Addr) (m cap : Nat) (xs : List Value) (hs : a.eval s = .slice none 0 0) (hx : a.eval x = .slice ad m cap)
    (hl : xs.length = m * size) (ha : 0 < m → ∃ d, ad = some d ∧ ∀ j u, xs[j]? = some u → w.cell? (d.add j) = some u) (h1 : ∀ u ∈ xs, u.oneCell' = true) (h63 : m ≤ maxLen) (hbytes : m * bytes ≤ 140737488355328) (hbase : base ≤ w.heap.size)
    (h : ∀ p c w', w'.ownsRow base e size (.slice p m c) m xs → w.grownBy w' none → wpList P ops Q rest (a.put o.dst (.slice p m c)) w') : wpList P ops Q (o :: rest) a w := by
  obtain ⟨p, c, w', hrun, h2, h3⟩ := run_append_els (P := P) w base t o.type e i z size bytes ht hi hz hsize hby hzs hsz ad m cap xs hl ha h1 h63 hbytes hbase
  refine wpList_plain hgd fun K hK => ?_
  unfold Oper.wp execOp
  simp only [ho, resolve, invoke, builtin, Sem.run_bind, Sem.run_pure, Result.andThen_ok, List.map_toArray, List.map_cons, List.map_nil, hs, hx, hrun]
  exact hK _ _ (h p c w' h2 h3)
end Go.Proofs.Ytejnfnpcabldeaa
