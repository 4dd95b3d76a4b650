/- The contract of chancerybook.copyElements: a list of elements copied whole, every list in a block of its own. -/
import Derived.Test.YtlkdbopdmieojaaGreatBkA
import Derived.Maps.AppendAt
set_option maxRecDepth 20000
namespace Go.Proofs.YtlkdbopdmieojaaGreat
open Go.RowKit Ber
set_option maxRecDepth 20000
def kvAt (L : List (El × Value)) (i : Nat) : Value := (L.getD i (zeroE, .slice none 0 0)).2
theorem rowE_set (L : List (El × Value)) (j : Nat) (h : j < L.length) (p : El × Value) : ((((((rowE L).set (j * 5) (.int .i64 p.1.c)).set (j * 5 + 1) (.int .i64 p.1.t)).set (j * 5 + 2) (.bool p.1.k)).set (j * 5 + 3) (.string p.1.b)).set (j * 5 + 4) p.2) = rowE (L.set j p) := by
  apply List.ext_getElem?
  intro i
  by_cases hi : i < L.length * 5
  · have h1 : i = (i / 5) * 5 + i % 5 := by omega
    have h2 : i / 5 < L.length := by omega
    have h3 : i % 5 < 5 := by omega
    have ha := rowE_at L (i / 5) h2 (i % 5) h3
    have hb := rowE_at (L.set j p) (i / 5) (by simpa using h2) (i % 5) h3
    rw [← h1] at ha hb
    rw [hb]
    have hl := rowE_length L
    simp only [List.getElem?_set, List.length_set, hl]
    by_cases hq : i / 5 = j
    · have hg : (L.set j p)[i / 5]'(by simpa using h2) = p := by subst hq; simp
      rw [hg]
      have hm : i % 5 = 0 ∨ i % 5 = 1 ∨ i % 5 = 2 ∨ i % 5 = 3 ∨ i % 5 = 4 := by omega
      rcases hm with hm | hm | hm | hm | hm
      all_goals
        rw [hm]
        rw [show i = j * 5 + i % 5 from by omega, hm]
        simp [cells1]
        omega
    · have hg : (L.set j p)[i / 5]'(by simpa using h2) = L[i / 5] := by rw [List.getElem_set_ne (fun e => hq e.symm)]
      rw [hg, ← ha]
      rw [if_neg (by omega), if_neg (by omega), if_neg (by omega), if_neg (by omega), if_neg (by omega)]
  · have hl := rowE_length L
    have hl2 := rowE_length (L.set j p)
    rw [List.length_set] at hl2
    rw [List.getElem?_eq_none (by simp only [List.length_set, hl]; omega), List.getElem?_eq_none (by rw [hl2]; omega)]
/-- the cell of the list alone written over -/
theorem rowE_set4 (L : List (El × Value)) (j : Nat) (h : j < L.length) (v : Value) : (rowE L).set (j * 5 + 4) v = rowE (L.set j (L[j].1, v)) := by
  rw [← rowE_set L j h (L[j].1, v)]
  congr 1
  have hg : ∀ q (x : Value), q < 5 → (cells1 L[j])[q]? = some x → (rowE L)[j * 5 + q]? = some x := fun q x hq hx => (rowE_at L j h q hq).trans hx
  have hs : ∀ (l : List Value) (q : Nat) (x : Value), l[q]? = some x → l.set q x = l := by
    intro l q x hx
    obtain ⟨hq, rfl⟩ := List.getElem?_eq_some_iff.1 hx
    exact List.set_getElem_self hq
  have e0 := hs _ _ _ (hg 0 _ (by omega) rfl)
  rw [Nat.add_zero] at e0
  rw [e0, hs _ _ _ (hg 1 _ (by omega) rfl), hs _ _ _ (hg 2 _ (by omega) rfl), hs _ _ _ (hg 3 _ (by omega) rfl)]
/-- the lists of the first j are copied -/
structure CpX (B : Nat) (ks : List El) (f : Nat → Value) (w : World) (p : Option Addr) (cap j : Nat) (L : List (El × Value)) (C : Nat → Nat → Prop) : Prop where
  map : L.map (·.1) = ks
  own : w.ownsRow B 47 5 (.slice p ks.length cap) ks.length (rowE L)
  done : ∀ i (h : i < ks.length), i < j → KsP (C i) w ks[i].ks (kvAt L i)
  rest : ∀ i, i < ks.length → j ≤ i → kvAt L i = f i
  bd : ∀ i q, C i q → i < j ∧ B ≤ q ∧ q < w.heap.size ∧ (Value.slice p ks.length cap).ownBlock ≠ some q
  disj : ∀ i i' q, C i q → C i' q → i = i'
def Cp (B : Nat) (ks : List El) (f : Nat → Value) (w : World) (p : Option Addr) (cap j : Nat) : Prop := ∃ L C, CpX B ks f w p cap j L C
section
variable {B : Nat} {ks : List El} {f : Nat → Value} {w w3 : World} {p : Option Addr} {g cap j : Nat} {L : List (El × Value)} {C : Nat → Nat → Prop}
theorem CpX.later (h : CpX B ks f w p cap j L C) (hb : Below w.heap.size w w3) : CpX B ks f w3 p cap j L C :=
  ⟨h.map, own_below h.own hb, fun i hi hj => (h.done i hi hj).later hb, h.rest, fun i q hq => ⟨(h.bd i q hq).1, (h.bd i q hq).2.1, Nat.lt_of_lt_of_le (h.bd i q hq).2.2.1 hb.size, (h.bd i q hq).2.2.2⟩, h.disj⟩
theorem CpX.len (h : CpX B ks f w p cap j L C) : L.length = ks.length := by rw [← h.map]; simp
theorem CpX.at (h : CpX B ks f w p cap j L C) (hj : j < ks.length) : ∃ g, p = some ⟨g, 0, none⟩ ∧ B ≤ g ∧ g < w.heap.size ∧ (∀ i, w.frozen? ⟨g, i, none⟩ = false) ∧ w.cell? ⟨g, j * 5 + 4, none⟩ = some (f j) := by
  rcases h.own.2 with ⟨_, h0⟩ | ⟨g, cap', cur, hv, hB, hg, hr⟩
  · omega
  · injection hv with e1 _ e3
    subst e1 e3
    have hl := h.len
    refine ⟨g, rfl, hB, (Array.getElem?_eq_some_iff.1 hg).1, fun i => frozen_of_row w g i cur _ hg, ?_⟩
    have hr := rowE_at L j (by omega) 4 (by omega)
    have e2 := h.rest j hj (Nat.le_refl _)
    have e3 : kvAt L j = (L[j]'(by omega)).2 := by simp [kvAt, List.getD_eq_getElem?_getD, show j < L.length from by omega]
    rw [e3] at e2
    have hx : (rowE L)[j * 5 + 4]? = some (f j) := by rw [hr, ← e2]; rfl
    have := h.own.cells (g := g) rfl _ _ hx
    rw [show (⟨g, j * 5 + 4, none⟩ : Addr) = (⟨g, 0, none⟩ : Addr).add (j * 5 + 4) from by unfold Addr.add; split <;> simp_all, this]
theorem CpX.step (h : CpX B ks f w (some ⟨g, 0, none⟩) cap j L C) (hj : j < ks.length) (hb : Below w.heap.size w w3) {v : Value}
    (hB : B ≤ w.heap.size) (hv : KsP (fun q => w.heap.size ≤ q ∧ q < w3.heap.size) w3 ks[j].ks v) : Cp B ks f (w3.setCell ⟨g, j * 5 + 4, none⟩ v) (some ⟨g, 0, none⟩) cap (j + 1) := by
  have h3 := h.later hb
  have hl := h.len
  have hob : (Value.slice (some ⟨g, 0, none⟩) ks.length cap).ownBlock = some g := rfl
  have hgl : g < w.heap.size := (h.own.lt g hob).2
  have hLj : (L[j]'(by omega)).1 = ks[j] := by have := h.map; subst this; simp
  refine ⟨L.set j (ks[j], v), fun i q => C i q ∨ (i = j ∧ w.heap.size ≤ q ∧ q < w3.heap.size), ?_, ?_, ?_, ?_, ?_, ?_⟩
  · rw [List.map_set, h.map]; exact List.set_getElem_self hj
  · have o5 := (h3.own.stored (j * 5 + 4) v).1
    rw [rowE_set4 L j (by omega) v, hLj] at o5
    exact o5
  · intro i hi hij
    by_cases e : i = j
    · subst e
      have : kvAt (L.set i (ks[i], v)) i = v := by simp [kvAt, List.getD_eq_getElem?_getD, show i < L.length from by omega]
      rw [this]
      exact hv.keep (by simp) fun q hq hS => ⟨Below.heap_setCell _ _ _ _ (by show q ≠ g; omega), .inr ⟨rfl, hS⟩⟩
    · have : kvAt (L.set j (ks[j], v)) i = kvAt L i := by simp [kvAt, List.getD_eq_getElem?_getD, List.getElem?_set_ne (fun x => e x.symm)]
      rw [this]
      exact (h3.done i hi (by omega)).keep (by simp) fun q hq hS => ⟨Below.heap_setCell _ _ _ _ (by show q ≠ g; exact fun x => (h.bd i q hS).2.2.2 (by rw [hob, x])), .inl hS⟩
  · intro i hi hij
    have : kvAt (L.set j (ks[j], v)) i = kvAt L i := by simp [kvAt, List.getD_eq_getElem?_getD, List.getElem?_set_ne (show j ≠ i by omega)]
    rw [this]
    exact h.rest i hi (by omega)
  · intro i q hq
    have hsz : (w3.setCell ⟨g, j * 5 + 4, none⟩ v).heap.size = w3.heap.size := by simp
    rw [hsz]
    rcases hq with hq | ⟨rfl, hq⟩
    · exact ⟨Nat.lt_succ_of_lt (h3.bd i q hq).1, (h3.bd i q hq).2⟩
    · exact ⟨Nat.lt_succ_self _, by omega, hq.2, by rw [hob]; simp; omega⟩
  · intro i i' q h1 h2
    rcases h1 with h1 | ⟨rfl, h1⟩ <;> rcases h2 with h2 | ⟨rfl, h2⟩
    · exact h.disj i i' q h1 h2
    · have := (h.bd i q h1).2.2.1; omega
    · have := (h.bd i' q h2).2.2.1; omega
    · rfl
theorem CpX.fin (h : CpX B ks f w p cap ks.length L C) (hF : FewK ks.length) (hf : ∀ i (hi : i < ks.length), Few ks[i].b.size) : KsP (fun q => B ≤ q ∧ q < w.heap.size) w ks (.slice p ks.length cap) := by
  have hl := h.len
  have hm := h.map
  have hgi : ∀ i (hi : i < L.length), L[i].1 = ks[i]'(by omega) ∧ L[i].2 = kvAt L i := fun i hi => ⟨by subst hm; simp, by simp [kvAt, List.getD_eq_getElem?_getD, hi]⟩
  have ho := h.own
  have hx : KsQ w (fun q => B ≤ q ∧ q < w.heap.size) (L.map (·.1)) (.slice p ks.length cap) := by
    refine KsQ.mk _ L _ C (by rw [hl]; exact row_base ho) (by rw [hl]; exact hF) ?_ (fun g hg => ho.lt g hg) (fun i b hc => ⟨⟨(h.bd i b hc).2.1, (h.bd i b hc).2.2.1⟩, (h.bd i b hc).2.2.2⟩) h.disj ?_
    · intro q hq
      obtain ⟨i, hi, rfl⟩ := List.mem_iff_getElem.1 hq
      rw [(hgi i hi).1]
      exact hf i _
    · intro i hi
      have := h.done i (by omega) (by omega)
      rw [(hgi i hi).1, (hgi i hi).2]
      exact this
  rw [hm] at hx
  exact hx
theorem CpX.start (ho : w.ownsRow B 47 5 (.slice p ks.length cap) ks.length (rowE ((List.range ks.length).map fun i => ((ks[i]?).getD zeroE, f i)))) : Cp B ks f w p cap 0 := by
  refine ⟨_, fun _ _ => False, ?_, ho, fun i hi h => absurd h (by omega), fun i hi _ => ?_, fun i q h => h.elim, fun i i' q h => h.elim⟩
  · apply List.ext_getElem?
    intro i
    by_cases hi : i < ks.length
    · simp [hi]
    · simp [hi]
  · simp [kvAt, List.getD_eq_getElem?_getD, hi]
end
/-- the cells of elements in memory -/
theorem rowE_cells {w : World} {ks : List El} {g o : Nat} {f : Nat → Value} (h : ∀ i (h : i < ks.length), C5 w g (o + i * 5) ks[i].c ks[i].t ks[i].k ks[i].b (f i)) :
    ∀ j u, (rowE ((List.range ks.length).map fun i => ((ks[i]?).getD zeroE, f i)))[j]? = some u → w.cell? ((⟨g, o, none⟩ : Addr).add j) = some u := by
  intro j u hu
  have hl := rowE_length ((List.range ks.length).map fun i => ((ks[i]?).getD zeroE, f i))
  simp only [List.length_map, List.length_range] at hl
  have hj : j < ks.length * 5 := by
    have := (List.getElem?_eq_some_iff.1 hu).1
    omega
  have hr := rowE_at ((List.range ks.length).map fun i => ((ks[i]?).getD zeroE, f i)) (j / 5) (by simp; omega) (j % 5) (by omega)
  rw [show j / 5 * 5 + j % 5 = j from by omega, hu] at hr
  have hk : j / 5 < ks.length := by omega
  simp only [List.getElem_map, List.getElem_range, List.getElem?_eq_getElem hk, Option.getD_some] at hr
  obtain ⟨c0, c1, c2, c3, c4⟩ := h (j / 5) hk
  rw [show ((⟨g, o, none⟩ : Addr).add j) = ⟨g, o + j / 5 * 5 + j % 5, none⟩ from by unfold Addr.add; split <;> simp_all <;> omega]
  have hm : j % 5 = 0 ∨ j % 5 = 1 ∨ j % 5 = 2 ∨ j % 5 = 3 ∨ j % 5 = 4 := by omega
  rcases hm with hm | hm | hm | hm | hm
  all_goals
    rw [hm] at hr ⊢
    simp [cells1] at hr
    subst hr
    first | exact c0 | exact c1 | exact c2 | exact c3 | exact c4
theorem rowE_one {ks : List El} {f : Nat → Value} (h : ∀ i (_ : i < ks.length), ∃ a n cap, f i = .slice a n cap) : ∀ u ∈ rowE ((List.range ks.length).map fun i => ((ks[i]?).getD zeroE, f i)), u.oneCell' = true := by
  intro u hu
  simp only [rowE, List.mem_flatMap, List.mem_map, List.mem_range] at hu
  obtain ⟨x, ⟨i, hi, rfl⟩, hu⟩ := hu
  obtain ⟨a, n, cap, e⟩ := h i hi
  exact cells1_one _ a n cap e u hu
/-- append of elements in memory onto nothing -/
theorem run_append_els {P : Program} (w : World) (base : Nat) (t ty e : TypeId) (i : TypeInfo) (z : Value) (size bytes : Nat) (ht : P.underlying t = some (.slice e)) (hi : P.info? e = some i) (hz : i.zero = some z)
    (hsize : i.size = size) (hby : i.bytes = bytes) (hzs : z.cells.size = size) (hsz : 0 < size) (a : Option Addr) (m cap : Nat) (xs : List Value) (hl : xs.length = m * size) (ha : 0 < m → ∃ ad, a = some ad ∧ ∀ j u, xs[j]? = some u → w.cell? (ad.add j) = some u) (h1 : ∀ u ∈ xs, u.oneCell' = true)
    (h63 : m ≤ maxLen) (hbytes : m * bytes ≤ 140737488355328) (hbase : base ≤ w.heap.size) :
    ∃ p c w', (Builtin.append_ #[t, t] ty #[.slice none 0 0, .slice a m cap]).run P w = .ok (.slice p m c) w' ∧ w'.ownsRow base e size (.slice p m c) m xs ∧ w.grownBy w' none := by
  by_cases hm : m = 0
  · subst hm
    have hx : xs = [] := List.eq_nil_of_length_eq_zero (by simpa using hl)
    subst hx
    refine ⟨none, 0, w, ?_, World.ownsRow_nil _ _ _ _, World.grownBy.refl w _⟩
    cases a <;> simp [Builtin.append_, run_underlying ht, sizeOf, typeInfo, hi, Builtin.lenOf, Builtin.firstCells, loadCells, loadCellsFrom]
  · obtain ⟨ad, rfl, hc⟩ := ha (by omega)
    obtain ⟨v', w', hrun, h2, h3, _, h5⟩ := run_append_own_at (P := P) w base t ty e i z size bytes ht hi hz hsize hby hzs hsz (.slice none 0 0) 0 [] (World.ownsRow_nil _ _ _ _) ad m cap xs hl hc h1 (by simpa using h63) (by simpa using hbytes) hbase
    simp only [Nat.zero_add, List.nil_append] at h2
    rcases h2.2 with ⟨_, h0⟩ | ⟨g, c, cur, rfl, _⟩
    · omega
    · exact ⟨_, c, w', hrun, h2, h3⟩
theorem wpList_append_els {P : Program} {w : World} {ops : Array Oper} {rest : List Oper} {o : Oper} {a : Act} {Q : Exit → Act → World → Prop} (hgd : o.guard = none) (s x : Operand) (t : TypeId)
    (ho : o.op = .call { callee := .builtin .append, args := #[s, x], argTypes := #[t, t] })
    (base : Nat) (e : TypeId) (i : TypeInfo) (z : Value) (size bytes : Nat) (ht : P.underlying t = some (.slice e)) (hi : P.info? e = some i) (hz : i.zero = some z)
    (hsize : i.size = size) (hby : i.bytes = bytes) (hzs : z.cells.size = size) (hsz : 0 < size) (ad : Option Addr) (m cap : Nat) (xs : List Value) (hs : a.eval s = .slice none 0 0) (hx : a.eval x = .slice ad m cap)
    (hl : xs.length = m * size) (ha : 0 < m → ∃ d, ad = some d ∧ ∀ j u, xs[j]? = some u → w.cell? (d.add j) = some u) (h1 : ∀ u ∈ xs, u.oneCell' = true) (h63 : m ≤ maxLen) (hbytes : m * bytes ≤ 140737488355328) (hbase : base ≤ w.heap.size)
    (h : ∀ p c w', w'.ownsRow base e size (.slice p m c) m xs → w.grownBy w' none → wpList P ops Q rest (a.put o.dst (.slice p m c)) w') : wpList P ops Q (o :: rest) a w := by
  obtain ⟨p, c, w', hrun, h2, h3⟩ := run_append_els (P := P) w base t o.type e i z size bytes ht hi hz hsize hby hzs hsz ad m cap xs hl ha h1 h63 hbytes hbase
  refine wpList_plain hgd fun K hK => ?_
  unfold Oper.wp execOp
  simp only [ho, resolve, invoke, builtin, Sem.run_bind, Sem.run_pure, Result.andThen_ok, List.map_toArray, List.map_cons, List.map_nil, hs, hx, hrun]
  exact hK _ _ (h p c w' h2 h3)
set_option maxHeartbeats 1000000 in
theorem copyEls_any {w : World} {ks : List El} {kv : Value} (h : KsAt w ks kv) : ∀ (w0 : World), Below w.heap.size w w0 →
    Calls Tryz.prog 22 #[kv] w0 fun e w' => CopPost w0 ks e w' := by
  induction h with
  | mk ks a cap g o f h1 h2 h3 h4 ih =>
  intro w0 hb
  have hk := h2.le
  have HF := Lib.hid h2
  have HI := Lib.hid ih
  have HK := Lib.hid (kid_at h3 h4)
  have H3 := Lib.hid h3
  have HO : Hid (∀ i (_ : i < ks.length), ∃ a n cap, f i = .slice a n cap) := Lib.hid (fun i hi => by obtain ⟨a2, cap2, e, _⟩ := (h4 i hi).len; exact ⟨a2, _, cap2, e⟩)
  have HFW : Hid (∀ i (hi : i < ks.length), Few ks[i].b.size) := Lib.hid (fun i hi => (h3 i hi).2.2.2)
  have HB := Lib.hid hb
  clear ih h3 h4 h2 hb h1
  obtain ⟨i0, hi0, hz0, hz1, hz2⟩ := info_parts el_info
  have Hi0 := Lib.hid hi0
  have Hz0 := Lib.hid hz0
  have Hz1 := Lib.hid hz1
  have Hz2 := Lib.hid hz2
  clear hi0 hz0 hz1 hz2
  have HSRC : Hid (∀ W : World, Below w0.heap.size w0 W → 0 < ks.length → ∃ d, a = some d ∧ ∀ j u, (rowE ((List.range ks.length).map fun i => ((ks[i]?).getD zeroE, f i)))[j]? = some u → W.cell? (d.add j) = some u) := Lib.hid (fun W hW h0 => ⟨⟨g, o, none⟩, (H3.out 0 h0).1, rowE_cells (fun i hi => (H3.out i hi).2.2.1.later (HB.out.trans (hW.mono HB.out.size)) (H3.out i hi).2.1)⟩)
  go_enter Tryz.func22, Tryz.ntmps22
  go_wp2_with (at_builtin; refine wpList_append_els rfl _ _ 45 rfl w0.heap.size 47 i0 _ 5 64 Tryz.underlying45 Hi0.out Hz0.out Hz1.out Hz2.out rfl (by decide) a ks.length cap _ rfl rfl (by rw [rowE_length]; simp) (fun h0 => HSRC.out _ (Below.refl _ _) h0) (rowE_one HO.out) ?c3 ?c4 ?c5 ?_)
  case c3 => unfold maxLen; omega
  case c4 => omega
  case c5 => exact Nat.le_refl _
  intro p cap1 w2 hown2 hgrow2
  have HL2 := Lib.hid (CpX.start hown2)
  have hs2 := hgrow2.size
  have hbel2 : Below w0.heap.size w0 w2 := (Below.refl _ _).grown hgrow2 (Nat.le_refl _) (fun q hq => by cases hq)
  clear hown2 hgrow2
  go_wp2_with fail
  go_loopw [3] (fun i wr => ∃ j : Nat, j ≤ ks.length ∧ i = .int .i64 j ∧ Hid (Cp w0.heap.size ks f wr p cap1 j) ∧ Below w0.heap.size w0 wr) (fun i _ => ks.length - (intOf i).toNat)
  case atStart => exact ⟨0, Nat.zero_le _, rfl, HL2, hbel2⟩
  case round =>
    obtain ⟨j, hj, rfl, HLJ, hbel⟩ := hrel
    obtain ⟨L, S, hX⟩ := HLJ.out
    have HX := Lib.hid hX
    have HBB := Lib.hid hbel
    have hsz := hbel.size
    clear hX hbel
    by_cases hlt : j < ks.length
    · obtain ⟨g1, rfl, hg1, hg2, hfz, c4⟩ := HX.out.at hlt
      obtain ⟨kc, kt, kk, kb, a2, n2, cap2, y1, y2, y3, he, hfj, hn2, y4⟩ := HK.out j hlt
      have hI := HI.out j hlt
      have HST := Lib.hid (fun (w3 : World) (hb3 : Below wr.heap.size wr w3) (v : Value) (hv : KsP (fun q => wr.heap.size ≤ q ∧ q < w3.heap.size) w3 ks[j].ks v) => HX.out.step hlt hb3 hsz hv)
      rw [hfj] at hI c4
      have HII := Lib.hid hI
      clear hI hfj he hn2 y1 y2 y3 y4
      go_wp2_with fail
      (with_reducible refine (HII.out _ (HB.out.trans (HBB.out.mono HB.out.size))).mono ?_)
      rintro e w3 ⟨v3, rfl, hk3, hb3⟩
      obtain ⟨a3, cap3, rfl, _, _⟩ := hk3.at.len
      have d4 := (hb3.cell (p := ⟨g1, j * 5 + 4, none⟩) hg2).trans c4
      have hf3 : ∀ i, w3.frozen? ⟨g1, i, none⟩ = false := fun i => by
        have e : w3.frozen? ⟨g1, i, none⟩ = wr.frozen? ⟨g1, i, none⟩ := by simp only [World.frozen?, hb3.block g1 hg2]
        rw [e]; exact hfz i
      have hN := HST.out w3 hb3 _ hk3
      have HN := Lib.hid hN
      have HB3 := Lib.hid hb3
      have hs3 := hb3.size
      clear c4 hN hk3 hb3
      go_wp2_with fail
      go_roundw
      case rel => exact ⟨j + 1, by omega, by go_num, HN, (HBB.out.trans (HB3.out.mono (by omega))).setCell (p := ⟨g1, j * 5 + 4, none⟩) hg1 _⟩
      case measure => simp [intOf]; omega
    · obtain rfl : j = ks.length := by omega
      have HW := Lib.hid (HX.out.fin HF.out HFW.out)
      go_wp2_with fail
      go_ret
      exact ⟨_, rfl, HW.out, HBB.out⟩
end Go.Proofs.YtlkdbopdmieojaaGreat
