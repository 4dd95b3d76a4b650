/- The contract of Book.growElements: each list grown, by one and by many; all that is in them are marks. -/
import Derived.Test.YtlkdbopdmieojaaGreatBkG
set_option maxRecDepth 20000
namespace Go.Proofs.YtlkdbopdmieojaaGreat
open Go.RowKit Ber
set_option maxRecDepth 20000
theorem FewK.le2 {n : Nat} (h : FewK n) : n * 64 ≤ 140737488340000 := h
theorem Pt.row {w0 w : World} {b : Nat} {VL : List (Value × Nat)} (h : Pt w0 w b VL (AllM VL)) {j : Nat} {v : Value} {n : Nat} (hj : VL[j]? = some (v, n)) : w.ownsRow w0.heap.size 47 5 v n (rowE (mkL j 0 n)) := by
  obtain ⟨L, x1, x2, x3⟩ := h.rows j v n hj
  have e : AllM VL j = n := by unfold AllM; rw [hj]; rfl
  rw [e, List.take_of_length_le (by omega)] at x3
  rw [← x3]
  exact x2
/-- one list under way: its first marks, the grown list -/
structure Inr (B : Nat) (wo wn : World) (v : Value) (i n m : Nat) (l : Value) : Prop where
  size : wo.heap.size ≤ wn.heap.size
  keep : ∀ q, q < wo.heap.size → v.ownBlock ≠ some q → wn.heap[q]? = wo.heap[q]?
  row : wn.ownsRow B 47 5 l m (rowE (mkL i 0 m))
  at_ : l.ownBlock = v.ownBlock ∨ ∀ q, l.ownBlock = some q → wo.heap.size ≤ q
  rdv : Rd wn v i n
  vlt : ∀ q, v.ownBlock = some q → q < wo.heap.size
  le : n ≤ m
  below : Below B wo wn
section
variable {B : Nat} {wo wn w' : World} {v l l' : Value} {i n m c : Nat}
theorem Inr.later (h : Inr B wo wn v i n m l) (hb : Below wn.heap.size wn w') (hB : B ≤ wo.heap.size) : Inr B wo w' v i n m l :=
  ⟨Nat.le_trans h.size hb.size, fun q hq hv => (hb.block q (by have := h.size; omega)).trans (h.keep q hq hv), rowS_later hb h.row, h.at_, h.rdv.keep hb.size (fun q hq _ => hb.block q hq), h.vlt, h.le, h.below.trans (hb.mono (Nat.le_trans hB h.size))⟩
theorem Inr.push (h : Inr B wo wn v i n m l) (hB : B ≤ wo.heap.size) (hg : wn.grownBy w' l.ownBlock) (hr : w'.ownsRow B 47 5 l' (m + c) (rowE (mkL i 0 m) ++ rowE (mkL i m c))) (hat : l'.ownBlock = l.ownBlock ∨ (l'.ownBlock = some wn.heap.size ∧ wn.grownBy w' none)) :
    Inr B wo w' v i n (m + c) l' := by
  have hs := h.size
  have e := mkL_add i 0 m c
  rw [Nat.zero_add] at e
  rw [← rowE_append, e] at hr
  have hvn : ∀ q, v.ownBlock = some q → l.ownBlock ≠ some q → l.ownBlock ≠ v.ownBlock := fun q hq hn e => hn (e.trans hq)
  refine ⟨Nat.le_trans hs hg.size, fun q hq hv => ?_, hr, ?_, ?_, h.vlt, by have := h.le; omega, h.below.grown hg (Nat.le_trans hB hs) (fun q hq => (h.row.lt q hq).1)⟩
  · refine (hg.block q (by omega) (fun e => ?_)).trans (h.keep q hq hv)
    rcases h.at_ with h1 | h1
    · exact hv (h1 ▸ e.symm)
    · have := h1 q e.symm; omega
  · rcases hat with h1 | ⟨h1, _⟩
    · rw [h1]; exact h.at_
    · exact .inr (fun q hq => by rw [h1] at hq; injection hq with hq; omega)
  · rcases hat with h1 | ⟨h1, h2⟩
    · by_cases hv : l.ownBlock = v.ownBlock
      · obtain ⟨a, cap, rfl, hc, hj⟩ := h.rdv
        refine Rd.of_row hr (by have := h.le; omega) rfl hc (fun h0 => ?_)
        obtain ⟨g, ha, _⟩ := hj 0 h0
        refine ⟨g, ha, ?_⟩
        rw [h1, hv, ha]
        rfl
      · refine h.rdv.keep hg.size (fun q hq hvq => hg.block q hq (fun e => hv (e.symm.trans hvq.symm)))
    · exact h.rdv.keep h2.size (fun q hq _ => h2.block q hq (by simp))
end
/-- the book while it grows: the first i lists are grown -/
structure Gr (w0 w1 w : World) (b : Nat) (VL : List (Value × Nat)) (i : Nat) (G : List Value) (ov : Value) : Prop where
  ex : ∃ ev wv, Blk w b 44 (bkc ev wv).toArray ∧ w.ownsRow w0.heap.size 45 1 ev VL.length (VL.map (·.1)) ∧ ∀ q, ev.ownBlock = some q → q < w1.heap.size
  pend : ∀ (j : Nat) (v : Value) (n : Nat), VL[j]? = some (v, n) → i ≤ j → w.ownsRow w0.heap.size 47 5 v n (rowE (mkL j 0 n))
  rd : ∀ (j : Nat) (v : Value) (n : Nat), VL[j]? = some (v, n) → Rd w v j n
  gl : G.length = i
  g : ∀ (j : Nat) (g v : Value) (n : Nat), G[j]? = some g → VL[j]? = some (v, n) → Rd w g j (n + 72) ∧ (∀ q, g.ownBlock = some q → v.ownBlock = some q ∨ w1.heap.size ≤ q) ∧ ∀ q, g.ownBlock = some q → ov.ownBlock ≠ some q
  out : w.ownsRow w1.heap.size 45 1 ov i G
  vlt : ∀ (j : Nat) (v : Value) (n q : Nat), VL[j]? = some (v, n) → v.ownBlock = some q → q < w1.heap.size
  apart : ∀ (i j : Nat) (v v' : Value) (n n' g : Nat), VL[i]? = some (v, n) → VL[j]? = some (v', n') → v.ownBlock = some g → v'.ownBlock = some g → i = j
  few : ∀ (j : Nat) (v : Value) (n : Nat), VL[j]? = some (v, n) → FewK n
  len : VL.length ≤ 250
  low : w0.heap.size ≤ w1.heap.size
  size : w1.heap.size ≤ w.heap.size
  base : w0.heap.size ≤ b ∧ b < w1.heap.size
theorem Pt.gr {w0 w : World} {b : Nat} {VL : List (Value × Nat)} (h : Pt w0 w b VL (AllM VL)) : Gr w0 w w b VL 0 [] (.slice none 0 0) := by
  obtain ⟨ev, wv, h1, h2⟩ := h.ex
  exact ⟨⟨ev, wv, h1, h2, fun q hq => (h2.lt q hq).2⟩, fun j v n hj _ => h.row hj, fun j v n hj => Rd.row (h.row hj), rfl, fun j g v n hg => by simp at hg, World.ownsRow_nil _ _ _ _, fun j v n q hj hq => ((h.row hj).lt q hq).2, h.apart, h.few, h.len, h.low, Nat.le_refl _, h.base, h1.lt⟩
section
variable {w0 w1 w wo w9 w10 : World} {b i n : Nat} {VL : List (Value × Nat)} {G : List Value} {ov ov' v l : Value}
theorem Gr.at (h : Gr w0 w1 w b VL i G ov) : ∃ ea ec, w.cell? ⟨b, 14, none⟩ = some (.slice ea VL.length ec) ∧ ∀ (j : Nat) (v : Value) (n : Nat), VL[j]? = some (v, n) → ∃ qe, ea = some ⟨qe, 0, none⟩ ∧ w.cell? ⟨qe, j, none⟩ = some v := by
  obtain ⟨ev, wv, h1, h2, _⟩ := h.ex
  obtain ⟨ea, ec, rfl, he⟩ := (row_form h2).2
  exact ⟨ea, ec, (h1.cell 14).trans rfl, fun j v n hj => he j v (by rw [List.getElem?_map, hj]; rfl)⟩
theorem Gr.start (h : Gr w0 w1 w b VL i G ov) (hi : VL[i]? = some (v, n)) : Inr w0.heap.size w w v i n n v :=
  ⟨Nat.le_refl _, fun q _ _ => rfl, h.pend i v n hi (Nat.le_refl _), .inl rfl, h.rd i v n hi, fun q hq => Nat.lt_of_lt_of_le (h.vlt i v n q hi hq) h.size, Nat.le_refl _, (Below.refl _ _).mono (Nat.le_trans h.low h.size)⟩
theorem Gr.next (h : Gr w0 w1 wo b VL i G ov) (hi : VL[i]? = some (v, n)) (hx : Inr w0.heap.size wo w9 v i n (n + 72) l) {o : Obj} (hg : (w9.alloc o).grownBy w10 ov.ownBlock) (hr : w10.ownsRow w1.heap.size 45 1 ov' (i + 1) (G ++ [l])) (hat : ov'.ownBlock = ov.ownBlock ∨ ov'.ownBlock = some (w9.heap.size + 1)) :
    Gr w0 w1 w10 b VL (i + 1) (G ++ [l]) ov' := by
  obtain ⟨ev, wv, e1, e2, e3⟩ := h.ex
  have hs9 := hx.size
  have hs10 := hg.size
  simp only [World.size_alloc] at hs10
  have hov : ∀ q, ov.ownBlock = some q → w1.heap.size ≤ q ∧ q < wo.heap.size := fun q hq => h.out.lt q hq
  have hw10 : ∀ q, q < w9.heap.size → ov.ownBlock ≠ some q → w10.heap[q]? = w9.heap[q]? := fun q hq hn => (hg.block q (by simp; omega) (fun e => hn e.symm)).trans (Below.heap_alloc w9 o q hq)
  have hwo : ∀ q, q < wo.heap.size → v.ownBlock ≠ some q → ov.ownBlock ≠ some q → w10.heap[q]? = wo.heap[q]? := fun q hq hn hn2 => (hw10 q (by omega) hn2).trans (hx.keep q hq hn)
  have hovlow : ∀ q, q < w1.heap.size → ov.ownBlock ≠ some q := fun q hq e => by have := (hov q e).1; omega
  have hvi := h.pend i v n hi (Nat.le_refl _)
  have hvty : ∀ q, v.ownBlock = some q → ∃ cs, wo.heap[q]? = some (.cells cs 47 (0, 0)) := fun q hq => (own_ty hvi hq).2
  have hb1 := h.base.2
  have hsz := h.size
  have hvj : ∀ (j : Nat) (v' : Value) (m q : Nat), VL[j]? = some (v', m) → j ≠ i → v'.ownBlock = some q → v.ownBlock ≠ some q := fun j v' m q hj hji hq e => hji (h.apart j i v' v m n q hj hi hq e)
  refine ⟨⟨ev, wv, ?_, ?_, e3⟩, fun j v' m hj hij => ?_, fun j v' m hj => ?_, by rw [List.length_append, h.gl]; rfl, fun j g v' m hgj hj => ?_, hr, h.vlt, h.apart, h.few, h.len, h.low, by omega, h.base⟩
  · refine (hwo b (by omega) (fun e => ?_) (hovlow b hb1)).trans e1
    obtain ⟨cs, hh⟩ := hvty b e
    have hb : wo.heap[b]? = _ := e1
    rw [hh] at hb
    injection hb with hb
    injection hb with _ hb _
    exact absurd hb (by decide)
  · refine row_keep e2 fun q hq => hwo q (e2.lt q hq).2 (fun e => ?_) (hovlow q (e3 q hq))
    obtain ⟨cs, hh⟩ := hvty q e
    obtain ⟨_, cs', hh'⟩ := own_ty e2 hq
    rw [hh] at hh'
    injection hh' with hh'
    injection hh' with _ hh' _
    exact absurd hh' (by decide)
  · exact row_keep (h.pend j v' m hj (by omega)) fun q hq => hwo q (by have := h.vlt j v' m q hj hq; omega) (hvj j v' m q hj (by omega) hq) (hovlow q (h.vlt j v' m q hj hq))
  · by_cases hji : j = i
    · subst hji
      rw [hi] at hj
      injection hj with hj
      injection hj with e1 e2
      subst e1 e2
      exact hx.rdv.keep (by omega) (fun q hq hq2 => hw10 q hq (hovlow q (h.vlt j v n q hi hq2)))
    · exact (h.rd j v' m hj).keep (by omega) (fun q hq hq2 => hwo q hq (hvj j v' m q hj hji hq2) (hovlow q (h.vlt j v' m q hj hq2)))
  · by_cases hjl : j < G.length
    · rw [List.getElem?_append_left hjl] at hgj
      obtain ⟨x1, x2, x3⟩ := h.g j g v' m hgj hj
      have hji : j ≠ i := by have := h.gl; omega
      have hne : ∀ q, g.ownBlock = some q → v.ownBlock ≠ some q := fun q hq e => by
        rcases x2 q hq with y | y
        · exact hvj j v' m q hj hji y e
        · have := h.vlt i v n q hi e; omega
      have hlt : ∀ q, g.ownBlock = some q → q < wo.heap.size := fun q hq => by
        obtain ⟨a, cap, rfl, _, hz⟩ := x1
        obtain ⟨g', rfl, hg', _⟩ := hz 0 (by omega)
        injection hq with hq
        have hq2 : g' = q := hq
        omega
      refine ⟨x1.keep (by omega) (fun q hq hq2 => hwo q hq (hne q hq2) (x3 q hq2)), x2, fun q hq => ?_⟩
      rcases hat with e | e
      · rw [e]; exact x3 q hq
      · rw [e]; intro e2; injection e2 with e2; have := hlt q hq; omega
    · have hj2 := (List.getElem?_eq_some_iff.1 hgj).1
      rw [List.length_append, List.length_singleton] at hj2
      have hgl := h.gl
      obtain rfl : j = i := by omega
      rw [List.getElem?_append_right (by omega), show j - G.length = 0 from by omega] at hgj
      simp only [List.getElem?_cons_zero, Option.some.injEq] at hgj
      subst hgj
      rw [hi] at hj
      injection hj with hj
      injection hj with e1 e2
      subst e1 e2
      have hl := hx.row.lt
      have hlov : ∀ q, l.ownBlock = some q → ov.ownBlock ≠ some q := fun q hq e => by
        rcases hx.at_ with y | y
        · rw [y] at hq; exact hovlow q (h.vlt j v n q hi hq) e
        · have := y q hq; have := (hov q e).2; omega
      refine ⟨(Rd.row hx.row).keep (by omega) (fun q hq hq2 => hw10 q hq (hlov q hq2)), fun q hq => ?_, fun q hq => ?_⟩
      · rcases hx.at_ with y | y
        · exact .inl (y ▸ hq)
        · exact .inr (by have := y q hq; omega)
      · rcases hat with e | e
        · rw [e]; exact hlov q hq
        · rw [e]; intro e2; injection e2 with e2; have := (hl q hq).2; omega
theorem Gr.later (h : Gr w0 w1 w b VL i G ov) (hb : Below w.heap.size w w10) : Gr w0 w1 w10 b VL i G ov := by
  obtain ⟨ev, wv, h1, h2, h3⟩ := h.ex
  exact ⟨⟨ev, wv, h1.below hb h1.lt, rowS_later hb h2, h3⟩, fun j v n hj hij => rowS_later hb (h.pend j v n hj hij), fun j v n hj => (h.rd j v n hj).keep hb.size (fun q hq _ => hb.block q hq), h.gl,
    fun j g v n hg hj => ⟨(h.g j g v n hg hj).1.keep hb.size (fun q hq _ => hb.block q hq), (h.g j g v n hg hj).2⟩, rowS_later hb h.out, h.vlt, h.apart, h.few, h.len, h.low, Nat.le_trans h.size hb.size, h.base⟩
end
theorem Gr.outAt {w0 w1 wo w9 : World} {b i n m : Nat} {VL : List (Value × Nat)} {G : List Value} {ov v l : Value} (h : Gr w0 w1 wo b VL i G ov) (hi : VL[i]? = some (v, n)) (hx : Inr w0.heap.size wo w9 v i n m l) : w9.ownsRow w1.heap.size 45 1 ov i G :=
  row_keep h.out fun q hq => hx.keep q (h.out.lt q hq).2 (fun e => by have := h.vlt i v n q hi e; have := (h.out.lt q hq).1; omega)
theorem mkL_one (i f n : Nat) : ∀ u ∈ rowE (mkL i f n), u.oneCell' = true := by
  intro u hu
  simp only [rowE, mkL, List.mem_flatMap, List.mem_map] at hu
  obtain ⟨x, ⟨k, _, rfl⟩, hu⟩ := hu
  exact cells1_one _ none 0 0 rfl u hu
theorem row_some {w : World} {B s n : Nat} {e : TypeId} {v : Value} {xs : List Value} (h : w.ownsRow B e s v n xs) (h0 : 0 < n) : ∃ g cap, v = .slice (some ⟨g, 0, none⟩) n cap ∧ ∀ j u, xs[j]? = some u → w.cell? ((⟨g, 0, none⟩ : Addr).add j) = some u := by
  have hc := fun g => h.cells (g := g)
  rcases h.2 with ⟨_, h1⟩ | ⟨g, cap, cur, rfl, _⟩
  · omega
  · exact ⟨g, cap, rfl, hc g rfl⟩
theorem row_shape {w : World} {B s n : Nat} {e : TypeId} {v : Value} {xs : List Value} (h : w.ownsRow B e s v n xs) : ∃ a cap, v = .slice a n cap := by
  rcases h.2 with ⟨rfl, rfl⟩ | ⟨g, cap, cur, rfl, _⟩ <;> exact ⟨_, _, rfl⟩
/-- what growElements leaves -/
def GrPost (w0 w : World) (b : Nat) (VL : List (Value × Nat)) (e : Ending) (w' : World) : Prop := ∃ ov G, e = .returned ov ∧ Gr w0 w w' b VL VL.length G ov ∧ Below w0.heap.size w w'
set_option maxHeartbeats 4000000 in
theorem growElements_any {w0 w : World} {b : Nat} {VL : List (Value × Nat)} (h : Pt w0 w b VL (AllM VL)) : Calls Tryz.prog 66 #[.pointer (some ⟨b, 0, none⟩)] w fun e w' => GrPost w0 w b VL e w' := by
  have hlen := h.len
  have hlow := h.low
  have H := Lib.hid h.gr
  clear h
  obtain ⟨i0, hi0, hz0, hz1, hz2⟩ := info_parts el_info
  have Hi0 := Lib.hid hi0
  have Hz0 := Lib.hid hz0
  have Hz1 := Lib.hid hz1
  have Hz2 := Lib.hid hz2
  clear hi0 hz0 hz1 hz2
  obtain ⟨i1, hi1, hz0, hz1, hz2⟩ := info_parts ls_info
  have Hi1 := Lib.hid hi1
  have Hy0 := Lib.hid hz0
  have Hy1 := Lib.hid hz1
  have Hy2 := Lib.hid hz2
  clear hi1 hz0 hz1 hz2
  go_enter Tryz.func66, Tryz.ntmps66
  go_wp2_with fail
  go_loopw [3, 4] (fun o i wr => ∃ (j : Nat) (G : List Value), j ≤ VL.length ∧ i = .int .i64 j ∧ Hid (Gr w0 w wr b VL j G o) ∧ Below w0.heap.size w wr) (fun _ i _ => VL.length - (intOf i).toNat)
  case atStart => exact ⟨0, [], Nat.zero_le _, rfl, H, (Below.refl _ _).mono hlow⟩
  case round =>
    obtain ⟨i, G, hi, rfl, HG, hbel⟩ := hrel
    obtain ⟨wo, rfl⟩ : ∃ x, x = wr := ⟨_, rfl⟩
    obtain ⟨ea, ec, c14, hat⟩ := HG.out.at
    have hs := hbel.size
    by_cases hlt : i < VL.length
    · obtain ⟨⟨v, n⟩, hvn⟩ : ∃ p, VL[i]? = some p := ⟨VL[i], List.getElem?_eq_getElem hlt⟩
      obtain ⟨qe, rfl, d0⟩ := hat i v n hvn
      have HIN := Lib.hid (HG.out.start hvn)
      have hF := (HG.out.few i _ n hvn).le2
      obtain ⟨a, cap, rfl, _⟩ := HG.out.rd i _ n hvn
      have HVN := Lib.hid hvn
      have HBB := Lib.hid hbel
      have q2 : (0 : Int) ≤ (i : Int) := by omega
      have q3 : (i : Int) < (VL.length : Int) := by omega
      clear hat hvn hbel
      go_wp2_with fail
      go_loopw [5, 6] (fun l t wr => ∃ t' : Nat, t' ≤ 12 ∧ t = .int .i64 t' ∧ Hid (Inr w0.heap.size wo wr (.slice a n cap) i n (n + t') l)) (fun _ t _ => 12 - (intOf t).toNat)
      case atStart => exact ⟨0, Nat.zero_le _, rfl, HIN⟩
      case round =>
        obtain ⟨t', ht, rfl, HI⟩ := hrel
        have hlow2 : w0.heap.size ≤ wo.heap.size := by have := HG.out.size; omega
        obtain ⟨M, hM⟩ : ∃ M, n + t' = M := ⟨_, rfl⟩
        rw [hM] at HI
        obtain ⟨al, cl, rfl⟩ := row_shape HI.out.row
        by_cases ht12 : t' < 12
        · go_wp2_with fail
          (with_reducible refine (markEls_any i M 1 (i : Int) (M : Int) 1 rfl rfl rfl _ (by omega) (by omega)).mono ?_)
          rintro e w2 ⟨mv, rfl, hrow, hb2⟩
          obtain ⟨gm, cm, rfl, hcells⟩ := row_some hrow Nat.one_pos
          have HI2 := Lib.hid (HI.out.later hb2 hlow2)
          have hlow3 : w0.heap.size ≤ w2.heap.size := by have := HI2.out.size; omega
          go_wp2_with (at_builtin; refine wpList_append_two rfl _ _ 45 rfl w0.heap.size 47 i0 _ 5 64 Tryz.underlying45 Hi0.out Hz0.out Hz1.out Hz2.out rfl (by decide) _ M (rowE (mkL i 0 M)) rfl HI2.out.row ⟨gm, 0, none⟩ 1 cm (rowE (mkL i M 1)) rfl (by rw [rowE_length, mkL_length]) hcells (mkL_one _ _ _) ?c3 ?c4 ?c5 ?_)
          case c3 => unfold maxLen; omega
          case c4 => omega
          case c5 => exact hlow3
          intro v4 w4 hown4 hgrow4 hat4
          have HI4 := Lib.hid (HI2.out.push hlow2 hgrow4 hown4 hat4)
          clear hrow hb2 hcells hown4 hgrow4 hat4
          go_wp2_with fail
          go_roundw
          case rel => exact ⟨t' + 1, by omega, by go_num, by rw [show n + (t' + 1) = M + 1 from by omega]; exact HI4⟩
          case measure => simp [intOf]; omega
        · obtain rfl : t' = 12 := by omega
          go_wp2_with fail
          (with_reducible refine (markEls_any i M 60 (i : Int) (M : Int) 60 rfl rfl rfl _ (by omega) (by omega)).mono ?_)
          rintro e w2 ⟨mv, rfl, hrow, hb2⟩
          obtain ⟨gm, cm, rfl, hcells⟩ := row_some hrow (by decide)
          have HI2 := Lib.hid (HI.out.later hb2 hlow2)
          have hlow3 : w0.heap.size ≤ w2.heap.size := by have := HI2.out.size; omega
          go_wp2_with (at_builtin; refine wpList_append_two rfl _ _ 45 rfl w0.heap.size 47 i0 _ 5 64 Tryz.underlying45 Hi0.out Hz0.out Hz1.out Hz2.out rfl (by decide) _ M (rowE (mkL i 0 M)) rfl HI2.out.row ⟨gm, 0, none⟩ 60 cm (rowE (mkL i M 60)) rfl (by rw [rowE_length, mkL_length]) hcells (mkL_one _ _ _) ?c3 ?c4 ?c5 ?_)
          case c3 => unfold maxLen; omega
          case c4 => omega
          case c5 => exact hlow3
          intro v4 w4 hown4 hgrow4 hat4
          have hi4 := HI2.out.push hlow2 hgrow4 hown4 hat4
          rw [show M + 60 = n + 72 from by omega] at hi4 hown4
          obtain ⟨a4, c4, rfl⟩ := row_shape hown4
          have HO4 := Lib.hid (HG.out.outAt HVN.out hi4)
          have hs4 := hi4.size
          have hs5 := HG.out.size
          have HI4 := Lib.hid hi4
          clear hrow hb2 hcells hown4 hgrow4 hat4 hi4
          go_wp2_with (at_builtin; refine wpList_append_own_at _ rfl _ _ 32 rfl w.heap.size 45 i1 _ 1 24 Tryz.underlying32 Hi1.out Hy0.out Hy1.out Hy2.out rfl (by decide) _ i G rfl (HO4.out.alloc _) ⟨w4.heap.size, 0, none⟩ 1 1 [.slice a4 (n + 72) c4] rfl rfl (one_new _ _ _) (one_slice _ _ _) ?c3 ?c4 ?c5 ?_)
          case c3 => unfold maxLen; omega
          case c4 => omega
          case c5 => simp; omega
          intro v6 w6 hown6 hgrow6 hnil6 hat6
          have HG6 := Lib.hid (HG.out.next HVN.out HI4.out hgrow6 hown6 (by simpa using hat6))
          have HB6 : Hid (Below w0.heap.size w w6) := Lib.hid (((HBB.out.trans HI4.out.below).alloc (by omega) _).grown hgrow6 (by simp; omega) (fun q hq => by have := (HG.out.out.lt q hq).1; omega))
          clear hown6 hgrow6 hnil6 hat6
          go_wp2_with fail
          go_roundw
          case rel => exact ⟨i + 1, G ++ [.slice a4 (n + 72) c4], by omega, by go_num, HG6, HB6.out⟩
          case measure => simp [intOf]; omega
    · obtain rfl : i = VL.length := by omega
      go_wp2_with fail
      go_ret
      exact ⟨_, G, rfl, HG.out, hbel⟩
end Go.Proofs.YtlkdbopdmieojaaGreat
