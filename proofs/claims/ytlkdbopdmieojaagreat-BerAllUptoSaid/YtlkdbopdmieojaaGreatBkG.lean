/- The contract of Book.putElements: each list is marked. -/
import Derived.Test.YtlkdbopdmieojaaGreatBkF
set_option maxRecDepth 20000
namespace Go.Proofs.YtlkdbopdmieojaaGreat
open Go.RowKit Ber
set_option maxRecDepth 20000
theorem KsQ.own {w : World} {S : Nat → Prop} {ks : List El} {v : Value} (h : KsQ w S ks v) : ∃ L : List (El × Value), L.length = ks.length ∧ w.ownsRow 0 47 5 v L.length (rowE L) ∧ FewK ks.length := by
  cases h with
  | mk _ L _ C own h2 few so sub disj kids => exact ⟨L, by simp, own, by simpa using h2⟩
theorem row_rebase {w : World} {B n s : Nat} {e : TypeId} {v : Value} {xs : List Value} (h : w.ownsRow 0 e s v n xs) (hb : ∀ g, v.ownBlock = some g → B ≤ g) : w.ownsRow B e s v n xs := by
  refine ⟨h.1, ?_⟩
  rcases h.2 with h0 | ⟨g', cap, cur, rfl, _, r⟩
  · exact .inl h0
  · exact .inr ⟨g', cap, cur, rfl, hb g' rfl, r⟩
/-- a book whose lists are marked up to a number each -/
structure Pt (w0 w : World) (b : Nat) (VL : List (Value × Nat)) (dn : Nat → Nat) : Prop where
  ex : ∃ ev wv, Blk w b 44 (bkc ev wv).toArray ∧ w.ownsRow w0.heap.size 45 1 ev VL.length (VL.map (·.1))
  rows : ∀ (j : Nat) (v : Value) (n : Nat), VL[j]? = some (v, n) → ∃ L : List (El × Value), L.length = n ∧ w.ownsRow w0.heap.size 47 5 v n (rowE L) ∧ L.take (dn j) = mkL j 0 (dn j)
  apart : ∀ (i j : Nat) (v v' : Value) (n n' g : Nat), VL[i]? = some (v, n) → VL[j]? = some (v', n') → v.ownBlock = some g → v'.ownBlock = some g → i = j
  few : ∀ (j : Nat) (v : Value) (n : Nat), VL[j]? = some (v, n) → FewK n
  len : VL.length ≤ 250
  low : w0.heap.size ≤ w.heap.size
  base : w0.heap.size ≤ b
theorem Bk.pt {w0 w : World} {b : Nat} {RL : List Rc} (h : Bk w0 w b RL) : Pt w0 w b (RL.map fun r => (r.v, r.ks.length)) (fun _ => 0) := by
  obtain ⟨ev, wv, hr⟩ := h.ex
  have key : ∀ (j : Nat) (v : Value) (n : Nat), (RL.map fun r => (r.v, r.ks.length))[j]? = some (v, n) → ∃ r, RL[j]? = some r ∧ r.v = v ∧ r.ks.length = n := by
    intro j v n hj
    rw [List.getElem?_map] at hj
    cases hx : RL[j]? with
    | none => rw [hx] at hj; cases hj
    | some r =>
      rw [hx] at hj
      simp only [Option.map_some, Option.some.injEq, Prod.mk.injEq] at hj
      exact ⟨r, rfl, hj.1, hj.2⟩
  refine ⟨⟨ev, wv, hr.blk, ?_⟩, ?_, ?_, ?_, by simpa using h.len, h.low, hr.base⟩
  · have he := hr.e
    have e1 : (RL.map fun r => (r.v, r.ks.length)).map (·.1) = RL.map (·.v) := by simp
    rw [e1]
    simpa using he
  · intro j v n hj
    obtain ⟨r, h1, rfl, rfl⟩ := key j v n hj
    have hm := List.mem_of_getElem? h1
    obtain ⟨⟨S, hq⟩, _⟩ := h.ks r hm
    obtain ⟨L, h2, h3, _⟩ := hq.own
    rw [h2] at h3
    exact ⟨L, h2, row_rebase h3 (h.new r hm), by simp [mkL]⟩
  · intro i j v v' n n' g hi hj hgi hgj
    obtain ⟨r, h1, rfl, rfl⟩ := key i v n hi
    obtain ⟨r', h1', rfl, rfl⟩ := key j v' n' hj
    exact h.apart i j r r' g h1 h1' hgi hgj
  · intro j v n hj
    obtain ⟨r, h1, rfl, rfl⟩ := key j v n hj
    obtain ⟨⟨S, hq⟩, _⟩ := h.ks r (List.mem_of_getElem? h1)
    obtain ⟨L, _, _, h4⟩ := hq.own
    exact h4
/-- the world with an element written over -/
def W5 (w : World) (g o : Nat) (c t : Int) (k : Bool) (b : ByteArray) (kv : Value) : World :=
  ((((w.setCell ⟨g, o, none⟩ (.int .i64 c)).setCell ⟨g, o + 1, none⟩ (.int .i64 t)).setCell ⟨g, o + 2, none⟩ (.bool k)).setCell ⟨g, o + 3, none⟩ (.string b)).setCell ⟨g, o + 4, none⟩ kv
theorem W5.size (w : World) (g o : Nat) (c t : Int) (k : Bool) (b : ByteArray) (kv : Value) : (W5 w g o c t k b kv).heap.size = w.heap.size := by simp [W5]
theorem W5.other (w : World) (g o : Nat) (c t : Int) (k : Bool) (b : ByteArray) (kv : Value) (q : Nat) (h : q ≠ g) : (W5 w g o c t k b kv).heap[q]? = w.heap[q]? := by
  simp only [W5]
  rw [Below.heap_setCell _ _ _ _ h, Below.heap_setCell _ _ _ _ h, Below.heap_setCell _ _ _ _ h, Below.heap_setCell _ _ _ _ h, Below.heap_setCell _ _ _ _ h]
theorem W5.below {w : World} {g o : Nat} {c t : Int} {k : Bool} {b : ByteArray} {kv : Value} {B : Nat} {w0 : World} (h : Below B w0 w) (hg : B ≤ g) : Below B w0 (W5 w g o c t k b kv) :=
  ((((h.setCell (p := ⟨g, _, none⟩) hg _).setCell (p := ⟨g, _, none⟩) hg _).setCell (p := ⟨g, _, none⟩) hg _).setCell (p := ⟨g, _, none⟩) hg _).setCell (p := ⟨g, _, none⟩) hg _
section
variable {w0 w w' : World} {b : Nat} {VL : List (Value × Nat)} {dn dn' : Nat → Nat}
theorem Pt.later (h : Pt w0 w b VL dn) (hb : Below w.heap.size w w') : Pt w0 w' b VL dn := by
  obtain ⟨ev, wv, h1, h2⟩ := h.ex
  exact ⟨⟨ev, wv, h1.below hb h1.lt, rowS_later hb h2⟩, fun j v n hj => by obtain ⟨L, x1, x2, x3⟩ := h.rows j v n hj; exact ⟨L, x1, rowS_later hb x2, x3⟩, h.apart, h.few, h.len, Nat.le_trans h.low hb.size, h.base⟩
theorem Pt.drew (h : Pt w0 w b VL dn) : Pt w0 w.drew b VL dn := h.later (below_drew1 (Below.refl _ _))
theorem Pt.congr (h : Pt w0 w b VL dn) (he : ∀ j, j < VL.length → dn' j = dn j) : Pt w0 w b VL dn' := by
  refine ⟨h.ex, fun j v n hj => ?_, h.apart, h.few, h.len, h.low, h.base⟩
  obtain ⟨L, x1, x2, x3⟩ := h.rows j v n hj
  exact ⟨L, x1, x2, by rw [he j (List.getElem?_eq_some_iff.1 hj).1]; exact x3⟩
/-- where the lists lie -/
theorem Pt.at (h : Pt w0 w b VL dn) : ∃ ea ec, w.cell? ⟨b, 14, none⟩ = some (.slice ea VL.length ec) ∧ ∀ (j : Nat) (v : Value) (n : Nat), VL[j]? = some (v, n) → ∃ qe, ea = some ⟨qe, 0, none⟩ ∧ w.cell? ⟨qe, j, none⟩ = some v := by
  obtain ⟨ev, wv, h1, h2⟩ := h.ex
  obtain ⟨ea, ec, rfl, he⟩ := (row_form h2).2
  exact ⟨ea, ec, (h1.cell 14).trans rfl, fun j v n hj => he j v (by rw [List.getElem?_map, hj]; rfl)⟩
theorem Pt.shape (h : Pt w0 w b VL dn) {j : Nat} {v : Value} {n : Nat} (hj : VL[j]? = some (v, n)) : ∃ a cap, v = .slice a n cap ∧ n ≤ cap ∧ cap ≤ maxLen := by
  obtain ⟨L, x1, x2, _⟩ := h.rows j v n hj
  rcases x2.2 with ⟨rfl, rfl⟩ | ⟨g, cap, cur, rfl, _, _, hc1, hc2, _⟩
  · exact ⟨none, 0, rfl, Nat.le_refl _, Nat.zero_le _⟩
  · exact ⟨_, cap, rfl, hc1, hc2⟩
/-- a place to be written -/
theorem Pt.stor (h : Pt w0 w b VL dn) {j k : Nat} {a : Option Addr} {cap n : Nat} (hj : VL[j]? = some (.slice a n cap, n)) (hk : k < n) :
    ∃ (g : Nat) (x0 x1 x2 x3 x4 : Value), a = some ⟨g, 0, none⟩ ∧ w0.heap.size ≤ g ∧ g < w.heap.size ∧ (∀ i, w.frozen? ⟨g, i, none⟩ = false) ∧ w.cell? ⟨g, k * 5, none⟩ = some x0 ∧ w.cell? ⟨g, k * 5 + 1, none⟩ = some x1 ∧ w.cell? ⟨g, k * 5 + 2, none⟩ = some x2 ∧ w.cell? ⟨g, k * 5 + 3, none⟩ = some x3 ∧ w.cell? ⟨g, k * 5 + 4, none⟩ = some x4 := by
  obtain ⟨L, x1, x2, _⟩ := h.rows j _ n hj
  subst x1
  obtain ⟨g, rfl, hg, c0, c1, c2, c3, c4⟩ := row_at x2 k hk
  obtain ⟨hB, cs, hh⟩ := own_ty x2 (q := g) rfl
  exact ⟨g, _, _, _, _, _, rfl, hB, hg, fun i => frozen_of_row w g i cs _ hh, c0, c1, c2, c3, c4⟩
theorem Pt.step (h : Pt w0 w b VL dn) {i k g cap n : Nat} (hi : VL[i]? = some (.slice (some ⟨g, 0, none⟩) n cap, n)) (hk : k < n) (hd : dn i = k) : Pt w0 (W5 w g (k * 5) (-1 - (i : Int)) (k : Int) false ⟨#[]⟩ (.slice none 0 0)) b VL (fun j => if j = i then k + 1 else dn j) := by
  obtain ⟨L, x1, x2, x3⟩ := h.rows i _ n hi
  obtain ⟨_, cs, hg⟩ := own_ty x2 (q := g) rfl
  obtain ⟨ev, wv, h1, h2⟩ := h.ex
  have hW := fun q (hq : q ≠ g) => W5.other w g (k * 5) (-1 - (i : Int)) (k : Int) false ⟨#[]⟩ (.slice none 0 0) q hq
  have hbg : b ≠ g := by
    rintro rfl
    have hb : w.heap[b]? = _ := h1
    rw [hg] at hb
    injection hb with hb
    injection hb with _ hb _
    exact absurd hb (by decide)
  refine ⟨⟨ev, wv, (hW b hbg).trans h1, row_keep h2 fun q hq => hW q ?_⟩, fun j v m hj => ?_, h.apart, h.few, h.len, by rw [W5.size]; exact h.low, h.base⟩
  · rintro rfl
    obtain ⟨_, cs', hh⟩ := own_ty h2 hq
    rw [hg] at hh
    injection hh with hh
    injection hh with _ hh _
    exact absurd hh (by decide)
  · by_cases e : j = i
    · subst e
      rw [hi] at hj
      injection hj with hj
      injection hj with e1 e2
      subst e1 e2
      refine ⟨L.set k (mk1 j k), by simpa using x1, ?_, ?_⟩
      · have o1 := (x2.stored (k * 5) (.int .i64 (-1 - (j : Int)))).1
        have o2 := (o1.stored (k * 5 + 1) (.int .i64 (k : Int))).1
        have o3 := (o2.stored (k * 5 + 2) (.bool false)).1
        have o4 := (o3.stored (k * 5 + 3) (.string ⟨#[]⟩)).1
        have o5 := (o4.stored (k * 5 + 4) (.slice none 0 0)).1
        rw [← rowE_set L k (by omega) (mk1 j k)]
        exact o5
      · simp only [if_true]
        rw [hd] at x3
        rw [mkL_succ, ← x3, Nat.zero_add, List.take_set, List.take_succ_eq_append_getElem (by omega : k < L.length), List.set_append_right _ _ (by simp; omega)]
        simp [show min k L.length = k from by omega]
    · obtain ⟨L', y1, y2, y3⟩ := h.rows j v m hj
      refine ⟨L', y1, row_keep y2 fun q hq => hW q ?_, by simp only [if_neg e]; exact y3⟩
      rintro rfl
      exact e (h.apart j i v _ m n q hj hi hq rfl)
end
def dnI (VL : List (Value × Nat)) (i k j : Nat) : Nat := if j = i then k else if j < i then ((VL[j]?).map (·.2)).getD 0 else 0
def AllM (VL : List (Value × Nat)) (j : Nat) : Nat := ((VL[j]?).map (·.2)).getD 0
theorem Rd.at {w : World} {a : Option Addr} {n cap i j : Nat} (h : Rd w (.slice a n cap) i n) (hj : j < n) : ∃ g, a = some ⟨g, 0, none⟩ ∧ g < w.heap.size ∧ C5 w g (j * 5) (-1 - (i : Int)) (j : Int) false ⟨#[]⟩ (.slice none 0 0) := by
  obtain ⟨a', cap', e, _, hx⟩ := h
  injection e with e1 _ _
  subst e1
  exact hx j hj
/-- what putElements leaves -/
def PtPost (w0 w : World) (b : Nat) (VL : List (Value × Nat)) (e : Ending) (w' : World) : Prop := e = .returned (.tuple #[]) ∧ Pt w0 w' b VL (AllM VL) ∧ Below w0.heap.size w w'
set_option maxHeartbeats 2000000 in
theorem putElements_any {w0 w : World} {b : Nat} {VL : List (Value × Nat)} (h : Pt w0 w b VL (fun _ => 0)) : Calls Tryz.prog 49 #[.pointer (some ⟨b, 0, none⟩)] w fun e w' => PtPost w0 w b VL e w' := by
  have hlen := h.len
  have hlow := h.low
  have H := Lib.hid (h.congr (dn' := dnI VL 0 0) (fun j _ => by simp [dnI]))
  clear h
  go_enter Tryz.func49, Tryz.ntmps49
  go_wp2_with fail
  go_loopw [2] (fun i wr => ∃ j : Nat, j ≤ VL.length ∧ i = .int .i64 j ∧ Hid (Pt w0 wr b VL (dnI VL j 0)) ∧ Below w0.heap.size w wr) (fun i _ => VL.length - (intOf i).toNat)
  case atStart => exact ⟨0, Nat.zero_le _, rfl, H, Below.refl _ _⟩
  case round =>
    obtain ⟨i, hi, rfl, HPT, hbel⟩ := hrel
    obtain ⟨wo, rfl⟩ : ∃ x, x = wr := ⟨_, rfl⟩
    obtain ⟨ea, ec, c14, hat⟩ := HPT.out.at
    have hs := hbel.size
    by_cases hlt : i < VL.length
    · obtain ⟨⟨v, n⟩, hvn⟩ : ∃ p, VL[i]? = some p := ⟨VL[i], List.getElem?_eq_getElem hlt⟩
      obtain ⟨qe, rfl, d0⟩ := hat i v n hvn
      obtain ⟨a, cap, rfl, hc1, hc2⟩ := HPT.out.shape hvn
      have hF := HPT.out.few i _ n hvn
      have hF2 := hF.le
      have HVN := Lib.hid hvn
      have HBB := Lib.hid hbel
      have HGL : Hid (∀ g, a = some ⟨g, 0, none⟩ → w0.heap.size ≤ g ∧ g < wo.heap.size) := Lib.hid (fun g hg => by
        obtain ⟨L, _, x2, _⟩ := HPT.out.rows i _ n hvn
        exact x2.lt g (by rw [hg]; rfl))
      clear hat hvn hbel
      go_wp2_with fail
      (with_reducible refine (markEls_any i 0 n (i : Int) 0 (n : Int) rfl rfl rfl _ (by omega) (by omega)).mono ?_)
      rintro e w3 ⟨m, rfl, hrow, hb3⟩
      have hrd := Rd.row hrow
      obtain ⟨am, cm, rfl⟩ : ∃ a c, m = .slice a n c := by obtain ⟨a, c, e, _⟩ := hrd; exact ⟨a, c, e⟩
      have HMO : Hid (∀ q, am = some ⟨q, 0, none⟩ → wo.heap.size ≤ q) := Lib.hid (fun q hq => (hrow.lt q (by rw [hq]; rfl)).1)
      have HPT3 := Lib.hid (HPT.out.later hb3)
      have HRD := Lib.hid hrd
      have HB3 : Hid (Below w0.heap.size w w3) := Lib.hid (HBB.out.trans (hb3.mono (by omega)))
      clear hrow hb3 hrd c14 d0
      go_wp2_with fail
      go_loopw [4] (fun k wk => ∃ k' : Nat, k' ≤ n ∧ k = .int .i64 k' ∧ Hid (Pt w0 wk b VL (dnI VL i k')) ∧ Hid (Rd wk (.slice am n cm) i n) ∧ Hid (Below w0.heap.size w wk)) (fun k _ => n - (intOf k).toNat)
      case atStart => exact ⟨0, Nat.zero_le _, rfl, HPT3, HRD, HB3⟩
      case round =>
        obtain ⟨k, hk, rfl, HPK, HRK, HBK⟩ := hrel
        by_cases hkn : k < n
        · obtain ⟨ea', ec', c14, hat⟩ := HPK.out.at
          obtain ⟨qe', rfl, d0⟩ := hat i _ n HVN.out
          obtain ⟨g, x0, x1, x2, x3, x4, rfl, hgB, hgl, hfz, y0, y1, y2, y3, y4⟩ := HPK.out.stor HVN.out hkn
          obtain ⟨gm, rfl, hgm, z0, z1, z2, z3, z4⟩ := HRK.out.at hkn
          have hgw := (HGL.out g rfl).2
          have hmw := HMO.out gm rfl
          obtain ⟨V, hV⟩ : ∃ V, W5 wr g (k * 5) (-1 - (i : Int)) (k : Int) false ⟨#[]⟩ (.slice none 0 0) = V := ⟨_, rfl⟩
          have hp0 := (HPK.out.step HVN.out hkn (by simp [dnI])).congr (dn' := dnI VL i (k + 1)) (fun j hj => by
            unfold dnI
            by_cases e : j = i
            · rw [if_pos e, if_pos e]
            · rw [if_neg e, if_neg e, if_neg e])
          have hr0 := HRK.out.keep (w' := W5 wr g (k * 5) (-1 - (i : Int)) (k : Int) false ⟨#[]⟩ (.slice none 0 0)) (Nat.le_of_eq (W5.size _ _ _ _ _ _ _ _).symm) (fun q hq hv => W5.other _ _ _ _ _ _ _ _ q (by
            injection hv with hv
            have hv2 : gm = q := hv
            omega))
          have hb0 : Below w0.heap.size w (W5 wr g (k * 5) (-1 - (i : Int)) (k : Int) false ⟨#[]⟩ (.slice none 0 0)) := W5.below HBK.out hgB
          rw [hV] at hp0 hr0 hb0
          have HPN := Lib.hid hp0.drew
          have HRN : Hid (Rd V.drew (.slice (some ⟨gm, 0, none⟩) n cm) i n) := Lib.hid (hr0.keep (Nat.le_refl _) (fun q hq hv => rfl))
          have HBN := Lib.hid (below_drew1 hb0)
          have HV := Lib.hid hV
          clear hp0 hr0 hb0 hV
          have q0 : (0 : Int) ≤ (k : Int) := by omega
          have q1 : (k : Int) < (n : Int) := by omega
          have q2 : (0 : Int) ≤ (i : Int) := by omega
          have q3 : (i : Int) < (VL.length : Int) := by omega
          clear hat
          go_wp2_with fail
          go_region
          all_goals
            go_wp2_with fail
            go_roundw
            case rel =>
              have hV2 := HV.out
              unfold W5 at hV2
              rw [hV2]
              exact ⟨k + 1, by omega, by go_num, HPN, HRN, HBN⟩
            case measure => simp [intOf]; omega
        · obtain rfl : k = n := by omega
          have HPN : Hid (Pt w0 wr b VL (dnI VL (i + 1) 0)) := Lib.hid (HPK.out.congr (fun j hj => by
            unfold dnI
            by_cases e1 : j = i
            · subst e1
              rw [if_neg (by omega), if_pos (by omega), if_pos rfl, HVN.out]
              rfl
            · by_cases e2 : j = i + 1
              · subst e2
                rw [if_pos rfl, if_neg (by omega), if_neg (by omega)]
              · rw [if_neg e2, if_neg e1]
                by_cases e3 : j < i
                · rw [if_pos (by omega), if_pos e3]
                · rw [if_neg (by omega), if_neg e3]))
          go_wp2_with fail
          go_roundw
          case rel => exact ⟨i + 1, by omega, by go_num, HPN, HBK.out⟩
          case measure => simp [intOf]; omega
    · obtain rfl : i = VL.length := by omega
      have HP : Hid (PtPost w0 w b VL (.returned (.tuple #[])) wo) := Lib.hid ⟨rfl, HPT.out.congr (fun j hj => by unfold AllM dnI; rw [if_neg (by omega), if_pos hj]), hbel⟩
      go_wp2_with fail
      (try simp only [Exit.inBlock, Exit.then])
      first
        | exact ⟨rfl, _, results_none rfl _ _ _, HP.out⟩
        | (refine bodyPost_end (results_none rfl _ _ _) rfl ?_; exact HP.out)
end Go.Proofs.YtlkdbopdmieojaaGreat
