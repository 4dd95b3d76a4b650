/- The contract of Book.Apart: a book that keeps elements alone finds its lists apart. -/
import Derived.Test.YtlkdbopdmieojaaGreatBkI
import Derived.Test.YtlkdbopdmieojaaGreatBkE
set_option maxRecDepth 20000
namespace Go.Proofs.YtlkdbopdmieojaaGreat
open Go.RowKit Ber
set_option maxRecDepth 20000
section
variable {w0 w1 w : World} {b : Nat} {VL : List (Value × Nat)} {G : List Value} {ov : Value}
theorem Gr.mout (h : Gr w0 w1 w b VL VL.length G ov) : ∃ a cap, ov = .slice a VL.length cap ∧ ∀ j, j < VL.length → ∃ (q n : Nat) (v : Value), a = some ⟨q, 0, none⟩ ∧ w.cell? ⟨q, j, none⟩ = some v ∧ Rd w v j n ∧ n * 64 ≤ 140737488350000 := by
  obtain ⟨a, cap, rfl, hx⟩ := (row_form h.out).2
  refine ⟨a, cap, rfl, fun j hj => ?_⟩
  have hg : G[j]? = some (G[j]'(by rw [h.gl]; exact hj)) := List.getElem?_eq_getElem _
  have hv : VL[j]? = some (VL[j].1, VL[j].2) := List.getElem?_eq_getElem hj
  obtain ⟨q, e1, e2⟩ := hx j _ hg
  have hf := (h.few j _ _ hv).le2
  exact ⟨q, VL[j].2 + 72, _, e1, e2, (h.g j _ _ _ hg hv).1, by omega⟩
theorem Gr.mev (h : Gr w0 w1 w b VL VL.length G ov) : ∃ ea ec, w.cell? ⟨b, 14, none⟩ = some (.slice ea VL.length ec) ∧ ∀ j, j < VL.length → ∃ (q n : Nat) (v : Value), ea = some ⟨q, 0, none⟩ ∧ w.cell? ⟨q, j, none⟩ = some v ∧ Rd w v j n ∧ n * 64 ≤ 140737488350000 := by
  obtain ⟨ea, ec, h14, hx⟩ := h.at
  refine ⟨ea, ec, h14, fun j hj => ?_⟩
  have hv : VL[j]? = some (VL[j].1, VL[j].2) := List.getElem?_eq_getElem hj
  obtain ⟨q, e1, e2⟩ := hx j _ _ hv
  have hf := (h.few j _ _ hv).le2
  exact ⟨q, VL[j].2, _, e1, e2, h.rd j _ _ hv, by omega⟩
end
theorem marked_keep {w w' : World} {N : Nat} {a : Option Addr} (hb : Below w.heap.size w w') (h : ∀ j, j < N → ∃ (q n : Nat) (v : Value), a = some ⟨q, 0, none⟩ ∧ w.cell? ⟨q, j, none⟩ = some v ∧ Rd w v j n ∧ n * 64 ≤ 140737488350000) :
    ∀ j, j < N → ∃ (q n : Nat) (v : Value), a = some ⟨q, 0, none⟩ ∧ w'.cell? ⟨q, j, none⟩ = some v ∧ Rd w' v j n ∧ n * 64 ≤ 140737488350000 := fun j hj => by
  obtain ⟨q, n, v, e, c, r, m⟩ := h j hj
  exact ⟨q, n, v, e, (hb.cell (p := ⟨q, j, none⟩) (World.block_lt_of_cell? _ _ c)).trans c, r.keep hb.size (fun q hq _ => hb.block q hq), m⟩
set_option maxHeartbeats 8000000 in
theorem apart_any {w0 w : World} {b : Nat} {RL : List Rc} (h : Bk w0 w b RL) : Calls Tryz.prog 12 #[.pointer (some ⟨b, 0, none⟩)] w fun e w' => e = .returned (.bool true) ∧ Below w0.heap.size w w' := by
  have hlow := h.low
  have hlen := h.len
  obtain ⟨ev, wv, hr⟩ := h.ex
  have HB := Lib.hid hr.blk
  have H := Lib.hid h
  clear h hr
  go_enter Tryz.func12, Tryz.ntmps12
  go_wp2_with fail
  (with_reducible refine (stillTexts_any HB.out).mono ?_)
  rintro e _ ⟨rfl, rfl⟩
  go_wp2_with fail
  (with_reducible refine (stillInts_any HB.out).mono ?_)
  rintro e _ ⟨rfl, rfl⟩
  go_wp2_with fail
  (with_reducible refine (stillAttrs_any HB.out).mono ?_)
  rintro e _ ⟨rfl, rfl⟩
  go_wp2_with fail
  (with_reducible refine (stillFilters_any HB.out).mono ?_)
  rintro e _ ⟨rfl, rfl⟩
  go_wp2_with fail
  (with_reducible refine (stillMods_any HB.out).mono ?_)
  rintro e _ ⟨rfl, rfl⟩
  go_wp2_with fail
  (with_reducible refine (stillControls_any HB.out).mono ?_)
  rintro e _ ⟨rfl, rfl⟩
  go_wp2_with fail
  (with_reducible refine (stillMessages_any HB.out).mono ?_)
  rintro e _ ⟨rfl, rfl⟩
  go_wp2_with fail
  (with_reducible refine (stillElements_any H.out).mono ?_)
  rintro e w1 ⟨rfl, hb1⟩
  obtain ⟨ev1, wv1, hr1⟩ := (H.out.later hb1).ex
  have HB1 := Lib.hid hr1.blk
  have H1 := Lib.hid (H.out.later hb1).pt
  have HBE1 := Lib.hid (hb1.mono hlow)
  have hlow1 := Nat.le_trans hlow hb1.size
  clear hb1 hr1 H HB hlow
  go_wp2_with fail
  (with_reducible refine (stillAvas_any HB1.out).mono ?_)
  rintro e _ ⟨rfl, rfl⟩
  go_wp2_with fail
  (with_reducible refine (stillRdns_any HB1.out).mono ?_)
  rintro e _ ⟨rfl, rfl⟩
  go_wp2_with fail
  (with_reducible refine (stillPlans_any HB1.out).mono ?_)
  rintro e _ ⟨rfl, rfl⟩
  go_wp2_with fail
  (with_reducible refine (stillSteps_any HB1.out).mono ?_)
  rintro e _ ⟨rfl, rfl⟩
  go_wp2_with fail
  (with_reducible refine (stillChanges_any HB1.out).mono ?_)
  rintro e _ ⟨rfl, rfl⟩
  go_wp2_with fail
  (with_reducible refine (stillPairs_any HB1.out).mono ?_)
  rintro e _ ⟨rfl, rfl⟩
  go_wp2_with fail
  (with_reducible refine (stillRules_any HB1.out).mono ?_)
  rintro e _ ⟨rfl, rfl⟩
  go_wp2_with fail
  (with_reducible refine (stillGrants_any HB1.out).mono ?_)
  rintro e _ ⟨rfl, rfl⟩
  go_wp2_with fail
  (with_reducible refine (stillIndexes_any HB1.out).mono ?_)
  rintro e _ ⟨rfl, rfl⟩
  go_wp2_with fail
  (with_reducible refine (stillParts_any HB1.out).mono ?_)
  rintro e _ ⟨rfl, rfl⟩
  go_wp2_with fail
  (with_reducible refine (putSteps_any HB1.out).mono ?_)
  rintro e _ ⟨rfl, rfl⟩
  go_wp2_with fail
  (with_reducible refine (putChanges_any HB1.out).mono ?_)
  rintro e _ ⟨rfl, rfl⟩
  go_wp2_with fail
  (with_reducible refine (putMessages_any HB1.out).mono ?_)
  rintro e _ ⟨rfl, rfl⟩
  go_wp2_with fail
  (with_reducible refine (putRules_any HB1.out).mono ?_)
  rintro e _ ⟨rfl, rfl⟩
  go_wp2_with fail
  (with_reducible refine (putParts_any HB1.out).mono ?_)
  rintro e _ ⟨rfl, rfl⟩
  go_wp2_with fail
  (with_reducible refine (putAttrs_any HB1.out).mono ?_)
  rintro e _ ⟨rfl, rfl⟩
  go_wp2_with fail
  (with_reducible refine (putFilters_any HB1.out).mono ?_)
  rintro e _ ⟨rfl, rfl⟩
  go_wp2_with fail
  (with_reducible refine (putMods_any HB1.out).mono ?_)
  rintro e _ ⟨rfl, rfl⟩
  go_wp2_with fail
  (with_reducible refine (putElements_any H1.out).mono ?_)
  rintro e w2 ⟨rfl, hp2, hb2⟩
  obtain ⟨ev2, wv2, hr2, _⟩ := hp2.ex
  have HB2 := Lib.hid hr2
  have H2 := Lib.hid hp2
  have HBE2 := Lib.hid (HBE1.out.trans hb2)
  clear hb2 hr2 hp2 HBE1 H1 HB1 hlow1
  go_wp2_with fail
  (with_reducible refine (putRdns_any HB2.out).mono ?_)
  rintro e _ ⟨rfl, rfl⟩
  go_wp2_with fail
  (with_reducible refine (putTexts_any HB2.out).mono ?_)
  rintro e _ ⟨rfl, rfl⟩
  go_wp2_with fail
  (with_reducible refine (putInts_any HB2.out).mono ?_)
  rintro e _ ⟨rfl, rfl⟩
  go_wp2_with fail
  (with_reducible refine (putControls_any HB2.out).mono ?_)
  rintro e _ ⟨rfl, rfl⟩
  go_wp2_with fail
  (with_reducible refine (putAvas_any HB2.out).mono ?_)
  rintro e _ ⟨rfl, rfl⟩
  go_wp2_with fail
  (with_reducible refine (putPlans_any HB2.out).mono ?_)
  rintro e _ ⟨rfl, rfl⟩
  go_wp2_with fail
  (with_reducible refine (putPairs_any HB2.out).mono ?_)
  rintro e _ ⟨rfl, rfl⟩
  go_wp2_with fail
  (with_reducible refine (putGrants_any HB2.out).mono ?_)
  rintro e _ ⟨rfl, rfl⟩
  go_wp2_with fail
  (with_reducible refine (putIndexes_any HB2.out).mono ?_)
  rintro e _ ⟨rfl, rfl⟩
  go_wp2_with fail
  (with_reducible refine (growTexts_any HB2.out).mono ?_)
  rintro e _ ⟨rfl, rfl⟩
  go_wp2_with fail
  (with_reducible refine (growInts_any HB2.out).mono ?_)
  rintro e _ ⟨rfl, rfl⟩
  go_wp2_with fail
  (with_reducible refine (growAttrs_any HB2.out).mono ?_)
  rintro e _ ⟨rfl, rfl⟩
  go_wp2_with fail
  (with_reducible refine (growFilters_any HB2.out).mono ?_)
  rintro e _ ⟨rfl, rfl⟩
  go_wp2_with fail
  (with_reducible refine (growMods_any HB2.out).mono ?_)
  rintro e _ ⟨rfl, rfl⟩
  go_wp2_with fail
  (with_reducible refine (growControls_any HB2.out).mono ?_)
  rintro e _ ⟨rfl, rfl⟩
  go_wp2_with fail
  (with_reducible refine (growMessages_any HB2.out).mono ?_)
  rintro e _ ⟨rfl, rfl⟩
  go_wp2_with fail
  (with_reducible refine (growElements_any H2.out).mono ?_)
  rintro e w3 ⟨ov, G, rfl, hg3, hb3⟩
  obtain ⟨ev3, wv3, hr3, _⟩ := hg3.ex
  obtain ⟨oa, oc, rfl, hmo⟩ := hg3.mout
  obtain ⟨ea, ec, c14, hme⟩ := hg3.mev
  rw [List.length_map] at c14
  simp only [List.length_map] at hmo hme
  have HB3 := Lib.hid hr3
  have HMO := Lib.hid hmo
  have HME := Lib.hid hme
  have C14 := Lib.hid c14
  have HBE3 := Lib.hid (HBE2.out.trans hb3)
  have hlow3 := Nat.le_trans hg3.low hg3.size
  clear hb3 hr3 hg3 HBE2 H2 HB2 hmo hme c14
  go_wp2_with fail
  (with_reducible refine (growAvas_any HB3.out).mono ?_)
  rintro e _ ⟨rfl, rfl⟩
  go_wp2_with fail
  (with_reducible refine (growRdns_any HB3.out).mono ?_)
  rintro e _ ⟨rfl, rfl⟩
  go_wp2_with fail
  (with_reducible refine (growPlans_any HB3.out).mono ?_)
  rintro e _ ⟨rfl, rfl⟩
  go_wp2_with fail
  (with_reducible refine (growSteps_any HB3.out).mono ?_)
  rintro e _ ⟨rfl, rfl⟩
  go_wp2_with fail
  (with_reducible refine (growChanges_any HB3.out).mono ?_)
  rintro e _ ⟨rfl, rfl⟩
  go_wp2_with fail
  (with_reducible refine (growPairs_any HB3.out).mono ?_)
  rintro e _ ⟨rfl, rfl⟩
  go_wp2_with fail
  (with_reducible refine (growRules_any HB3.out).mono ?_)
  rintro e _ ⟨rfl, rfl⟩
  go_wp2_with fail
  (with_reducible refine (growGrants_any HB3.out).mono ?_)
  rintro e _ ⟨rfl, rfl⟩
  go_wp2_with fail
  (with_reducible refine (growIndexes_any HB3.out).mono ?_)
  rintro e _ ⟨rfl, rfl⟩
  go_wp2_with fail
  (with_reducible refine (growParts_any HB3.out).mono ?_)
  rintro e _ ⟨rfl, rfl⟩
  go_wp2_with fail
  have c14 := C14.out
  have c0 := HB3.out.cell 0
  rw [show (bkc ev3 wv3).toArray[0]? = some (.slice none 0 0) from rfl] at c0
  have c2 := HB3.out.cell 2
  rw [show (bkc ev3 wv3).toArray[2]? = some (.slice none 0 0) from rfl] at c2
  have c4 := HB3.out.cell 4
  rw [show (bkc ev3 wv3).toArray[4]? = some (.slice none 0 0) from rfl] at c4
  have c6 := HB3.out.cell 6
  rw [show (bkc ev3 wv3).toArray[6]? = some (.slice none 0 0) from rfl] at c6
  have c8 := HB3.out.cell 8
  rw [show (bkc ev3 wv3).toArray[8]? = some (.slice none 0 0) from rfl] at c8
  have c10 := HB3.out.cell 10
  rw [show (bkc ev3 wv3).toArray[10]? = some (.slice none 0 0) from rfl] at c10
  have c12 := HB3.out.cell 12
  rw [show (bkc ev3 wv3).toArray[12]? = some (.slice none 0 0) from rfl] at c12
  have c16 := HB3.out.cell 16
  rw [show (bkc ev3 wv3).toArray[16]? = some (.slice none 0 0) from rfl] at c16
  have c18 := HB3.out.cell 18
  rw [show (bkc ev3 wv3).toArray[18]? = some (.slice none 0 0) from rfl] at c18
  have c20 := HB3.out.cell 20
  rw [show (bkc ev3 wv3).toArray[20]? = some (.slice none 0 0) from rfl] at c20
  have c22 := HB3.out.cell 22
  rw [show (bkc ev3 wv3).toArray[22]? = some (.slice none 0 0) from rfl] at c22
  have c24 := HB3.out.cell 24
  rw [show (bkc ev3 wv3).toArray[24]? = some (.slice none 0 0) from rfl] at c24
  have c26 := HB3.out.cell 26
  rw [show (bkc ev3 wv3).toArray[26]? = some (.slice none 0 0) from rfl] at c26
  have c28 := HB3.out.cell 28
  rw [show (bkc ev3 wv3).toArray[28]? = some (.slice none 0 0) from rfl] at c28
  have c30 := HB3.out.cell 30
  rw [show (bkc ev3 wv3).toArray[30]? = some (.slice none 0 0) from rfl] at c30
  have c32 := HB3.out.cell 32
  rw [show (bkc ev3 wv3).toArray[32]? = some (.slice none 0 0) from rfl] at c32
  have c34 := HB3.out.cell 34
  rw [show (bkc ev3 wv3).toArray[34]? = some (.slice none 0 0) from rfl] at c34
  (with_reducible refine (markedTexts_nil _).mono ?_)
  rintro e _ ⟨rfl, rfl⟩
  go_wp2_with fail
  (with_reducible refine (markedTexts_nil _).mono ?_)
  rintro e _ ⟨rfl, rfl⟩
  go_wp2_with fail
  (with_reducible refine (markedInts_nil _).mono ?_)
  rintro e _ ⟨rfl, rfl⟩
  go_wp2_with fail
  (with_reducible refine (markedInts_nil _).mono ?_)
  rintro e _ ⟨rfl, rfl⟩
  go_wp2_with fail
  (with_reducible refine (markedAttrs_nil _).mono ?_)
  rintro e _ ⟨rfl, rfl⟩
  go_wp2_with fail
  (with_reducible refine (markedAttrs_nil _).mono ?_)
  rintro e _ ⟨rfl, rfl⟩
  go_wp2_with fail
  (with_reducible refine (markedFilters_nil _).mono ?_)
  rintro e _ ⟨rfl, rfl⟩
  go_wp2_with fail
  (with_reducible refine (markedFilters_nil _).mono ?_)
  rintro e _ ⟨rfl, rfl⟩
  go_wp2_with fail
  (with_reducible refine (markedMods_nil _).mono ?_)
  rintro e _ ⟨rfl, rfl⟩
  go_wp2_with fail
  (with_reducible refine (markedMods_nil _).mono ?_)
  rintro e _ ⟨rfl, rfl⟩
  go_wp2_with fail
  (with_reducible refine (markedControls_nil _).mono ?_)
  rintro e _ ⟨rfl, rfl⟩
  go_wp2_with fail
  (with_reducible refine (markedControls_nil _).mono ?_)
  rintro e _ ⟨rfl, rfl⟩
  go_wp2_with fail
  (with_reducible refine (markedMessages_nil _).mono ?_)
  rintro e _ ⟨rfl, rfl⟩
  go_wp2_with fail
  (with_reducible refine (markedMessages_nil _).mono ?_)
  rintro e _ ⟨rfl, rfl⟩
  go_wp2_with fail
  (with_reducible refine (markedElements_any hlen HMO.out).mono ?_)
  rintro e w4 ⟨rfl, hb4⟩
  have c14 := (hb4.cell (p := ⟨b, 14, none⟩) HB3.out.lt).trans C14.out
  have HB4 := Lib.hid (HB3.out.below hb4 HB3.out.lt)
  have HME4 := Lib.hid (marked_keep hb4 HME.out)
  have HBE4 := Lib.hid (HBE3.out.trans (hb4.mono hlow3))
  have hlow4 := Nat.le_trans hlow3 hb4.size
  clear hb4 HB3 HMO HME C14 HBE3
  go_wp2_with fail
  (with_reducible refine (markedElements_any hlen HME4.out).mono ?_)
  rintro e w5 ⟨rfl, hb5⟩
  have HB5 := Lib.hid (HB4.out.below hb5 HB4.out.lt)
  have HBE5 := Lib.hid (HBE4.out.trans (hb5.mono hlow4))
  clear hb5 HB4 HME4 HBE4
  have c16 := HB5.out.cell 16
  rw [show (bkc ev3 wv3).toArray[16]? = some (.slice none 0 0) from rfl] at c16
  have c18 := HB5.out.cell 18
  rw [show (bkc ev3 wv3).toArray[18]? = some (.slice none 0 0) from rfl] at c18
  have c20 := HB5.out.cell 20
  rw [show (bkc ev3 wv3).toArray[20]? = some (.slice none 0 0) from rfl] at c20
  have c22 := HB5.out.cell 22
  rw [show (bkc ev3 wv3).toArray[22]? = some (.slice none 0 0) from rfl] at c22
  have c24 := HB5.out.cell 24
  rw [show (bkc ev3 wv3).toArray[24]? = some (.slice none 0 0) from rfl] at c24
  have c26 := HB5.out.cell 26
  rw [show (bkc ev3 wv3).toArray[26]? = some (.slice none 0 0) from rfl] at c26
  have c28 := HB5.out.cell 28
  rw [show (bkc ev3 wv3).toArray[28]? = some (.slice none 0 0) from rfl] at c28
  have c30 := HB5.out.cell 30
  rw [show (bkc ev3 wv3).toArray[30]? = some (.slice none 0 0) from rfl] at c30
  have c32 := HB5.out.cell 32
  rw [show (bkc ev3 wv3).toArray[32]? = some (.slice none 0 0) from rfl] at c32
  have c34 := HB5.out.cell 34
  rw [show (bkc ev3 wv3).toArray[34]? = some (.slice none 0 0) from rfl] at c34
  go_wp2_with fail
  (with_reducible refine (markedAvas_nil _).mono ?_)
  rintro e _ ⟨rfl, rfl⟩
  go_wp2_with fail
  (with_reducible refine (markedAvas_nil _).mono ?_)
  rintro e _ ⟨rfl, rfl⟩
  go_wp2_with fail
  (with_reducible refine (markedRdns_nil _).mono ?_)
  rintro e _ ⟨rfl, rfl⟩
  go_wp2_with fail
  (with_reducible refine (markedRdns_nil _).mono ?_)
  rintro e _ ⟨rfl, rfl⟩
  go_wp2_with fail
  (with_reducible refine (markedPlans_nil _).mono ?_)
  rintro e _ ⟨rfl, rfl⟩
  go_wp2_with fail
  (with_reducible refine (markedPlans_nil _).mono ?_)
  rintro e _ ⟨rfl, rfl⟩
  go_wp2_with fail
  (with_reducible refine (markedSteps_nil _).mono ?_)
  rintro e _ ⟨rfl, rfl⟩
  go_wp2_with fail
  (with_reducible refine (markedSteps_nil _).mono ?_)
  rintro e _ ⟨rfl, rfl⟩
  go_wp2_with fail
  (with_reducible refine (markedChanges_nil _).mono ?_)
  rintro e _ ⟨rfl, rfl⟩
  go_wp2_with fail
  (with_reducible refine (markedChanges_nil _).mono ?_)
  rintro e _ ⟨rfl, rfl⟩
  go_wp2_with fail
  (with_reducible refine (markedPairs_nil _).mono ?_)
  rintro e _ ⟨rfl, rfl⟩
  go_wp2_with fail
  (with_reducible refine (markedPairs_nil _).mono ?_)
  rintro e _ ⟨rfl, rfl⟩
  go_wp2_with fail
  (with_reducible refine (markedRules_nil _).mono ?_)
  rintro e _ ⟨rfl, rfl⟩
  go_wp2_with fail
  (with_reducible refine (markedRules_nil _).mono ?_)
  rintro e _ ⟨rfl, rfl⟩
  go_wp2_with fail
  (with_reducible refine (markedGrants_nil _).mono ?_)
  rintro e _ ⟨rfl, rfl⟩
  go_wp2_with fail
  (with_reducible refine (markedGrants_nil _).mono ?_)
  rintro e _ ⟨rfl, rfl⟩
  go_wp2_with fail
  (with_reducible refine (markedIndexes_nil _).mono ?_)
  rintro e _ ⟨rfl, rfl⟩
  go_wp2_with fail
  (with_reducible refine (markedIndexes_nil _).mono ?_)
  rintro e _ ⟨rfl, rfl⟩
  go_wp2_with fail
  (with_reducible refine (markedParts_nil _).mono ?_)
  rintro e _ ⟨rfl, rfl⟩
  go_wp2_with fail
  (with_reducible refine (markedParts_nil _).mono ?_)
  rintro e _ ⟨rfl, rfl⟩
  go_wp2_with fail
  go_ret
  exact ⟨rfl, HBE5.out⟩
end Go.Proofs.YtlkdbopdmieojaaGreat
