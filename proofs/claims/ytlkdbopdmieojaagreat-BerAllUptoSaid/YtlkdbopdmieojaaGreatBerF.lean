/- The contract of ber.Write. -/
import Derived.Test.YtlkdbopdmieojaaGreatBerB
import Derived.Test.YtlkdbopdmieojaaGreatBerE
import Derived.Test.YtlkdbopdmieojaaGreatBerS
namespace Go.Proofs.YtlkdbopdmieojaaGreat
open Go.RowKit Ber
set_option maxRecDepth 20000
/-- what Write answers -/
def wrV (e : El) : Value := .tuple #[.string ⟨(wr e).1.toArray⟩, .int .i64 (wr e).2]
theorem wrV_tag {e : El} (h : allIn tagOk 20 e = false) : wrV e = .tuple #[.string ⟨#[]⟩, .int .i64 21] := by unfold wrV wr; rw [if_pos h]
theorem wrV_form {e : El} (h : allIn tagOk 20 e = true) (h1 : allIn formOk 20 e = false) : wrV e = .tuple #[.string ⟨#[]⟩, .int .i64 24] := by unfold wrV wr; rw [if_neg (by simp [h]), if_pos h1]
theorem wrV_deep {e : El} (h : allIn tagOk 20 e = true) (h1 : allIn formOk 20 e = true) (h2 : deepIn 20 e = true) : wrV e = .tuple #[.string ⟨#[]⟩, .int .i64 23] := by unfold wrV wr; rw [if_neg (by simp [h]), if_neg (by simp [h1]), if_pos h2]
theorem wrV_long {e : El} (h : allIn tagOk 20 e = true) (h1 : allIn formOk 20 e = true) (h2 : deepIn 20 e = false) (h3 : 65536 < esz 20 e) : wrV e = .tuple #[.string ⟨#[]⟩, .int .i64 2] := by
  unfold wrV wr; rw [if_neg (by simp [h]), if_neg (by simp [h1]), if_neg (by simp [h2]), if_pos h3]
theorem wrV_good {e : El} (h : Ber.Good 20 e) : wrV e = .tuple #[.string ⟨(enc 20 e).toArray⟩, .int .i64 0] := by unfold wrV; rw [wr_good h]
theorem Blk.five {w : World} {E : Nat} {T : TypeId} {v0 v1 v2 v3 v4 : Value} (h : Blk w E T #[v0, v1, v2, v3, v4]) :
    w.cell? ⟨E, 0, none⟩ = some v0 ∧ w.cell? ⟨E, 1, none⟩ = some v1 ∧ w.cell? ⟨E, 2, none⟩ = some v2 ∧ w.cell? ⟨E, 3, none⟩ = some v3 ∧ w.cell? ⟨E, 4, none⟩ = some v4 := ⟨h.cell 0, h.cell 1, h.cell 2, h.cell 3, h.cell 4⟩
theorem string_any (B b : Nat) (l : List UInt8) (w : World) (h : Bu B b (Lib.byteCells l) w) (hBw : B ≤ w.heap.size) :
    Calls Tryz.prog 101 #[.pointer (some ⟨b, 0, none⟩)] w fun e w' => e = .returned (.string ⟨l.toArray⟩) ∧ Below B w w' := builder_String B b l w h hBw
theorem bu_fresh (w : World) : Bu w.heap.size w.heap.size [] (w.alloc (.cells #[.pointer none, .slice none 0 0] 114)) := Lib.fresh_isBuilder _ _ w
set_option maxHeartbeats 1000000 in
theorem write_any {w : World} {ks : List El} {kv : Value} (h : KsAt w ks kv) (c t : Int) (k : Bool) (b : ByteArray) (w0 : World) (hfb : Few b.size) (hb : Below w.heap.size w w0) :
    Calls Tryz.prog 13 #[.agg #[.int .i64 c, .int .i64 t, .bool k, .string b, kv]] w0 fun e w' => e = .returned (wrV (.mk c t k b ks)) ∧ Below w0.heap.size w0 w' := by
  obtain ⟨a, cap, rfl, hca, hfk⟩ := h.len
  have HH := Lib.hid h
  have HB := Lib.hid hb
  have HFB := Lib.hid hfb
  obtain ⟨r1, h1⟩ : ∃ r, allIn tagOk 20 (.mk c t k b ks) = r := ⟨_, rfl⟩
  obtain ⟨r2, h2⟩ : ∃ r, allIn formOk 20 (.mk c t k b ks) = r := ⟨_, rfl⟩
  obtain ⟨r3, h3⟩ : ∃ r, deepIn 20 (.mk c t k b ks) = r := ⟨_, rfl⟩
  obtain ⟨r4, h4⟩ : ∃ r, psz 20 (.mk c t k b ks) = r := ⟨_, rfl⟩
  have e1 := fun W hW => eachTag_any h 20 0 c t k b W (Lib.hid (by omega)) (by omega) hW
  have e2 := fun W hW => eachForm_any h 20 0 c t k b W (Lib.hid (by omega)) (by omega) hW
  have e3 := fun W hW => deep_any h 20 0 c t k b W (Lib.hid (by omega)) (by omega) hW
  rw [h1] at e1
  rw [h2] at e2
  rw [h3] at e3
  obtain ⟨V, hV⟩ : ∃ V, wrV (.mk c t k b ks) = V := ⟨_, rfl⟩
  rw [hV]
  have HV := Lib.hid hV
  have E1 := Lib.hid e1
  have E2 := Lib.hid e2
  have E3 := Lib.hid e3
  have H1 := Lib.hid h1
  have H2 := Lib.hid h2
  have H3 := Lib.hid h3
  have H4 := Lib.hid h4
  clear h hb hfb hV e1 e2 e3 h1 h2 h3 h4 hca hfk
  go_enter Tryz.func13, Tryz.ntmps13
  go_wp2_with fail
  (with_reducible refine (E1.out _ (HB.out.trans ((Below.refl _ _).alloc HB.out.size _))).mono ?_)
  rintro e w1 ⟨rfl, hb1⟩
  have hB1 : Below w0.heap.size w0 w1 := ((Below.refl _ _).alloc (Nat.le_refl _) _).trans (hb1.mono (by simp))
  have hE1 := (Blk.new w0 47 #[.int .i64 c, .int .i64 t, .bool k, .string b, .slice a ks.length cap]).below hb1 (by simp)
  have HE1 := Lib.hid hE1
  clear hb1 hE1
  cases r1 with
  | false =>
    go_wp2_with fail
    go_ret2
    exact ⟨by rw [← HV.out, wrV_tag H1.out]; rfl, hB1⟩
  | true =>
  obtain ⟨c0, c1, c2, c3, c4⟩ := HE1.out.five
  go_wp2_with fail
  (with_reducible refine (E2.out _ (HB.out.trans (hB1.mono HB.out.size))).mono ?_)
  rintro e w2 ⟨rfl, hb2⟩
  have hB2 : Below w0.heap.size w0 w2 := hB1.trans (hb2.mono hB1.size)
  have HE2 := Lib.hid (HE1.out.below hb2 HE1.out.lt)
  clear hb2 hB1 c0 c1 c2 c3 c4
  cases r2 with
  | false =>
    go_wp2_with fail
    go_ret2
    exact ⟨by rw [← HV.out, wrV_form H1.out H2.out]; rfl, hB2⟩
  | true =>
  obtain ⟨c0, c1, c2, c3, c4⟩ := HE2.out.five
  go_wp2_with fail
  (with_reducible refine (E3.out _ (HB.out.trans (hB2.mono HB.out.size))).mono ?_)
  rintro e w3 ⟨rfl, hb3⟩
  have hB3 : Below w0.heap.size w0 w3 := hB2.trans (hb3.mono hB2.size)
  have HE3 := Lib.hid (HE2.out.below hb3 HE2.out.lt)
  clear hb3 hB2 c0 c1 c2 c3 c4
  cases r3 with
  | true =>
    go_wp2_with fail
    go_ret2
    exact ⟨by rw [← HV.out, wrV_deep H1.out H2.out H3.out]; rfl, hB3⟩
  | false =>
  obtain ⟨c0, c1, c2, c3, c4⟩ := HE3.out.five
  go_wp2_with fail
  (with_reducible refine (size_any HH.out 20 c t k b _ HFB.out H3 (HB.out.trans (hB3.mono HB.out.size)) r4 H4).mono ?_)
  rintro e w4 ⟨rfl, hb4⟩
  have hB4 : Below w0.heap.size w0 w4 := hB3.trans (hb4.mono hB3.size)
  have HE4 := Lib.hid (HE3.out.below hb4 HE3.out.lt)
  clear hb4 hB3 c0 c1 c2 c3 c4
  by_cases h5 : 65536 < r4
  · go_wp2_with fail
    go_ret2
    exact ⟨by rw [← HV.out, wrV_long H1.out H2.out H3.out (by have := H4.out; unfold psz at this; omega)]; rfl, hB4⟩
  · have hG : Ber.Good 20 (.mk c t k b ks) := ⟨H1.out, H2.out, H3.out, by have := H4.out; unfold psz at this; omega⟩
    have HG := Lib.hid hG
    have hs4 := hB4.size
    obtain ⟨c0, c1, c2, c3, c4⟩ := (HE4.out.alloc (.cells #[.pointer none, .slice none 0 0] 114)).five
    clear hG
    go_wp2_with fail
    clear c0 c1 c2 c3 c4
    (with_reducible refine (put_elem HH.out 20 c t k b _ w4.heap.size w4.heap.size [] HG (by have := HB.out.size; omega) ((HB.out.trans (hB4.mono HB.out.size)).trans ((Below.refl _ _).alloc (by have := HB.out.size; omega) _)) (bu_fresh w4) (by have := HG.out.fits; simp only [List.length_nil]; omega)).mono ?_)
    rintro e w5 ⟨rfl, hu5, hb5, _⟩
    rw [List.nil_append] at hu5
    have hs5 := hb5.size
    have HU5 := Lib.hid hu5
    clear hu5
    go_wp2_with fail
    (with_reducible refine (string_any w4.heap.size w4.heap.size (enc 20 (.mk c t k b ks)) _ HU5.out (by simp at hs5; omega)).mono ?_)
    rintro e w6 ⟨rfl, hb6⟩
    go_wp2_with fail
    go_ret2
    exact ⟨by rw [← HV.out, wrV_good HG.out]; rfl, hB4.trans ((((Below.refl _ _).alloc (Nat.le_refl _) _).trans hb5).mono hs4 |>.trans (hb6.mono hs4))⟩
end Go.Proofs.YtlkdbopdmieojaaGreat
