/- The walk of the law BerWrites. -/
import Derived.Test.YtejnfnpcabldeaaBerDF
import Derived.Test.YtejnfnpcabldeaaBerDH
import Derived.Test.YtejnfnpcabldeaaBerL
import Derived.Test.YtejnfnpcabldeaaBerQ
namespace Go.Proofs.Ytejnfnpcabldeaa
open Go.RowKit Ber
theorem rWrite_var {w : World} {ks : List El} {kv : Value} (h : KsAt w ks kv) (c t : Int) (k : Bool) (b : ByteArray) (w0 : World) (hfb : Few b.size) (hb : Below w.heap.size w w0) (S : ByteArray) (r : Int) (hS : Hid (wr (.mk c t k b ks) = (S.data.toList, r))) :
    Calls Try.prog 16 #[.agg #[.int .i64 c, .int .i64 t, .bool k, .string b, kv]] w0 fun e w' => e = .returned (.tuple #[.string S, .int .i64 r]) ∧ Below w0.heap.size w0 w' := by
  have := rWrite_any h c t k b w0 hfb hb
  unfold wrV at this
  rw [hS.out, ba_eta] at this
  exact this
set_option maxHeartbeats 1000000 in
theorem berWrites_walk {w : World} {ks : List El} {kv : Value} (h : KsAt w ks kv) (c t : Int) (k : Bool) (b : ByteArray) (hfb : Few b.size) :
    Calls Try.prog 3 #[.agg #[.int .i64 c, .int .i64 t, .bool k, .string b, kv]] w fun e w' => e = .returned (.bool true) ∧ Below w.heap.size w w' := by
  obtain ⟨a, cap, rfl, _, _⟩ := h.len
  obtain ⟨⟨l, r⟩, hwr⟩ : ∃ q, wr (.mk c t k b ks) = q := ⟨_, rfl⟩
  obtain ⟨S, rfl⟩ : ∃ S : ByteArray, l = S.data.toList := ⟨⟨l.toArray⟩, by simp⟩
  have HH := Lib.hid h
  have HFB := Lib.hid hfb
  have HW := Lib.hid hwr
  clear h hfb hwr
  go_enter Try.func3, Try.ntmps3
  go_wp2_with fail
  (with_reducible refine (many_any HH.out c t k b _ ((Below.refl _ _).alloc (Nat.le_refl _) _)).mono ?_)
  rintro e w1 ⟨⟨n, rfl⟩, hb1⟩
  have hB1 : Below w.heap.size w w1 := ((Below.refl _ _).alloc (Nat.le_refl _) _).trans (hb1.mono (by simp))
  have hE1 := (Blk.new w 24 #[.int .i64 c, .int .i64 t, .bool k, .string b, .slice a ks.length cap]).below hb1 (by simp)
  have HE1 := Lib.hid hE1
  clear hb1 hE1
  by_cases hn : 500 < n
  · go_wp2_with fail
    (with_reducible refine (alive_any _).mono ?_)
    rintro e w2 ⟨rfl, hb2⟩
    go_wp2_with fail
    go_ret
    exact ⟨rfl, hB1.trans (hb2.mono hB1.size)⟩
  · obtain ⟨c0, c1, c2, c3, c4⟩ := HE1.out.five
    go_wp2_with fail
    (with_reducible refine (lent_any HH.out c t k b _ hB1).mono ?_)
    rintro e w2 ⟨⟨v2, rfl, hl2⟩, hb2⟩
    obtain ⟨g2, o2, cap2, rfl⟩ := hl2.len
    have hB2 := hB1.trans (hb2.mono hB1.size)
    have HE2 := Lib.hid ((HE1.out.below hb2 HE1.out.lt).alloc (.cells #[.int .i64 c, .int .i64 t, .bool k, .string b, .slice (some ⟨g2, o2, none⟩) ks.length cap2] 24))
    have HX2 := Lib.hid (Blk.new w2 24 #[.int .i64 c, .int .i64 t, .bool k, .string b, .slice (some ⟨g2, o2, none⟩) ks.length cap2])
    have HL2 := Lib.hid (hl2.later ((Below.refl _ _).alloc (Nat.le_refl _) (.cells #[.int .i64 c, .int .i64 t, .bool k, .string b, .slice (some ⟨g2, o2, none⟩) ks.length cap2] 24)))
    have hB2a := hB2.alloc hB2.size (.cells #[.int .i64 c, .int .i64 t, .bool k, .string b, .slice (some ⟨g2, o2, none⟩) ks.length cap2] 24)
    clear hb2 hB1 c0 c1 c2 c3 c4 HE1 hn hl2 hB2
    go_wp2_with fail
    (with_reducible refine (write_var HL2.out.ksp.at c t k b _ HFB.out (Below.refl _ _) S r HW).mono ?_)
    rintro e w3 ⟨rfl, hb3⟩
    have HE3 := Lib.hid (HE2.out.below hb3 HE2.out.lt)
    have HX3 := Lib.hid (HX2.out.below hb3 HX2.out.lt)
    have HL3 := Lib.hid (HL2.out.later hb3)
    have hB3 := hB2a.trans (hb3.mono hB2a.size)
    obtain ⟨c0, c1, c2, c3, c4⟩ := HE3.out.five
    clear hb3 hB2a
    go_wp2_with fail
    (with_reducible refine (rWrite_var HH.out c t k b _ HFB.out hB3 S r HW).mono ?_)
    rintro e w4 ⟨rfl, hb4⟩
    have HE4 := Lib.hid (HE3.out.below hb4 HE3.out.lt)
    have HX4 := Lib.hid (HX3.out.below hb4 HX3.out.lt)
    have HL4 := Lib.hid (HL3.out.later hb4)
    have hB4 := hB3.trans (hb4.mono hB3.size)
    clear hb4 hB3 c0 c1 c2 c3 c4
    go_wp2_with fail
    (with_reducible refine (alive_any _).mono ?_)
    rintro e w5 ⟨rfl, hb5⟩
    have hB5 := hB4.trans (hb5.mono hB4.size)
    have HX5 := Lib.hid (HX4.out.below hb5 HX4.out.lt)
    obtain ⟨c0, c1, c2, c3, c4⟩ := (HE4.out.below hb5 HE4.out.lt).five
    obtain ⟨d0, d1, d2, d3, d4⟩ := HX5.out.five
    have HL5 := Lib.hid (HL4.out.later hb5)
    clear hb5 hB4
    go_wp2_with fail
    (with_reducible refine (same_any HL5.out.ksp.at _ c t k b _ (HH.out.later hB5) (Below.refl _ _)).mono ?_)
    rintro e w6 ⟨rfl, hb6⟩
    clear c0 c1 c2 c3 c4 d0 d1 d2 d3 d4
    obtain ⟨d0, d1, d2, d3, d4⟩ := (HX5.out.below hb6 HX5.out.lt).five
    have HL6 := Lib.hid (HL5.out.later hb6)
    have hB6 := hB5.trans (hb6.mono hB5.size)
    clear hb6 hB5
    go_wp2_with fail
    (with_reducible refine (stays_any HL6.out c t k b _ (Below.refl _ _)).mono ?_)
    rintro e w7 ⟨rfl, hb7⟩
    go_wp2_with fail
    go_ret
    exact ⟨rfl, hB6.trans (hb7.mono hB6.size)⟩
end Go.Proofs.Ytejnfnpcabldeaa
