/- The walks of the laws BerOnce and BerCut. -/
import Derived.Test.YtejnfnpcabldeaaBerU
namespace Go.Proofs.Ytejnfnpcabldeaa
open Go.RowKit Ber
set_option maxHeartbeats 1000000 in
theorem berOnce_walk (s : ByteArray) (w : World) (hs : s.size ≤ 140737488351232) :
    Calls Try.prog 9 #[.string s] w fun e w' => e = .returned (.bool true) ∧ Below w.heap.size w w' := by
  obtain ⟨⟨⟨c, t, k, b, ks⟩, r⟩, hrd⟩ : ∃ q, rdTop s.data.toList = q := ⟨_, rfl⟩
  have HRD := Lib.hid hrd
  by_cases hbig : 70000 < (s.size : Int)
  · clear hrd
    go_enter Try.func9, Try.ntmps9
    go_wp2_with fail
    (with_reducible refine (alive_any _).mono ?_)
    rintro e w2 ⟨rfl, hb2⟩
    go_wp2_with fail
    go_ret
    exact ⟨rfl, hb2⟩
  · by_cases hr : r = 0
    · subst hr
      obtain ⟨hG, hle⟩ := rdTop_good hrd
      have hl : s.data.toList.length = s.size := by simp
      rw [hl] at hle
      obtain ⟨S, hS⟩ : ∃ S : ByteArray, S.data.toList = enc 20 (.mk c t k b ks) := ⟨⟨(enc 20 (.mk c t k b ks)).toArray⟩, by simp⟩
      have hsz := size_enc hS
      have hwr : wr (.mk c t k b ks) = (S.data.toList, 0) := by rw [hS]; exact wr_good hG
      have hr2 : rdTop S.data.toList = (.mk c t k b ks, 0) := by rw [hS]; exact rdTop_enc hG
      have hSs : S.size ≤ 140737488351232 := by have := hG.fits; omega
      have hlen : (S.size : Int) ≤ (s.size : Int) := by omega
      have HW := Lib.hid hwr
      have HR2 := Lib.hid hr2
      clear hG hle hl hS hsz hwr hr2 hrd
      go_enter Try.func9, Try.ntmps9
      go_wp2_with fail
      (with_reducible refine (read_var s _ hs c t k b ks 0 HRD).mono ?_)
      rintro e w3 ⟨⟨v, rfl, hk3⟩, hfb, hb3⟩
      obtain ⟨a3, cap3, rfl, _, _⟩ := hk3.at.len
      have hX3 := Blk.new w3 24 #[.int .i64 c, .int .i64 t, .bool k, .string b, .slice a3 ks.length cap3]
      have hK3 := hk3.at.later ((Below.refl _ _).alloc (Nat.le_refl _) (.cells #[.int .i64 c, .int .i64 t, .bool k, .string b, .slice a3 ks.length cap3] 24))
      have HX3 := Lib.hid hX3
      have HK3 := Lib.hid hK3
      have HFB := Lib.hid hfb
      have hB3 := hb3.alloc hb3.size (.cells #[.int .i64 c, .int .i64 t, .bool k, .string b, .slice a3 ks.length cap3] 24)
      have HB3 := Lib.hid hB3
      have hz3 := hb3.size
      clear hk3 hb3 hX3 hK3 hfb hB3
      go_wp2_with fail
      (with_reducible refine (write_var HK3.out c t k b _ HFB.out (Below.refl _ _) S 0 HW).mono ?_)
      rintro e w4 ⟨rfl, hb4⟩
      have HX4 := Lib.hid (HX3.out.below hb4 HX3.out.lt)
      have HK4 := Lib.hid (HK3.out.later hb4)
      have hB4 := HB3.out.trans (hb4.mono HB3.out.size)
      clear hb4
      go_wp2_with fail
      (with_reducible refine (read_var S _ hSs c t k b ks 0 HR2).mono ?_)
      rintro e w5 ⟨⟨v5, rfl, hk5⟩, _, hb5⟩
      obtain ⟨a5, cap5, rfl, _, _⟩ := hk5.at.len
      have HX5 := Lib.hid ((HX4.out.below hb5 HX4.out.lt).alloc (.cells #[.int .i64 c, .int .i64 t, .bool k, .string b, .slice a5 ks.length cap5] 24))
      have HY5 := Lib.hid (Blk.new w5 24 #[.int .i64 c, .int .i64 t, .bool k, .string b, .slice a5 ks.length cap5])
      have HKX5 := Lib.hid ((HK4.out.later hb5).later ((Below.refl _ _).alloc (Nat.le_refl _) (.cells #[.int .i64 c, .int .i64 t, .bool k, .string b, .slice a5 ks.length cap5] 24)))
      have HKY5 := Lib.hid (hk5.at.later ((Below.refl _ _).alloc (Nat.le_refl _) (.cells #[.int .i64 c, .int .i64 t, .bool k, .string b, .slice a5 ks.length cap5] 24)))
      have hB5 := hB4.trans (hb5.mono hB4.size)
      have hB6 := hB5.alloc hB5.size (.cells #[.int .i64 c, .int .i64 t, .bool k, .string b, .slice a5 ks.length cap5] 24)
      clear hk5 hb5 hB4 hB5
      go_wp2_with fail
      (with_reducible refine (write_var HKY5.out c t k b _ HFB.out (Below.refl _ _) S 0 HW).mono ?_)
      rintro e w6 ⟨rfl, hb6⟩
      have HX6 := Lib.hid (HX5.out.below hb6 HX5.out.lt)
      have HY6 := Lib.hid (HY5.out.below hb6 HY5.out.lt)
      have HKX6 := Lib.hid (HKX5.out.later hb6)
      have HKY6 := Lib.hid (HKY5.out.later hb6)
      have hB7 := hB6.trans (hb6.mono hB6.size)
      clear hb6 hB6
      go_wp2_with fail
      (with_reducible refine (alive_any _).mono ?_)
      rintro e w7 ⟨rfl, hb7⟩
      obtain ⟨c0, c1, c2, c3, c4⟩ := (HX6.out.below hb7 HX6.out.lt).five
      obtain ⟨d0, d1, d2, d3, d4⟩ := (HY6.out.below hb7 HY6.out.lt).five
      have HKX7 := Lib.hid (HKX6.out.later hb7)
      have HKY7 := Lib.hid (HKY6.out.later hb7)
      have hB8 := hB7.trans (hb7.mono hB7.size)
      clear hb7 hB7
      have hSS : decide (S = S) = true := decide_eq_true rfl
      go_wp2_with fail
      (with_reducible refine (same_any HKX7.out _ c t k b _ HKY7.out (Below.refl _ _)).mono ?_)
      rintro e w8 ⟨rfl, hb8⟩
      go_wp2_with fail
      go_ret
      exact ⟨rfl, hB8.trans (hb8.mono hB8.size)⟩
    · have hr2 : (r != 0) = true := by rw [bne_iff_ne]; exact hr
      clear hr hrd
      go_enter Try.func9, Try.ntmps9
      go_wp2_with fail
      (with_reducible refine (read_var s _ hs c t k b ks r HRD).mono ?_)
      rintro e w3 ⟨⟨v, rfl, hk3⟩, _, hb3⟩
      obtain ⟨a3, cap3, rfl, _, _⟩ := hk3.at.len
      have hz3 := hb3.size
      have HB3 := Lib.hid hb3
      clear hk3 hb3
      go_wp2_with fail
      (with_reducible refine (alive_any _).mono ?_)
      rintro e w4 ⟨rfl, hb4⟩
      go_wp2_with fail
      go_ret
      exact ⟨rfl, (HB3.out.alloc hz3 _).trans (hb4.mono (by simp; omega))⟩
end Go.Proofs.Ytejnfnpcabldeaa
