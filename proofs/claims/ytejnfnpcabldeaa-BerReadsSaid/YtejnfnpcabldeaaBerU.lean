/- The walk of the law BerBack. -/
import Derived.Test.YtejnfnpcabldeaaBerL
import Derived.Test.YtejnfnpcabldeaaBerQ
import Derived.Test.YtejnfnpcabldeaaBerT
namespace Go.Proofs.Ytejnfnpcabldeaa
open Go.RowKit Ber
theorem read_var (s : ByteArray) (w : World) (hs : s.size ≤ 140737488351232) (c t : Int) (k : Bool) (b : ByteArray) (ks : List El) (r : Int) (h : Hid (rdTop s.data.toList = (.mk c t k b ks, r))) :
    Calls Try.prog 40 #[.string s] w fun e w' => (∃ v, e = .returned (.tuple #[.agg #[.int .i64 c, .int .i64 t, .bool k, .string b, v], .int .i64 r]) ∧ KsP (fun b => w.heap.size ≤ b ∧ b < w'.heap.size) w' ks v) ∧ Few b.size ∧ Below w.heap.size w w' := by
  refine (Read_any s w hs).mono ?_
  rintro e w' ⟨c', t', k', b', ks', v, r', hq, he, hk, hf, hb⟩
  rw [h.out] at hq
  obtain ⟨h1, rfl⟩ := Prod.mk.inj hq
  obtain ⟨rfl, rfl, rfl, rfl, rfl⟩ := El.mk.inj h1
  exact ⟨⟨v, he, hk⟩, hf, hb⟩
set_option maxHeartbeats 1000000 in
theorem berBack_walk {w : World} {ks : List El} {kv : Value} (h : KsAt w ks kv) (c t : Int) (k : Bool) (b : ByteArray) (hfb : Few b.size) :
    Calls Try.prog 8 #[.agg #[.int .i64 c, .int .i64 t, .bool k, .string b, kv]] w fun e w' => e = .returned (.bool true) ∧ Below w.heap.size w w' := by
  obtain ⟨a, cap, rfl, _, _⟩ := h.len
  obtain ⟨⟨l, r⟩, hwr⟩ : ∃ q, wr (.mk c t k b ks) = q := ⟨_, rfl⟩
  obtain ⟨S, rfl⟩ : ∃ S : ByteArray, l = S.data.toList := ⟨⟨l.toArray⟩, by simp⟩
  have HH := Lib.hid h
  have HFB := Lib.hid hfb
  have HW := Lib.hid hwr
  clear h hfb hwr
  go_enter Try.func8, Try.ntmps8
  go_wp2_with fail
  (with_reducible refine (many_any HH.out c t k b _ ((Below.refl _ _).alloc (Nat.le_refl _) _)).mono ?_)
  rintro e w1 ⟨⟨n, rfl⟩, hb1⟩
  have hB1 : Below w.heap.size w w1 := ((Below.refl _ _).alloc (Nat.le_refl _) _).trans (hb1.mono (by simp))
  have hE1 := (Blk.new w 24 #[.int .i64 c, .int .i64 t, .bool k, .string b, .slice a ks.length cap]).below hb1 (by simp)
  have HE1 := Lib.hid hE1
  clear hb1 hE1
  by_cases hn : 500 < n
  · go_wp2_with fail
    (with_reducible refine (alive_any _).mono ?_)
    rintro e w2 ⟨rfl, hb2⟩
    go_wp2_with fail
    go_ret
    exact ⟨rfl, hB1.trans (hb2.mono hB1.size)⟩
  · obtain ⟨c0, c1, c2, c3, c4⟩ := HE1.out.five
    go_wp2_with fail
    (with_reducible refine (write_var HH.out c t k b _ HFB.out hB1 S r HW).mono ?_)
    rintro e w2 ⟨rfl, hb2⟩
    have hB2 := hB1.trans (hb2.mono hB1.size)
    have HE2 := Lib.hid (HE1.out.below hb2 HE1.out.lt)
    clear hb2 hB1 c0 c1 c2 c3 c4 HE1 hn
    by_cases hr : r = 0
    · subst hr
      obtain ⟨hG, hl⟩ := good_of_wr HW.out
      have hsz := size_enc hl
      have hrd : rdTop S.data.toList = (.mk c t k b ks, 0) := by rw [hl]; exact rdTop_enc hG
      have hfr : frame S.data.toList = (S.size, 0) := by rw [hl, hsz]; exact frame_enc hG
      have hSs : S.size ≤ 140737488351232 := by have := hG.fits; omega
      have HRD := Lib.hid hrd
      have HFR := Lib.hid hfr
      clear hG hl hsz hrd hfr
      go_wp2_with fail
      (with_reducible refine (read_var S _ hSs c t k b ks 0 HRD).mono ?_)
      rintro e w3 ⟨⟨v, rfl, hk3⟩, _, hb3⟩
      obtain ⟨a3, cap3, rfl, _, _⟩ := hk3.at.len
      have hB3 := hB2.trans (hb3.mono hB2.size)
      have HE3 := Lib.hid ((HE2.out.below hb3 HE2.out.lt).alloc (.cells #[.int .i64 c, .int .i64 t, .bool k, .string b, .slice a3 ks.length cap3] 24))
      have HX3 := Lib.hid (Blk.new w3 24 #[.int .i64 c, .int .i64 t, .bool k, .string b, .slice a3 ks.length cap3])
      have HK3 := Lib.hid (hk3.at.later ((Below.refl _ _).alloc (Nat.le_refl _) (.cells #[.int .i64 c, .int .i64 t, .bool k, .string b, .slice a3 ks.length cap3] 24)))
      clear hk3 hb3 hB2
      go_wp2_with fail
      (with_reducible refine (frame_var S _ S.size 0 HFR).mono ?_)
      rintro e w4 ⟨rfl, hb4⟩
      have HE4 := Lib.hid (HE3.out.below hb4 HE3.out.lt)
      have HX4 := Lib.hid (HX3.out.below hb4 HX3.out.lt)
      have HK4 := Lib.hid (HK3.out.later hb4)
      have hB4 := (hB3.alloc hB3.size _).trans (hb4.mono (by have := hB3.size; simp; omega))
      clear hb4 hB3
      go_wp2_with fail
      (with_reducible refine (alive_any _).mono ?_)
      rintro e w5 ⟨rfl, hb5⟩
      have hB5 := hB4.trans (hb5.mono hB4.size)
      obtain ⟨c0, c1, c2, c3, c4⟩ := (HE4.out.below hb5 HE4.out.lt).five
      obtain ⟨d0, d1, d2, d3, d4⟩ := (HX4.out.below hb5 HX4.out.lt).five
      have HK5 := Lib.hid (HK4.out.later hb5)
      clear hb5 hB4
      go_wp2_with fail
      (with_reducible refine (same_any HK5.out _ c t k b _ (HH.out.later hB5) (Below.refl _ _)).mono ?_)
      rintro e w6 ⟨rfl, hb6⟩
      go_wp2_with fail
      go_ret
      exact ⟨rfl, hB5.trans (hb6.mono hB5.size)⟩
    · have hr2 : (r != 0) = true := by rw [bne_iff_ne]; exact hr
      have hS0 : S.data.toList = [] := wr_bad HW.out hr
      have hE0 : S.toList.isEmpty = true := by
        rw [isEmpty_ba]
        have := congrArg List.length hS0
        exact decide_eq_true (by simpa using this)
      clear hr hS0
      go_wp2_with fail
      (with_reducible refine (alive_any _).mono ?_)
      rintro e w3 ⟨rfl, hb3⟩
      go_wp2_with fail
      go_ret
      exact ⟨rfl, hB2.trans (hb3.mono hB2.size)⟩
end Go.Proofs.Ytejnfnpcabldeaa
