/- The contract of chanceryref2.Read, and the walk of the law BerReads. -/
import Derived.Test.YtejnfnpcabldeaaBerAB
import Derived.Test.YtejnfnpcabldeaaBerU
namespace Go.Proofs.Ytejnfnpcabldeaa
open Go.RowKit Ber
set_option maxHeartbeats 2000000 in
theorem rRead_any (s : ByteArray) (w : World) (hs : s.size ≤ 140737488351232) : Calls Try.prog 41 #[.string s] w fun e w' => TopPost w (rdTop s.data.toList) e w' := by
  obtain ⟨q, hq⟩ : ∃ q, rdTop s.data.toList = q := ⟨_, rfl⟩
  rw [hq]
  have HQ := Lib.hid hq
  clear hq
  go_enter Try.func41, Try.ntmps41
  go_wp2_with fail
  (with_reducible refine (take_any 20 s 0 _ (Lib.hid (by omega)) (by omega) hs).mono ?_)
  rintro e w3 (⟨er, her, hne, rfl, hb3⟩ | ⟨kc, kt, kk, kb, kks, kv, N, hok, hN, rfl, hk3, hfb, hb3⟩)
  · have hR3 := ((Blk.new w 24 #[.int .i64 0, .int .i64 0, .bool false, .string ⟨#[]⟩, .slice none 0 0]).below hb3 (by simp)).alloc (.cells #[.int .i64 0, .int .i64 0, .bool false, .string ⟨#[]⟩, .slice none 0 0] 24)
    have hz3 := hb3.size
    rw [World.size_alloc] at hz3
    obtain ⟨d0, d1, d2, d3, d4⟩ := hR3.cells5
    have g0 := hR3.frozen 0
    have g1 := hR3.frozen 1
    have g2 := hR3.frozen 2
    have g3 := hR3.frozen 3
    have g4 := hR3.frozen 4
    have hne2 : (er != 0) = true := by rw [bne_iff_ne]; exact hne
    have HER := Lib.hid her
    have hB3 : Below w.heap.size w (w3.alloc (.cells #[.int .i64 0, .int .i64 0, .bool false, .string ⟨#[]⟩, .slice none 0 0] 24)) := (((Below.refl _ _).alloc (Nat.le_refl _) _).trans (hb3.mono (by simp))).alloc (by omega) _
    have HB3 := Lib.hid hB3
    clear her hne hR3 hb3 hB3
    go_wp2_with fail
    refine bodyPost_ret (v := .tuple #[.agg #[.int .i64 0, .int .i64 0, .bool false, .string ⟨#[]⟩, .slice none 0 0], .int .i64 er]) (by simp [results, Try.results41, go_sem, d0, d1, d2, d3, d4]) rfl ?_
    refine ⟨0, 0, false, ⟨#[]⟩, [], _, er, ?_, rfl, KsP.nil _ _, by unfold Few; decide, below_s5 w.heap.size HB3.out _ _ _ _ _⟩
    rw [← HQ.out, rdTop_err HER.out]
    rfl
  · obtain ⟨a3, cap3, rfl, _, _⟩ := hk3.at.len
    have hR3 := ((Blk.new w 24 #[.int .i64 0, .int .i64 0, .bool false, .string ⟨#[]⟩, .slice none 0 0]).below hb3 (by simp)).alloc (.cells #[.int .i64 kc, .int .i64 kt, .bool kk, .string kb, .slice a3 kks.length cap3] 24)
    have hX3 := Blk.new w3 24 #[.int .i64 kc, .int .i64 kt, .bool kk, .string kb, .slice a3 kks.length cap3]
    have hz3 := hb3.size
    rw [World.size_alloc] at hz3
    obtain ⟨d0, d1, d2, d3, d4⟩ := hR3.cells5
    obtain ⟨x0, x1, x2, x3, x4⟩ := hX3.cells5
    have g0 := hR3.frozen 0
    have g1 := hR3.frozen 1
    have g2 := hR3.frozen 2
    have g3 := hR3.frozen 3
    have g4 := hR3.frozen 4
    have HOK := Lib.hid hok
    have HK3 := Lib.hid hk3
    have HFB := Lib.hid hfb
    rw [len_sz] at hN
    have hNi : (N : Int) ≤ (s.size : Int) := by omega
    have hN0 : 0 ≤ (N : Int) := by omega
    have HN := Lib.hid hN
    have hB3 : Below w.heap.size w (w3.alloc (.cells #[.int .i64 kc, .int .i64 kt, .bool kk, .string kb, .slice a3 kks.length cap3] 24)) := (((Below.refl _ _).alloc (Nat.le_refl _) _).trans (hb3.mono (by simp))).alloc (by omega) _
    have HB3 := Lib.hid hB3
    have hne : w.heap.size ≠ w3.heap.size := by omega
    clear hok hk3 hfb hR3 hX3 hb3 hB3 hN
    by_cases hlt : (N : Int) < (s.size : Int)
    · go_wp2_with fail
      refine bodyPost_ret (v := .tuple #[.agg #[.int .i64 0, .int .i64 0, .bool false, .string ⟨#[]⟩, .slice none 0 0], .int .i64 25]) (by simp [results, Try.results41, go_sem, d0, d1, d2, d3, d4]) rfl ?_
      refine ⟨0, 0, false, ⟨#[]⟩, [], _, 25, ?_, rfl, KsP.nil _ _, by unfold Few; decide, below_s5 w.heap.size HB3.out _ _ _ _ _⟩
      have hne3 : s.data.toList.drop N ≠ [] := by
        intro hq
        have := congrArg List.length hq
        rw [List.length_drop, len_sz] at this
        simp only [List.length_nil] at this
        omega
      rw [← HQ.out, rdTop_mo HOK.out hne3]
      rfl
    · have hnil : s.data.toList.drop N = [] := List.drop_eq_nil_of_le (by rw [len_sz]; omega)
      have hok := HOK.out
      rw [hnil] at hok
      have HOK2 := Lib.hid hok
      clear hnil hok
      go_wp2_with fail
      refine bodyPost_ret (v := .tuple #[.agg #[.int .i64 kc, .int .i64 kt, .bool kk, .string kb, .slice a3 kks.length cap3], .int .i64 0]) (by simp [results, Try.results41, go_sem, d0, d1, d2, d3, d4]) rfl ?_
      refine ⟨kc, kt, kk, kb, kks, _, 0, ?_, rfl, ?_, HFB.out, below_s5 w.heap.size HB3.out _ _ _ _ _⟩
      · rw [← HQ.out, rdTop_ok HOK2.out]
      · refine HK3.out.keep (by simp) fun g hg hS => ⟨?_, by simp at hS; omega, by simp; omega⟩
        simp only [World.size_alloc] at hS
        iterate 5 rw [Below.heap_setCell _ _ _ _ (by show g ≠ w.heap.size; omega)]
        exact Below.heap_alloc _ _ _ hg
theorem rread_var (s : ByteArray) (w : World) (hs : s.size ≤ 140737488351232) (c t : Int) (k : Bool) (b : ByteArray) (ks : List El) (r : Int) (h : Hid (rdTop s.data.toList = (.mk c t k b ks, r))) :
    Calls Try.prog 41 #[.string s] w fun e w' => (∃ v, e = .returned (.tuple #[.agg #[.int .i64 c, .int .i64 t, .bool k, .string b, v], .int .i64 r]) ∧ KsP (fun b => w.heap.size ≤ b ∧ b < w'.heap.size) w' ks v) ∧ Few b.size ∧ Below w.heap.size w w' := by
  refine (rRead_any s w hs).mono ?_
  rintro e w' ⟨c', t', k', b', ks', v, r', hq, he, hk, hf, hb⟩
  rw [h.out] at hq
  obtain ⟨h1, rfl⟩ := Prod.mk.inj hq
  obtain ⟨rfl, rfl, rfl, rfl, rfl⟩ := El.mk.inj h1
  exact ⟨⟨v, he, hk⟩, hf, hb⟩
set_option maxHeartbeats 1000000 in
theorem berReads_walk (s : ByteArray) (w : World) (hs : s.size ≤ 140737488351232) :
    Calls Try.prog 7 #[.string s] w fun e w' => e = .returned (.bool true) ∧ Below w.heap.size w w' := by
  by_cases hbig : 70000 < (s.size : Int)
  · go_enter Try.func7, Try.ntmps7
    go_wp2_with fail
    (with_reducible refine (alive_any _).mono ?_)
    rintro e w2 ⟨rfl, hb2⟩
    go_wp2_with fail
    go_ret
    exact ⟨rfl, hb2⟩
  · obtain ⟨⟨⟨c, t, k, b, ks⟩, r⟩, hrd⟩ : ∃ q, rdTop s.data.toList = q := ⟨_, rfl⟩
    obtain ⟨⟨n, r1⟩, hfr⟩ : ∃ q, frame s.data.toList = q := ⟨_, rfl⟩
    have HRD := Lib.hid hrd
    have HFR := Lib.hid hfr
    clear hrd hfr
    go_enter Try.func7, Try.ntmps7
    go_wp2_with fail
    (with_reducible refine (frame_var s _ n r1 HFR).mono ?_)
    rintro e w1 ⟨rfl, hb1⟩
    go_wp2_with fail
    (with_reducible refine (rframe_var s _ n r1 HFR).mono ?_)
    rintro e w2 ⟨rfl, hb2⟩
    have hB2 := hb1.trans (hb2.mono hb1.size)
    clear hb1 hb2
    go_wp2_with fail
    (with_reducible refine (read_var s _ hs c t k b ks r HRD).mono ?_)
    rintro e w3 ⟨⟨v, rfl, hk3⟩, hfb, hb3⟩
    obtain ⟨a3, cap3, rfl, _, _⟩ := hk3.at.len
    have HX3 := Lib.hid (Blk.new w3 24 #[.int .i64 c, .int .i64 t, .bool k, .string b, .slice a3 ks.length cap3])
    have HK3 := Lib.hid (hk3.at.later ((Below.refl _ _).alloc (Nat.le_refl _) (.cells #[.int .i64 c, .int .i64 t, .bool k, .string b, .slice a3 ks.length cap3] 24)))
    have hB3 := (hB2.trans (hb3.mono hB2.size)).alloc (by have := hb3.size; have := hB2.size; omega) (.cells #[.int .i64 c, .int .i64 t, .bool k, .string b, .slice a3 ks.length cap3] 24)
    clear hk3 hb3 hfb hB2
    go_wp2_with fail
    (with_reducible refine (rread_var s _ hs c t k b ks r HRD).mono ?_)
    rintro e w5 ⟨⟨v5, rfl, hk5⟩, _, hb5⟩
    obtain ⟨a5, cap5, rfl, _, _⟩ := hk5.at.len
    have HX5 := Lib.hid ((HX3.out.below hb5 HX3.out.lt).alloc (.cells #[.int .i64 c, .int .i64 t, .bool k, .string b, .slice a5 ks.length cap5] 24))
    have HY5 := Lib.hid (Blk.new w5 24 #[.int .i64 c, .int .i64 t, .bool k, .string b, .slice a5 ks.length cap5])
    have HKX5 := Lib.hid ((HK3.out.later hb5).later ((Below.refl _ _).alloc (Nat.le_refl _) (.cells #[.int .i64 c, .int .i64 t, .bool k, .string b, .slice a5 ks.length cap5] 24)))
    have HKY5 := Lib.hid (hk5.at.later ((Below.refl _ _).alloc (Nat.le_refl _) (.cells #[.int .i64 c, .int .i64 t, .bool k, .string b, .slice a5 ks.length cap5] 24)))
    have hB5 := (hB3.trans (hb5.mono hB3.size)).alloc (by have := hb5.size; have := hB3.size; omega) (.cells #[.int .i64 c, .int .i64 t, .bool k, .string b, .slice a5 ks.length cap5] 24)
    clear hk5 hb5 hB3
    go_wp2_with fail
    (with_reducible refine (alive_any _).mono ?_)
    rintro e w7 ⟨rfl, hb7⟩
    obtain ⟨c0, c1, c2, c3, c4⟩ := (HX5.out.below hb7 HX5.out.lt).five
    obtain ⟨d0, d1, d2, d3, d4⟩ := (HY5.out.below hb7 HY5.out.lt).five
    have HKX7 := Lib.hid (HKX5.out.later hb7)
    have HKY7 := Lib.hid (HKY5.out.later hb7)
    have hB7 := hB5.trans (hb7.mono hB5.size)
    clear hb7 hB5
    go_wp2_with fail
    (with_reducible refine (same_any HKX7.out _ c t k b _ HKY7.out (Below.refl _ _)).mono ?_)
    rintro e w8 ⟨rfl, hb8⟩
    go_wp2_with fail
    go_ret
    exact ⟨rfl, hB7.trans (hb8.mono hB7.size)⟩
end Go.Proofs.Ytejnfnpcabldeaa
