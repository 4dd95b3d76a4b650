/- The contract of chanceryref2.Read, and the walk of the law BerReads. -/
import Derived.Test.YtlkdbopdmieojaaGreatBerAB
import Derived.Test.YtlkdbopdmieojaaGreatBerU
namespace Go.Proofs.YtlkdbopdmieojaaGreat
open Go.RowKit Ber
set_option maxRecDepth 20000
set_option maxHeartbeats 2000000 in
theorem rRead_any (s : ByteArray) (w : World) (hs : s.size ≤ 140737488351232) : Calls Tryz.prog 6 #[.string s] w fun e w' => TopPost w (rdTop s.data.toList) e w' := by
  obtain ⟨q, hq⟩ : ∃ q, rdTop s.data.toList = q := ⟨_, rfl⟩
  rw [hq]
  have HQ := Lib.hid hq
  clear hq
  go_enter Tryz.func6, Tryz.ntmps6
  go_wp2_with fail
  (with_reducible refine (take_any 20 s 0 _ (Lib.hid (by omega)) (by omega) hs).mono ?_)
  rintro e w3 (⟨er, her, hne, rfl, hb3⟩ | ⟨kc, kt, kk, kb, kks, kv, N, hok, hN, rfl, hk3, hfb, hb3⟩)
  · have hR3 := ((Blk.new w 47 #[.int .i64 0, .int .i64 0, .bool false, .string ⟨#[]⟩, .slice none 0 0]).below hb3 (by simp)).alloc (.cells #[.int .i64 0, .int .i64 0, .bool false, .string ⟨#[]⟩, .slice none 0 0] 47)
    have hz3 := hb3.size
    rw [World.size_alloc] at hz3
    obtain ⟨d0, d1, d2, d3, d4⟩ := hR3.cells5
    have g0 := hR3.frozen 0
    have g1 := hR3.frozen 1
    have g2 := hR3.frozen 2
    have g3 := hR3.frozen 3
    have g4 := hR3.frozen 4
    have hne2 : (er != 0) = true := by rw [bne_iff_ne]; exact hne
    have HER := Lib.hid her
    have hB3 : Below w.heap.size w (w3.alloc (.cells #[.int .i64 0, .int .i64 0, .bool false, .string ⟨#[]⟩, .slice none 0 0] 47)) := (((Below.refl _ _).alloc (Nat.le_refl _) _).trans (hb3.mono (by simp))).alloc (by omega) _
    have HB3 := Lib.hid hB3
    clear her hne hR3 hb3 hB3
    go_wp2_with fail
    refine bodyPost_ret (v := .tuple #[.agg #[.int .i64 0, .int .i64 0, .bool false, .string ⟨#[]⟩, .slice none 0 0], .int .i64 er]) (by simp [results, Tryz.results6, go_sem, d0, d1, d2, d3, d4]) rfl ?_
    refine ⟨0, 0, false, ⟨#[]⟩, [], _, er, ?_, rfl, KsP.nil _ _, by unfold Few; decide, below_s5 w.heap.size HB3.out _ _ _ _ _⟩
    rw [← HQ.out, rdTop_err HER.out]
    rfl
  · obtain ⟨a3, cap3, rfl, _, _⟩ := hk3.at.len
    have hR3 := ((Blk.new w 47 #[.int .i64 0, .int .i64 0, .bool false, .string ⟨#[]⟩, .slice none 0 0]).below hb3 (by simp)).alloc (.cells #[.int .i64 kc, .int .i64 kt, .bool kk, .string kb, .slice a3 kks.length cap3] 47)
    have hX3 := Blk.new w3 47 #[.int .i64 kc, .int .i64 kt, .bool kk, .string kb, .slice a3 kks.length cap3]
    have hz3 := hb3.size
    rw [World.size_alloc] at hz3
    obtain ⟨d0, d1, d2, d3, d4⟩ := hR3.cells5
    obtain ⟨x0, x1, x2, x3, x4⟩ := hX3.cells5
    have g0 := hR3.frozen 0
    have g1 := hR3.frozen 1
    have g2 := hR3.frozen 2
    have g3 := hR3.frozen 3
    have g4 := hR3.frozen 4
    have HOK := Lib.hid hok
    have HK3 := Lib.hid hk3
    have HFB := Lib.hid hfb
    rw [len_sz] at hN
    have hNi : (N : Int) ≤ (s.size : Int) := by omega
    have hN0 : 0 ≤ (N : Int) := by omega
    have HN := Lib.hid hN
    have hB3 : Below w.heap.size w (w3.alloc (.cells #[.int .i64 kc, .int .i64 kt, .bool kk, .string kb, .slice a3 kks.length cap3] 47)) := (((Below.refl _ _).alloc (Nat.le_refl _) _).trans (hb3.mono (by simp))).alloc (by omega) _
    have HB3 := Lib.hid hB3
    have hne : w.heap.size ≠ w3.heap.size := by omega
    clear hok hk3 hfb hR3 hX3 hb3 hB3 hN
    by_cases hlt : (N : Int) < (s.size : Int)
    · go_wp2_with fail
      refine bodyPost_ret (v := .tuple #[.agg #[.int .i64 0, .int .i64 0, .bool false, .string ⟨#[]⟩, .slice none 0 0], .int .i64 25]) (by simp [results, Tryz.results6, go_sem, d0, d1, d2, d3, d4]) rfl ?_
      refine ⟨0, 0, false, ⟨#[]⟩, [], _, 25, ?_, rfl, KsP.nil _ _, by unfold Few; decide, below_s5 w.heap.size HB3.out _ _ _ _ _⟩
      have hne3 : s.data.toList.drop N ≠ [] := by
        intro hq
        have := congrArg List.length hq
        rw [List.length_drop, len_sz] at this
        simp only [List.length_nil] at this
        omega
      rw [← HQ.out, rdTop_mo HOK.out hne3]
      rfl
    · have hnil : s.data.toList.drop N = [] := List.drop_eq_nil_of_le (by rw [len_sz]; omega)
      have hok := HOK.out
      rw [hnil] at hok
      have HOK2 := Lib.hid hok
      clear hnil hok
      go_wp2_with fail
      refine bodyPost_ret (v := .tuple #[.agg #[.int .i64 kc, .int .i64 kt, .bool kk, .string kb, .slice a3 kks.length cap3], .int .i64 0]) (by simp [results, Tryz.results6, go_sem, d0, d1, d2, d3, d4]) rfl ?_
      refine ⟨kc, kt, kk, kb, kks, _, 0, ?_, rfl, ?_, HFB.out, below_s5 w.heap.size HB3.out _ _ _ _ _⟩
      · rw [← HQ.out, rdTop_ok HOK2.out]
      · refine HK3.out.keep (by simp) fun g hg hS => ⟨?_, by simp at hS; omega, by simp; omega⟩
        simp only [World.size_alloc] at hS
        iterate 5 rw [Below.heap_setCell _ _ _ _ (by show g ≠ w.heap.size; omega)]
        exact Below.heap_alloc _ _ _ hg
theorem rread_var (s : ByteArray) (w : World) (hs : s.size ≤ 140737488351232) (c t : Int) (k : Bool) (b : ByteArray) (ks : List El) (r : Int) (h : Hid (rdTop s.data.toList = (.mk c t k b ks, r))) :
    Calls Tryz.prog 6 #[.string s] w fun e w' => (∃ v, e = .returned (.tuple #[.agg #[.int .i64 c, .int .i64 t, .bool k, .string b, v], .int .i64 r]) ∧ KsP (fun b => w.heap.size ≤ b ∧ b < w'.heap.size) w' ks v) ∧ Few b.size ∧ Below w.heap.size w w' := by
  refine (rRead_any s w hs).mono ?_
  rintro e w' ⟨c', t', k', b', ks', v, r', hq, he, hk, hf, hb⟩
  rw [h.out] at hq
  obtain ⟨h1, rfl⟩ := Prod.mk.inj hq
  obtain ⟨rfl, rfl, rfl, rfl, rfl⟩ := El.mk.inj h1
  exact ⟨⟨v, he, hk⟩, hf, hb⟩
end Go.Proofs.YtlkdbopdmieojaaGreat
