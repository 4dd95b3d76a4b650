/- The walk of the law BerCut. -/
import Derived.Test.YtejnfnpcabldeaaBerU
namespace Go.Proofs.Ytejnfnpcabldeaa
open Go.RowKit Ber
theorem cut_j (s : ByteArray) (j : Nat) : (s.extract 0 j).data.toList = s.data.toList.take j := by rw [Lib.extract_data]; simp
set_option maxHeartbeats 2000000 in
theorem berCut_walk {w : World} {ks : List El} {kv : Value} (h : KsAt w ks kv) (c t : Int) (k : Bool) (b : ByteArray) (hfb : Few b.size) (z : Int) (M : ByteArray) (hz1 : -9223372036854775808 ≤ z) (hz2 : z ≤ 9223372036854775807) :
    Calls Try.prog 10 #[.agg #[.int .i64 c, .int .i64 t, .bool k, .string b, kv], .int .i64 z, .string M] w fun e w' => e = .returned (.bool true) ∧ Below w.heap.size w w' := by
  obtain ⟨a, cap, rfl, _, _⟩ := h.len
  obtain ⟨⟨l, r⟩, hwr⟩ : ∃ q, wr (.mk c t k b ks) = q := ⟨_, rfl⟩
  obtain ⟨S, rfl⟩ : ∃ S : ByteArray, l = S.data.toList := ⟨⟨l.toArray⟩, by simp⟩
  have HH := Lib.hid h
  have HFB := Lib.hid hfb
  have HW := Lib.hid hwr
  clear h hfb hwr
  go_enter Try.func10, Try.ntmps10
  go_wp2_with fail
  (with_reducible refine (many_any HH.out c t k b _ ((Below.refl _ _).alloc (Nat.le_refl _) _)).mono ?_)
  rintro e w1 ⟨⟨n, rfl⟩, hb1⟩
  have hB1 : Below w.heap.size w w1 := ((Below.refl _ _).alloc (Nat.le_refl _) _).trans (hb1.mono (by simp))
  have hE1 := (Blk.new w 24 #[.int .i64 c, .int .i64 t, .bool k, .string b, .slice a ks.length cap]).below hb1 (by simp)
  have HE1 := Lib.hid hE1
  clear hb1 hE1
  by_cases hn : 500 < n
  · go_wp2_with fail
    (with_reducible refine (alive_any _).mono ?_)
    rintro e w2 ⟨rfl, hb2⟩
    go_wp2_with fail
    go_ret
    exact ⟨rfl, hB1.trans (hb2.mono hB1.size)⟩
  by_cases hM : 1000 < (M.size : Int)
  · go_wp2_with fail
    (with_reducible refine (alive_any _).mono ?_)
    rintro e w2 ⟨rfl, hb2⟩
    go_wp2_with fail
    go_ret
    exact ⟨rfl, hB1.trans (hb2.mono hB1.size)⟩
  obtain ⟨c0, c1, c2, c3, c4⟩ := HE1.out.five
  go_wp2_with fail
  (with_reducible refine (write_var HH.out c t k b _ HFB.out hB1 S r HW).mono ?_)
  rintro e w2 ⟨rfl, hb2⟩
  have hB2 := hB1.trans (hb2.mono hB1.size)
  clear hb2 hB1 c0 c1 c2 c3 c4 HE1 hn
  by_cases hr : r = 0
  · subst hr
    obtain ⟨hG, hl⟩ := good_of_wr HW.out
    have hsz := size_enc hl
    have hT2 : 2 ≤ S.size := by rw [hsz]; exact esz_pos 19 _
    have hT3 : S.size ≤ 65536 := by rw [hsz]; exact hG.fits
    have hcut : ∀ j, j < S.size → (rdTop (S.extract 0 j).data.toList).2 = 20 := fun j hj => by rw [cut_j, hl]; exact rdTop_cut hG j (by omega)
    have hmore : ∀ (N : ByteArray), N.data.toList = S.data.toList ++ M.data.toList → (rdTop N.data.toList).2 = if M.size = 0 then 0 else 25 := by
      intro N hN
      rw [hN, hl]
      by_cases hM0 : M.size = 0
      · have : M.data.toList = [] := List.eq_nil_of_length_eq_zero (by simpa using hM0)
        rw [this, List.append_nil, rdTop_enc hG, if_pos hM0]
      · rw [if_neg hM0]
        exact rdTop_more hG _ (fun h => hM0 (by have := congrArg List.length h; simpa using this))
    have HC := Lib.hid hcut
    have HMo := Lib.hid hmore
    clear hG hl hsz hcut hmore
    have hne : ((S.size : Int) == 0) = false := by rw [beq_eq_false_iff_ne]; omega
    have hTpos : (0 : Int) < (S.size : Int) := by omega
    have hTne : ¬ (S.size : Int) = 0 := by omega
    have hm1 : (z.tmod (S.size : Int)) < (S.size : Int) := Int.tmod_lt_of_pos z hTpos
    have hm2 : -(S.size : Int) < z.tmod (S.size : Int) := by
      have := Int.lt_tmod_of_pos z hTpos
      omega
    have hMs : M.size ≤ 1000 := by omega
    have hcat : ∀ W, (Op.stringOp .add S M).run Try.prog W = .ok (.string (S ++ M)) W := fun W => run_string_add_sum (P := Try.prog) (w := W) S M (by omega)
    have hNs : (S ++ M).size ≤ 140737488351232 := by
      have : (S ++ M).size = S.size + M.size := by simp
      omega
    have hNd : (S ++ M).data.toList = S.data.toList ++ M.data.toList := by simp
    have hmo := HMo.out (S ++ M) hNd
    obtain ⟨⟨⟨cn, tn, kn, bn, ksn⟩, rn⟩, hqn⟩ : ∃ q, rdTop (S ++ M).data.toList = q := ⟨_, rfl⟩
    rw [hqn] at hmo
    have HQN := Lib.hid hqn
    have HMO : Hid (rn = if M.size = 0 then 0 else 25) := Lib.hid hmo
    obtain ⟨N, hN⟩ : ∃ N, S ++ M = N := ⟨_, rfl⟩
    rw [hN] at HQN hcat hNs
    clear hmo hqn hNd HMo hN
    obtain ⟨J, hJe, hJ⟩ : ∃ J : Nat, (if z.tmod (S.size : Int) < 0 then (z.tmod (S.size : Int) + (S.size : Int)).toNat else (z.tmod (S.size : Int)).toNat) = J ∧ J < S.size := ⟨_, rfl, by split <;> omega⟩
    obtain ⟨⟨⟨cj, tj, kj, bj, ksj⟩, rj⟩, hqj⟩ : ∃ q, rdTop (S.extract 0 J).data.toList = q := ⟨_, rfl⟩
    have hrj : rj = 20 := by have := HC.out J hJ; rw [hqj] at this; exact this
    subst hrj
    have HQJ := Lib.hid hqj
    have hSJ : (S.extract 0 J).size ≤ 140737488351232 := by
      have : (S.extract 0 J).size ≤ S.size := by simp; omega
      omega
    clear hqj HC
    have HSJ := Lib.hid hSJ
    clear hSJ
    have hr25 : (M.size = 0 → rn = 0) ∧ (M.size ≠ 0 → rn = 25) := ⟨fun h => by rw [HMO.out, if_pos h], fun h => by rw [HMO.out, if_neg h]⟩
    have HR25 := Lib.hid hr25
    clear hr25 HMO
    by_cases hneg : z.tmod (S.size : Int) < 0
    · rw [if_pos hneg] at hJe
      go_wp2_with fail
      (with_reducible refine (read_var _ _ HSJ.out cj tj kj bj ksj 20 HQJ).mono ?_)
      rintro e w3 ⟨⟨v3, rfl, hk3⟩, _, hb3⟩
      obtain ⟨a3, cap3, rfl, _, _⟩ := hk3.at.len
      have hB3 := hB2.trans (hb3.mono hB2.size)
      have hB4 := hB3.alloc hB3.size (.cells #[.int .i64 cj, .int .i64 tj, .bool kj, .string bj, .slice a3 ksj.length cap3] 24)
      clear hk3 hb3 hB2 hB3
      go_wp2_with fail
      (with_reducible refine (read_var _ _ hNs cn tn kn bn ksn rn HQN).mono ?_)
      rintro e w4 ⟨⟨v4, rfl, hk4⟩, _, hb4⟩
      obtain ⟨a4, cap4, rfl, _, _⟩ := hk4.at.len
      have hB5 := hB4.trans (hb4.mono hB4.size)
      have hB6 := hB5.alloc hB5.size (.cells #[.int .i64 cn, .int .i64 tn, .bool kn, .string bn, .slice a4 ksn.length cap4] 24)
      clear hk4 hb4 hB4 hB5
      go_wp2_with fail
      (with_reducible refine (alive_any _).mono ?_)
      rintro e w5 ⟨rfl, hb5⟩
      have hB7 := hB6.trans (hb5.mono hB6.size)
      clear hb5 hB6
      by_cases hM0 : M.size = 0
      · have hMe : M.toList.isEmpty = true := by rw [isEmpty_ba]; exact decide_eq_true hM0
        obtain rfl : rn = 0 := HR25.out.1 hM0
        clear hM0
        go_wp2_with fail
        go_ret
        exact ⟨rfl, hB7⟩
      · have hMe : M.toList.isEmpty = false := by rw [isEmpty_ba]; exact decide_eq_false hM0
        obtain rfl : rn = 25 := HR25.out.2 hM0
        clear hM0
        go_wp2_with fail
        go_ret
        exact ⟨rfl, hB7⟩
    · rw [if_neg hneg] at hJe
      go_wp2_with fail
      (with_reducible refine (read_var _ _ HSJ.out cj tj kj bj ksj 20 HQJ).mono ?_)
      rintro e w3 ⟨⟨v3, rfl, hk3⟩, _, hb3⟩
      obtain ⟨a3, cap3, rfl, _, _⟩ := hk3.at.len
      have hB3 := hB2.trans (hb3.mono hB2.size)
      have hB4 := hB3.alloc hB3.size (.cells #[.int .i64 cj, .int .i64 tj, .bool kj, .string bj, .slice a3 ksj.length cap3] 24)
      clear hk3 hb3 hB2 hB3
      go_wp2_with fail
      (with_reducible refine (read_var _ _ hNs cn tn kn bn ksn rn HQN).mono ?_)
      rintro e w4 ⟨⟨v4, rfl, hk4⟩, _, hb4⟩
      obtain ⟨a4, cap4, rfl, _, _⟩ := hk4.at.len
      have hB5 := hB4.trans (hb4.mono hB4.size)
      have hB6 := hB5.alloc hB5.size (.cells #[.int .i64 cn, .int .i64 tn, .bool kn, .string bn, .slice a4 ksn.length cap4] 24)
      clear hk4 hb4 hB4 hB5
      go_wp2_with fail
      (with_reducible refine (alive_any _).mono ?_)
      rintro e w5 ⟨rfl, hb5⟩
      have hB7 := hB6.trans (hb5.mono hB6.size)
      clear hb5 hB6
      by_cases hM0 : M.size = 0
      · have hMe : M.toList.isEmpty = true := by rw [isEmpty_ba]; exact decide_eq_true hM0
        obtain rfl : rn = 0 := HR25.out.1 hM0
        clear hM0
        go_wp2_with fail
        go_ret
        exact ⟨rfl, hB7⟩
      · have hMe : M.toList.isEmpty = false := by rw [isEmpty_ba]; exact decide_eq_false hM0
        obtain rfl : rn = 25 := HR25.out.2 hM0
        clear hM0
        go_wp2_with fail
        go_ret
        exact ⟨rfl, hB7⟩
  · have hr2 : (r != 0) = true := by rw [bne_iff_ne]; exact hr
    clear hr
    go_wp2_with fail
    (with_reducible refine (alive_any _).mono ?_)
    rintro e w3 ⟨rfl, hb3⟩
    go_wp2_with fail
    go_ret
    exact ⟨rfl, hB2.trans (hb3.mono hB2.size)⟩
end Go.Proofs.Ytejnfnpcabldeaa
