/- The walk of the law LogFits. -/
import Derived.Test.YtokkifiakmplgaaWaF
namespace Go.Proofs.Ytokkifiakmplgaa
open Go.RowKit
def fL (n : Nat) (op : Bool) (gen used : Nat) (recs : List (List UInt8)) : Wa.WL := { fr := 0, n := n, gen := gen, op := op, used := used, recs := recs }
theorem fL_ok (n : Nat) (op : Bool) (gen used : Nat) (recs : List (List UInt8)) (hn : n ≤ 30) (h : used ≤ n) (h2 : gen ≤ 1) (h3 : recs.length ≤ 1) : Wok (fL n op gen used recs) := ⟨by simp only [fL]; omega, by simp [fL], h, by simp only [fL]; omega, by simp only [fL]; omega⟩
theorem quo48 (m : Nat) : ((m : Int) + 47).tdiv 48 = (((m + 47) / 48 : Nat) : Int) := by
  rw [Int.tdiv_eq_ediv_of_nonneg (by omega)]
  omega
set_option maxRecDepth 20000 in
set_option maxHeartbeats 1000000 in
theorem logFits_walk (n m : Int) (w : World) : Calls Try.prog 3 #[.int .i64 n, .int .i64 m] w fun e w' => e = .returned (.bool true) ∧ Below w.heap.size w w' := by
  have HAL := Lib.hid (alive_any w)
  by_cases hout : n < 1 ∨ 30 < n ∨ m < 0 ∨ 2000 < m
  · by_cases q1 : n < 1
    · go_enter Try.func3, Try.ntmps3
      go_wp2_with fail
      (with_reducible refine HAL.out.mono ?_)
      rintro e w1 ⟨rfl, hb⟩
      go_wp2_with fail
      go_ret
      exact ⟨rfl, hb⟩
    by_cases q2 : 30 < n
    · go_enter Try.func3, Try.ntmps3
      go_wp2_with fail
      (with_reducible refine HAL.out.mono ?_)
      rintro e w1 ⟨rfl, hb⟩
      go_wp2_with fail
      go_ret
      exact ⟨rfl, hb⟩
    by_cases q3 : m < 0
    · go_enter Try.func3, Try.ntmps3
      go_wp2_with fail
      (with_reducible refine HAL.out.mono ?_)
      rintro e w1 ⟨rfl, hb⟩
      go_wp2_with fail
      go_ret
      exact ⟨rfl, hb⟩
    have q4 : 2000 < m := by omega
    clear hout
    go_enter Try.func3, Try.ntmps3
    go_wp2_with fail
    (with_reducible refine HAL.out.mono ?_)
    rintro e w1 ⟨rfl, hb⟩
    go_wp2_with fail
    go_ret
    exact ⟨rfl, hb⟩
  · clear HAL
    have q1 : ¬ n < 1 := fun h => hout (.inl h)
    have q2 : ¬ 30 < n := fun h => hout (.inr (.inl h))
    have q3 : ¬ m < 0 := fun h => hout (.inr (.inr (.inl h)))
    have q4 : ¬ 2000 < m := fun h => hout (.inr (.inr (.inr h)))
    clear hout
    obtain ⟨N, rfl⟩ : ∃ N : Nat, n = N := ⟨n.toNat, by omega⟩
    obtain ⟨M, rfl⟩ : ∃ M : Nat, m = M := ⟨m.toNat, by omega⟩
    have hN1 : 1 ≤ N := by omega
    have hN30 : N ≤ 30 := by omega
    have hM : M ≤ 2000 := by omega
    have HN1 := Lib.hid hN1
    have HN30 := Lib.hid hN30
    have HMM := Lib.hid hM
    obtain ⟨k, hk⟩ : ∃ k : Nat, max 1 ((M + 47) / 48) = k := ⟨_, rfl⟩
    have hki : max (1 : Int) (((M : Int) + 47) / 48) = (k : Int) := by omega
    have hkb : k ≤ 43 := by omega
    have HKB := Lib.hid hkb
    obtain ⟨i0, hi0, hz0, hz1, hz2⟩ := info_parts u8_info
    have hmk := fun W => make_bytes' (P := Try.prog) 31 5 i0 Try.underlying31 hi0 hz0 hz1 hz2 .i64 .i64 (M : Int) (M : Int) M M rfl rfl (Nat.le_refl _) (by omega) W
    have hcv := fun W : World => string_of_blk (P := Try.prog) (Blk.new W 5 (bvs (List.replicate M 0))) 31 9 5 M M (by simp) Try.underlying31 Try.underlying5 Try.underlying9
    obtain ⟨R, hR⟩ : ∃ R : ByteArray, (⟨(List.replicate M (0 : UInt8)).toArray⟩ : ByteArray) = R := ⟨_, rfl⟩
    rw [hR] at hcv
    have hRb : R.data.toList = List.replicate M 0 := by rw [← hR]
    have hRz : R.size = M := by rw [← hR, ba_len, List.length_replicate]
    have hRp : (Wa.pieces R.data.toList).length = k := by rw [Wa.pieces_len, hRb, List.length_replicate, hk]
    have HRP := Lib.hid hRp
    have HRZ : Hid (R.size ≤ 140737488351232) := Lib.hid (by omega)
    have HRE := Lib.hid hR
    have HRB := Lib.hid hRb
    have hNew : Calls Try.prog 7 #[.int .i64 30] w fun e w' => e = .returned (.tuple #[.pointer (some ⟨w.heap.size + 2, 0, none⟩), .int .i64 0]) ∧ DiskAt w' (w.heap.size + 2) w.heap.size (w.heap.size + 1) (.slice none 0 0) (newVD 30) ∧ Below w.heap.size w w' := new_in 30 w (by omega) (by omega)
    have HNew := Lib.hid hNew
    clear hNew hi0 hz0 hz1 hz2 hR hRb hRz hRp hN1 hN30 hM hk hkb
    go_enter Try.func3, Try.ntmps3
    go_wp2_with fail
    (with_reducible refine HNew.out.mono ?_)
    rintro e w1 ⟨rfl, hD, hb1⟩
    have hO : Calls Try.prog 8 #[.pointer (some ⟨w.heap.size + 2, 0, none⟩), .int .i64 0, .int .i64 (N : Int)] w1 fun e w' => ∃ lg, e = .returned (.tuple #[.pointer (some ⟨lg, 0, none⟩), .int .i64 0]) ∧ LG w.heap.size w w' (w.heap.size + 2) (newVD 30) lg (fL N false 0 0 []) [w.heap.size + 2, w.heap.size, w.heap.size + 1] (.slice none 0 0) :=
      open_zero (B := w.heap.size) (w0 := w) (w := w1) hb1 (Nat.le_refl _) (wnew_df hD) (by simp) 0 N rfl HN1.out (by have := HN30.out; simp [newVD]; omega) (by simp [newVD]) (new_look 30 0 (by omega))
    have HO := Lib.hid hO
    clear hO hD hb1
    go_wp2_with fail
    (with_reducible refine HO.out.mono ?_)
    rintro e w2 ⟨lg, rfl, h2⟩
    have HR2 := Lib.hid (reset_any h2 rfl (by show (0 : Nat) < _; omega))
    clear h2
    go_wp2_with fail
    (with_reducible refine HR2.out.mono ?_)
    rintro e w3 ⟨rfl, h3⟩
    have h3 : LG w.heap.size w w3 (w.heap.size + 2) (newVD 30) lg (fL N true 1 0 []) [w.heap.size + 2, w.heap.size, w.heap.size + 1] (.slice none 0 0) := h3
    have h4 := h3.later ((Below.refl _ _).alloc (Nat.le_refl _) (.cells (bvs (List.replicate M 0)) 5))
    have HWr := writes_df h4.disk
    have e0 : (newVD 30).writes = 0 := rfl
    rw [e0] at HWr
    have HWr := Lib.hid HWr
    have H4 := Lib.hid h4
    have hmk3 := hmk w3
    have hcv3 := hcv w3
    clear h3 h4 hmk hcv e0
    go_wp2_with fail
    (with_reducible refine HWr.out.mono ?_)
    rintro e w4 ⟨rfl, hw4⟩
    have h4 := H4.out
    rw [show w3.alloc (.cells (bvs (List.replicate M 0)) 5) = w4 from hw4] at h4
    have HK4 := fL_ok N true 1 0 [] HN30.out (by omega) (by omega) (by simp)
    clear hw4 H4 HWr hmk3 hcv3 HNew HO HR2
    by_cases hkn : N < k
    · have HAP := Lib.hid (append_full h4 HK4 rfl R HRZ.out (by rw [HRP.out]; show N < 0 + k; omega))
      have hki2 : (N : Int) < (k : Int) := by omega
      clear h4
      go_wp2_with fail
      (with_reducible refine HAP.out.mono ?_)
      rintro e w5 ⟨rfl, h5⟩
      have H5 := Lib.hid h5
      clear h5
      go_wp2_with fail
      (with_reducible refine (alive_any w5).mono ?_)
      rintro e w6 ⟨rfl, hb6⟩
      have h6 := H5.out.later hb6
      have hwr := writes_df h6.disk
      have e0 : (newVD 30).writes = 0 := rfl
      rw [e0] at hwr
      have HWr := Lib.hid hwr
      have HRC := Lib.hid (records_any h6 HK4)
      have H6 := Lib.hid h6
      clear h6 hwr hb6 e0
      go_wp2_with fail
      (with_reducible refine HWr.out.mono ?_)
      rintro e w7 ⟨rfl, rfl⟩
      go_wp2_with fail
      (with_reducible refine HRC.out.mono ?_)
      rintro e w8 ⟨v8, rfl, ho8⟩
      obtain ⟨p8, cap8, hv8⟩ := os_slice ho8
      have hv8 : v8 = .slice p8 0 cap8 := hv8
      subst hv8
      have hb8 := ho8.bel
      have hs6 := H6.out.bel.size
      clear ho8
      go_wp2_with fail
      go_ret
      exact ⟨rfl, H6.out.bel.trans (hb8.mono hs6)⟩
    · have hap := append_ok h4 HK4 rfl (new_takes 30) R HRZ.out (by rw [HRP.out]; show 0 + k ≤ N; omega) (by have := HN30.out; simp [newVD, fL]; omega) (by simp [newVD]) (by simp [fL])
      have hki2 : ¬ (N : Int) < (k : Int) := by omega
      have hkN : (k : Int) ≤ (N : Int) := by omega
      rw [HRP.out] at hap
      have HAP := Lib.hid hap
      clear hap h4
      go_wp2_with fail
      (with_reducible refine HAP.out.mono ?_)
      rintro e w5 ⟨rfl, fp5, rv5, h5⟩
      have HK5 : Wok (fL N true 1 (0 + k) [R.data.toList]) := fL_ok N true 1 (0 + k) [R.data.toList] HN30.out (by omega) (by omega) (by simp)
      have h5 : LG w.heap.size w w5 (w.heap.size + 2) (Wa.wrote (newVD 30) (fL N true 1 0 []) (Wa.pieces R.data.toList) k) lg (fL N true 1 (0 + k) [R.data.toList]) fp5 rv5 := h5
      have HRC := Lib.hid (records_any h5 HK5)
      have H5 := Lib.hid h5
      clear h5
      go_wp2_with fail
      (with_reducible refine HRC.out.mono ?_)
      rintro e w6 ⟨v6, rfl, ho6⟩
      have hbs : (⟨R.data.toList.toArray⟩ : ByteArray) = R := ba_back R
      obtain ⟨g6, cap6, hv6⟩ : ∃ g cap, v6 = .slice (some ⟨g, 0, none⟩) 1 cap := by
        rcases ho6.own.2 with ⟨rfl, h0⟩ | ⟨g, cap, cur, rfl, _⟩
        · exact absurd h0 (by simp [fL])
        · exact ⟨g, cap, rfl⟩
      subst hv6
      have hrow6 := ho6.own
      have H6 := Lib.hid (H5.out.later ho6.bel)
      have HR6 := Lib.hid hrow6
      clear ho6 hrow6
      go_wp2_with fail
      (with_reducible refine (alive_any w6).mono ?_)
      rintro e w7 ⟨rfl, hb7⟩
      have h7 := H6.out.later hb7
      have hwr := writes_df h7.disk
      have e0 : (Wa.wrote (newVD 30) (fL N true 1 0 []) (Wa.pieces R.data.toList) k).writes = (k : Int) := by simp [Wa.wrote, newVD]
      rw [e0] at hwr
      have HWr := Lib.hid hwr
      have hfr : Calls Try.prog 13 #[.pointer (some ⟨lg, 0, none⟩)] w7 fun e w' => e = .returned (.int .i64 ((N : Int) - (k : Int))) ∧ Below w7.heap.size w7 w' := by
        have := free_any h7 HK5
        simpa [fL] using this
      have HFR := Lib.hid hfr
      have HR7 := Lib.hid (ownsRow_only HR6.out ((Only.refl [] w6).below hb7) (by simp))
      have H7 := Lib.hid h7
      clear h7 hwr hb7 e0 hfr
      go_wp2_with fail
      (with_reducible refine HWr.out.mono ?_)
      rintro e w8 ⟨rfl, rfl⟩
      go_wp2_with fail
      (with_reducible refine HFR.out.mono ?_)
      rintro e w9 ⟨rfl, hb9⟩
      have hcell := (ownsRow_only HR7.out ((Only.refl [] w7).below hb9) (by simp)).cellAt 0 (by simp [fL])
      have hce : (strs (fL N true 1 (0 + k) [R.data.toList]).recs)[0]? = some (.string R) := by simp [strs, fL]
      rw [hce] at hcell
      have hs7 := H7.out.bel.size
      clear hce
      go_wp2_with fail
      go_ret
      exact ⟨rfl, H7.out.bel.trans (hb9.mono hs7)⟩
end Go.Proofs.Ytokkifiakmplgaa
