/- Plain mathematics: what was written is read as it was: digits, characters, one byte fewer of a number with a sign. No conditions. -/
import Derived.Test.YteajgkjiappkiaaDoorOctG
import Derived.Test.YteajgkjiappkiaaDoorOctK
import Derived.Test.YteajgkjiappkiaaDoorPlainC
import Derived.Test.YteajgkjiappkiaaDoorOctE
namespace Go.Proofs.YteajgkjiappkiaaDoor
open Go.RowKit
namespace Oct
theorem dig_hexD : ∀ n : Fin 16, digZ ((hexD n.val).toNat : Int) = (n.val : Int) := by decide
theorem hexL_even (l : List UInt8) : ∀ j, j < l.length → (hexL l).getD (2 * j) 0 = hexD ((l.getD j 0).toNat / 16) ∧ (hexL l).getD (2 * j + 1) 0 = hexD ((l.getD j 0).toNat % 16) := by
  induction l with
  | nil => intro j hj; simp at hj
  | cons c l ih =>
    intro j hj
    have e : hexL (c :: l) = hexD (c.toNat / 16) :: hexD (c.toNat % 16) :: hexL l := rfl
    rw [e]
    cases j with
    | zero => exact ⟨rfl, rfl⟩
    | succ j =>
      have := ih j (by simpa using hj)
      rw [show 2 * (j + 1) = 2 * j + 1 + 1 from by omega]
      simpa using this
theorem dg_hex (l : List UInt8) (j : Nat) (h : j < l.length) : dg (hexL l) (2 * j) = ((l.getD j 0).toNat / 16 : Nat) ∧ dg (hexL l) (2 * j + 1) = ((l.getD j 0).toNat % 16 : Nat) := by
  obtain ⟨e1, e2⟩ := hexL_even l j h
  have hc : (l.getD j 0).toNat < 256 := (l.getD j 0).toNat_lt
  unfold dg
  rw [e1, e2]
  exact ⟨dig_hexD ⟨(l.getD j 0).toNat / 16, by omega⟩, dig_hexD ⟨(l.getD j 0).toNat % 16, by omega⟩⟩
theorem pair_hex (l : List UInt8) (j : Nat) (h : j < l.length) : pair (hexL l) j = l.getD j 0 := by
  obtain ⟨e1, e2⟩ := dg_hex l j h
  unfold pair
  rw [e1, e2]
  apply UInt8.toNat_inj.1
  have hc : (l.getD j 0).toNat < 256 := (l.getD j 0).toNat_lt
  rw [UInt8.toNat_ofNat']
  omega
theorem unB_hex (l : List UInt8) : unB (hexL l) l.length = l := by
  apply List.ext_getElem
  · simp [unB]
  · intro i h1 h2
    simp only [unB, List.getElem_map, List.getElem_range]
    rw [pair_hex l i h2]
    simp [h2]
theorem good_hex (l : List UInt8) : allGood (hexL l) := by
  intro j hj
  rw [hexL_length] at hj
  obtain ⟨e1, e2⟩ := dg_hex l j (by omega)
  unfold good
  rw [e1, e2]
  omega
end Oct
theorem unhex_hex (b : ByteArray) : unhexV ⟨(Oct.hexL b.data.toList).toArray⟩ = .tuple #[.string b, .int .i64 0] := by
  have hz : (⟨(Oct.hexL b.data.toList).toArray⟩ : ByteArray).size = 2 * b.size := by
    show (Oct.hexL b.data.toList).toArray.size = _
    rw [List.size_toArray, Oct.hexL_length]
    rfl
  have hl : b.size = b.data.toList.length := rfl
  rw [unhexV_yes (by omega) (Oct.good_hex _)]
  rw [hz, show 2 * b.size / 2 = b.size from by omega]
  rw [show (⟨(Oct.hexL b.data.toList).toArray⟩ : ByteArray).data.toList = Oct.hexL b.data.toList from rfl, hl, Oct.unB_hex]
/-- one byte fewer does not do -/
theorem sgn_fewer (v : Int) (hlo : -9223372036854775808 ≤ v) (hhi : v ≤ 9223372036854775807) (h : 1 < Oct.psLen v) :
    sgnV ((⟨(Oct.beB (Oct.psLen v) v).toArray⟩ : ByteArray).extract 1 (⟨(Oct.beB (Oct.psLen v) v).toArray⟩ : ByteArray).size) = .tuple #[.int .i64 (Oct.sgnZ (Oct.beB (Oct.psLen v - 1) v)), .int .i64 0] ∧ (Oct.sgnZ (Oct.beB (Oct.psLen v - 1) v) == v) = false := by
  have h8 := Oct.psLen_le v
  obtain ⟨k, hk⟩ : ∃ k, Oct.psLen v = k + 1 := ⟨Oct.psLen v - 1, by omega⟩
  have ht := Oct.ref_test v k (by omega) (by omega) hlo hhi
  rw [hk] at h h8 ⊢
  have hd : ((⟨(Oct.beB (k + 1) v).toArray⟩ : ByteArray).extract 1 (⟨(Oct.beB (k + 1) v).toArray⟩ : ByteArray).size).data.toList = Oct.beB k v := by
    rw [Lib.extract_to_end]
    rfl
  have hz : ((⟨(Oct.beB (k + 1) v).toArray⟩ : ByteArray).extract 1 (⟨(Oct.beB (k + 1) v).toArray⟩ : ByteArray).size).size = k := by
    have := congrArg List.length hd
    rw [Oct.beB_length] at this
    exact Array.length_toList.symm.trans this
  refine ⟨?_, ?_⟩
  · unfold sgnV
    rw [if_pos (by omega), hd]
    rfl
  · rw [show k + 1 - 1 = k from by omega, ht, decide_eq_false (by omega)]
theorem put_get (v : Int) (m : Nat) (h1 : 1 ≤ m) (h7 : m ≤ 7) (h0 : 0 ≤ v) (hv : v < 256 ^ m) : getV ⟨(Oct.beB m v).toArray⟩ = .tuple #[.int .i64 v, .int .i64 0] := by
  have hz : (⟨(Oct.beB m v).toArray⟩ : ByteArray).size = m := by
    show (Oct.beB m v).toArray.size = m
    rw [List.size_toArray, Oct.beB_length]
  unfold getV
  rw [if_pos (by omega)]
  rw [show (⟨(Oct.beB m v).toArray⟩ : ByteArray).data.toList = Oct.beB m v from rfl, Oct.get_put m v h0 hv]
theorem sgn_sgn (v : Int) (hlo : -9223372036854775808 ≤ v) (hhi : v ≤ 9223372036854775807) : sgnV ⟨(Oct.beB (Oct.psLen v) v).toArray⟩ = .tuple #[.int .i64 v, .int .i64 0] := by
  have h1 := Oct.psLen_pos v
  have h8 := Oct.psLen_le v
  have hz : (⟨(Oct.beB (Oct.psLen v) v).toArray⟩ : ByteArray).size = Oct.psLen v := by
    show (Oct.beB (Oct.psLen v) v).toArray.size = _
    rw [List.size_toArray, Oct.beB_length]
  unfold sgnV
  rw [if_pos (by omega)]
  rw [show (⟨(Oct.beB (Oct.psLen v) v).toArray⟩ : ByteArray).data.toList = Oct.beB (Oct.psLen v) v from rfl, Oct.sgn_put _ v h1 ((Oct.fits_psLen v _ h1 h8 hlo hhi).2 (Nat.le_refl _))]
theorem strOf_size (l : List Int) : (strOfNums l).size = l.length := strOfNums_size l
theorem strOf_at (l : List Int) (i : Nat) (x : Int) (h : l[i]? = some x) (h0 : 0 ≤ x) (h1 : x < 256) : at8 (strOfNums l) i = x.toNat := by
  have hi : i < l.length := (List.getElem?_eq_some_iff.1 h).1
  have hx : l[i] = x := (List.getElem?_eq_some_iff.1 h).2
  unfold at8
  show ((l.map fun n => UInt8.ofNat n.toNat).toArray[i]!).toNat = _
  rw [getElem!_pos _ i (by simpa using hi)]
  simp only [List.getElem_toArray, List.getElem_map, hx, UInt8.toNat_ofNat']
  omega
/-- a character's bytes are read as the character -/
theorem dec_enc (r : Int) (hv : (0 ≤ r ∧ r < 55296) ∨ (57343 < r ∧ r ≤ 1114111)) : ((dec (Utf8.encode r) 0).1 : Int) = r ∧ (dec (Utf8.encode r) 0).2 = (Utf8.encode r).size ∧ 1 ≤ (Utf8.encode r).size ∧ (Utf8.encode r).size ≤ 4 ∧ (r = 65533 → (Utf8.encode r).size = 3) := by
  have hc : (0 ≤ r ∧ r < 128) ∨ (128 ≤ r ∧ r < 2048) ∨ ((2048 ≤ r ∧ r < 55296) ∨ (57343 < r ∧ r < 65536)) ∨ (65536 ≤ r ∧ r ≤ 1114111) := by omega
  rcases hc with hc | hc | hc | hc
  · rw [enc1 r (by omega) (by omega), strOf_size]
    have a0 := strOf_at [r] 0 r rfl (by omega) (by omega)
    have : dec (strOfNums [r]) 0 = (at8 (strOfNums [r]) 0, 1) := Oct.dec_ascii _ _ _ _ _ (by rw [a0]; omega)
    rw [this, a0]
    simp only [List.length_cons, List.length_nil]
    refine ⟨?_, ?_, ?_, ?_, fun h65 => ?_⟩
    all_goals (try dsimp only)
    all_goals omega
  · rw [enc2 r (by omega) (by omega), strOf_size]
    have a0 := strOf_at [192 + r / 64, 128 + r % 64] 0 _ rfl (by omega) (by omega)
    have a1 := strOf_at [192 + r / 64, 128 + r % 64] 1 _ rfl (by omega) (by omega)
    have : dec (strOfNums [192 + r / 64, 128 + r % 64]) 0 = _ := Oct.dec2_ok _ _ _ _ _ (by rw [a0]; omega) (by rw [strOf_size]; simp) (by rw [Nat.zero_add, a1]; omega) (by rw [Nat.zero_add, a0, a1]; omega) (by rw [Nat.zero_add, a0, a1]; omega) (by rw [Nat.zero_add, a0, a1]; omega)
    rw [this, Nat.zero_add, a0, a1]
    simp only [List.length_cons, List.length_nil]
    refine ⟨?_, ?_, ?_, ?_, fun h65 => ?_⟩
    all_goals (try dsimp only)
    all_goals omega
  · rw [enc3 r (by omega) (by omega), strOf_size]
    have a0 := strOf_at [224 + r / 4096, 128 + r / 64 % 64, 128 + r % 64] 0 _ rfl (by omega) (by omega)
    have a1 := strOf_at [224 + r / 4096, 128 + r / 64 % 64, 128 + r % 64] 1 _ rfl (by omega) (by omega)
    have a2 := strOf_at [224 + r / 4096, 128 + r / 64 % 64, 128 + r % 64] 2 _ rfl (by omega) (by omega)
    have : dec (strOfNums [224 + r / 4096, 128 + r / 64 % 64, 128 + r % 64]) 0 = _ := Oct.dec3_ok _ _ _ _ _ (by rw [a0]; omega) (by rw [strOf_size]; simp) (by rw [Nat.zero_add, a1]; omega) (by rw [Nat.zero_add, a2]; omega) (by rw [Nat.zero_add, Nat.zero_add, a0, a1, a2]; omega) (by rw [Nat.zero_add, Nat.zero_add, a0, a1, a2]; omega) (by rw [Nat.zero_add, Nat.zero_add, a0, a1, a2]; omega)
    rw [this, Nat.zero_add, Nat.zero_add, a0, a1, a2]
    simp only [List.length_cons, List.length_nil]
    refine ⟨?_, ?_, ?_, ?_, fun h65 => ?_⟩
    all_goals (try dsimp only)
    all_goals omega
  · rw [enc4 r (by omega) (by omega), strOf_size]
    have a0 := strOf_at [240 + r / 262144, 128 + r / 4096 % 64, 128 + r / 64 % 64, 128 + r % 64] 0 _ rfl (by omega) (by omega)
    have a1 := strOf_at [240 + r / 262144, 128 + r / 4096 % 64, 128 + r / 64 % 64, 128 + r % 64] 1 _ rfl (by omega) (by omega)
    have a2 := strOf_at [240 + r / 262144, 128 + r / 4096 % 64, 128 + r / 64 % 64, 128 + r % 64] 2 _ rfl (by omega) (by omega)
    have a3 := strOf_at [240 + r / 262144, 128 + r / 4096 % 64, 128 + r / 64 % 64, 128 + r % 64] 3 _ rfl (by omega) (by omega)
    have : dec (strOfNums [240 + r / 262144, 128 + r / 4096 % 64, 128 + r / 64 % 64, 128 + r % 64]) 0 = _ := Oct.dec4_ok _ _ _ _ _ (by rw [a0]; omega) (by rw [strOf_size]; simp) (by rw [Nat.zero_add, a1]; omega) (by rw [Nat.zero_add, a2]; omega) (by rw [Nat.zero_add, a3]; omega) (by rw [Nat.zero_add, Nat.zero_add, Nat.zero_add, a0, a1, a2, a3]; omega) (by rw [Nat.zero_add, Nat.zero_add, Nat.zero_add, a0, a1, a2, a3]; omega) (by rw [Nat.zero_add, Nat.zero_add, Nat.zero_add, a0, a1, a2, a3]; omega)
    rw [this, Nat.zero_add, Nat.zero_add, Nat.zero_add, a0, a1, a2, a3]
    simp only [List.length_cons, List.length_nil]
    refine ⟨?_, ?_, ?_, ?_, fun h65 => ?_⟩
    all_goals (try dsimp only)
    all_goals omega
theorem valid_enc (r : Int) (hv : (0 ≤ r ∧ r < 55296) ∨ (57343 < r ∧ r ≤ 1114111)) : Lib.validD (Utf8.encode r).data.toList = true := by
  obtain ⟨h1, h2, h3, _, h5⟩ := dec_enc r hv
  have := valid_at (Utf8.encode r) 0 (by omega)
  rw [List.drop_zero] at this
  have hg : goodAt (Utf8.encode r) 0 = true := by
    unfold goodAt
    simp only [Bool.not_eq_true', decide_eq_false_iff_not]
    rintro ⟨g1, g2⟩
    have := h5 (by omega)
    omega
  rw [this, if_pos hg, h2, Nat.zero_add, List.drop_of_length_le (by simp)]
  rfl
end Go.Proofs.YteajgkjiappkiaaDoor
