/- Plain mathematics: numbers read from bytes, with and without a sign. No conditions. -/
import Derived.Test.YtlkdbopdmieojaaGreatPlain
namespace Go.Proofs.YtlkdbopdmieojaaGreat.Oct
open Go Go.RowKit
/-- one byte more -/
def stepZ (v : Int) (c : UInt8) : Int := v * 256 + (c.toNat : Int)
/-- a number read on from v -/
def getFrom (v : Int) (l : List UInt8) : Int := l.foldl stepZ v
theorem getFrom_cons (v : Int) (c : UInt8) (l : List UInt8) : getFrom v (c :: l) = getFrom (stepZ v c) l := rfl
theorem getFrom_snoc (v : Int) (l : List UInt8) (c : UInt8) : getFrom v (l ++ [c]) = getFrom v l * 256 + (c.toNat : Int) := foldl_snoc stepZ v l c
theorem getFrom_take (v : Int) (s : ByteArray) (k : Nat) (h : k < s.size) : getFrom v (s.data.toList.take (k + 1)) = getFrom v (s.data.toList.take k) * 256 + (s[k].toNat : Int) := by
  rw [take_snoc s k h, getFrom_snoc]
theorem getFrom_bd (l : List UInt8) : ∀ s A B : Int, -A ≤ s → s ≤ B - 1 → -(A * 256 ^ l.length) ≤ getFrom s l ∧ getFrom s l ≤ B * 256 ^ l.length - 1 := by
  induction l with
  | nil => intro s A B h1 h2; simp [getFrom]; omega
  | cons c l ih =>
    intro s A B h1 h2
    have hc : c.toNat < 256 := c.toNat_lt
    have := ih (stepZ s c) (A * 256) (B * 256) (by unfold stepZ; omega) (by unfold stepZ; omega)
    rw [getFrom_cons, List.length_cons, Int.pow_succ, Int.mul_comm (256 ^ l.length) 256, ← Int.mul_assoc, ← Int.mul_assoc]
    exact this
theorem pow6 (n : Nat) (h : n ≤ 6) : (256 : Int) ^ n ≤ 281474976710656 := by
  have : n = 0 ∨ n = 1 ∨ n = 2 ∨ n = 3 ∨ n = 4 ∨ n = 5 ∨ n = 6 := by omega
  rcases this with rfl | rfl | rfl | rfl | rfl | rfl | rfl <;> decide
theorem get_bd (l : List UInt8) (h : l.length ≤ 6) : 0 ≤ getFrom 0 l ∧ getFrom 0 l ≤ 281474976710655 := by
  have := getFrom_bd l 0 0 1 (by omega) (by omega)
  have := pow6 l.length h
  omega
/-- the sign's start -/
def sgn0 (l : List UInt8) : Int := if 128 ≤ (l.headD 0).toNat then -1 else 0
/-- a number with a sign, its first k bytes read -/
def sgnZ (l : List UInt8) : Int := getFrom (sgn0 l) l
theorem sgn_bd (l : List UInt8) (k : Nat) (hk : k ≤ 7) : -36028797018963968 ≤ getFrom (sgn0 l) (l.take k) ∧ getFrom (sgn0 l) (l.take k) ≤ 36028797018963967 := by
  cases l with
  | nil => simp [getFrom, sgn0]
  | cons c t =>
    cases k with
    | zero => simp only [List.take_zero, getFrom, List.foldl_nil, sgn0]; split <;> omega
    | succ k =>
      have hc : c.toNat < 256 := c.toNat_lt
      have h1 := pow6 (t.take k).length (by have := List.length_take_le k t; omega)
      have h2 := pow256_pos (t.take k).length
      have h3 := getFrom_bd (t.take k) (stepZ (sgn0 (c :: t)) c) 128 128 (by unfold stepZ sgn0; simp; split <;> omega) (by unfold stepZ sgn0; simp; split <;> omega)
      rw [List.take_succ_cons, getFrom_cons]
      omega
theorem nat_mod_or (q c : Nat) (hc : c < 256) : (256 * q) ||| c = 256 * q + c := by
  rw [show 256 * q = 2 ^ 8 * q from rfl, Nat.two_pow_add_eq_or_of_lt (by omega)]
/-- 'v<<8 | c' -/
theorem or_byte (v : Int) (c : UInt8) (h1 : -36028797018963968 ≤ v) (h2 : v ≤ 36028797018963967) : bits .or .i64 (v * 256) (c.toNat : Int) = v * 256 + (c.toNat : Int) := by
  have hc : c.toNat < 256 := c.toNat_lt
  obtain ⟨q, hq, hq2⟩ : ∃ q : Nat, (v * 256) % 18446744073709551616 = ((256 * q : Nat) : Int) ∧ q < 72057594037927936 := ⟨((v * 256) % 18446744073709551616 / 256).toNat, by omega, by omega⟩
  have e1 : (BitVec.ofInt 64 (v * 256)).toNat = 256 * q := by
    rw [BitVec.toNat_ofInt]
    have : ((2 : Nat) ^ 64 : Nat) = 18446744073709551616 := by rfl
    rw [this]
    omega
  have e2 : (BitVec.ofInt 64 (c.toNat : Int)).toNat = c.toNat := by
    rw [BitVec.ofInt_natCast, BitVec.toNat_ofNat]; exact Nat.mod_eq_of_lt (by omega)
  show IntKind.i64.wrap ((BitVec.ofInt 64 (v * 256) ||| BitVec.ofInt 64 (c.toNat : Int)).toNat : Int) = _
  rw [BitVec.toNat_or, e1, e2, nat_mod_or q _ hc, IntKind.wrap_i64]
  omega
/-- a number with a sign that goes into n bytes -/
def fits (n : Nat) (v : Int) : Prop := -(128 * 256 ^ (n - 1)) ≤ v ∧ v < 128 * 256 ^ (n - 1)
theorem emod_step (v : Int) (k : Nat) : v % 256 ^ (k + 1) = (v / 256 ^ k % 256) * 256 ^ k + v % 256 ^ k := by
  have hp := pow256_pos k
  have h1 := Int.mul_ediv_add_emod v (256 ^ k)
  have h2 := Int.mul_ediv_add_emod (v / 256 ^ k) 256
  have h3 := Int.emod_nonneg v (Int.ne_of_gt hp)
  have h4 := Int.emod_lt_of_pos v hp
  generalize v % 256 ^ k = r at *
  generalize v / 256 ^ k = q at *
  have h5 : v = (q % 256 * 256 ^ k + r) + 256 ^ (k + 1) * (q / 256) := by
    rw [← h1, Int.pow_succ]
    conv => lhs; rw [← h2]
    rw [Int.mul_add, Int.add_right_comm, Int.add_comm, Int.mul_comm (q % 256), Int.mul_assoc]
    omega
  have h6 : 0 ≤ q % 256 * 256 ^ k := Int.mul_nonneg (by omega) (Int.le_of_lt hp)
  have h7 : q % 256 * 256 ^ k ≤ 255 * 256 ^ k := Int.mul_le_mul_of_nonneg_right (by omega) (Int.le_of_lt hp)
  rw [h5, Int.add_mul_emod_self_left]
  exact Int.emod_eq_of_lt (by omega) (by rw [Int.pow_succ]; omega)
theorem getFrom_beB (k : Nat) (v : Int) : ∀ s, getFrom s (beB k v) = s * 256 ^ k + v % 256 ^ k := by
  induction k with
  | zero => intro s; simp [beB, getFrom, Int.emod_one]
  | succ k ih =>
    intro s
    rw [beB, getFrom_cons, ih, emod_step]
    unfold stepZ
    rw [byte_of, Int.add_mul, Int.pow_succ, Int.mul_assoc, Int.mul_comm 256 (256 ^ k), Int.add_assoc]
/-- what was laid is read -/
theorem get_put (n : Nat) (v : Int) (h0 : 0 ≤ v) (h : v < 256 ^ n) : getFrom 0 (beB n v) = v := by
  rw [getFrom_beB, Int.zero_mul, Int.zero_add, Int.emod_eq_of_lt h0 h]
theorem sgn_put (n : Nat) (v : Int) (h1 : 1 ≤ n) (h : fits n v) : sgnZ (beB n v) = v := by
  obtain ⟨k, rfl⟩ : ∃ k, n = k + 1 := ⟨n - 1, by omega⟩
  unfold fits at h
  simp only [Nat.add_sub_cancel] at h
  have hp := pow256_pos k
  have hb := byte_of (v / 256 ^ k)
  have hh : (beB (k + 1) v).headD 0 = UInt8.ofNat (v / 256 ^ k % 256).toNat := by simp [beB]
  unfold sgnZ
  rw [getFrom_beB]
  unfold sgn0
  rw [hh]
  by_cases hv : 0 ≤ v
  · have h2 : v / 256 ^ k < 128 := Int.ediv_lt_of_lt_mul hp h.2
    have h3 : 0 ≤ v / 256 ^ k := Int.ediv_nonneg hv (Int.le_of_lt hp)
    rw [if_neg (by omega), Int.zero_mul, Int.zero_add]
    exact Int.emod_eq_of_lt hv (by rw [Int.pow_succ]; omega)
  · have h2 : v / 256 ^ k < 0 := Int.ediv_neg_of_neg_of_pos (by omega) hp
    have h3 : -128 ≤ v / 256 ^ k := Int.le_ediv_of_mul_le hp (by omega)
    rw [if_pos (by omega)]
    have h4 : v % 256 ^ (k + 1) = v + 256 ^ (k + 1) := by
      rw [← Int.add_emod_right]
      exact Int.emod_eq_of_lt (by rw [Int.pow_succ]; omega) (by omega)
    rw [h4]
    omega
theorem sgn_fits (n : Nat) (l : List UInt8) (h1 : 1 ≤ n) (hl : l.length = n) : fits n (sgnZ l) := by
  cases l with
  | nil => simp at hl; omega
  | cons c t =>
    have hc : c.toNat < 256 := c.toNat_lt
    have h3 := getFrom_bd t (stepZ (sgn0 (c :: t)) c) 128 128 (by unfold stepZ sgn0; simp; split <;> omega) (by unfold stepZ sgn0; simp; split <;> omega)
    unfold fits sgnZ
    rw [getFrom_cons]
    have : n - 1 = t.length := by simp at hl; omega
    rw [this]
    omega
end Go.Proofs.YtlkdbopdmieojaaGreat.Oct
namespace Go.Proofs.YtlkdbopdmieojaaGreat.Oct
open Go Go.RowKit
/-- how many bytes a number with a sign takes -/
def psLen (v : Int) : Nat :=
  if -128 ≤ v ∧ v < 128 then 1 else if -32768 ≤ v ∧ v < 32768 then 2 else if -8388608 ≤ v ∧ v < 8388608 then 3 else if -2147483648 ≤ v ∧ v < 2147483648 then 4
  else if -549755813888 ≤ v ∧ v < 549755813888 then 5 else if -140737488355328 ≤ v ∧ v < 140737488355328 then 6 else if -36028797018963968 ≤ v ∧ v < 36028797018963968 then 7 else 8
theorem psLen_pos (v : Int) : 1 ≤ psLen v := by unfold psLen; (repeat' split) <;> omega
theorem psLen_le (v : Int) : psLen v ≤ 8 := by unfold psLen; (repeat' split) <;> omega
/-- half of what n bytes hold -/
def half (n : Nat) : Int := 128 * 256 ^ (n - 1)
theorem fits_psLen (v : Int) (n : Nat) (h1 : 1 ≤ n) (h8 : n ≤ 8) (hlo : -9223372036854775808 ≤ v) (hhi : v ≤ 9223372036854775807) : fits n v ↔ psLen v ≤ n := by
  have hn : n = 1 ∨ n = 2 ∨ n = 3 ∨ n = 4 ∨ n = 5 ∨ n = 6 ∨ n = 7 ∨ n = 8 := by omega
  unfold fits psLen
  rcases hn with rfl | rfl | rfl | rfl | rfl | rfl | rfl | rfl <;> simp <;> (repeat' split) <;> omega
theorem sh_test (v : Int) (k : Nat) (h1 : 1 ≤ k) (h7 : k ≤ 7) (hlo : -9223372036854775808 ≤ v) (hhi : v ≤ 9223372036854775807) :
    (v != wrap64 (v * 2 ^ (64 - 8 * k)) / 2 ^ (64 - 8 * k)) = decide (k < psLen v) := by
  have hf := fits_psLen v k h1 (by omega) hlo hhi
  have e : (v = wrap64 (v * 2 ^ (64 - 8 * k)) / 2 ^ (64 - 8 * k)) ↔ fits k v := by
    clear hf
    have hn : k = 1 ∨ k = 2 ∨ k = 3 ∨ k = 4 ∨ k = 5 ∨ k = 6 ∨ k = 7 := by omega
    unfold wrap64 fits
    rcases hn with rfl | rfl | rfl | rfl | rfl | rfl | rfl <;> simp <;> omega
  rw [Bool.eq_iff_iff, bne_iff_ne, decide_eq_true_iff, ne_eq, e, hf]
  omega
theorem wrap_u64' (n : Int) : IntKind.u64.wrap n = n % 18446744073709551616 := by simp [IntKind.wrap, IntKind.bits, IntKind.signed]
theorem u64_byte (v : Int) (k : Nat) (h7 : k ≤ 7) : IntKind.u64.wrap v / 2 ^ (8 * k) % 256 = v / 2 ^ (8 * k) % 256 := by
  rw [wrap_u64']
  have hn : k = 0 ∨ k = 1 ∨ k = 2 ∨ k = 3 ∨ k = 4 ∨ k = 5 ∨ k = 6 ∨ k = 7 := by omega
  rcases hn with rfl | rfl | rfl | rfl | rfl | rfl | rfl | rfl <;> simp <;> omega
theorem and255 (x : Int) : bits .and .i64 x 255 = x % 256 := by
  have e1 : (BitVec.ofInt 64 x).toNat = (x % 18446744073709551616).toNat := by
    rw [BitVec.toNat_ofInt]
    have : ((2 : Nat) ^ 64 : Nat) = 18446744073709551616 := by rfl
    rw [this]
    omega
  have e2 : (BitVec.ofInt 64 255).toNat = 2 ^ 8 - 1 := by decide
  show IntKind.i64.wrap ((BitVec.ofInt 64 x &&& BitVec.ofInt 64 255).toNat : Int) = _
  rw [BitVec.toNat_and, e1, e2, Nat.and_two_pow_sub_one_eq_mod, IntKind.wrap_i64]
  omega
theorem div_bd (v : Int) (k : Nat) (hlo : -9223372036854775808 ≤ v) (hhi : v ≤ 9223372036854775807) : -9223372036854775808 ≤ v / 256 ^ k ∧ v / 256 ^ k ≤ 9223372036854775807 := by
  have hp := pow256_pos k
  by_cases h : 0 ≤ v
  · have := div_nonneg v k h
    have := div_le v k h
    omega
  · have h1 : v / 256 ^ k < 0 := Int.ediv_neg_of_neg_of_pos (by omega) hp
    have h2 : v ≤ v / 256 ^ k := by
      refine Int.le_ediv_of_mul_le hp ?_
      have : v * 256 ^ k ≤ v * 1 := Int.mul_le_mul_of_nonpos_left (by omega) (by omega)
      omega
    omega
theorem ref_test (v : Int) (k : Nat) (h1 : 1 ≤ k) (h8 : k ≤ 8) (hlo : -9223372036854775808 ≤ v) (hhi : v ≤ 9223372036854775807) :
    (sgnZ (beB k v) == v) = decide (psLen v ≤ k) := by
  have hf := fits_psLen v k h1 h8 hlo hhi
  rw [Bool.eq_iff_iff, beq_iff_eq, decide_eq_true_iff, ← hf]
  constructor
  · intro h
    rw [← h]
    exact sgn_fits k _ h1 (beB_length k v)
  · exact sgn_put k v h1
end Go.Proofs.YtlkdbopdmieojaaGreat.Oct
