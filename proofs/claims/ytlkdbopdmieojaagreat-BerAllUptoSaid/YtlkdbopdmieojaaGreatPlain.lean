/- Plain mathematics of chapter 1 (sums, numbers in bytes, digits): lists and integers alone, no program. No conditions. -/
import Derived.Laws.BitsAllLaws
import Derived.Laws.BitsLemmas
import Derived.WalkKit
namespace Go.Proofs.YtlkdbopdmieojaaGreat.Oct
open Go Go.RowKit
theorem foldl_snoc {α β : Type} (f : β → α → β) (x : β) (l : List α) (c : α) : (l ++ [c]).foldl f x = f (l.foldl f x) c := by
  rw [List.foldl_append, List.foldl_cons, List.foldl_nil]
theorem foldl_inv {α β : Type} (p : β → Prop) (f : β → α → β) (h : ∀ x c, p (f x c)) (l : List α) : ∀ x, p x → p (l.foldl f x) := by
  induction l with
  | nil => intro x hx; exact hx
  | cons a l ih => intro x _; exact ih _ (h _ _)
/-- the sum's step -/
def stepN (x : Nat) (c : UInt8) : Nat := (x ^^^ c.toNat) * 16777619 % 4294967296
/-- the sum of bytes -/
def sumFrom (x : Nat) (l : List UInt8) : Nat := l.foldl stepN x
/-- the sum of bytes -/
def sumN (l : List UInt8) : Nat := sumFrom 2166136261 l
theorem sumFrom_snoc (x : Nat) (l : List UInt8) (c : UInt8) : sumFrom x (l ++ [c]) = stepN (sumFrom x l) c := foldl_snoc stepN x l c
theorem sumN_snoc (l : List UInt8) (c : UInt8) : sumN (l ++ [c]) = stepN (sumN l) c := sumFrom_snoc _ l c
theorem stepN_lt (x : Nat) (c : UInt8) : stepN x c < 4294967296 := by unfold stepN; omega
theorem sumFrom_lt (x : Nat) (l : List UInt8) (h : x < 4294967296) : sumFrom x l < 4294967296 := foldl_inv (fun y => y < 4294967296) stepN stepN_lt l x h
theorem sumN_lt (l : List UInt8) : sumN l < 4294967296 := sumFrom_lt 2166136261 l (by omega)
theorem take_snoc (s : ByteArray) (k : Nat) (h : k < s.size) : s.data.toList.take (k + 1) = s.data.toList.take k ++ [s[k]] := by
  rw [List.take_succ_eq_append_getElem (by simpa using h)]; rfl
theorem take_all (s : ByteArray) (k : Nat) (h : ¬ k < s.size) : s.data.toList.take k = s.data.toList := List.take_of_length_le (by simp; omega)
theorem xor_lt (a b : Nat) (ha : a < 4294967296) (hb : b < 256) : a ^^^ b < 4294967296 := by
  have := @Nat.xor_lt_two_pow a b 32 (by omega) (by omega); omega
theorem i64_xor_nat (a b : Nat) (ha : a < 4294967296) (hb : b < 256) : bits .xor .i64 (a : Int) (b : Int) = ((a ^^^ b : Nat) : Int) := by
  have h := xor_lt a b ha hb
  have p : (2 : Nat) ^ IntKind.i64.bits = 18446744073709551616 := by rfl
  simp only [bits, BitVec.ofInt_natCast, BitVec.toNat_xor, BitVec.toNat_ofNat, p]
  rw [Nat.mod_eq_of_lt (by omega), Nat.mod_eq_of_lt (by omega), IntKind.wrap_i64]
  omega
/-- the program's step -/
theorem step_u32 (x : Nat) (c : UInt8) (hx : x < 4294967296) : bits .xor .u32 (x : Int) ((c.toNat : Int) % 4294967296) * 16777619 % 4294967296 = (stepN x c : Nat) := by
  have hc : c.toNat < 256 := c.toNat_lt
  rw [show ((c.toNat : Int) % 4294967296) = ((c.toNat : Nat) : Int) from by omega, u32_xor_nat _ _ hx (by omega)]
  unfold stepN
  omega
/-- the reference's step, as the walk leaves it -/
theorem step_i64 (x : Nat) (c : UInt8) (hx : x < 4294967296) : (wrap64 (bits .xor .i64 (x : Int) (wrap64 (c.toNat : Int)) * 16777619)).tmod 4294967296 = (stepN x c : Nat) := by
  have hc : c.toNat < 256 := c.toNat_lt
  have h := xor_lt x c.toNat hx hc
  rw [IntWalk.wrap64_in (c.toNat : Int) ⟨by omega, by omega⟩, i64_xor_nat _ _ hx hc, IntWalk.wrap64_in _ ⟨by omega, by omega⟩, Int.tmod_eq_emod_of_nonneg (by omega)]
  unfold stepN
  omega
/-- the last k bytes of a number, the greatest first -/
def beB : Nat → Int → List UInt8
  | 0, _ => []
  | k + 1, v => UInt8.ofNat (v / 256 ^ k % 256).toNat :: beB k v
theorem beB_length (k : Nat) (v : Int) : (beB k v).length = k := by
  induction k with
  | zero => rfl
  | succ k ih => simp [beB, ih]
/-- a row of n bytes of which the last k are laid -/
def laidRow (n k : Nat) (v : Int) : List UInt8 := List.replicate (n - k) 0 ++ beB k v
theorem laidRow_length (n k : Nat) (v : Int) (h : k ≤ n) : (laidRow n k v).length = n := by
  simp [laidRow, beB_length]; omega
theorem laidRow_zero (n : Nat) (v : Int) : laidRow n 0 v = List.replicate n 0 := by simp [laidRow, beB]
theorem laidRow_all (n : Nat) (v : Int) : laidRow n n v = beB n v := by simp [laidRow]
theorem laidRow_step (n k : Nat) (v : Int) (h : k < n) :
    (laidRow n k v).set (n - 1 - k) (UInt8.ofNat (v / 256 ^ k % 256).toNat) = laidRow n (k + 1) v := by
  unfold laidRow
  obtain ⟨m, hm⟩ : ∃ m, n - k = m + 1 := ⟨n - k - 1, by omega⟩
  rw [hm, show n - 1 - k = m from by omega, show n - (k + 1) = m from by omega, List.replicate_succ', List.append_assoc, List.set_append_right _ _ (by simp)]
  simp [beB]
theorem byte_of (x : Int) : ((UInt8.ofNat (x % 256).toNat).toNat : Int) = x % 256 := by
  have : (x % 256).toNat < 256 := by omega
  simp [UInt8.toNat_ofNat']
  omega
theorem pow8 (n : Nat) : (2 : Int) ^ (8 * n) = 256 ^ n := by rw [Int.pow_mul]; rfl
theorem pow256_pos (n : Nat) : (0 : Int) < 256 ^ n := Int.pow_pos (by omega)
theorem shr_zero (v : Int) (n : Nat) (h0 : 0 ≤ v) (hv : v < 256 ^ n) : (v / 2 ^ (8 * n) != 0) = false := by
  rw [pow8, Int.ediv_eq_zero_of_lt h0 hv]; rfl
theorem shr_more (v : Int) (n : Nat) (hv : 256 ^ n ≤ v) : (v / 2 ^ (8 * n) != 0) = true := by
  rw [pow8]
  have : 1 ≤ v / 256 ^ n := by
    have := Int.ediv_le_ediv (pow256_pos n) hv
    rwa [Int.ediv_self (by have := pow256_pos n; omega)] at this
  simp; omega
theorem div_step (v : Int) (k : Nat) : v / 256 ^ k / 256 = v / 256 ^ (k + 1) := by
  rw [Int.ediv_ediv_of_nonneg (Int.le_of_lt (pow256_pos k)), ← Int.pow_succ]
theorem div_nonneg (v : Int) (k : Nat) (h : 0 ≤ v) : 0 ≤ v / 256 ^ k := Int.ediv_nonneg h (Int.le_of_lt (pow256_pos k))
theorem div_le (v : Int) (k : Nat) (h : 0 ≤ v) : v / 256 ^ k ≤ v := Int.ediv_le_self _ h
theorem div_zero_of (v : Int) (n : Nat) (h0 : 0 ≤ v) (hv : v < 256 ^ n) : v / 256 ^ n = 0 := Int.ediv_eq_zero_of_lt h0 hv
theorem div_pos_of (v : Int) (n : Nat) (hv : ¬ v < 256 ^ n) : 0 < v / 256 ^ n := by
  have h1 : (256 : Int) ^ n ≤ v := by omega
  have := Int.ediv_le_ediv (pow256_pos n) h1
  rw [Int.ediv_self (by have := pow256_pos n; omega)] at this
  omega
/-- the digits -/
def digs : List UInt8 := [48, 49, 50, 51, 52, 53, 54, 55, 56, 57, 97, 98, 99, 100, 101, 102]
/-- a digit -/
def hexD (n : Nat) : UInt8 := digs.getD n 0
/-- bytes as digits -/
def hexL (l : List UInt8) : List UInt8 := l.flatMap fun c => [hexD (c.toNat / 16), hexD (c.toNat % 16)]
theorem hexL_snoc (l : List UInt8) (c : UInt8) : hexL (l ++ [c]) = hexL l ++ [hexD (c.toNat / 16), hexD (c.toNat % 16)] := by simp [hexL]
theorem hexL_length (l : List UInt8) : (hexL l).length = 2 * l.length := by
  induction l with
  | nil => rfl
  | cons a l ih => simp [hexL] at ih ⊢; omega
end Go.Proofs.YtlkdbopdmieojaaGreat.Oct
