/- Plain mathematics: the order of bytes. No conditions. -/
import Derived.Lib.Bytealg
import Derived.WalkKit
namespace Go.Proofs.Yteajgkjiappkiaa.Oct
open Go Go.RowKit Go.Lib
theorem cmp_range : ∀ a b : List UInt8, compareBytes a b = -1 ∨ compareBytes a b = 0 ∨ compareBytes a b = 1
  | [], [] => .inr (.inl rfl)
  | [], _ :: _ => .inl rfl
  | _ :: _, [] => .inr (.inr rfl)
  | a :: as, b :: bs => by
    unfold compareBytes
    by_cases h : a < b
    · rw [if_pos h]; exact .inl rfl
    · rw [if_neg h]
      by_cases h2 : b < a
      · rw [if_pos h2]; exact .inr (.inr rfl)
      · rw [if_neg h2]; exact cmp_range as bs
theorem u8_cases (a b : UInt8) : (a < b ∧ ¬ b < a ∧ a ≠ b) ∨ (a = b ∧ ¬ a < b ∧ ¬ b < a) ∨ (b < a ∧ ¬ a < b ∧ a ≠ b) := by
  simp only [UInt8.lt_iff_toNat_lt, ← UInt8.toNat_inj, ne_eq]
  omega
theorem cmp_turn : ∀ a b : List UInt8, compareBytes b a = -compareBytes a b
  | [], [] => rfl
  | [], _ :: _ => rfl
  | _ :: _, [] => rfl
  | a :: as, b :: bs => by
    unfold compareBytes
    rcases u8_cases a b with ⟨h1, h2, _⟩ | ⟨_, h1, h2⟩ | ⟨h1, h2, _⟩
    · rw [if_neg h2, if_pos h1, if_pos h1]; rfl
    · rw [if_neg h2, if_neg h1, if_neg h1, if_neg h2]; exact cmp_turn as bs
    · rw [if_pos h1, if_neg h2, if_pos h1]
theorem cmp_zero : ∀ a b : List UInt8, compareBytes a b = 0 ↔ a = b
  | [], [] => by simp [compareBytes]
  | [], _ :: _ => by simp [compareBytes]
  | _ :: _, [] => by simp [compareBytes]
  | a :: as, b :: bs => by
    unfold compareBytes
    rcases u8_cases a b with ⟨h1, h2, h3⟩ | ⟨rfl, h1, h2⟩ | ⟨h1, h2, h3⟩
    · rw [if_pos h1]; simp [h3]
    · rw [if_neg h1, if_neg h2, cmp_zero as bs]; simp
    · rw [if_neg h2, if_pos h1]; simp [h3]
theorem u8_trans (a b c : UInt8) (h1 : a < b) (h2 : b < c) : a < c := by
  simp only [UInt8.lt_iff_toNat_lt] at *
  omega
/-- it goes on: not greater, and not greater: not greater; and less where one of them is less -/
theorem cmp_goes : ∀ a b c : List UInt8, compareBytes a b ≤ 0 → compareBytes b c ≤ 0 → compareBytes a c ≤ 0 ∧ (compareBytes a b < 0 → compareBytes a c < 0)
  | [], [], [], _, _ => by simp [compareBytes]
  | [], [], _ :: _, _, _ => by simp [compareBytes]
  | [], _ :: _, [], _, h => by simp [compareBytes] at h
  | [], _ :: _, _ :: _, _, _ => by simp [compareBytes]
  | _ :: _, [], _, h, _ => by simp [compareBytes] at h
  | _ :: _, _ :: _, [], _, h => by simp [compareBytes] at h
  | a :: as, b :: bs, c :: cs, h, k => by
    unfold compareBytes at h k ⊢
    rcases u8_cases a b with ⟨h1, h2, _⟩ | ⟨rfl, h1, h2⟩ | ⟨h1, h2, _⟩
    · rw [if_pos h1]
      rcases u8_cases b c with ⟨k1, k2, _⟩ | ⟨rfl, k1, k2⟩ | ⟨k1, k2, _⟩
      · rw [if_pos (u8_trans a b c h1 k1)]; exact ⟨by omega, fun _ => by omega⟩
      · rw [if_pos h1]; exact ⟨by omega, fun _ => by omega⟩
      · rw [if_neg k2, if_pos k1] at k; omega
    · rw [if_neg h1, if_neg h2] at h ⊢
      rcases u8_cases a c with ⟨k1, k2, _⟩ | ⟨rfl, k1, k2⟩ | ⟨k1, k2, _⟩
      · rw [if_pos k1]; exact ⟨by omega, fun _ => by omega⟩
      · rw [if_neg k1, if_neg k2] at k ⊢
        exact cmp_goes as bs cs h k
      · rw [if_neg k2, if_pos k1] at k; omega
    · rw [if_neg h2, if_pos h1] at h; omega
theorem cmp_front (c : List UInt8) (a b : List UInt8) : compareBytes (c ++ a) (c ++ b) = compareBytes a b := by
  induction c with
  | nil => rfl
  | cons x c ih =>
    have hx : ¬ x < x := by simp
    simp only [List.cons_append, compareBytes]
    rw [if_neg hx, if_neg hx, ih]
/-- all that the law OctetOrder asks of three answers -/
theorem order_all (a b c : List UInt8) (x y z : Int) (hx : x = compareBytes a b) (hy : y = compareBytes b c) (hz : z = compareBytes a c) :
    (-1 ≤ x ∧ x ≤ 1) ∧ (-1 ≤ y ∧ y ≤ 1) ∧ (-1 ≤ z ∧ z ≤ 1) ∧ (x = 0 ↔ a = b) ∧ (x ≤ 0 → y ≤ 0 → z ≤ 0) ∧ (x < 0 → y ≤ 0 → z < 0) := by
  subst hx hy hz
  have h1 := cmp_range a b
  have h2 := cmp_range b c
  have h3 := cmp_range a c
  refine ⟨by omega, by omega, by omega, cmp_zero a b, fun p q => (cmp_goes a b c p q).1, fun p q => (cmp_goes a b c (by omega) q).2 p⟩
end Go.Proofs.Yteajgkjiappkiaa.Oct
