/- Plain mathematics: what the decoder of unicode/utf8 tells, by the first byte's class; and back from a character's bytes. No conditions. -/
import Derived.Lib.DecodeN
import Derived.WalkKit
namespace Go.Proofs.YteajgkjiappkiaaDoor.Oct
open Go Go.RowKit Go.Lib
set_option maxRecDepth 100000 in
set_option maxHeartbeats 4000000 in
theorem dec_ascii (n b0 b1 b2 b3 : Nat) (_h : b0 < 128) : decodeN n b0 b1 b2 b3 = (b0, 1) := by
  unfold decodeN
  repeat' split
  all_goals first | rfl | (exfalso; omega) | (apply Prod.ext <;> simp only <;> omega)
set_option maxRecDepth 100000 in
set_option maxHeartbeats 4000000 in
theorem dec_none (n b0 b1 b2 b3 : Nat) (_h : (128 ≤ b0 ∧ b0 < 194) ∨ 245 ≤ b0) (_h2 : b0 < 256) (_k1 : b1 < 256) (_k2 : b2 < 256) (_k3 : b3 < 256) : decodeN n b0 b1 b2 b3 = (65533, 1) := by
  unfold decodeN
  repeat' split
  all_goals first | rfl | (exfalso; omega) | (apply Prod.ext <;> simp only <;> omega)
set_option maxRecDepth 100000 in
set_option maxHeartbeats 4000000 in
theorem dec2_short (n b0 b1 b2 b3 : Nat) (_h : 194 ≤ b0 ∧ b0 ≤ 223) (_hn : n < 2) (_k1 : b1 < 256) (_k2 : b2 < 256) (_k3 : b3 < 256) : decodeN n b0 b1 b2 b3 = (65533, 1) := by
  unfold decodeN
  repeat' split
  all_goals first | rfl | (exfalso; omega) | (apply Prod.ext <;> simp only <;> omega)
set_option maxRecDepth 100000 in
set_option maxHeartbeats 4000000 in
theorem dec2_bad1 (n b0 b1 b2 b3 : Nat) (_h : 194 ≤ b0 ∧ b0 ≤ 223) (_g : b1 < 128 ∨ 191 < b1) (_k1 : b1 < 256) (_k2 : b2 < 256) (_k3 : b3 < 256) : decodeN n b0 b1 b2 b3 = (65533, 1) := by
  unfold decodeN
  repeat' split
  all_goals first | rfl | (exfalso; omega) | (apply Prod.ext <;> simp only <;> omega)
set_option maxRecDepth 100000 in
set_option maxHeartbeats 4000000 in
theorem dec2_val (n b0 b1 b2 b3 : Nat) (_h : 194 ≤ b0 ∧ b0 ≤ 223) (_hn : 2 ≤ n) (_g1 : 128 ≤ b1 ∧ b1 ≤ 191) (_hv : ((b0 - 192) * 64 + (b1 - 128)) < 128 ∨ 1114111 < ((b0 - 192) * 64 + (b1 - 128)) ∨ (55296 ≤ ((b0 - 192) * 64 + (b1 - 128)) ∧ ((b0 - 192) * 64 + (b1 - 128)) ≤ 57343)) : decodeN n b0 b1 b2 b3 = (65533, 1) := by
  unfold decodeN
  repeat' split
  all_goals first | rfl | (exfalso; omega) | (apply Prod.ext <;> simp only <;> omega)
set_option maxRecDepth 100000 in
set_option maxHeartbeats 4000000 in
theorem dec2_ok (n b0 b1 b2 b3 : Nat) (_h : 194 ≤ b0 ∧ b0 ≤ 223) (_hn : 2 ≤ n) (_g1 : 128 ≤ b1 ∧ b1 ≤ 191) (_h1 : 128 ≤ ((b0 - 192) * 64 + (b1 - 128))) (_h2 : ((b0 - 192) * 64 + (b1 - 128)) ≤ 1114111) (_h3 : ((b0 - 192) * 64 + (b1 - 128)) < 55296 ∨ 57343 < ((b0 - 192) * 64 + (b1 - 128))) : decodeN n b0 b1 b2 b3 = (((b0 - 192) * 64 + (b1 - 128)), 2) := by
  unfold decodeN
  repeat' split
  all_goals first | rfl | (exfalso; omega) | (apply Prod.ext <;> simp only <;> omega)
set_option maxRecDepth 100000 in
set_option maxHeartbeats 4000000 in
theorem dec3_short (n b0 b1 b2 b3 : Nat) (_h : 224 ≤ b0 ∧ b0 ≤ 239) (_hn : n < 3) (_k1 : b1 < 256) (_k2 : b2 < 256) (_k3 : b3 < 256) : decodeN n b0 b1 b2 b3 = (65533, 1) := by
  unfold decodeN
  repeat' split
  all_goals first | rfl | (exfalso; omega) | (apply Prod.ext <;> simp only <;> omega)
set_option maxRecDepth 100000 in
set_option maxHeartbeats 4000000 in
theorem dec3_bad1 (n b0 b1 b2 b3 : Nat) (_h : 224 ≤ b0 ∧ b0 ≤ 239) (_g : b1 < 128 ∨ 191 < b1) (_k1 : b1 < 256) (_k2 : b2 < 256) (_k3 : b3 < 256) : decodeN n b0 b1 b2 b3 = (65533, 1) := by
  unfold decodeN
  repeat' split
  all_goals first | rfl | (exfalso; omega) | (apply Prod.ext <;> simp only <;> omega)
set_option maxRecDepth 100000 in
set_option maxHeartbeats 4000000 in
theorem dec3_bad2 (n b0 b1 b2 b3 : Nat) (_h : 224 ≤ b0 ∧ b0 ≤ 239) (_g : b2 < 128 ∨ 191 < b2) (_k1 : b1 < 256) (_k2 : b2 < 256) (_k3 : b3 < 256) : decodeN n b0 b1 b2 b3 = (65533, 1) := by
  unfold decodeN
  repeat' split
  all_goals first | rfl | (exfalso; omega) | (apply Prod.ext <;> simp only <;> omega)
set_option maxRecDepth 100000 in
set_option maxHeartbeats 4000000 in
theorem dec3_val (n b0 b1 b2 b3 : Nat) (_h : 224 ≤ b0 ∧ b0 ≤ 239) (_hn : 3 ≤ n) (_g1 : 128 ≤ b1 ∧ b1 ≤ 191) (_g2 : 128 ≤ b2 ∧ b2 ≤ 191) (_hv : (((b0 - 224) * 64 + (b1 - 128)) * 64 + (b2 - 128)) < 2048 ∨ 1114111 < (((b0 - 224) * 64 + (b1 - 128)) * 64 + (b2 - 128)) ∨ (55296 ≤ (((b0 - 224) * 64 + (b1 - 128)) * 64 + (b2 - 128)) ∧ (((b0 - 224) * 64 + (b1 - 128)) * 64 + (b2 - 128)) ≤ 57343)) : decodeN n b0 b1 b2 b3 = (65533, 1) := by
  unfold decodeN
  repeat' split
  all_goals first | rfl | (exfalso; omega) | (apply Prod.ext <;> simp only <;> omega)
set_option maxRecDepth 100000 in
set_option maxHeartbeats 4000000 in
theorem dec3_ok (n b0 b1 b2 b3 : Nat) (_h : 224 ≤ b0 ∧ b0 ≤ 239) (_hn : 3 ≤ n) (_g1 : 128 ≤ b1 ∧ b1 ≤ 191) (_g2 : 128 ≤ b2 ∧ b2 ≤ 191) (_h1 : 2048 ≤ (((b0 - 224) * 64 + (b1 - 128)) * 64 + (b2 - 128))) (_h2 : (((b0 - 224) * 64 + (b1 - 128)) * 64 + (b2 - 128)) ≤ 1114111) (_h3 : (((b0 - 224) * 64 + (b1 - 128)) * 64 + (b2 - 128)) < 55296 ∨ 57343 < (((b0 - 224) * 64 + (b1 - 128)) * 64 + (b2 - 128))) : decodeN n b0 b1 b2 b3 = ((((b0 - 224) * 64 + (b1 - 128)) * 64 + (b2 - 128)), 3) := by
  unfold decodeN
  repeat' split
  all_goals first | rfl | (exfalso; omega) | (apply Prod.ext <;> simp only <;> omega)
set_option maxRecDepth 100000 in
set_option maxHeartbeats 4000000 in
theorem dec4_short (n b0 b1 b2 b3 : Nat) (_h : 240 ≤ b0 ∧ b0 ≤ 244) (_hn : n < 4) (_k1 : b1 < 256) (_k2 : b2 < 256) (_k3 : b3 < 256) : decodeN n b0 b1 b2 b3 = (65533, 1) := by
  unfold decodeN
  repeat' split
  all_goals first | rfl | (exfalso; omega) | (apply Prod.ext <;> simp only <;> omega)
set_option maxRecDepth 100000 in
set_option maxHeartbeats 4000000 in
theorem dec4_bad1 (n b0 b1 b2 b3 : Nat) (_h : 240 ≤ b0 ∧ b0 ≤ 244) (_g : b1 < 128 ∨ 191 < b1) (_k1 : b1 < 256) (_k2 : b2 < 256) (_k3 : b3 < 256) : decodeN n b0 b1 b2 b3 = (65533, 1) := by
  unfold decodeN
  repeat' split
  all_goals first | rfl | (exfalso; omega) | (apply Prod.ext <;> simp only <;> omega)
set_option maxRecDepth 100000 in
set_option maxHeartbeats 4000000 in
theorem dec4_bad2 (n b0 b1 b2 b3 : Nat) (_h : 240 ≤ b0 ∧ b0 ≤ 244) (_g : b2 < 128 ∨ 191 < b2) (_k1 : b1 < 256) (_k2 : b2 < 256) (_k3 : b3 < 256) : decodeN n b0 b1 b2 b3 = (65533, 1) := by
  unfold decodeN
  repeat' split
  all_goals first | rfl | (exfalso; omega) | (apply Prod.ext <;> simp only <;> omega)
set_option maxRecDepth 100000 in
set_option maxHeartbeats 4000000 in
theorem dec4_bad3 (n b0 b1 b2 b3 : Nat) (_h : 240 ≤ b0 ∧ b0 ≤ 244) (_g : b3 < 128 ∨ 191 < b3) (_k1 : b1 < 256) (_k2 : b2 < 256) (_k3 : b3 < 256) : decodeN n b0 b1 b2 b3 = (65533, 1) := by
  unfold decodeN
  repeat' split
  all_goals first | rfl | (exfalso; omega) | (apply Prod.ext <;> simp only <;> omega)
set_option maxRecDepth 100000 in
set_option maxHeartbeats 4000000 in
theorem dec4_val (n b0 b1 b2 b3 : Nat) (_h : 240 ≤ b0 ∧ b0 ≤ 244) (_hn : 4 ≤ n) (_g1 : 128 ≤ b1 ∧ b1 ≤ 191) (_g2 : 128 ≤ b2 ∧ b2 ≤ 191) (_g3 : 128 ≤ b3 ∧ b3 ≤ 191) (_hv : ((((b0 - 240) * 64 + (b1 - 128)) * 64 + (b2 - 128)) * 64 + (b3 - 128)) < 65536 ∨ 1114111 < ((((b0 - 240) * 64 + (b1 - 128)) * 64 + (b2 - 128)) * 64 + (b3 - 128)) ∨ (55296 ≤ ((((b0 - 240) * 64 + (b1 - 128)) * 64 + (b2 - 128)) * 64 + (b3 - 128)) ∧ ((((b0 - 240) * 64 + (b1 - 128)) * 64 + (b2 - 128)) * 64 + (b3 - 128)) ≤ 57343)) : decodeN n b0 b1 b2 b3 = (65533, 1) := by
  unfold decodeN
  repeat' split
  all_goals first | rfl | (exfalso; omega) | (apply Prod.ext <;> simp only <;> omega)
set_option maxRecDepth 100000 in
set_option maxHeartbeats 4000000 in
theorem dec4_ok (n b0 b1 b2 b3 : Nat) (_h : 240 ≤ b0 ∧ b0 ≤ 244) (_hn : 4 ≤ n) (_g1 : 128 ≤ b1 ∧ b1 ≤ 191) (_g2 : 128 ≤ b2 ∧ b2 ≤ 191) (_g3 : 128 ≤ b3 ∧ b3 ≤ 191) (_h1 : 65536 ≤ ((((b0 - 240) * 64 + (b1 - 128)) * 64 + (b2 - 128)) * 64 + (b3 - 128))) (_h2 : ((((b0 - 240) * 64 + (b1 - 128)) * 64 + (b2 - 128)) * 64 + (b3 - 128)) ≤ 1114111) (_h3 : ((((b0 - 240) * 64 + (b1 - 128)) * 64 + (b2 - 128)) * 64 + (b3 - 128)) < 55296 ∨ 57343 < ((((b0 - 240) * 64 + (b1 - 128)) * 64 + (b2 - 128)) * 64 + (b3 - 128))) : decodeN n b0 b1 b2 b3 = (((((b0 - 240) * 64 + (b1 - 128)) * 64 + (b2 - 128)) * 64 + (b3 - 128)), 4) := by
  unfold decodeN
  repeat' split
  all_goals first | rfl | (exfalso; omega) | (apply Prod.ext <;> simp only <;> omega)
end Go.Proofs.YteajgkjiappkiaaDoor.Oct
