/- Plain mathematics for chanceryref2.put: the bytes of a length, case by case. No program, no conditions. -/
import Derived.Test.YtejnfnpcabldeaaBerP
namespace Go.Proofs.Ytejnfnpcabldeaa.Ber
open Go.Proofs.Ytejnfnpcabldeaa.Oct
theorem lenL_1 (n : Nat) (h : n < 128) : lenL n = [UInt8.ofNat n] := by unfold lenL; rw [if_pos h]
theorem lenL_2 (n : Nat) (h : ¬ n < 128) (h2 : n < 256) : lenL n = [129, UInt8.ofNat n] := by
  have e : lenN n = 2 := by unfold lenN; rw [if_neg h, if_pos h2]
  unfold lenL
  rw [if_neg h, e]
  simp only [beB, Nat.reduceAdd, Nat.reduceSub, Int.pow_zero]
  congr 3
  omega
theorem lenL_3 (n : Nat) (h : ¬ n < 256) (h2 : n < 65536) : lenL n = [130, UInt8.ofNat (n / 256), UInt8.ofNat (n % 256)] := by
  have e : lenN n = 3 := by unfold lenN; rw [if_neg (by omega), if_neg h, if_pos h2]
  unfold lenL
  rw [if_neg (by omega), e]
  simp only [beB, Nat.reduceAdd, Nat.reduceSub, Int.pow_zero]
  congr 3
  · congr 1
    omega
  · congr 2
    omega
theorem lenL_4 (n : Nat) (h : ¬ n < 65536) (h2 : n < 16777216) : lenL n = [131, UInt8.ofNat (n / 65536), UInt8.ofNat (n / 256 % 256), UInt8.ofNat (n % 256)] := by
  have e : lenN n = 4 := by unfold lenN; rw [if_neg (by omega), if_neg (by omega), if_neg h]
  unfold lenL
  rw [if_neg (by omega), e]
  simp only [beB, Nat.reduceAdd, Nat.reduceSub, Int.pow_zero]
  congr 3
  · congr 1
    omega
  · congr 2
    · congr 1
      omega
end Go.Proofs.Ytejnfnpcabldeaa.Ber
