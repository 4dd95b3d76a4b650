/- The contracts of octet.Sum and chanceryref1.Sum: both return the checksum of the bytes; the world stays. No conditions but the model's own bound on a string. -/
import Derived.Test.YteajgkjiappkiaaProg
import Derived.Test.YteajgkjiappkiaaPlain
import Derived.WalkKit
import Derived.ProofKit
import Derived.Lib.Hide
import Derived.LoopTactic
import Derived.Outline
namespace Go.Proofs.Yteajgkjiappkiaa
open Go.RowKit
set_option maxHeartbeats 400000 in
theorem sum_any (s : ByteArray) (w : World) (hs : s.size ≤ maxLen) :
    Calls Try.prog 22 #[.string s] w fun e w' => e = .returned (.int .i64 (Oct.sumN s.data.toList : Nat)) ∧ w = w' := by
  unfold maxLen at hs
  go_enter Try.func22, Try.ntmps22
  go_wp2
  go_loop [3, 7] (fun x i => ∃ k : Nat, k ≤ s.size ∧ i = .int .i64 k ∧ x = .int .u32 (Oct.sumN (s.data.toList.take k) : Nat)) (fun _ i => s.size - (intOf i).toNat)
  case atStart => exact ⟨0, Nat.zero_le _, rfl, rfl⟩
  case round =>
    obtain ⟨k, hk, rfl, rfl⟩ := hrel
    have hb := Oct.sumN_lt (s.data.toList.take k)
    by_cases hlt : k < s.size
    · go_wp2
      go_round
      case rel => exact ⟨k + 1, by omega, by go_num, by rw [Oct.step_u32 _ _ hb, Oct.take_snoc s k hlt, Oct.sumN_snoc]⟩
      case measure => simp [intOf]; omega
    · go_wp2
      go_ret
      exact ⟨by rw [Oct.take_all s k hlt]; rfl, rfl⟩
set_option maxHeartbeats 400000 in
theorem refSum_any (s : ByteArray) (w : World) (hs : s.size ≤ maxLen) :
    Calls Try.prog 16 #[.string s] w fun e w' => e = .returned (.int .i64 (Oct.sumN s.data.toList : Nat)) ∧ w = w' := by
  unfold maxLen at hs
  go_enter Try.func16, Try.ntmps16
  go_wp2
  go_loop [3, 4] (fun x i => ∃ k : Nat, k ≤ s.size ∧ i = .int .i64 k ∧ x = .int .i64 (Oct.sumN (s.data.toList.take k) : Nat)) (fun _ i => s.size - (intOf i).toNat)
  case atStart => exact ⟨0, Nat.zero_le _, rfl, rfl⟩
  case round =>
    obtain ⟨k, hk, rfl, rfl⟩ := hrel
    have hb := Oct.sumN_lt (s.data.toList.take k)
    by_cases hlt : k < s.size
    · go_wp2
      go_round
      case rel => exact ⟨k + 1, by omega, by go_num, by rw [Oct.step_i64 _ _ hb, Oct.take_snoc s k hlt, Oct.sumN_snoc]⟩
      case measure => simp [intOf]; omega
    · go_wp2
      go_ret
      exact ⟨by rw [Oct.take_all s k hlt]; rfl, rfl⟩
end Go.Proofs.Yteajgkjiappkiaa
