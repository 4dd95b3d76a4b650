/- The contracts of octet.PutSigned and chanceryref1.PutSigned: a number with a sign in as few bytes as can be. No conditions beyond the argument's kind. -/
import Derived.Test.YtlkdbopdmieojaaGreatOctB
import Derived.Test.YtlkdbopdmieojaaGreatOctE
namespace Go.Proofs.YtlkdbopdmieojaaGreat
open Go.RowKit
set_option maxRecDepth 20000
set_option maxHeartbeats 400000 in
theorem putSigned_any (v : Int) (w : World) (hlo : -9223372036854775808 ≤ v) (hhi : v ≤ 9223372036854775807) :
    Calls Tryz.prog 102 #[.int .i64 v] w fun e w' => e = .returned (.string ⟨(Oct.beB (Oct.psLen v) v).toArray⟩) ∧ Below w.heap.size w w' := by
  go_enter Tryz.func102, Tryz.ntmps102
  go_wp2
  go_loop [3] (fun i => ∃ k : Nat, 1 ≤ k ∧ k ≤ Oct.psLen v ∧ i = .int .i64 k) (fun i => 8 - (intOf i).toNat)
  case atStart => exact ⟨1, Nat.le_refl _, Oct.psLen_pos v, rfl⟩
  case round =>
    obtain ⟨k, hk1, hk, rfl⟩ := hrel
    have h8 := Oct.psLen_le v
    by_cases hlt : k < Oct.psLen v
    · have ht := Oct.sh_test v k hk1 (by omega) hlo hhi
      rw [decide_eq_true hlt] at ht
      go_wp2
      go_round
      case rel => exact ⟨k + 1, by omega, by omega, by go_num⟩
      case measure => simp [intOf]; omega
    · obtain ⟨i0, hi0, hz0, hz1, hz2⟩ := info_parts u8_info
      have hmk := fun W => make_bytes (P := Tryz.prog) 112 5 i0 Tryz.underlying112 hi0 hz0 hz1 hz2 .i64 .i64 k k (Nat.le_refl _) (by omega) W
      have hks : k = Oct.psLen v := by omega
      have HK := Lib.hid hks
      have hk8 : k ≤ 8 := by omega
      have ht : k ≤ 7 → (v != wrap64 (v * 2 ^ (64 - 8 * k)) / 2 ^ (64 - 8 * k)) = false := fun h7 => by
        rw [Oct.sh_test v k hk1 h7 hlo hhi]; exact decide_eq_false (by omega)
      clear hks hlt hk
      by_cases h7 : k ≤ 7
      all_goals
        try replace ht := ht h7
        go_wp2
        clear hmk ht
        go_loopw [27] (fun i wr => ∃ j : Nat, j ≤ k ∧ i = .int .i64 j ∧ Blk wr w.heap.size 5 (bvs (Oct.laidRow k j v)) ∧ Below w.heap.size w wr) (fun i _ => k - (intOf i).toNat)
        case atStart => exact ⟨0, Nat.zero_le _, rfl, (Oct.laidRow_zero k v).symm ▸ Blk.new w _ _, (Below.refl _ _).alloc (Nat.le_refl _) _⟩
        case round =>
          obtain ⟨j, hj, rfl, hblk, hbel⟩ := hrel
          by_cases hlt : j < k
          · obtain ⟨c0, hc⟩ := hblk.some_ (i := k - 1 - j) (by rw [bvs_size, Oct.laidRow_length k j v hj]; omega)
            have hf := hblk.frozen (k - 1 - j)
            have HB := Lib.hid hblk
            clear hblk
            go_wp2
            go_roundw
            case rel => exact ⟨j + 1, by omega, by go_num, by rw [Oct.u64_byte v j (by omega)]; exact laid_step HB.out hlt, hbel.setCell (Nat.le_refl _) _⟩
            case measure => simp [intOf]; omega
          · obtain rfl : j = k := by omega
            have hcv := string_of_blk (P := Tryz.prog) hblk 112 9 5 j j (Oct.laidRow_length j j v (Nat.le_refl _)).symm Tryz.underlying112 Tryz.underlying5 Tryz.underlying9
            rw [Oct.laidRow_all] at hcv
            clear hblk
            go_wp2
            go_ret
            exact ⟨by rw [← HK.out]; rfl, hbel⟩
end Go.Proofs.YtlkdbopdmieojaaGreat
