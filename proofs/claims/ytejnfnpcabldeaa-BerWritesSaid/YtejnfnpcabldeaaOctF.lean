/- The contracts of octet.PutSigned and chanceryref1.PutSigned: a number with a sign in as few bytes as can be. No conditions beyond the argument's kind. -/
import Derived.Test.YtejnfnpcabldeaaOctB
import Derived.Test.YtejnfnpcabldeaaOctE
namespace Go.Proofs.Ytejnfnpcabldeaa
open Go.RowKit
set_option maxHeartbeats 400000 in
theorem putSigned_any (v : Int) (w : World) (hlo : -9223372036854775808 ≤ v) (hhi : v ≤ 9223372036854775807) :
    Calls Try.prog 53 #[.int .i64 v] w fun e w' => e = .returned (.string ⟨(Oct.beB (Oct.psLen v) v).toArray⟩) ∧ Below w.heap.size w w' := by
  go_enter Try.func53, Try.ntmps53
  go_wp2
  go_loop [3] (fun i => ∃ k : Nat, 1 ≤ k ∧ k ≤ Oct.psLen v ∧ i = .int .i64 k) (fun i => 8 - (intOf i).toNat)
  case atStart => exact ⟨1, Nat.le_refl _, Oct.psLen_pos v, rfl⟩
  case round =>
    obtain ⟨k, hk1, hk, rfl⟩ := hrel
    have h8 := Oct.psLen_le v
    by_cases hlt : k < Oct.psLen v
    · have ht := Oct.sh_test v k hk1 (by omega) hlo hhi
      rw [decide_eq_true hlt] at ht
      go_wp2
      go_round
      case rel => exact ⟨k + 1, by omega, by omega, by go_num⟩
      case measure => simp [intOf]; omega
    · obtain ⟨i0, hi0, hz0, hz1, hz2⟩ := info_parts u8_info
      have hmk := fun W => make_bytes (P := Try.prog) 54 5 i0 Try.underlying54 hi0 hz0 hz1 hz2 .i64 .i64 k k (Nat.le_refl _) (by omega) W
      have hks : k = Oct.psLen v := by omega
      have HK := Lib.hid hks
      have hk8 : k ≤ 8 := by omega
      have ht : k ≤ 7 → (v != wrap64 (v * 2 ^ (64 - 8 * k)) / 2 ^ (64 - 8 * k)) = false := fun h7 => by
        rw [Oct.sh_test v k hk1 h7 hlo hhi]; exact decide_eq_false (by omega)
      clear hks hlt hk
      by_cases h7 : k ≤ 7
      all_goals
        try replace ht := ht h7
        go_wp2
        clear hmk ht
        go_loopw [27] (fun i wr => ∃ j : Nat, j ≤ k ∧ i = .int .i64 j ∧ Blk wr w.heap.size 5 (bvs (Oct.laidRow k j v)) ∧ Below w.heap.size w wr) (fun i _ => k - (intOf i).toNat)
        case atStart => exact ⟨0, Nat.zero_le _, rfl, (Oct.laidRow_zero k v).symm ▸ Blk.new w _ _, (Below.refl _ _).alloc (Nat.le_refl _) _⟩
        case round =>
          obtain ⟨j, hj, rfl, hblk, hbel⟩ := hrel
          by_cases hlt : j < k
          · obtain ⟨c0, hc⟩ := hblk.some_ (i := k - 1 - j) (by rw [bvs_size, Oct.laidRow_length k j v hj]; omega)
            have hf := hblk.frozen (k - 1 - j)
            have HB := Lib.hid hblk
            clear hblk
            go_wp2
            go_roundw
            case rel => exact ⟨j + 1, by omega, by go_num, by rw [Oct.u64_byte v j (by omega)]; exact laid_step HB.out hlt, hbel.setCell (Nat.le_refl _) _⟩
            case measure => simp [intOf]; omega
          · obtain rfl : j = k := by omega
            have hcv := string_of_blk (P := Try.prog) hblk 54 9 5 j j (Oct.laidRow_length j j v (Nat.le_refl _)).symm Try.underlying54 Try.underlying5 Try.underlying9
            rw [Oct.laidRow_all] at hcv
            clear hblk
            go_wp2
            go_ret
            exact ⟨by rw [← HK.out]; rfl, hbel⟩
theorem refSigned_beB (k : Nat) (v : Int) (x : Int) (w : World) (h1 : 1 ≤ k) (h8 : k ≤ 8) (hx : Hid (x = Oct.sgnZ (Oct.beB k v))) :
    Calls Try.prog 59 #[.string ⟨(Oct.beB k v).toArray⟩] w fun e w' => e = .returned (.tuple #[.int .i64 x, .int .i64 0]) ∧ w = w' := by
  have hz : (⟨(Oct.beB k v).toArray⟩ : ByteArray).size = k := by simp [ByteArray.size, Oct.beB_length]
  have := refSigned_in ⟨(Oct.beB k v).toArray⟩ w (by omega) (by omega)
  rw [hx.out]
  simpa using this
set_option maxHeartbeats 1000000 in
theorem refPutSigned_any (v : Int) (w : World) (hlo : -9223372036854775808 ≤ v) (hhi : v ≤ 9223372036854775807) :
    Calls Try.prog 55 #[.int .i64 v] w fun e w' => e = .returned (.string ⟨(Oct.beB (Oct.psLen v) v).toArray⟩) ∧ Below w.heap.size w w' := by
  obtain ⟨i0, hi0, hz0, hz1, hz2⟩ := info_parts u8_info
  go_enter Try.func55, Try.ntmps55
  go_wp2
  go_loopw [3] (fun i wr => ∃ k : Nat, 1 ≤ k ∧ k ≤ Oct.psLen v ∧ i = .int .i64 k ∧ Below w.heap.size w wr) (fun i _ => 8 - (intOf i).toNat)
  case atStart => exact ⟨1, Nat.le_refl _, Oct.psLen_pos v, rfl, Below.refl _ _⟩
  case round =>
    obtain ⟨k, hk1, hk, rfl, hbo⟩ := hrel
    obtain ⟨wo, rfl⟩ : ∃ wo : World, wo = wr := ⟨_, rfl⟩
    have h8 := Oct.psLen_le v
    have hk8 : k ≤ 8 := by omega
    have hmk := fun W => make_bytes (P := Try.prog) 54 5 i0 Try.underlying54 hi0 hz0 hz1 hz2 .i64 .i64 k k (Nat.le_refl _) (by omega) W
    have HK := Lib.hid hk
    have H8 := Lib.hid h8
    clear hk h8
    go_wp2
    clear hmk
    go_loopw [5, 6] (fun y i wr => ∃ j : Nat, j ≤ k ∧ i = .int .i64 ((k : Int) - 1 - j) ∧ y = .int .i64 (v / 256 ^ j) ∧ Blk wr wo.heap.size 5 (bvs (Oct.laidRow k j v)) ∧ Below wo.heap.size wo wr) (fun _ i _ => (intOf i + 1).toNat)
    case atStart => exact ⟨0, Nat.zero_le _, by go_num, by simp, (Oct.laidRow_zero k v).symm ▸ Blk.new wo _ _, (Below.refl _ _).alloc (Nat.le_refl _) _⟩
    case round =>
      obtain ⟨j, hj, rfl, rfl, hblk, hbel⟩ := hrel
      obtain ⟨x1, x2⟩ := Oct.div_bd v j hlo hhi
      have HD := Lib.hid (Oct.div_step v j)
      have HA := Lib.hid (Oct.and255 (v / 256 ^ j))
      obtain ⟨x, hxe⟩ : ∃ x, v / 256 ^ j = x := ⟨_, rfl⟩
      rw [hxe] at x1 x2 HD HA ⊢
      have HX := Lib.hid hxe
      clear hxe
      by_cases hlt : j < k
      · obtain ⟨c0, hc⟩ := hblk.some_ (i := k - 1 - j) (by rw [bvs_size, Oct.laidRow_length k j v hj]; omega)
        have hf := hblk.frozen (k - 1 - j)
        have HB := Lib.hid hblk
        clear hblk
        go_wp2
        go_roundw
        case rel => exact ⟨j + 1, by omega, by congr 1; omega, by rw [HD.out], by rw [HA.out, Int.emod_emod]; exact ref_step HX.out HB.out hlt, hbel.setCell (Nat.le_refl _) _⟩
        case measure => simp [intOf]; omega
      · obtain rfl : j = k := by omega
        have hcv := string_of_blk (P := Try.prog) hblk 54 9 5 j j (Oct.laidRow_length j j v (Nat.le_refl _)).symm Try.underlying54 Try.underlying5 Try.underlying9
        rw [Oct.laidRow_all] at hcv
        have ht := Oct.ref_test v j hk1 hk8 hlo hhi
        obtain ⟨z, hz⟩ : ∃ z, z = Oct.sgnZ (Oct.beB j v) := ⟨_, rfl⟩
        rw [← hz] at ht
        have HZ := Lib.hid hz
        clear hz hblk
        by_cases hend : Oct.psLen v ≤ j
        · rw [decide_eq_true hend] at ht
          have he : Oct.psLen v = j := by have := HK.out; omega
          have HE := Lib.hid he
          clear he hend
          go_wp2_with fail
          refine (refSigned_beB j v z _ hk1 hk8 HZ).mono ?_
          rintro e w' ⟨rfl, rfl⟩
          go_wp2_with fail
          go_ret
          exact ⟨by rw [HE.out]; rfl, hbo.trans (hbel.mono hbo.size)⟩
        · rw [decide_eq_false hend] at ht
          have HE := Lib.hid hend
          clear hend
          go_wp2_with fail
          refine (refSigned_beB j v z _ hk1 hk8 HZ).mono ?_
          rintro e w' ⟨rfl, rfl⟩
          go_wp2_with fail
          go_roundw
          case rel => exact ⟨j + 1, by omega, by have := HE.out; omega, by go_num, hbo.trans (hbel.mono hbo.size)⟩
          case measure => have := HE.out; have := H8.out; simp [intOf]; omega
end Go.Proofs.Ytejnfnpcabldeaa
