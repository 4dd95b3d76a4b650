/- The contracts of octet.Put and chanceryref1.Put: a number in so many bytes, or error 1. No conditions beyond the arguments' kinds. -/
import Derived.Test.YtlkdbopdmieojaaGreatProg
import Derived.Test.YtlkdbopdmieojaaGreatPlain
import Derived.Test.YtlkdbopdmieojaaGreatWords
import Derived.WalkKit
import Derived.ProofKit
import Derived.Lib.Hide
import Derived.LoopTactic
import Derived.Outline
namespace Go.Proofs.YtlkdbopdmieojaaGreat
open Go.RowKit
set_option maxRecDepth 20000
theorem u8_info : (Tryz.prog.info? 5).map (fun i => (i.zero, i.size, i.bytes)) = some (some (.int .u8 0), 1, 1) := by kernel_rfl
theorem laid_step {wr : World} {B n k : Nat} {t : TypeId} {v : Int} (h : Blk wr B t (bvs (Oct.laidRow n k v))) (hk : k < n) :
    Blk (wr.setCell ⟨B, n - 1 - k, none⟩ (.int .u8 (v / 2 ^ (8 * k) % 256))) B t (bvs (Oct.laidRow n (k + 1) v)) := by
  refine (h.set_ (n - 1 - k) _).eq_ ?_
  rw [Oct.pow8, ← Oct.byte_of, bvs_set, Oct.laidRow_step n k v hk]
theorem ref_step {wr : World} {B n k : Nat} {t : TypeId} {v x : Int} (hx : v / 256 ^ k = x) (h : Blk wr B t (bvs (Oct.laidRow n k v))) (hk : k < n) :
    Blk (wr.setCell ⟨B, n - 1 - k, none⟩ (.int .u8 (x % 256))) B t (bvs (Oct.laidRow n (k + 1) v)) := by
  subst hx
  rw [← Oct.pow8]
  exact laid_step h hk
set_option maxHeartbeats 400000 in
theorem put_yes (v : Int) (n : Nat) (w : World) (h1 : 1 ≤ n) (h7 : n ≤ 7) (h0 : 0 ≤ v) (hv : v < 256 ^ n) :
    Calls Tryz.prog 155 #[.int .i64 v, .int .i64 n] w fun e w' => e = .returned (.tuple #[.string ⟨(Oct.beB n v).toArray⟩, .int .i64 0]) ∧ Below w.heap.size w w' := by
  obtain ⟨i0, hi0, hz0, hz1, hz2⟩ := info_parts u8_info
  have hmk := fun W => make_bytes (P := Tryz.prog) 112 5 i0 Tryz.underlying112 hi0 hz0 hz1 hz2 .i64 .i64 n n (Nat.le_refl _) (by omega) W
  have hsh := Oct.shr_zero v n h0 hv
  have HV := Lib.hid hv
  clear hv
  go_enter Tryz.func155, Tryz.ntmps155
  go_wp2
  clear hmk hsh
  go_loopw [29] (fun i wr => ∃ k : Nat, k ≤ n ∧ i = .int .i64 k ∧ Blk wr w.heap.size 5 (bvs (Oct.laidRow n k v)) ∧ Below w.heap.size w wr) (fun i _ => n - (intOf i).toNat)
  case atStart => exact ⟨0, Nat.zero_le _, rfl, (Oct.laidRow_zero n v).symm ▸ Blk.new w _ _, (Below.refl _ _).alloc (Nat.le_refl _) _⟩
  case round =>
    obtain ⟨k, hk, rfl, hblk, hbel⟩ := hrel
    by_cases hlt : k < n
    · obtain ⟨c0, hc⟩ := hblk.some_ (i := n - 1 - k) (by rw [bvs_size, Oct.laidRow_length n k v hk]; omega)
      have hf := hblk.frozen (n - 1 - k)
      have HB := Lib.hid hblk
      clear hblk
      go_wp2
      go_roundw
      case rel => exact ⟨k + 1, by omega, by go_num, laid_step HB.out hlt, hbel.setCell (Nat.le_refl _) _⟩
      case measure => simp [intOf]; omega
    · obtain rfl : k = n := by omega
      have hcv := string_of_blk (P := Tryz.prog) hblk 112 9 5 k k (Oct.laidRow_length k k v (Nat.le_refl _)).symm Tryz.underlying112 Tryz.underlying5 Tryz.underlying9
      rw [Oct.laidRow_all] at hcv
      clear hblk
      go_wp2
      go_ret2
      exact ⟨rfl, hbel⟩
set_option maxHeartbeats 400000 in
theorem put_no (v n : Int) (w : World) (h : n < 1 ∨ 7 < n ∨ v < 0 ∨ 256 ^ n.toNat ≤ v) :
    Calls Tryz.prog 155 #[.int .i64 v, .int .i64 n] w fun e w' => e = .returned (.tuple #[.string ⟨#[]⟩, .int .i64 1]) ∧ w = w' := by
  by_cases h1 : n < 1
  · clear h
    go_enter Tryz.func155, Tryz.ntmps155
    go_wp2
    go_ret2
    exact ⟨rfl, rfl⟩
  by_cases h7 : 7 < n
  · clear h
    go_enter Tryz.func155, Tryz.ntmps155
    go_wp2
    go_ret2
    exact ⟨rfl, rfl⟩
  by_cases h0 : v < 0
  · clear h
    go_enter Tryz.func155, Tryz.ntmps155
    go_wp2
    go_ret2
    exact ⟨rfl, rfl⟩
  · obtain ⟨m, rfl⟩ := Int.eq_ofNat_of_zero_le (show 0 ≤ n by omega)
    have hsh := Oct.shr_more v m (by rcases h with h | h | h | h <;> first | exact h | omega)
    clear h
    go_enter Tryz.func155, Tryz.ntmps155
    go_wp2
    go_ret2
    exact ⟨rfl, rfl⟩
/-- what a Put answers where the number of bytes may be -/
def putAns (v : Int) (n : Nat) : Value := if v < 256 ^ n then .tuple #[.string ⟨(Oct.beB n v).toArray⟩, .int .i64 0] else .tuple #[.string ⟨#[]⟩, .int .i64 1]
theorem putAns_yes {v : Int} {n : Nat} (h : v < 256 ^ n) : putAns v n = .tuple #[.string ⟨(Oct.beB n v).toArray⟩, .int .i64 0] := if_pos h
theorem putAns_no {v : Int} {n : Nat} (h : ¬ v < 256 ^ n) : putAns v n = .tuple #[.string ⟨#[]⟩, .int .i64 1] := if_neg h
/-- what a Put answers -/
def putV (v n : Int) : Value := if 1 ≤ n ∧ n ≤ 7 ∧ 0 ≤ v then putAns v n.toNat else .tuple #[.string ⟨#[]⟩, .int .i64 1]
theorem put_any (v n : Int) (w : World) :
    Calls Tryz.prog 155 #[.int .i64 v, .int .i64 n] w fun e w' => e = .returned (putV v n) ∧ Below w.heap.size w w' := by
  unfold putV
  by_cases h : 1 ≤ n ∧ n ≤ 7 ∧ 0 ≤ v
  · obtain ⟨m, rfl⟩ := Int.eq_ofNat_of_zero_le (show 0 ≤ n by omega)
    rw [if_pos h]
    by_cases hv : v < 256 ^ m
    · exact (put_yes v m w (by omega) (by omega) (by omega) hv).mono fun e w' ⟨he, hb⟩ => ⟨by rw [he]; simp [putAns_yes hv], hb⟩
    · exact (put_no v m w (.inr (.inr (.inr (by simp; omega))))).mono fun e w' ⟨he, hb⟩ => ⟨by rw [he]; simp [putAns_no hv], hb ▸ Below.refl _ _⟩
  · rw [if_neg h]
    exact (put_no v n w (by omega)).mono fun e w' ⟨he, hb⟩ => ⟨he, hb ▸ Below.refl _ _⟩
end Go.Proofs.YtlkdbopdmieojaaGreat
