/- The walk of the law DiskFuse. -/
import Derived.Test.YtmkcmahfededeaaVdQ
import Derived.Laws.BitsAllLaws
import Derived.Laws.BitsLemmas
namespace Go.Proofs.Ytmkcmahfededeaa
open Go.RowKit Go.Maps
theorem ofInt_i64 (a : Nat) (ha : a < 9223372036854775808) : (BitVec.ofInt 64 (a : Int)).toNat = a := by
  rw [BitVec.ofInt_natCast, BitVec.toNat_ofNat]; exact Nat.mod_eq_of_lt (by omega)
theorem i64_and_nat (a b : Nat) (ha : a < 9223372036854775808) (hb : b < 9223372036854775808) : bits .and .i64 (a : Int) (b : Int) = ((a &&& b : Nat) : Int) := by
  have hx : a &&& b < 2 ^ 63 := Nat.and_lt_two_pow _ (by omega)
  show IntKind.i64.wrap ((BitVec.ofInt 64 (a : Int) &&& BitVec.ofInt 64 (b : Int)).toNat : Int) = _
  rw [BitVec.toNat_and, ofInt_i64 a ha, ofInt_i64 b hb, IntKind.wrap_i64]
  omega
theorem and3 (k : Nat) (h : k < 1000) : bits .and .i64 (k : Int) 3 = ((k % 4 : Nat) : Int) := by
  have := i64_and_nat k 3 (by omega) (by omega)
  rw [show ((3 : Nat) : Int) = 3 from rfl] at this
  rw [this, show (3 : Nat) = 2 ^ 2 - 1 from rfl, Nat.and_two_pow_sub_one_eq_mod]
/-- the disk behind k writes, with a fuse of n -/
def fsVD (n keep : Int) (k : Nat) : Vd.VD := { newVD 4 with q := (List.range k).map (fun j : Nat => (j % 4, rowL ((j : Int) + 1))), fuse := some (n - k, keep, 0), writes := k }
theorem fs_zero (n : Nat) (keep : Int) : setFuse (newVD 4) n keep 0 = fsVD n keep 0 := by
  unfold setFuse fsVD newVD
  simp
theorem fs_asked (n keep : Int) (k a : Nat) (h : a < 4) : Vd.asked (fsVD n keep k) a = 0 := by simp [Vd.asked, fsVD, newVD]; omega
theorem fs_write (n keep : Int) (k : Nat) (h : (k : Int) < n) : Vd.write (fsVD n keep k) ((k % 4 : Nat) : Int) (rowL ((k : Int) + 1)) = (0, fsVD n keep (k + 1)) := by
  unfold Vd.write
  rw [if_neg (by rw [fs_asked _ _ _ _ (by omega)]; simp), if_neg (by simp [rowL]), if_neg (by simp [fsVD, newVD])]
  have hb : Vd.burns (fsVD n keep k) = (false, { fsVD n keep k with fuse := some (n - k - 1, keep, 0) }) := by
    unfold Vd.burns
    simp only [fsVD]
    rw [if_pos (by omega)]
  simp only [hb]
  simp [fsVD, List.range_succ, newVD]
  omega
/-- the power has failed -/
def fsC (n : Nat) (keep : Int) : Vd.VD := Vd.crash { fsVD n keep n with fuse := none } keep 0
theorem fs_burn (n : Nat) (keep : Int) : Vd.write (fsVD n keep n) 0 (rowL 99) = (80, fsC n keep) := by
  have hb : Vd.burns (fsVD n keep n) = (true, fsC n keep) := by
    unfold Vd.burns
    simp only [fsVD]
    rw [if_neg (by omega)]
    rfl
  unfold Vd.write
  have := fs_asked n keep n 0 (by omega)
  simp only [Int.natCast_zero] at this
  rw [if_neg (by rw [this]; simp), if_neg (by simp [rowL]), if_neg (by simp [fsVD, newVD]), hb]
  rfl
theorem crash_eq (d : Vd.VD) (keep torn : Int) (h : d.on = true) : ∃ s2, Vd.crash d keep torn = { d with secs := s2, q := [], on := false } ∧ s2.length = d.secs.length := by
  unfold Vd.crash
  rw [if_pos h]
  refine ⟨_, rfl, ?_⟩
  split
  · rw [Vd.lay_length]
  · rw [List.length_set, Vd.lay_length]
theorem fsC_eq (n : Nat) (keep : Int) : ∃ s2, fsC n keep = { newVD 4 with secs := s2, on := false, writes := n } ∧ s2.length = 4 := by
  obtain ⟨s2, e, h⟩ := crash_eq { fsVD n keep n with fuse := none } keep 0 rfl
  exact ⟨s2, e, h⟩
theorem fs_off (n : Nat) (keep : Int) : (fsC n keep).on = false := by obtain ⟨s2, e, _⟩ := fsC_eq n keep; rw [e]
theorem fs_sync (n : Nat) (keep : Int) : Vd.sync (fsC n keep) = (80, fsC n keep) := by unfold Vd.sync; rw [if_neg (by simp [fs_off])]
theorem fs_read (n : Nat) (keep : Int) : Vd.read (fsC n keep) 0 = (80, []) := by
  have h : Vd.asked (fsC n keep) 0 = 80 := by unfold Vd.asked; rw [if_neg (by simp [fs_off])]
  unfold Vd.read
  rw [h, if_pos (by simp)]
theorem fs_more (n : Nat) (keep : Int) : (Vd.write { fsC n keep with on := true } 0 (rowL 98)).1 = 0 ∧ (Vd.write { fsC n keep with on := true } 0 (rowL 98)).2.writes = (n : Int) + 1 := by
  obtain ⟨s2, e, h2⟩ := fsC_eq n keep
  rw [e]
  have h : Vd.asked ({ newVD 4 with secs := s2, on := true, writes := n } : Vd.VD) 0 = 0 := by simp [Vd.asked, h2]
  unfold Vd.write
  simp only at h ⊢
  rw [if_neg (by rw [h]; simp), if_neg (by simp [rowL]), if_neg (by simp [newVD]), if_neg (by simp [Vd.burns, newVD])]
  exact ⟨rfl, rfl⟩
theorem fs_writes (n : Nat) (keep : Int) : (fsC n keep).writes = n := by obtain ⟨s2, e, _⟩ := fsC_eq n keep; rw [e]
set_option maxHeartbeats 1000000 in
theorem diskFuse_walk (n keep : Int) (w : World) : Calls Try.prog 5 #[.int .i64 n, .int .i64 keep] w fun e w' => e = .returned (.bool true) ∧ Below w.heap.size w w' := by
  by_cases hn : n < 0 ∨ 60 < n
  · have hal := alive_any w
    rcases hn with h | h
    · go_enter Try.func5, Try.ntmps5
      go_wp2_with fail
      refine hal.mono ?_
      rintro e w1 ⟨rfl, hb⟩
      go_wp2_with fail
      go_ret
      exact ⟨rfl, hb⟩
    · have h' : ¬ n < 0 := by omega
      go_enter Try.func5, Try.ntmps5
      go_wp2_with fail
      refine hal.mono ?_
      rintro e w1 ⟨rfl, hb⟩
      go_wp2_with fail
      go_ret
      exact ⟨rfl, hb⟩
  · obtain ⟨m, rfl⟩ : ∃ m : Nat, n = m := ⟨n.toNat, by omega⟩
    have hm : m ≤ 60 := by omega
    clear hn
    go_enter Try.func5, Try.ntmps5
    go_wp2_with fail
    refine (new_db 4 (Nat.le_refl _) (Below.refl _ _) (by omega) (by omega)).mono ?_
    rintro e w1 ⟨rfl, hF⟩
    have hrm := fuse_db hF m keep 0 (by omega)
    rw [fs_zero] at hrm
    clear hF
    go_wp2_with fail
    refine hrm.mono ?_
    rintro e w2 ⟨rfl, hF2⟩
    clear hrm
    go_wp2_with fail
    go_loopw [7] (fun i wr => ∃ k : Nat, k ≤ m ∧ i = .int .i64 k ∧ DB w.heap.size w wr (w.heap.size + 2) (fsVD m keep k)) (fun i _ => m - (intOf i).toNat)
    case atStart => exact ⟨0, Nat.zero_le _, rfl, hF2⟩
    case round =>
      clear hF2
      obtain ⟨k, hk, rfl, hF⟩ := hrel
      by_cases hlt : k < m
      · have Hwr : Hid (∀ w3, Below wr.heap.size wr w3 → Calls Try.prog 13 #[.pointer (some ⟨w.heap.size + 2, 0, none⟩), .int .i64 ((k % 4 : Nat) : Int), .string ⟨(rowL ((k : Int) + 1)).toArray⟩] w3 fun e w2 => e = .returned (.int .i64 0) ∧ DB w.heap.size w w2 (w.heap.size + 2) (fsVD m keep (k + 1))) := Lib.hid (fun w3 hb => by
          have := write_db (hF.below hb) ((k % 4 : Nat) : Int) ⟨(rowL ((k : Int) + 1)).toArray⟩ (row_size _) (by simp only [fsVD]; omega)
          rw [bytes_toList, fs_write m keep k (by omega)] at this
          exact this)
        clear hF
        have ha3 := and3 k (by omega)
        obtain ⟨j, hj⟩ : ∃ j : Int, ((k % 4 : Nat) : Int) = j := ⟨_, rfl⟩
        rw [hj] at ha3 Hwr
        clear hj
        go_wp2_with fail
        refine (row_any _ _).mono ?_
        rintro e w3 ⟨rfl, hb3⟩
        go_wp2_with fail
        refine (Hwr.out _ hb3).mono ?_
        rintro e w4 ⟨rfl, hF4⟩
        go_wp2_with fail
        go_roundw
        case rel => exact ⟨k + 1, by omega, by go_num, hF4⟩
        case measure => simp [intOf]; omega
      · obtain rfl : k = m := by omega
        go_wp2_with fail
        refine (row_any _ _).mono ?_
        rintro e w3 ⟨rfl, hb3⟩
        have h4 := write_db (hF.below hb3) 0 ⟨(rowL 99).toArray⟩ (row_size _) (by simp only [fsVD]; omega)
        rw [bytes_toList, fs_burn] at h4
        clear hF hb3
        go_wp2_with fail
        refine h4.mono ?_
        rintro e w4 ⟨rfl, hF4⟩
        have h5 := on_db hF4
        simp only [fs_off] at h5
        have h6 := sync_db hF4
        rw [fs_sync] at h6
        clear h4 hF4
        go_wp2_with fail
        refine h5.mono ?_
        rintro e w5 ⟨rfl, rfl⟩
        clear h5
        go_wp2_with fail
        refine h6.mono ?_
        rintro e w5 ⟨rfl, hF5⟩
        have h7 := read_db hF5 0
        rw [fs_read] at h7
        unfold rdV at h7
        clear h6 hF5
        go_wp2_with fail
        refine h7.mono ?_
        rintro e w6 ⟨rfl, hF6⟩
        have h8 := restore_db hF6
        clear h7 hF6
        go_wp2_with fail
        refine h8.mono ?_
        rintro e w7 ⟨rfl, hF7⟩
        clear h8
        go_wp2_with fail
        refine (row_any _ _).mono ?_
        rintro e w8 ⟨rfl, hb8⟩
        have h9 := write_db (hF7.below hb8) 0 ⟨(rowL 98).toArray⟩ (row_size _) (by simp only [fs_writes]; omega)
        rw [bytes_toList, (fs_more k keep).1] at h9
        clear hF7 hb8
        go_wp2_with fail
        refine h9.mono ?_
        rintro e w9 ⟨rfl, hF9⟩
        clear h9
        go_wp2_with fail
        refine (alive_any _).mono ?_
        rintro e w10 ⟨rfl, hb10⟩
        have hF10 := hF9.below hb10
        clear hF9 hb10
        have h12 := writes_db hF10
        rw [(fs_more k keep).2] at h12
        go_wp2_with fail
        refine h12.mono ?_
        rintro e w12 ⟨rfl, rfl⟩
        go_wp2_with fail
        go_ret
        exact ⟨rfl, hF10.toBelow⟩
end Go.Proofs.Ytmkcmahfededeaa
