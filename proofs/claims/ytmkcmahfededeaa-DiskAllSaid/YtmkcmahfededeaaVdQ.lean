/- The walk of the law DiskRoom. -/
import Derived.Test.YtmkcmahfededeaaVdO
namespace Go.Proofs.Ytmkcmahfededeaa
open Go.RowKit Go.Maps
/-- the disk behind k writes, of n that have room -/
def rmVD (n : Int) (k : Nat) : Vd.VD := { newVD 4 with q := (List.range k).map (fun j : Nat => ((1 : Nat), rowL ((j : Int) + 1))), room := n - k, writes := k }
theorem bytes_toList (l : List UInt8) : (⟨l.toArray⟩ : ByteArray).data.toList = l := by simp
theorem bytes_size (l : List UInt8) : (⟨l.toArray⟩ : ByteArray).size = l.length := by simp [ByteArray.size]
theorem rm_asked (n : Int) (k : Nat) : Vd.asked (rmVD n k) 1 = 0 := by simp [Vd.asked, rmVD, newVD]
theorem rm_write (n : Int) (k : Nat) (h : (k : Int) < n) : Vd.write (rmVD n k) 1 (rowL ((k : Int) + 1)) = (0, rmVD n (k + 1)) := by
  unfold Vd.write
  rw [if_neg (by simp [rm_asked]), if_neg (by simp [rowL]), if_neg (by simp only [rmVD]; omega)]
  have hb : Vd.burns (rmVD n k) = (false, rmVD n k) := rfl
  simp only [hb]
  simp [rmVD, List.range_succ]
  split <;> omega
theorem rm_full (n : Nat) : Vd.write (rmVD n n) 1 (rowL 99) = (83, rmVD n n) := by
  unfold Vd.write
  rw [if_neg (by simp [rm_asked]), if_neg (by simp [rowL]), if_pos (by simp only [rmVD]; omega)]
def rmS (n : Nat) : Vd.VD := { rmVD n n with secs := Vd.lay (rmVD n n).secs (rmVD n n).q, q := [] }
theorem rm_sync (n : Nat) : Vd.sync (rmVD n n) = (0, rmS n) := rfl
theorem rm_lay (k : Nat) : (Vd.lay (newVD 4).secs ((List.range k).map (fun j : Nat => ((1 : Nat), rowL ((j : Int) + 1))))).getD 1 [] = rowL k := by
  cases k with
  | zero => decide +kernel
  | succ k =>
    rw [List.range_succ, List.map_append, List.map_singleton, Vd.lay_snoc, List.getD_eq_getElem?_getD, List.getElem?_set_self (by rw [Vd.lay_length]; simp [newVD])]
    rfl
theorem rm_read (n : Nat) : Vd.read (rmS n) 1 = (0, rowL n) := by
  unfold Vd.read
  have h : Vd.asked (rmS n) 1 = 0 := by simp [Vd.asked, rmS, rmVD, newVD, Vd.lay_length]
  rw [if_neg (by simp [h])]
  have : Vd.look (rmS n) 1 = rowL n := rm_lay n
  exact congrArg _ this
theorem rm_more (n : Nat) : (Vd.write { rmS n with room := max (-1) (-1) } 1 (rowL 99)).1 = 0 ∧ (Vd.write { rmS n with room := max (-1) (-1) } 1 (rowL 99)).2.writes = (n : Int) + 1 := by
  have h : Vd.asked { rmS n with room := max (-1) (-1) } 1 = 0 := by simp [Vd.asked, rmS, rmVD, newVD, Vd.lay_length]
  unfold Vd.write
  rw [if_neg (by rw [h]; simp), if_neg (by simp [rowL]), if_neg (by simp), if_neg (by simp [Vd.burns, rmS, rmVD, newVD])]
  exact ⟨rfl, rfl⟩
theorem row_size (v : Int) : (⟨(rowL v).toArray⟩ : ByteArray).size ≤ 9223372036854775807 := by rw [bytes_size, rowL_length]; omega
set_option maxHeartbeats 1000000 in
theorem diskRoom_walk (n : Int) (w : World) : Calls Try.prog 4 #[.int .i64 n] w fun e w' => e = .returned (.bool true) ∧ Below w.heap.size w w' := by
  by_cases hn : n < 0 ∨ 60 < n
  · have hal := alive_any w
    rcases hn with h | h
    · go_enter Try.func4, Try.ntmps4
      go_wp2_with fail
      refine hal.mono ?_
      rintro e w1 ⟨rfl, hb⟩
      go_wp2_with fail
      go_ret
      exact ⟨rfl, hb⟩
    · have h' : ¬ n < 0 := by omega
      go_enter Try.func4, Try.ntmps4
      go_wp2_with fail
      refine hal.mono ?_
      rintro e w1 ⟨rfl, hb⟩
      go_wp2_with fail
      go_ret
      exact ⟨rfl, hb⟩
  · obtain ⟨m, rfl⟩ : ∃ m : Nat, n = m := ⟨n.toNat, by omega⟩
    have hm : m ≤ 60 := by omega
    clear hn
    go_enter Try.func4, Try.ntmps4
    go_wp2_with fail
    refine (new_db 4 (Nat.le_refl _) (Below.refl _ _) (by omega) (by omega)).mono ?_
    rintro e w1 ⟨rfl, hF⟩
    have hrm := room_db hF m (by omega)
    have e1 : ({ newVD 4 with room := max (m : Int) (-1) } : Vd.VD) = rmVD m 0 := by
      unfold rmVD newVD
      simp
      omega
    rw [e1] at hrm
    clear e1 hF
    go_wp2_with fail
    refine hrm.mono ?_
    rintro e w2 ⟨rfl, hF2⟩
    clear hrm
    go_wp2_with fail
    go_loopw [5] (fun i wr => ∃ k : Nat, k ≤ m ∧ i = .int .i64 k ∧ DB w.heap.size w wr (w.heap.size + 2) (rmVD m k)) (fun i _ => m - (intOf i).toNat)
    case atStart => exact ⟨0, Nat.zero_le _, rfl, hF2⟩
    case round =>
      clear hF2
      obtain ⟨k, hk, rfl, hF⟩ := hrel
      by_cases hlt : k < m
      · have Hwr : Hid (∀ w3, Below wr.heap.size wr w3 → Calls Try.prog 13 #[.pointer (some ⟨w.heap.size + 2, 0, none⟩), .int .i64 1, .string ⟨(rowL ((k : Int) + 1)).toArray⟩] w3 fun e w2 => e = .returned (.int .i64 0) ∧ DB w.heap.size w w2 (w.heap.size + 2) (rmVD m (k + 1))) := Lib.hid (fun w3 hb => by
          have := write_db (hF.below hb) 1 ⟨(rowL ((k : Int) + 1)).toArray⟩ (row_size _) (by simp only [rmVD]; omega)
          rw [bytes_toList, rm_write m k (by omega)] at this
          exact this)
        clear hF
        go_wp2_with fail
        refine (row_any _ _).mono ?_
        rintro e w3 ⟨rfl, hb3⟩
        go_wp2_with fail
        refine (Hwr.out _ hb3).mono ?_
        rintro e w4 ⟨rfl, hF4⟩
        go_wp2_with fail
        go_roundw
        case rel => exact ⟨k + 1, by omega, by go_num, hF4⟩
        case measure => simp [intOf]; omega
      · obtain rfl : k = m := by omega
        go_wp2_with fail
        refine (row_any _ _).mono ?_
        rintro e w3 ⟨rfl, hb3⟩
        have h4 := write_db (hF.below hb3) 1 ⟨(rowL 99).toArray⟩ (row_size _) (by simp only [rmVD]; omega)
        rw [bytes_toList, rm_full] at h4
        clear hF hb3
        go_wp2_with fail
        refine h4.mono ?_
        rintro e w4 ⟨rfl, hF4⟩
        have h5 := sync_db hF4
        rw [rm_sync] at h5
        clear h4 hF4
        go_wp2_with fail
        refine h5.mono ?_
        rintro e w5 ⟨rfl, hF5⟩
        have h6 := read_db hF5 1
        rw [rm_read] at h6
        unfold rdV at h6
        clear h5 hF5
        obtain ⟨r, hr⟩ : ∃ r : ByteArray, (⟨(rowL k).toArray⟩ : ByteArray) = r := ⟨_, rfl⟩
        simp only [hr] at h6
        go_wp2_with fail
        refine h6.mono ?_
        rintro e w6 ⟨rfl, hF6⟩
        have h7 := room_db hF6 (-1) (by omega)
        clear h6 hF6
        have Hr := Lib.hid hr
        clear hr
        go_wp2_with fail
        refine h7.mono ?_
        rintro e w7 ⟨rfl, hF7⟩
        clear h7
        go_wp2_with fail
        refine (alive_any _).mono ?_
        rintro e w8 ⟨rfl, hb8⟩
        have hF8 := hF7.below hb8
        clear hF7 hb8
        go_wp2_with fail
        refine (row_any _ _).mono ?_
        rintro e w9 ⟨rfl, hb9⟩
        have hF9 := hF8.below hb9
        clear hF8 hb9
        rw [Hr.out]
        go_wp2_with fail
        refine (row_any _ _).mono ?_
        rintro e w10 ⟨rfl, hb10⟩
        have h11 := write_db (hF9.below hb10) 1 ⟨(rowL 99).toArray⟩ (row_size _) (by simp only [rmS, rmVD]; omega)
        rw [bytes_toList, (rm_more k).1] at h11
        clear hF9 hb10
        go_wp2_with fail
        refine h11.mono ?_
        rintro e w11 ⟨rfl, hF11⟩
        have h12 := writes_db hF11
        rw [(rm_more k).2] at h12
        clear h11
        go_wp2_with fail
        refine h12.mono ?_
        rintro e w12 ⟨rfl, rfl⟩
        go_wp2_with fail
        go_ret
        exact ⟨rfl, hF11.toBelow⟩
end Go.Proofs.Ytmkcmahfededeaa
