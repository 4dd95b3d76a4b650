/- The contract of chanceryref1.Compare. The condition: the model's own bound on a text. -/
import Derived.Test.YteajgkjiappkiaaDoorOctG
import Derived.Lib.Bytealg
namespace Go.Proofs.YteajgkjiappkiaaDoor
open Go.RowKit
theorem drop_head (s : ByteArray) (k : Nat) (h : k < s.size) : s.data.toList.drop k = s[k] :: s.data.toList.drop (k + 1) := by
  rw [List.drop_eq_getElem_cons (by simpa using h)]; rfl
theorem drop_none (s : ByteArray) (k : Nat) (h : ¬ k < s.size) : s.data.toList.drop k = [] := List.drop_of_length_le (by simp; omega)
section
variable {a b : ByteArray} {k : Nat}
theorem cmp_lt (ha : k < a.size) (hb : k < b.size) (h : (a[k].toNat : Int) < b[k].toNat) : Lib.compareBytes (a.data.toList.drop k) (b.data.toList.drop k) = -1 := by
  rw [drop_head a k ha, drop_head b k hb, Lib.compareBytes, if_pos (by rw [UInt8.lt_iff_toNat_lt]; omega)]
theorem cmp_gt (ha : k < a.size) (hb : k < b.size) (h : (b[k].toNat : Int) < a[k].toNat) : Lib.compareBytes (a.data.toList.drop k) (b.data.toList.drop k) = 1 := by
  rw [drop_head a k ha, drop_head b k hb, Lib.compareBytes, if_neg (by rw [UInt8.lt_iff_toNat_lt]; omega), if_pos (by rw [UInt8.lt_iff_toNat_lt]; omega)]
theorem cmp_eq (ha : k < a.size) (hb : k < b.size) (h1 : ¬ (a[k].toNat : Int) < b[k].toNat) (h2 : ¬ (b[k].toNat : Int) < a[k].toNat) :
    Lib.compareBytes (a.data.toList.drop k) (b.data.toList.drop k) = Lib.compareBytes (a.data.toList.drop (k + 1)) (b.data.toList.drop (k + 1)) := by
  rw [drop_head a k ha, drop_head b k hb, Lib.compareBytes, if_neg (by rw [UInt8.lt_iff_toNat_lt]; omega), if_neg (by rw [UInt8.lt_iff_toNat_lt]; omega)]
theorem cmp_short (ha : ¬ k < a.size) (hb : k < b.size) : Lib.compareBytes (a.data.toList.drop k) (b.data.toList.drop k) = -1 := by
  rw [drop_none a k ha, drop_head b k hb, Lib.compareBytes]
theorem cmp_long (ha : k < a.size) (hb : ¬ k < b.size) : Lib.compareBytes (a.data.toList.drop k) (b.data.toList.drop k) = 1 := by
  rw [drop_none b k hb, drop_head a k ha, Lib.compareBytes]
theorem cmp_none (ha : ¬ k < a.size) (hb : ¬ k < b.size) : Lib.compareBytes (a.data.toList.drop k) (b.data.toList.drop k) = 0 := by
  rw [drop_none a k ha, drop_none b k hb, Lib.compareBytes]
end
set_option maxHeartbeats 1000000 in
theorem refCompare_any (a b : ByteArray) (w : World) (ha : a.size ≤ maxLen) :
    Calls Tryd.prog 25 #[.string a, .string b] w fun e w' => e = .returned (.int .i64 (Lib.compareBytes a.data.toList b.data.toList)) ∧ Below w.heap.size w w' := by
  unfold maxLen at ha
  go_enter Tryd.func25, Tryd.ntmps25
  go_wp2
  go_loopw [5] (fun i wr => ∃ k : Nat, k ≤ a.size ∧ k ≤ b.size ∧ i = .int .i64 k ∧ Hid (Lib.compareBytes a.data.toList b.data.toList = Lib.compareBytes (a.data.toList.drop k) (b.data.toList.drop k)) ∧ Below w.heap.size w wr) (fun i _ => a.size - (intOf i).toNat)
  case atStart => exact ⟨0, Nat.zero_le _, Nat.zero_le _, rfl, Lib.hid rfl, Below.refl _ _⟩
  case round =>
    obtain ⟨k, hka, hkb, rfl, HC, hbel⟩ := hrel
    by_cases h1 : k < a.size
    · by_cases h2 : k < b.size
      · have q0 : (0 : Int) ≤ (k : Int) := by omega
        have q1 : (k : Int) < (a.size : Int) := by omega
        have q2 : (k : Int) < (b.size : Int) := by omega
        go_wp2_with fail
        go_quiet (fail)
        by_cases t1 : (a[k].toNat : Int) < b[k].toNat
        · go_wp2_with fail
          go_ret
          exact ⟨ret_int (by rw [HC.out, cmp_lt h1 h2 t1]), below_drewN hbel _⟩
        · go_wp2_with fail
          go_quiet (fail)
          by_cases t2 : (b[k].toNat : Int) < a[k].toNat
          · go_wp2_with fail
            go_ret
            exact ⟨ret_int (by rw [HC.out, cmp_gt h1 h2 t2]), below_drewN (below_drewN hbel _) _⟩
          · go_wp2_with fail
            go_roundw
            case rel => exact ⟨k + 1, by omega, by omega, by go_num, Lib.hid (by rw [HC.out, cmp_eq h1 h2 (by omega) (by omega)]), below_drewN hbel _⟩
            case measure => simp [intOf]; omega
      · go_wp2_with fail
        go_ret
        exact ⟨ret_int (by rw [HC.out, cmp_long h1 h2]), hbel⟩
    · by_cases h2 : k < b.size
      · go_wp2_with fail
        go_ret
        exact ⟨ret_int (by rw [HC.out, cmp_short h1 h2]), hbel⟩
      · go_wp2_with fail
        go_ret
        exact ⟨ret_int (by rw [HC.out, cmp_none h1 h2]), hbel⟩
end Go.Proofs.YteajgkjiappkiaaDoor
