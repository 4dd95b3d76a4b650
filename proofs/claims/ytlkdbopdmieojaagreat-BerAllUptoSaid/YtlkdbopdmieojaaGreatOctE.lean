/- The contracts of octet.Get, octet.Signed and their references: a number read from bytes, or error 1; the world stays. No conditions. -/
import Derived.Test.YtlkdbopdmieojaaGreatProg
import Derived.Test.YtlkdbopdmieojaaGreatPlainC
import Derived.WalkKit
import Derived.ProofKit
import Derived.Lib.Hide
import Derived.LoopTactic
import Derived.Outline
namespace Go.Proofs.YtlkdbopdmieojaaGreat
open Go.RowKit
set_option maxRecDepth 20000
theorem len_take (s : ByteArray) (k : Nat) (h : k ≤ 6) : (s.data.toList.take k).length ≤ 6 := by
  have := List.length_take_le k s.data.toList; omega
theorem wrap_byte (c : UInt8) : wrap64 (c.toNat : Int) = (c.toNat : Int) := by
  have hc : c.toNat < 256 := c.toNat_lt
  exact IntWalk.wrap64_in _ ⟨by omega, by omega⟩
theorem sgn0_eq (s : ByteArray) (h : 0 < s.size) : Oct.sgn0 s.data.toList = if 128 ≤ (s[0].toNat : Int) then -1 else 0 := by
  have e : s.data.toList.headD 0 = s[0] := by
    have h2 : 0 < s.data.toList.length := by simpa using h
    have : s.data.toList = s.data.toList[0] :: s.data.toList.drop 1 := by rw [← List.drop_eq_getElem_cons h2, List.drop_zero]
    rw [this]
    rfl
  unfold Oct.sgn0
  rw [e]
  by_cases hc : 128 ≤ s[0].toNat
  · rw [if_pos hc, if_pos (by omega)]
  · rw [if_neg hc, if_neg (by omega)]
set_option maxHeartbeats 400000 in
theorem get_in (s : ByteArray) (w : World) (h1 : 1 ≤ s.size) (h7 : s.size ≤ 7) :
    Calls Tryz.prog 146 #[.string s] w fun e w' => e = .returned (.tuple #[.int .i64 (Oct.getFrom 0 s.data.toList), .int .i64 0]) ∧ w = w' := by
  go_enter Tryz.func146, Tryz.ntmps146
  go_wp2
  go_loop [4, 16] (fun v i => ∃ k : Nat, k ≤ s.size ∧ i = .int .i64 k ∧ v = .int .i64 (Oct.getFrom 0 (s.data.toList.take k))) (fun _ i => s.size - (intOf i).toNat)
  case atStart => exact ⟨0, Nat.zero_le _, rfl, rfl⟩
  case round =>
    obtain ⟨k, hk, rfl, rfl⟩ := hrel
    by_cases hlt : k < s.size
    · obtain ⟨b1, b2⟩ := Oct.get_bd (s.data.toList.take k) (len_take s k (by omega))
      have HS := Lib.hid (Oct.getFrom_take 0 s k hlt)
      have HO := Lib.hid (Oct.or_byte (Oct.getFrom 0 (s.data.toList.take k)) s[k] (by omega) (by omega))
      generalize Oct.getFrom 0 (s.data.toList.take k) = x at b1 b2 HS HO ⊢
      go_wp2
      go_round
      case rel => exact ⟨k + 1, by omega, by go_num, by rw [wrap_byte, HO.out, HS.out]⟩
      case measure => simp [intOf]; omega
    · go_wp2
      go_ret2
      exact ⟨by rw [Oct.take_all s k hlt]; rfl, rfl⟩
set_option maxHeartbeats 400000 in
theorem refGet_in (s : ByteArray) (w : World) (h1 : 1 ≤ s.size) (h7 : s.size ≤ 7) :
    Calls Tryz.prog 148 #[.string s] w fun e w' => e = .returned (.tuple #[.int .i64 (Oct.getFrom 0 s.data.toList), .int .i64 0]) ∧ w = w' := by
  go_enter Tryz.func148, Tryz.ntmps148
  go_wp2
  go_loop [4, 5] (fun v i => ∃ k : Nat, k ≤ s.size ∧ i = .int .i64 k ∧ v = .int .i64 (Oct.getFrom 0 (s.data.toList.take k))) (fun _ i => s.size - (intOf i).toNat)
  case atStart => exact ⟨0, Nat.zero_le _, rfl, rfl⟩
  case round =>
    obtain ⟨k, hk, rfl, rfl⟩ := hrel
    by_cases hlt : k < s.size
    · obtain ⟨b1, b2⟩ := Oct.get_bd (s.data.toList.take k) (len_take s k (by omega))
      have HS := Lib.hid (Oct.getFrom_take 0 s k hlt)
      have hc : s[k].toNat < 256 := s[k].toNat_lt
      generalize Oct.getFrom 0 (s.data.toList.take k) = x at b1 b2 HS ⊢
      go_wp2
      go_round
      case rel => exact ⟨k + 1, by omega, by go_num, by rw [HS.out]⟩
      case measure => simp [intOf]; omega
    · go_wp2
      go_ret2
      exact ⟨by rw [Oct.take_all s k hlt]; rfl, rfl⟩
set_option maxHeartbeats 400000 in
theorem get_out (s : ByteArray) (w : World) (h : (s.size : Int) < 1 ∨ (7 : Int) < s.size) :
    Calls Tryz.prog 146 #[.string s] w fun e w' => e = .returned (.tuple #[.int .i64 0, .int .i64 1]) ∧ w = w' := by
  go_enter Tryz.func146, Tryz.ntmps146
  go_wp2
  all_goals first | omega | (go_ret2; exact ⟨rfl, rfl⟩)
set_option maxHeartbeats 400000 in
theorem refGet_out (s : ByteArray) (w : World) (h : (s.size : Int) < 1 ∨ (7 : Int) < s.size) :
    Calls Tryz.prog 148 #[.string s] w fun e w' => e = .returned (.tuple #[.int .i64 0, .int .i64 1]) ∧ w = w' := by
  go_enter Tryz.func148, Tryz.ntmps148
  go_wp2
  all_goals first | omega | (go_ret2; exact ⟨rfl, rfl⟩)
theorem wrap_i8' (n : Int) : IntKind.i8.wrap n = (n + 128) % 256 - 128 := by
  simp [IntKind.wrap, IntKind.bits, IntKind.signed]
  split <;> omega
theorem first_i8 (s : ByteArray) (h : 0 < s.size) : wrap64 (IntKind.i8.wrap (s[0].toNat : Int)) = Oct.getFrom (Oct.sgn0 s.data.toList) (s.data.toList.take 1) := by
  have hc : s[0].toNat < 256 := s[0].toNat_lt
  have e := Oct.getFrom_take (Oct.sgn0 s.data.toList) s 0 h
  rw [Nat.zero_add] at e
  rw [e, sgn0_eq s h, wrap_i8', IntWalk.wrap64_in _ ⟨by omega, by omega⟩, List.take_zero]
  unfold Oct.getFrom
  rw [List.foldl_nil]
  split <;> omega
/-- what a Get answers -/
def getV (s : ByteArray) : Value := if 1 ≤ s.size ∧ s.size ≤ 7 then .tuple #[.int .i64 (Oct.getFrom 0 s.data.toList), .int .i64 0] else .tuple #[.int .i64 0, .int .i64 1]
/-- what a Signed answers -/
def sgnV (s : ByteArray) : Value := if 1 ≤ s.size ∧ s.size ≤ 8 then .tuple #[.int .i64 (Oct.sgnZ s.data.toList), .int .i64 0] else .tuple #[.int .i64 0, .int .i64 1]
theorem get_any (s : ByteArray) (w : World) : Calls Tryz.prog 146 #[.string s] w fun e w' => e = .returned (getV s) ∧ w = w' := by
  unfold getV
  by_cases h : 1 ≤ s.size ∧ s.size ≤ 7
  · rw [if_pos h]; exact get_in s w h.1 h.2
  · rw [if_neg h]; exact get_out s w (by omega)
theorem refGet_any (s : ByteArray) (w : World) : Calls Tryz.prog 148 #[.string s] w fun e w' => e = .returned (getV s) ∧ w = w' := by
  unfold getV
  by_cases h : 1 ≤ s.size ∧ s.size ≤ 7
  · rw [if_pos h]; exact refGet_in s w h.1 h.2
  · rw [if_neg h]; exact refGet_out s w (by omega)
end Go.Proofs.YtlkdbopdmieojaaGreat
