/- The contracts of octet.Hex and chanceryref1.Hex: two digits a byte. The condition: the digits fit in the model's memory. -/
import Derived.Test.YteajgkjiappkiaaOctB
import Derived.OwnWalk
import Derived.Deep.RegionHeld3
import Derived.Deep.AppendLies
import Derived.Laws.AppendOwn
import Derived.RegionTactic
import Derived.BigQuiet
namespace Go.Proofs.Yteajgkjiappkiaa
open Go.RowKit
theorem run_index_hex {P : Program} {w : World} (t : TypeId) (k : IntKind) (i : Int) (h : P.underlying t = some .string) (h0 : 0 ≤ i) (h1 : i ≤ 15) :
    (Instr.index t (.string ⟨#[48, 49, 50, 51, 52, 53, 54, 55, 56, 57, 97, 98, 99, 100, 101, 102]⟩) (.int k i)).run P w = .ok (.int .u8 ((Oct.hexD i.toNat).toNat : Int)) w := by
  have hz : (⟨#[48, 49, 50, 51, 52, 53, 54, 55, 56, 57, 97, 98, 99, 100, 101, 102]⟩ : ByteArray).size = 16 := rfl
  have hi : 0 ≤ i ∧ i < ((⟨#[48, 49, 50, 51, 52, 53, 54, 55, 56, 57, 97, 98, 99, 100, 101, 102]⟩ : ByteArray).size : Int) := by rw [hz]; omega
  rw [run_index_string w t _ k i h, dif_pos hi]
  obtain ⟨n, rfl⟩ := Int.eq_ofNat_of_zero_le h0
  have hn : n < 16 := by omega
  have : ∀ m : Fin 16, (⟨#[48, 49, 50, 51, 52, 53, 54, 55, 56, 57, 97, 98, 99, 100, 101, 102]⟩ : ByteArray)[m.val]'(m.isLt) = Oct.hexD m.val := by decide
  simp only [Int.toNat_natCast]
  exact congrArg (fun c : UInt8 => Result.ok (Value.int .u8 (c.toNat : Int)) w) (this ⟨n, hn⟩)
theorem and15 (c : UInt8) : bits .and .u8 (c.toNat : Int) 15 = (c.toNat : Int) % 16 := by
  have hc : c.toNat < 256 := c.toNat_lt
  have := u8_and_nat c.toNat 15 hc (by omega)
  rw [show ((15 : Nat) : Int) = 15 from rfl] at this
  rw [this, show (15 : Nat) = 2 ^ 4 - 1 from rfl, Nat.and_two_pow_sub_one_eq_mod]
  omega
theorem tdiv16 (c : UInt8) : Int.tdiv (c.toNat : Int) 16 = (c.toNat : Int) / 16 := Int.tdiv_eq_ediv_of_nonneg (by omega)
theorem tmod16 (c : UInt8) : Int.tmod (c.toNat : Int) 16 = (c.toNat : Int) % 16 := Int.tmod_eq_emod_of_nonneg (by omega)
theorem wrap16 (c : UInt8) : IntKind.u8.wrap ((c.toNat : Int) / 16) = (c.toNat : Int) / 16 := by
  have hc : c.toNat < 256 := c.toNat_lt
  rw [IntKind.wrap_u8]; omega
theorem wrap16' (c : UInt8) : IntKind.u8.wrap (Int.tdiv (c.toNat : Int) 16) = (c.toNat : Int) / 16 := by rw [tdiv16, wrap16]
attribute [local go_sem ↓] run_index_hex
attribute [local go_sem] and15 tdiv16 tmod16 wrap16 wrap16'
theorem hex_step {w1 : World} {B k : Nat} {t : TypeId} {v : Value} {s : ByteArray} (hk : k < s.size) (h : w1.ownsRow B t 1 v (2 * k + 2)
    (bl (Oct.hexL (s.data.toList.take k)) ++ [.int .u8 ((Oct.hexD ((s[k].toNat : Int) / 16).toNat).toNat : Int), .int .u8 ((Oct.hexD ((s[k].toNat : Int) % 16).toNat).toNat : Int)])) :
    w1.ownsRow B t 1 v (2 * (k + 1)) (bl (Oct.hexL (s.data.toList.take (k + 1)))) := by
  rw [Oct.take_snoc s k hk, Oct.hexL_snoc, bl_append, show 2 * (k + 1) = 2 * k + 2 from by omega]
  rw [show ((s[k].toNat : Int) / 16).toNat = s[k].toNat / 16 from by omega, show ((s[k].toNat : Int) % 16).toNat = s[k].toNat % 16 from by omega] at h
  exact h
set_option maxHeartbeats 400000 in
theorem hex_any (s : ByteArray) (w : World) (hs : s.size ≤ 70368744177664) :
    Calls Try.prog 13 #[.string s] w fun e w' => e = .returned (.string ⟨(Oct.hexL s.data.toList).toArray⟩) ∧ Below w.heap.size w w' := by
  obtain ⟨i0, hi0, hz0, hz1, hz2⟩ := info_parts u8_info
  have hmk := fun W => make_bytes' (P := Try.prog) 37 5 i0 Try.underlying37 hi0 hz0 hz1 hz2 .i64 .i64 0 (2 * (s.size : Int)) 0 (2 * s.size) rfl (by omega) (by omega) (by omega) W
  go_enter Try.func13, Try.ntmps13
  go_wp2
  clear hmk
  go_loopw [3, 11] (fun v i wr => ∃ k : Nat, k ≤ s.size ∧ i = .int .i64 k ∧ wr.ownsRow w.heap.size 5 1 v (2 * k) (bl (Oct.hexL (s.data.toList.take k))) ∧ Below w.heap.size w wr) (fun _ i _ => s.size - (intOf i).toNat)
  case atStart => exact ⟨0, Nat.zero_le _, rfl, own_new w _ _ (by unfold maxLen; omega), (Below.refl _ _).alloc (Nat.le_refl _) _⟩
  case round =>
    obtain ⟨k, hk, rfl, hown, hbel⟩ := hrel
    by_cases hlt : k < s.size
    · have hc : s[k].toNat < 256 := s[k].toNat_lt
      have d1 : (0 : Int) ≤ (s[k].toNat : Int) / 16 := by omega
      have d2 : (s[k].toNat : Int) / 16 ≤ 15 := by omega
      have d3 : (0 : Int) ≤ (s[k].toNat : Int) % 16 := by omega
      have d4 : (s[k].toNat : Int) % 16 ≤ 15 := by omega
      have hk0 : (0 : Int) ≤ (k : Int) := by omega
      have hk1 : (k : Int) < (s.size : Int) := by omega
      go_wp2
      go_region_held3 (fun _ => True) (trivial)
       ((refine step_append_lies _ (by rfl) _ _ _ (by rfl) w.heap.size 5 i0 _ 1 1 Try.underlying37 hi0 hz0 hz1 hz2 rfl (by omega) _ (2 * k) (bl (Oct.hexL (s.data.toList.take k))) (by rfl) ((hown.alloc _).drew)
            ⟨wr.heap.size, 0, none⟩ 2 2 [_, _] (by rfl) (by rfl) (World.news_of_block (cs := #[_, _]) (t := 5) (fr := (0, 0)) (heap_alloc_new wr _)) (by simp [Value.oneCell'])
            (by omega) (by unfold maxLen; omega) (by omega) (by have := hbel.size; simp; omega) (wr.heap.size + 1) (by simp) ?_; intro gg cap w1 hown1 hgrow hat hlt1))
      all_goals
        go_wp2
        go_roundw
        case rel => exact ⟨k + 1, by omega, by go_num, hex_step hlt hown1, (((hbel.alloc (hbel.size) _).drew).grown hgrow (by have := hbel.size; simp; omega) (fun j hj => (hown.lt j hj).1))⟩
        case measure => simp [intOf]; omega
    · have hcv := string_of_own (P := Try.prog) hown 37 9 Try.underlying37 Try.underlying5 Try.underlying9
      rw [Oct.take_all s k hlt] at hcv
      clear hown
      go_wp2
      go_ret
      exact ⟨rfl, hbel⟩
set_option maxHeartbeats 400000 in
theorem refHex_any (s : ByteArray) (w : World) (hs : s.size ≤ 70368744177664) :
    Calls Try.prog 17 #[.string s] w fun e w' => e = .returned (.string ⟨(Oct.hexL s.data.toList).toArray⟩) ∧ Below w.heap.size w w' := by
  obtain ⟨i0, hi0, hz0, hz1, hz2⟩ := info_parts u8_info
  have hmk := fun W => make_bytes' (P := Try.prog) 37 5 i0 Try.underlying37 hi0 hz0 hz1 hz2 .i64 .i64 0 (2 * (s.size : Int)) 0 (2 * s.size) rfl (by omega) (by omega) (by omega) W
  go_enter Try.func17, Try.ntmps17
  go_wp2
  clear hmk
  go_loopw [3, 4] (fun v i wr => ∃ k : Nat, k ≤ s.size ∧ i = .int .i64 k ∧ wr.ownsRow w.heap.size 5 1 v (2 * k) (bl (Oct.hexL (s.data.toList.take k))) ∧ Below w.heap.size w wr) (fun _ i _ => s.size - (intOf i).toNat)
  case atStart => exact ⟨0, Nat.zero_le _, rfl, own_new w _ _ (by unfold maxLen; omega), (Below.refl _ _).alloc (Nat.le_refl _) _⟩
  case round =>
    obtain ⟨k, hk, rfl, hown, hbel⟩ := hrel
    by_cases hlt : k < s.size
    · have hc : s[k].toNat < 256 := s[k].toNat_lt
      have d1 : (0 : Int) ≤ (s[k].toNat : Int) / 16 := by omega
      have d2 : (s[k].toNat : Int) / 16 ≤ 15 := by omega
      have d3 : (0 : Int) ≤ (s[k].toNat : Int) % 16 := by omega
      have d4 : (s[k].toNat : Int) % 16 ≤ 15 := by omega
      have hk0 : (0 : Int) ≤ (k : Int) := by omega
      have hk1 : (k : Int) < (s.size : Int) := by omega
      go_wp2
      go_region_held3 (fun _ => True) (trivial)
       ((refine step_append_lies _ (by rfl) _ _ _ (by rfl) w.heap.size 5 i0 _ 1 1 Try.underlying37 hi0 hz0 hz1 hz2 rfl (by omega) _ (2 * k) (bl (Oct.hexL (s.data.toList.take k))) (by rfl) ((hown.alloc _).drew)
            ⟨wr.heap.size, 0, none⟩ 2 2 [_, _] (by rfl) (by rfl) (World.news_of_block (cs := #[_, _]) (t := 5) (fr := (0, 0)) (heap_alloc_new wr _)) (by simp [Value.oneCell'])
            (by omega) (by unfold maxLen; omega) (by omega) (by have := hbel.size; simp; omega) (wr.heap.size + 1) (by simp) ?_; intro gg cap w1 hown1 hgrow hat hlt1))
      all_goals
        go_wp2
        go_roundw
        case rel => exact ⟨k + 1, by omega, by go_num, hex_step hlt hown1, (((hbel.alloc (hbel.size) _).drew).grown hgrow (by have := hbel.size; simp; omega) (fun j hj => (hown.lt j hj).1))⟩
        case measure => simp [intOf]; omega
    · have hcv := string_of_own (P := Try.prog) hown 37 9 Try.underlying37 Try.underlying5 Try.underlying9
      rw [Oct.take_all s k hlt] at hcv
      clear hown
      go_wp2
      go_ret
      exact ⟨rfl, hbel⟩
end Go.Proofs.Yteajgkjiappkiaa
