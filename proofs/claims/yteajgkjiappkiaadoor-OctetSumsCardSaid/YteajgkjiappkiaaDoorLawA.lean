/- The walks of the laws OctetSums and OctetOrder. The condition: Go's two tables of unicode/utf8 lie in memory as their initialisers lay them. -/
import Derived.Test.YteajgkjiappkiaaDoorOctD
import Derived.RegionTactic
import Derived.Deep.RegionWith
namespace Go.Proofs.YteajgkjiappkiaaDoor
open Go.RowKit
theorem wrap_u8c (c : UInt8) : IntKind.u8.wrap (c.toNat : Int) = (c.toNat : Int) := by
  have hc : c.toNat < 256 := c.toNat_lt
  rw [IntKind.wrap_u8]; omega
attribute [local go_sem] wrap_u8c
theorem conv_one (w : World) (c : UInt8) :
    (convert 26 9 (.slice (some ⟨w.heap.size, 0, none⟩) 1 1)).run Tryd.prog (w.alloc (.cells #[.int .u8 (c.toNat : Int)] 5)).drew = .ok (.string ⟨#[c]⟩) (w.alloc (.cells #[.int .u8 (c.toNat : Int)] 5)).drew :=
  string_of_blk (l := [c]) (Blk.new w 5 (bvs [c])).drew _ _ _ 1 1 rfl Tryd.underlying26 Tryd.underlying5 Tryd.underlying9
theorem small_le {s : ByteArray} (h : s.size ≤ 3000) : s.size ≤ maxLen := by unfold maxLen; omega
theorem app_le {s : ByteArray} (c : UInt8) (h : s.size ≤ 3000) : (s ++ (⟨#[c]⟩ : ByteArray)).size ≤ maxLen := by
  rw [ByteArray.size_append]
  have : (⟨#[c]⟩ : ByteArray).size = 1 := rfl
  unfold maxLen; omega
set_option maxHeartbeats 400000 in
theorem octetSums_out (s : ByteArray) (c : Int) (w : World) (hT : Lib.Utf8Tabs 0 1 w) (h : (3000 : Int) < s.size ∨ c < 0 ∨ 255 < c) :
    Calls Tryd.prog 4 #[.string s, .int .i64 c] w fun e w' => e = .returned (.bool true) ∧ Below w.heap.size w w' := by
  have HT := Lib.hid hT
  clear hT
  go_enter Tryd.func4, Tryd.ntmps4
  go_wp2_with (go_at_call 10; refine (alive_any _ HT.out).mono ?_; rintro e w' ⟨rfl, hb⟩)
  all_goals first | (go_ret; exact ⟨rfl, hb⟩) | omega
theorem sum_var (s : ByteArray) (w : World) (x : Int) (hs : s.size ≤ maxLen) (hx : Hid (x = (Oct.sumN s.data.toList : Nat))) :
    Calls Tryd.prog 12 #[.string s] w fun e w' => e = .returned (.int .i64 x) ∧ w = w' := by
  rw [hx.out]; exact sum_any s w hs
theorem app_data (s : ByteArray) (c : UInt8) : (s ++ (⟨#[c]⟩ : ByteArray)).data.toList = s.data.toList ++ [c] := by simp
/-- the law's last test -/
theorem sums_fin (x y : Int) (s : ByteArray) (c : UInt8) (hx : x = (Oct.sumN s.data.toList : Nat)) (hy : y = (Oct.sumN (s ++ (⟨#[c]⟩ : ByteArray)).data.toList : Nat)) :
    0 ≤ x ∧ x < 4294967296 ∧ (y == (wrap64 (bits .xor .i64 x (c.toNat : Int) * 16777619)).tmod 4294967296) = true := by
  have hb := Oct.sumN_lt s.data.toList
  have hc : c.toNat < 256 := c.toNat_lt
  refine ⟨by omega, by omega, ?_⟩
  rw [hy, hx, app_data, Oct.sumN_snoc, ← Oct.step_i64 _ _ hb, IntWalk.wrap64_in (c.toNat : Int) ⟨by omega, by omega⟩]
  exact beq_self_eq_true _
set_option maxHeartbeats 400000 in
set_option maxRecDepth 100000 in
theorem octetSums_in (s : ByteArray) (c : UInt8) (w : World) (hT : Lib.Utf8Tabs 0 1 w) (h : s.size ≤ 3000) :
    Calls Tryd.prog 4 #[.string s, .int .i64 c.toNat] w fun e w' => e = .returned (.bool true) ∧ Below w.heap.size w w' := by
  have HT := Lib.hid hT
  have hc : c.toNat < 256 := c.toNat_lt
  clear hT
  have hcv := conv_one w c
  have HT2 := Lib.hid (Utf8Tabs_below HT.out (((Below.refl w.heap.size w).alloc (Nat.le_refl _) (.cells #[.int .u8 (c.toNat : Int)] 5)).drew))
  obtain ⟨x, hx⟩ : ∃ x : Int, x = (Oct.sumN s.data.toList : Nat) := ⟨_, rfl⟩
  obtain ⟨y, hy⟩ : ∃ y : Int, y = (Oct.sumN (s ++ (⟨#[c]⟩ : ByteArray)).data.toList : Nat) := ⟨_, rfl⟩
  obtain ⟨x0, x1, hfin⟩ := sums_fin x y s c hx hy
  have HX := Lib.hid hx
  have HY := Lib.hid hy
  clear hx hy
  go_enter Tryd.func4, Tryd.ntmps4
  go_wp2_with fail
  go_region_with
    (first
      | (go_at_call 12; ((with_reducible refine (sum_var s _ x (small_le h) HX).mono ?_)); rintro e w' ⟨rfl, rfl⟩)
      | (go_at_call 12; ((with_reducible refine (sum_var _ _ y (app_le c h) HY).mono ?_)); rintro e w' ⟨rfl, rfl⟩))
  all_goals
    go_wp2_with fail
    refine (alive_any _ HT2.out).mono ?_
    rintro e w' ⟨rfl, hb⟩
    go_wp2_with fail
    go_ret
    exact ⟨rfl, (((Below.refl w.heap.size w).alloc (Nat.le_refl _) _).drew).trans (hb.mono (by simp))⟩
theorem octetSums_any (s : ByteArray) (c : Int) (w : World) (hT : Lib.Utf8Tabs 0 1 w) :
    Calls Tryd.prog 4 #[.string s, .int .i64 c] w fun e w' => e = .returned (.bool true) ∧ Below w.heap.size w w' := by
  by_cases h : (3000 : Int) < s.size ∨ c < 0 ∨ 255 < c
  · exact octetSums_out s c w hT h
  · obtain ⟨n, rfl⟩ := Int.eq_ofNat_of_zero_le (show 0 ≤ c by omega)
    have hn : (UInt8.ofNat n).toNat = n := by rw [UInt8.toNat_ofNat']; omega
    have := octetSums_in s (UInt8.ofNat n) w hT (by omega)
    rwa [hn] at this
end Go.Proofs.YteajgkjiappkiaaDoor
