/- The walk of the law OctetHexes. The condition: Go's two tables of unicode/utf8 lie in memory as their initialisers lay them. -/
import Derived.Test.YteajgkjiappkiaaDoorOctD
import Derived.Test.YteajgkjiappkiaaDoorOctH
namespace Go.Proofs.YteajgkjiappkiaaDoor
open Go.RowKit
theorem unhexV_form (s : ByteArray) : ∃ b e, unhexV s = .tuple #[.string b, .int .i64 e] := by
  unfold unhexV
  split <;> exact ⟨_, _, rfl⟩
theorem unhex_var {s : ByteArray} {r : Value} (w : World) (hs : s.size ≤ 140737488351232) (h : Hid (unhexV s = r)) : Calls Tryd.prog 21 #[.string s] w fun e w' => e = .returned r ∧ Below w.heap.size w w' := h.out ▸ unhex_any s w hs
theorem refUnhex_var {s : ByteArray} {r : Value} (w : World) (hs : s.size ≤ 140737488351232) (h : Hid (unhexV s = r)) : Calls Tryd.prog 22 #[.string s] w fun e w' => e = .returned r ∧ Below w.heap.size w w' := h.out ▸ refUnhex_any s w hs
theorem cmpV (a b : ByteArray) (w : World) (x : Int) (hx : Hid (x = Lib.compareBytes a.data.toList b.data.toList)) :
    Calls Tryd.prog 11 #[.string a, .string b] w fun e w' => e = .returned (.int .i64 x) ∧ w = w' := by
  rw [hx.out]; exact compare_any a b w
theorem refCmpV (a b : ByteArray) (w : World) (x : Int) (ha : a.size ≤ maxLen) (hx : Hid (x = Lib.compareBytes a.data.toList b.data.toList)) :
    Calls Tryd.prog 25 #[.string a, .string b] w fun e w' => e = .returned (.int .i64 x) ∧ Below w.heap.size w w' := by
  rw [hx.out]; exact refCompare_any a b w ha
theorem sumV (s : ByteArray) (w : World) (x : Int) (hs : s.size ≤ maxLen) (hx : Hid (x = (Oct.sumN s.data.toList : Nat))) :
    Calls Tryd.prog 12 #[.string s] w fun e w' => e = .returned (.int .i64 x) ∧ w = w' := by
  rw [hx.out]; exact sum_any s w hs
theorem refSumV (s : ByteArray) (w : World) (x : Int) (hs : s.size ≤ maxLen) (hx : Hid (x = (Oct.sumN s.data.toList : Nat))) :
    Calls Tryd.prog 26 #[.string s] w fun e w' => e = .returned (.int .i64 x) ∧ w = w' := by
  rw [hx.out]; exact refSum_any s w hs
theorem fit70 {s : ByteArray} (h : (s.size : Int) ≤ 70000) : s.size ≤ maxLen := by unfold maxLen; omega
set_option maxHeartbeats 400000 in
theorem octetHexes_out (a b : ByteArray) (w : World) (hT : Lib.Utf8Tabs 0 1 w) (h : (70000 : Int) < a.size ∨ (70000 : Int) < b.size) :
    Calls Tryd.prog 6 #[.string a, .string b] w fun e w' => e = .returned (.bool true) ∧ Below w.heap.size w w' := by
  have HT := Lib.hid hT
  clear hT
  go_enter Tryd.func6, Tryd.ntmps6
  go_wp2_with (go_at_call 10; refine (alive_any _ HT.out).mono ?_; rintro e w' ⟨rfl, hb⟩)
  all_goals first | (go_ret; exact ⟨rfl, hb⟩) | omega
set_option maxHeartbeats 1000000 in
theorem octetHexes_in (a b : ByteArray) (w : World) (hT : Lib.Utf8Tabs 0 1 w) (ha : (a.size : Int) ≤ 70000) (hb : (b.size : Int) ≤ 70000) :
    Calls Tryd.prog 6 #[.string a, .string b] w fun e w' => e = .returned (.bool true) ∧ Below w.heap.size w w' := by
  have HT := Lib.hid hT
  clear hT
  obtain ⟨c, e1, h1⟩ := unhexV_form a
  have H1 := Lib.hid h1
  obtain ⟨x, hx⟩ : ∃ x : Int, x = Lib.compareBytes a.data.toList b.data.toList := ⟨_, rfl⟩
  obtain ⟨y, hy⟩ : ∃ y : Int, y = (Oct.sumN a.data.toList : Nat) := ⟨_, rfl⟩
  have HX := Lib.hid hx
  have HY := Lib.hid hy
  clear h1 hx hy
  go_enter Tryd.func6, Tryd.ntmps6
  go_wp2_with fail
  refine (unhex_var _ (by omega) H1).mono ?_
  rintro e w1 ⟨rfl, hb1⟩
  go_wp2_with fail
  refine (refUnhex_var _ (by omega) H1).mono ?_
  rintro e w2 ⟨rfl, hb2⟩
  have hc1 := hb1.trans (hb2.mono hb1.size)
  clear hb1 hb2
  have HT2 := Lib.hid (Utf8Tabs_below HT.out hc1)
  go_wp2_with fail
  refine (alive_any _ HT2.out).mono ?_
  rintro e w3 ⟨rfl, hb3⟩
  have hc2 := hc1.trans (hb3.mono hc1.size)
  clear hc1 hb3
  go_wp2_with fail
  refine (hex_any _ _ (by omega)).mono ?_
  rintro e w4 ⟨rfl, hb4⟩
  have hc3 := hc2.trans (hb4.mono hc2.size)
  clear hc2 hb4
  go_wp2_with fail
  refine (refHex_any _ _ (by omega)).mono ?_
  rintro e w5 ⟨rfl, hb5⟩
  have hc4 := hc3.trans (hb5.mono hc3.size)
  clear hc3 hb5
  go_wp2_with fail
  refine (cmpV _ _ _ x HX).mono ?_
  rintro e w' ⟨rfl, rfl⟩
  go_wp2_with fail
  refine (refCmpV _ _ _ x (fit70 ha) HX).mono ?_
  rintro e w6 ⟨rfl, hb6⟩
  have hc5 := hc4.trans (hb6.mono hc4.size)
  clear hc4 hb6
  go_wp2_with fail
  refine (sumV _ _ y (fit70 ha) HY).mono ?_
  rintro e w' ⟨rfl, rfl⟩
  go_wp2_with fail
  refine (refSumV _ _ y (fit70 ha) HY).mono ?_
  rintro e w' ⟨rfl, rfl⟩
  go_wp2_with fail
  go_ret
  exact ⟨rfl, hc5⟩
theorem octetHexes_any (a b : ByteArray) (w : World) (hT : Lib.Utf8Tabs 0 1 w) :
    Calls Tryd.prog 6 #[.string a, .string b] w fun e w' => e = .returned (.bool true) ∧ Below w.heap.size w w' := by
  by_cases h : (70000 : Int) < a.size ∨ (70000 : Int) < b.size
  · exact octetHexes_out a b w hT h
  · exact octetHexes_in a b w hT (by omega) (by omega)
end Go.Proofs.YteajgkjiappkiaaDoor
