/- The contracts of octet.Compare, octet.Rune and chancerylaw1.alive. The condition: Go's two tables of unicode/utf8 lie in memory as their initialisers lay them. -/
import Derived.Test.YteajgkjiappkiaaDoorOctA
import Derived.Test.YteajgkjiappkiaaDoorOctC
import Derived.Test.YteajgkjiappkiaaDoorShelf
namespace Go.Proofs.YteajgkjiappkiaaDoor
open Go.RowKit
set_option maxHeartbeats 400000 in
theorem compare_any (a b : ByteArray) (w : World) :
    Calls Tryd.prog 11 #[.string a, .string b] w fun e w' => e = .returned (.int .i64 (Lib.compareBytes a.data.toList b.data.toList)) ∧ w = w' := by
  go_enter Tryd.func11, Tryd.ntmps11
  go_wp2_with (go_at_call 33; refine (Tryd.strings_Compare _ _ _).mono ?_; rintro e w' ⟨rfl, rfl⟩)
  go_ret
  exact ⟨rfl, rfl⟩
set_option maxHeartbeats 400000 in
theorem rune_out (s : ByteArray) (i : Int) (w : World) (h : i < 0 ∨ (s.size : Int) ≤ i) :
    Calls Tryd.prog 27 #[.string s, .int .i64 i] w fun e w' => e = .returned (.tuple #[.int .i32 0, .int .i64 0]) ∧ w = w' := by
  by_cases h1 : i < 0
  · clear h
    go_enter Tryd.func27, Tryd.ntmps27
    go_wp2
    go_ret2
    exact ⟨rfl, rfl⟩
  · have h2 : (s.size : Int) ≤ i := by omega
    clear h
    go_enter Tryd.func27, Tryd.ntmps27
    go_wp2
    go_ret2
    exact ⟨rfl, rfl⟩
set_option maxHeartbeats 400000 in
theorem rune_in (s : ByteArray) (i : Nat) (w : World) (h : i < s.size) (hT : Lib.Utf8Tabs 0 1 w) :
    Calls Tryd.prog 27 #[.string s, .int .i64 i] w fun e w' => e = .returned (.tuple #[.int .i32 (Lib.decodeGo (s.extract i s.size)).1, .int .i64 (Lib.decodeGo (s.extract i s.size)).2]) ∧ Below w.heap.size w w' := by
  have HT := Lib.hid hT
  clear hT
  go_enter Tryd.func27, Tryd.ntmps27
  go_wp2_with (go_at_call 36; refine (Tryd.utf8_DecodeRuneInString _ _ HT.out).mono ?_; rintro e w' ⟨rfl, hb⟩)
  go_ret2
  exact ⟨rfl, hb⟩
theorem be258 : Oct.beB (2 : Int).toNat 258 = [1, 2] := by decide +kernel
theorem put258 : putV 258 2 = .tuple #[.string ⟨#[1, 2]⟩, .int .i64 0] := by
  rw [putV, if_pos (by decide), putAns_yes (by decide), be258]
theorem put258_calls (w : World) : Calls Tryd.prog 13 #[.int .i64 258, .int .i64 2] w fun e w' => e = .returned (.tuple #[.string ⟨#[1, 2]⟩, .int .i64 0]) ∧ Below w.heap.size w w' :=
  (put_any 258 2 w).mono fun e w' ⟨he, hb⟩ => ⟨by rw [he, put258], hb⟩
theorem dec233 : Lib.decodeGo ((⟨#[97, 195, 169]⟩ : ByteArray).extract 1 (⟨#[97, 195, 169]⟩ : ByteArray).size) = (233, 2) := by decide +kernel
theorem rune233 (w : World) (hT : Lib.Utf8Tabs 0 1 w) : Calls Tryd.prog 27 #[.string ⟨#[97, 195, 169]⟩, .int .i64 1] w fun e w' => e = .returned (.tuple #[.int .i32 233, .int .i64 2]) ∧ Below w.heap.size w w' :=
  (rune_in ⟨#[97, 195, 169]⟩ 1 w (by decide) hT).mono fun e w' ⟨he, hb⟩ => ⟨by rw [he, dec233]; rfl, hb⟩
theorem hex0aff (w : World) : Calls Tryd.prog 23 #[.string ⟨#[10, 255]⟩] w fun e w' => e = .returned (.string ⟨#[48, 97, 102, 102]⟩) ∧ Below w.heap.size w w' :=
  (hex_any ⟨#[10, 255]⟩ w (by decide)).mono fun e w' ⟨he, hb⟩ => ⟨by rw [he]; rfl, hb⟩
set_option maxHeartbeats 400000 in
theorem alive_any (w : World) (hT : Lib.Utf8Tabs 0 1 w) :
    Calls Tryd.prog 10 #[] w fun e w' => e = .returned (.bool true) ∧ Below w.heap.size w w' := by
  have HT := Lib.hid hT
  clear hT
  go_enter Tryd.func10, Tryd.ntmps10
  go_wp2_with fail
  refine (put258_calls _).mono ?_
  rintro e w1 ⟨rfl, hb1⟩
  have HT1 := Lib.hid (Utf8Tabs_below HT.out hb1)
  go_wp2_with fail
  refine (rune233 _ HT1.out).mono ?_
  rintro e w2 ⟨rfl, hb2⟩
  go_wp2_with fail
  refine (hex0aff _).mono ?_
  rintro e w3 ⟨rfl, hb3⟩
  go_wp2_with fail
  go_ret
  exact ⟨rfl, (hb1.trans (hb2.mono hb1.size)).trans (hb3.mono (Nat.le_trans hb1.size hb2.size))⟩
end Go.Proofs.YteajgkjiappkiaaDoor
