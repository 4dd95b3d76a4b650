/- The walk of the law OctetRunes. The condition: Go's two tables of unicode/utf8 lie in memory as their initialisers lay them. -/
import Derived.Test.YteajgkjiappkiaaDoorOctK
namespace Go.Proofs.YteajgkjiappkiaaDoor
open Go.RowKit
/-- the character at a place, whatever the place -/
def runeX (s : ByteArray) (i : Int) : Int := if 0 ≤ i ∧ i < s.size then ((dec s i.toNat).1 : Int) else 0
def runeN (s : ByteArray) (i : Int) : Int := if 0 ≤ i ∧ i < s.size then ((dec s i.toNat).2 : Int) else 0
theorem rune_all (s : ByteArray) (i : Int) (w : World) (hT : Lib.Utf8Tabs 0 1 w) (x n : Int) (hx : Hid (runeX s i = x)) (hn : Hid (runeN s i = n)) :
    Calls Tryd.prog 27 #[.string s, .int .i64 i] w fun e w' => e = .returned (.tuple #[.int .i32 x, .int .i64 n]) ∧ Below w.heap.size w w' := by
  rw [← hx.out, ← hn.out]
  unfold runeX runeN
  by_cases h : 0 ≤ i ∧ i < s.size
  · obtain ⟨k, rfl⟩ := Int.eq_ofNat_of_zero_le h.1
    rw [if_pos h, if_pos h, Int.toNat_natCast]
    exact rune_dec s k w (by omega) hT
  · rw [if_neg h, if_neg h]
    exact (rune_out s i w (by omega)).mono fun e w' ⟨he, hb⟩ => ⟨he, hb ▸ Below.refl _ _⟩
theorem refRune_all (s : ByteArray) (i : Int) (w : World) (hs : s.size ≤ 140737488351232) (x n : Int) (hx : Hid (runeX s i = x)) (hn : Hid (runeN s i = n)) :
    Calls Tryd.prog 29 #[.string s, .int .i64 i] w fun e w' => e = .returned (.tuple #[.int .i32 x, .int .i64 n]) ∧ w = w' := by
  rw [← hx.out, ← hn.out]
  unfold runeX runeN
  by_cases h : 0 ≤ i ∧ i < s.size
  · obtain ⟨k, rfl⟩ := Int.eq_ofNat_of_zero_le h.1
    rw [if_pos h, if_pos h, Int.toNat_natCast]
    exact refRune_in s k w hs (by omega)
  · rw [if_neg h, if_neg h]
    exact refRune_out s i w (by omega)
theorem putRuneV_form (r : Int) : ∃ b e, putRuneV r = .tuple #[.string b, .int .i64 e] := by
  unfold putRuneV
  split <;> exact ⟨_, _, rfl⟩
theorem putRune_var {r : Int} {v : Value} (w : World) (h : Hid (putRuneV r = v)) : Calls Tryd.prog 30 #[.int .i32 r] w fun e w' => e = .returned v ∧ w = w' := h.out ▸ putRune_any r w
theorem refPutRune_var {r : Int} {v : Value} (w : World) (hlo : -2147483648 ≤ r) (hhi : r ≤ 2147483647) (h : Hid (putRuneV r = v)) : Calls Tryd.prog 31 #[.int .i32 r] w fun e w' => e = .returned v ∧ Below w.heap.size w w' := h.out ▸ refPutRune_any r w hlo hhi
theorem text_var {s : ByteArray} (b : Bool) (w : World) (hs : s.size ≤ 140737488351232) (hT : Lib.Utf8Tabs 0 1 w) (h : Hid (Lib.validD s.data.toList = b)) :
    Calls Tryd.prog 28 #[.string s] w fun e w' => e = .returned (.bool b) ∧ Below w.heap.size w w' := h.out ▸ text_any s w hs hT
theorem refText_var {s : ByteArray} (b : Bool) (w : World) (hs : s.size ≤ 140737488351232) (h : Hid (Lib.validD s.data.toList = b)) :
    Calls Tryd.prog 32 #[.string s] w fun e w' => e = .returned (.bool b) ∧ w = w' := h.out ▸ refText_any s w hs
set_option maxHeartbeats 400000 in
theorem octetRunes_out (s : ByteArray) (i r : Int) (w : World) (hT : Lib.Utf8Tabs 0 1 w) (h : (3000 : Int) < s.size) :
    Calls Tryd.prog 8 #[.string s, .int .i64 i, .int .i32 r] w fun e w' => e = .returned (.bool true) ∧ Below w.heap.size w w' := by
  have HT := Lib.hid hT
  clear hT
  go_enter Tryd.func8, Tryd.ntmps8
  go_wp2_with (go_at_call 10; refine (alive_any _ HT.out).mono ?_; rintro e w' ⟨rfl, hb⟩)
  go_ret
  exact ⟨rfl, hb⟩
set_option maxHeartbeats 1000000 in
theorem octetRunes_in (s : ByteArray) (i r : Int) (w : World) (hT : Lib.Utf8Tabs 0 1 w) (hs : (s.size : Int) ≤ 3000) (hlo : -2147483648 ≤ r) (hhi : r ≤ 2147483647) :
    Calls Tryd.prog 8 #[.string s, .int .i64 i, .int .i32 r] w fun e w' => e = .returned (.bool true) ∧ Below w.heap.size w w' := by
  have HT := Lib.hid hT
  clear hT
  go_enter Tryd.func8, Tryd.ntmps8
  go_wp2_with fail
  go_loopw [7] (fun v wr => ∃ k : Int, -1 ≤ k ∧ k ≤ (s.size : Int) + 1 ∧ v = .int .i64 k ∧ Below w.heap.size w wr) (fun v _ => (s.size + 1 - intOf v).toNat)
  case atStart => exact ⟨-1, by omega, by omega, rfl, Below.refl _ _⟩
  case round =>
    obtain ⟨k, hk1, hk2, rfl, hbel⟩ := hrel
    by_cases hlt : k ≤ (s.size : Int)
    · obtain ⟨x, hx⟩ : ∃ x, runeX s k = x := ⟨_, rfl⟩
      obtain ⟨n, hn⟩ : ∃ n, runeN s k = n := ⟨_, rfl⟩
      have HX := Lib.hid hx
      have HN := Lib.hid hn
      clear hx hn
      have HT2 := Lib.hid (Utf8Tabs_below HT.out hbel)
      go_wp2_with fail
      refine (rune_all s k _ HT2.out x n HX HN).mono ?_
      rintro e w1 ⟨rfl, hb1⟩
      have hb2 := hbel.trans (hb1.mono hbel.size)
      clear hb1
      go_wp2_with fail
      refine (refRune_all s k _ (by omega) x n HX HN).mono ?_
      rintro e w' ⟨rfl, rfl⟩
      go_wp2_with fail
      go_roundw
      case rel => exact ⟨k + 1, by omega, by omega, rfl, hb2⟩
      case measure => simp [intOf]; omega
    · obtain ⟨x, hx⟩ : ∃ x, runeX s i = x := ⟨_, rfl⟩
      obtain ⟨n, hn⟩ : ∃ n, runeN s i = n := ⟨_, rfl⟩
      obtain ⟨b, e1, h1⟩ := putRuneV_form r
      obtain ⟨t, ht⟩ : ∃ t, Lib.validD s.data.toList = t := ⟨_, rfl⟩
      have HX := Lib.hid hx
      have HN := Lib.hid hn
      have H1 := Lib.hid h1
      have H2 := Lib.hid ht
      clear hx hn h1 ht
      have HT2 := Lib.hid (Utf8Tabs_below HT.out hbel)
      go_wp2_with fail
      refine (rune_all s i _ HT2.out x n HX HN).mono ?_
      rintro e w1 ⟨rfl, hb1⟩
      have hb2 := hbel.trans (hb1.mono hbel.size)
      clear hb1 hbel
      go_wp2_with fail
      refine (refRune_all s i _ (by omega) x n HX HN).mono ?_
      rintro e w' ⟨rfl, rfl⟩
      go_wp2_with fail
      refine (putRune_var _ H1).mono ?_
      rintro e w' ⟨rfl, rfl⟩
      go_wp2_with fail
      refine (refPutRune_var _ hlo hhi H1).mono ?_
      rintro e w2 ⟨rfl, hb3⟩
      have hb4 := hb2.trans (hb3.mono hb2.size)
      clear hb2 hb3
      have HT3 := Lib.hid (Utf8Tabs_below HT.out hb4)
      go_wp2_with fail
      refine (alive_any _ HT3.out).mono ?_
      rintro e w3 ⟨rfl, hb5⟩
      have hb6 := hb4.trans (hb5.mono hb4.size)
      clear hb4 hb5
      have HT4 := Lib.hid (Utf8Tabs_below HT.out hb6)
      go_wp2_with fail
      refine (text_var t _ (by omega) HT4.out H2).mono ?_
      rintro e w4 ⟨rfl, hb7⟩
      have hb8 := hb6.trans (hb7.mono hb6.size)
      clear hb6 hb7
      go_wp2_with fail
      refine (refText_var t _ (by omega) H2).mono ?_
      rintro e w' ⟨rfl, rfl⟩
      cases t
      all_goals
        go_wp2_with fail
        go_ret
        exact ⟨rfl, hb8⟩
theorem octetRunes_any (s : ByteArray) (i r : Int) (w : World) (hT : Lib.Utf8Tabs 0 1 w) (hlo : -2147483648 ≤ r) (hhi : r ≤ 2147483647) :
    Calls Tryd.prog 8 #[.string s, .int .i64 i, .int .i32 r] w fun e w' => e = .returned (.bool true) ∧ Below w.heap.size w w' := by
  by_cases h : (3000 : Int) < s.size
  · exact octetRunes_out s i r w hT h
  · exact octetRunes_in s i r w hT (by omega) hlo hhi
end Go.Proofs.YteajgkjiappkiaaDoor
