/- The walk of the law OctetOrder. The conditions: Go's two tables of unicode/utf8 lie in memory as their initialisers lay them; the texts are within the form's own reach. -/
import Derived.Test.YteajgkjiappkiaaDoorOctD
import Derived.Test.YteajgkjiappkiaaDoorPlainB
namespace Go.Proofs.YteajgkjiappkiaaDoor
open Go.RowKit
theorem cmp_var (a b : ByteArray) (w : World) (x : Int) (hx : Hid (x = Lib.compareBytes a.data.toList b.data.toList)) :
    Calls Tryd.prog 11 #[.string a, .string b] w fun e w' => e = .returned (.int .i64 x) ∧ w = w' := by
  rw [hx.out]; exact compare_any a b w
set_option maxHeartbeats 400000 in
theorem octetOrder_out (a b c : ByteArray) (w : World) (hT : Lib.Utf8Tabs 0 1 w)
    (ha : a.size ≤ 140737488351232) (hb : b.size ≤ 140737488351232) (hc : c.size ≤ 140737488351232) (h : (9000 : Int) < a.size + b.size + c.size) :
    Calls Tryd.prog 3 #[.string a, .string b, .string c] w fun e w' => e = .returned (.bool true) ∧ Below w.heap.size w w' := by
  have HT := Lib.hid hT
  clear hT
  go_enter Tryd.func3, Tryd.ntmps3
  go_wp2_with (go_at_call 10; refine (alive_any _ HT.out).mono ?_; rintro e w' ⟨rfl, hb⟩)
  go_ret
  exact ⟨rfl, hb⟩
set_option maxHeartbeats 1000000 in
theorem octetOrder_in (a b c : ByteArray) (w : World) (hT : Lib.Utf8Tabs 0 1 w)
    (x y z : Int) (HX : Hid (x = Lib.compareBytes a.data.toList b.data.toList)) (HY : Hid (y = Lib.compareBytes b.data.toList c.data.toList)) (HZ : Hid (z = Lib.compareBytes a.data.toList c.data.toList))
    (HX2 : Hid (-x = Lib.compareBytes b.data.toList a.data.toList)) (HX3 : Hid (x = Lib.compareBytes (c ++ a).data.toList (c ++ b).data.toList))
    (y1 : -1 ≤ y) (y2 : y ≤ 1) (z1 : -1 ≤ z) (z2 : z ≤ 1)
    (hcase : (x = 1 ∧ ¬ a.toList = b.toList ∧ (a.toList == b.toList) = false) ∨ (x = -1 ∧ ¬ a.toList = b.toList ∧ (a.toList == b.toList) = false ∧ y ≤ 0 ∧ z < 0) ∨ (x = -1 ∧ ¬ a.toList = b.toList ∧ (a.toList == b.toList) = false ∧ 0 < y) ∨
      (x = 0 ∧ a = b ∧ y ≤ 0 ∧ z ≤ 0) ∨ (x = 0 ∧ a = b ∧ 0 < y))
    (h : (a.size : Int) + b.size + c.size ≤ 9000) :
    Calls Tryd.prog 3 #[.string a, .string b, .string c] w fun e w' => e = .returned (.bool true) ∧ Below w.heap.size w w' := by
  have HT := Lib.hid hT
  clear hT
  rcases hcase with ⟨rfl, n1, n2⟩ | ⟨rfl, n1, n2, c1, c2⟩ | ⟨rfl, n1, n2, c1⟩ | ⟨rfl, rfl, c1, c2⟩ | ⟨rfl, rfl, c1⟩
  all_goals
    go_enter Tryd.func3, Tryd.ntmps3
    go_wp2_with fail
    refine (cmp_var _ _ _ _ HX).mono ?_
    rintro e w' ⟨rfl, rfl⟩
    go_wp2_with fail
    refine (cmp_var _ _ _ _ HY).mono ?_
    rintro e w' ⟨rfl, rfl⟩
    go_wp2_with fail
    refine (cmp_var _ _ _ _ HZ).mono ?_
    rintro e w' ⟨rfl, rfl⟩
    go_wp2_with fail
    refine (cmp_var _ _ _ _ HX2).mono ?_
    rintro e w' ⟨rfl, rfl⟩
    go_wp2_with fail
    refine (alive_any _ HT.out).mono ?_
    rintro e w' ⟨rfl, hb⟩
    go_wp2_with fail
    refine (cmp_var _ _ _ _ HX3).mono ?_
    rintro e w' ⟨rfl, rfl⟩
    go_wp2_with fail
    go_ret
    exact ⟨rfl, hb⟩
theorem octetOrder_any (a b c : ByteArray) (w : World) (hT : Lib.Utf8Tabs 0 1 w)
    (ha : a.size ≤ 140737488351232) (hb : b.size ≤ 140737488351232) (hc : c.size ≤ 140737488351232) :
    Calls Tryd.prog 3 #[.string a, .string b, .string c] w fun e w' => e = .returned (.bool true) ∧ Below w.heap.size w w' := by
  by_cases h : (9000 : Int) < a.size + b.size + c.size
  · exact octetOrder_out a b c w hT ha hb hc h
  obtain ⟨⟨x1, x2⟩, ⟨y1, y2⟩, ⟨z1, z2⟩, he, g1, g2⟩ := Oct.order_all a.data.toList b.data.toList c.data.toList _ _ _ rfl rfl rfl
  refine octetOrder_in a b c w hT _ _ _ (Lib.hid rfl) (Lib.hid rfl) (Lib.hid rfl) (Lib.hid (Oct.cmp_turn _ _).symm) (Lib.hid ?_) y1 y2 z1 z2 ?_ (by omega)
  · rw [ByteArray.data_append, ByteArray.data_append, Array.toList_append, Array.toList_append, Oct.cmp_front]
  · generalize Lib.compareBytes a.data.toList b.data.toList = x at *
    generalize Lib.compareBytes b.data.toList c.data.toList = y at *
    generalize Lib.compareBytes a.data.toList c.data.toList = z at *
    by_cases hx : x = 0
    · have hab : a = b := Go.WideShapes.bytes_inj (he.1 hx)
      by_cases hy : y ≤ 0
      · exact .inr (.inr (.inr (.inl ⟨hx, hab, hy, g1 (by omega) hy⟩)))
      · exact .inr (.inr (.inr (.inr ⟨hx, hab, by omega⟩)))
    · have hne : ¬ a.toList = b.toList := fun hh => hx (he.2 (by rwa [ByteArray.toList_eq, ByteArray.toList_eq] at hh))
      have hne2 : (a.toList == b.toList) = false := by simpa using hne
      by_cases hx1 : x = 1
      · exact .inl ⟨hx1, hne, hne2⟩
      · by_cases hy : y ≤ 0
        · exact .inr (.inl ⟨by omega, hne, hne2, hy, g2 (by omega) hy⟩)
        · exact .inr (.inr (.inl ⟨by omega, hne, hne2, by omega⟩))
end Go.Proofs.YteajgkjiappkiaaDoor
