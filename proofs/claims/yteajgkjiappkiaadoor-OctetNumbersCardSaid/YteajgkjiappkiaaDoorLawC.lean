/- The walk of the law OctetNumbers. The condition: Go's two tables of unicode/utf8 lie in memory as their initialisers lay them. -/
import Derived.Test.YteajgkjiappkiaaDoorOctD
import Derived.Test.YteajgkjiappkiaaDoorOctF
namespace Go.Proofs.YteajgkjiappkiaaDoor
open Go.RowKit
theorem putV_form (v n : Int) : ∃ b e, putV v n = .tuple #[.string b, .int .i64 e] := by
  unfold putV putAns
  split
  · split <;> exact ⟨_, _, rfl⟩
  · exact ⟨_, _, rfl⟩
theorem getV_form (s : ByteArray) : ∃ x e, getV s = .tuple #[.int .i64 x, .int .i64 e] := by
  unfold getV
  split <;> exact ⟨_, _, rfl⟩
theorem sgnV_form (s : ByteArray) : ∃ x e, sgnV s = .tuple #[.int .i64 x, .int .i64 e] := by
  unfold sgnV
  split <;> exact ⟨_, _, rfl⟩
section
variable {v n : Int} {s : ByteArray} {r : Value}
theorem put_var (w : World) (h : Hid (putV v n = r)) : Calls Tryd.prog 13 #[.int .i64 v, .int .i64 n] w fun e w' => e = .returned r ∧ Below w.heap.size w w' := h.out ▸ put_any v n w
theorem refPut_var (w : World) (hm : v ≤ 9223372036854775807) (h : Hid (putV v n = r)) : Calls Tryd.prog 14 #[.int .i64 v, .int .i64 n] w fun e w' => e = .returned r ∧ Below w.heap.size w w' := h.out ▸ refPut_any v n w hm
theorem get_var (w : World) (h : Hid (getV s = r)) : Calls Tryd.prog 15 #[.string s] w fun e w' => e = .returned r ∧ w = w' := h.out ▸ get_any s w
theorem refGet_var (w : World) (h : Hid (getV s = r)) : Calls Tryd.prog 16 #[.string s] w fun e w' => e = .returned r ∧ w = w' := h.out ▸ refGet_any s w
theorem sgn_var (w : World) (h : Hid (sgnV s = r)) : Calls Tryd.prog 17 #[.string s] w fun e w' => e = .returned r ∧ w = w' := h.out ▸ signed_any s w
theorem refSgn_var (w : World) (h : Hid (sgnV s = r)) : Calls Tryd.prog 18 #[.string s] w fun e w' => e = .returned r ∧ w = w' := h.out ▸ refSigned_any s w
end
set_option maxHeartbeats 1000000 in
theorem octetNumbers_any (v n : Int) (s : ByteArray) (w : World) (hT : Lib.Utf8Tabs 0 1 w) (hlo : -9223372036854775808 ≤ v) (hhi : v ≤ 9223372036854775807) :
    Calls Tryd.prog 5 #[.int .i64 v, .int .i64 n, .string s] w fun e w' => e = .returned (.bool true) ∧ Below w.heap.size w w' := by
  have HT := Lib.hid hT
  clear hT
  obtain ⟨b, e1, h1⟩ := putV_form v n
  obtain ⟨x, e2, h2⟩ := getV_form s
  obtain ⟨y, e3, h3⟩ := sgnV_form s
  have H1 := Lib.hid h1
  have H2 := Lib.hid h2
  have H3 := Lib.hid h3
  clear h1 h2 h3
  go_enter Tryd.func5, Tryd.ntmps5
  go_wp2_with fail
  refine (put_var _ H1).mono ?_
  rintro e w1 ⟨rfl, hb1⟩
  go_wp2_with fail
  refine (refPut_var _ hhi H1).mono ?_
  rintro e w2 ⟨rfl, hb2⟩
  go_wp2_with fail
  refine (get_var _ H2).mono ?_
  rintro e w' ⟨rfl, rfl⟩
  go_wp2_with fail
  refine (refGet_var _ H2).mono ?_
  rintro e w' ⟨rfl, rfl⟩
  go_wp2_with fail
  refine (sgn_var _ H3).mono ?_
  rintro e w' ⟨rfl, rfl⟩
  go_wp2_with fail
  refine (refSgn_var _ H3).mono ?_
  rintro e w' ⟨rfl, rfl⟩
  have hb12 := hb1.trans (hb2.mono hb1.size)
  clear hb1 hb2
  have HT2 := Lib.hid (Utf8Tabs_below HT.out hb12)
  go_wp2_with fail
  refine (alive_any _ HT2.out).mono ?_
  rintro e w3 ⟨rfl, hb3⟩
  have hb13 := hb12.trans (hb3.mono hb12.size)
  clear hb12 hb3
  go_wp2_with fail
  refine (putSigned_any v _ hlo hhi).mono ?_
  rintro e w4 ⟨rfl, hb4⟩
  have hb14 := hb13.trans (hb4.mono hb13.size)
  clear hb13 hb4
  go_wp2_with fail
  refine (refPutSigned_any v _ hlo hhi).mono ?_
  rintro e w5 ⟨rfl, hb5⟩
  have hb15 := hb14.trans (hb5.mono hb14.size)
  clear hb14 hb5
  go_wp2_with fail
  go_ret
  exact ⟨rfl, hb15⟩
end Go.Proofs.YteajgkjiappkiaaDoor
