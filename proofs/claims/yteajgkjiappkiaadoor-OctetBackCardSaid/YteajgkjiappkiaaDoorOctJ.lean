/- The contracts of chanceryref1.Rune at every place, Good, Text and PutRune, and of octet.Rune, Text and PutRune. The conditions: the text is within the form's own reach; where the program's text reads them, Go's two tables of unicode/utf8 lie in memory as their initialisers lay them. -/
import Derived.Test.YteajgkjiappkiaaDoorOctI
import Derived.Test.YteajgkjiappkiaaDoorOctD
import Derived.Lib.ValidLaws
import Derived.Laws.BytesArg
import Derived.Lib.IndexBytes
namespace Go.Proofs.YteajgkjiappkiaaDoor
open Go.RowKit
theorem refRune_in (s : ByteArray) (i : Nat) (w : World) (hs : s.size ≤ 140737488351232) (hi : i < s.size) :
    Calls Tryd.prog 29 #[.string s, .int .i64 i] w fun e w' => e = .returned (.tuple #[.int .i32 (dec s i).1, .int .i64 (dec s i).2]) ∧ w = w' := by
  have c0 : s[i].toNat < 256 := s[i].toNat_lt
  by_cases a1 : (s[i].toNat : Int) < 128
  · exact refRune_ascii s i w hs hi a1
  by_cases a2 : (s[i].toNat : Int) < 194 ∨ (245 : Int) ≤ s[i].toNat
  · exact refRune_none s i w hs hi (by omega)
  by_cases a3 : (s[i].toNat : Int) ≤ 223
  · by_cases hn : (s.size : Int) < (i : Int) + 2
    · exact refRune_2_short s i w hs hi (by omega) a3 hn
    have c1 : s[i + 1].toNat < 256 := s[i + 1].toNat_lt
    by_cases g1 : (s[i + 1].toNat : Int) < 128 ∨ (191 : Int) < s[i + 1].toNat
    · exact refRune_2_bad1 s i w hs hi (by omega) a3 (by omega) g1
    exact refRune_2_ok s i w hs hi (by omega) a3 (by omega) (by omega) (by omega) (by omega) (by omega)
  by_cases a4 : (s[i].toNat : Int) ≤ 239
  · by_cases hn : (s.size : Int) < (i : Int) + 3
    · exact refRune_3_short s i w hs hi (by omega) a4 hn
    have c1 : s[i + 1].toNat < 256 := s[i + 1].toNat_lt
    have c2 : s[i + 2].toNat < 256 := s[i + 2].toNat_lt
    by_cases g1 : (s[i + 1].toNat : Int) < 128 ∨ (191 : Int) < s[i + 1].toNat
    · exact refRune_3_bad1 s i w hs hi (by omega) a4 (by omega) g1
    by_cases g2 : (s[i + 2].toNat : Int) < 128 ∨ (191 : Int) < s[i + 2].toNat
    · exact refRune_3_bad2 s i w hs hi (by omega) a4 (by omega) (by omega) g2
    by_cases hv : (((s[i].toNat : Int) - 224) * 64 + s[i + 1].toNat - 128) * 64 + s[i + 2].toNat - 128 < 2048 ∨ 1114111 < (((s[i].toNat : Int) - 224) * 64 + s[i + 1].toNat - 128) * 64 + s[i + 2].toNat - 128 ∨
        (55296 ≤ (((s[i].toNat : Int) - 224) * 64 + s[i + 1].toNat - 128) * 64 + s[i + 2].toNat - 128 ∧ (((s[i].toNat : Int) - 224) * 64 + s[i + 1].toNat - 128) * 64 + s[i + 2].toNat - 128 ≤ 57343)
    · exact refRune_3_val s i w hs hi (by omega) a4 (by omega) (by omega) (by omega) hv
    · exact refRune_3_ok s i w hs hi (by omega) a4 (by omega) (by omega) (by omega) (by omega) (by omega) (by omega)
  · by_cases hn : (s.size : Int) < (i : Int) + 4
    · exact refRune_4_short s i w hs hi (by omega) (by omega) hn
    have c1 : s[i + 1].toNat < 256 := s[i + 1].toNat_lt
    have c2 : s[i + 2].toNat < 256 := s[i + 2].toNat_lt
    have c3 : s[i + 3].toNat < 256 := s[i + 3].toNat_lt
    by_cases g1 : (s[i + 1].toNat : Int) < 128 ∨ (191 : Int) < s[i + 1].toNat
    · exact refRune_4_bad1 s i w hs hi (by omega) (by omega) (by omega) g1
    by_cases g2 : (s[i + 2].toNat : Int) < 128 ∨ (191 : Int) < s[i + 2].toNat
    · exact refRune_4_bad2 s i w hs hi (by omega) (by omega) (by omega) (by omega) g2
    by_cases g3 : (s[i + 3].toNat : Int) < 128 ∨ (191 : Int) < s[i + 3].toNat
    · exact refRune_4_bad3 s i w hs hi (by omega) (by omega) (by omega) (by omega) (by omega) g3
    by_cases hv : ((((s[i].toNat : Int) - 240) * 64 + s[i + 1].toNat - 128) * 64 + s[i + 2].toNat - 128) * 64 + s[i + 3].toNat - 128 < 65536 ∨ 1114111 < ((((s[i].toNat : Int) - 240) * 64 + s[i + 1].toNat - 128) * 64 + s[i + 2].toNat - 128) * 64 + s[i + 3].toNat - 128 ∨
        (55296 ≤ ((((s[i].toNat : Int) - 240) * 64 + s[i + 1].toNat - 128) * 64 + s[i + 2].toNat - 128) * 64 + s[i + 3].toNat - 128 ∧ ((((s[i].toNat : Int) - 240) * 64 + s[i + 1].toNat - 128) * 64 + s[i + 2].toNat - 128) * 64 + s[i + 3].toNat - 128 ≤ 57343)
    · exact refRune_4_val s i w hs hi (by omega) (by omega) (by omega) (by omega) (by omega) (by omega) hv
    · exact refRune_4_ok s i w hs hi (by omega) (by omega) (by omega) (by omega) (by omega) (by omega) (by omega) (by omega) (by omega)
set_option maxHeartbeats 400000 in
theorem refRune_out (s : ByteArray) (i : Int) (w : World) (h : i < 0 ∨ (s.size : Int) ≤ i) :
    Calls Tryd.prog 29 #[.string s, .int .i64 i] w fun e w' => e = .returned (.tuple #[.int .i32 0, .int .i64 0]) ∧ w = w' := by
  by_cases h1 : i < 0
  · clear h
    go_enter Tryd.func29, Tryd.ntmps29
    go_wp2
    go_ret2
    exact ⟨rfl, rfl⟩
  · have h2 : (s.size : Int) ≤ i := by omega
    clear h
    go_enter Tryd.func29, Tryd.ntmps29
    go_wp2
    go_ret2
    exact ⟨rfl, rfl⟩
theorem ext_at (s : ByteArray) (i j : Nat) : ((s.extract i s.size).get! j).toNat = at8 s (i + j) := by
  unfold at8
  show ((s.extract i s.size).data[j]!).toNat = (s.data[i + j]!).toNat
  have e : (s.extract i s.size).data = s.data.extract i s.size := by simp
  rw [e]
  have e2 : (s.data.extract i s.size).size = min s.size s.data.size - i := Array.size_extract
  have e3 : s.data.size = s.size := rfl
  by_cases h : i + j < s.size
  · rw [getElem!_pos s.data (i + j) h, getElem!_pos (s.data.extract i s.size) j (by omega), Array.getElem_extract]
  · rw [getElem!_neg s.data (i + j) h, getElem!_neg (s.data.extract i s.size) j (by omega)]
theorem dec_of_go (s : ByteArray) (i : Nat) (h : i < s.size) : Lib.decodeGo (s.extract i s.size) = dec s i := by
  have hz : (s.extract i s.size).size = s.size - i := by simp
  unfold Lib.decodeGo dec
  rw [if_neg (by omega), Lib.decode_at, Nat.sub_zero, hz, ext_at, ext_at, ext_at, ext_at]
  simp only [Nat.add_zero, Nat.zero_add]
theorem dec_of_list (s : ByteArray) (i : Nat) : Lib.decodeL (s.data.toList.drop i) = dec s i := by
  have e : (⟨(s.data.toList.drop i).toArray⟩ : ByteArray) = s.extract i s.size := by
    apply Go.WideShapes.bytes_inj
    rw [Lib.extract_to_end]
  have hz : (s.extract i s.size).size = s.size - i := by simp
  unfold Lib.decodeL dec
  rw [e, Lib.decode_at, Nat.sub_zero, hz, ext_at, ext_at, ext_at, ext_at]
  simp only [Nat.add_zero, Nat.zero_add]
set_option maxHeartbeats 4000000 in
theorem decN_bd (n b0 b1 b2 b3 : Nat) (hn : 1 ≤ n) : 1 ≤ (Lib.decodeN n b0 b1 b2 b3).2 ∧ (Lib.decodeN n b0 b1 b2 b3).2 ≤ n ∧ (Lib.decodeN n b0 b1 b2 b3).1 ≤ 1114111 := by
  unfold Lib.decodeN
  (repeat' split) <;> simp only <;> omega
theorem dec_bd (s : ByteArray) (i : Nat) (h : i < s.size) : 1 ≤ (dec s i).2 ∧ (dec s i).2 ≤ s.size - i ∧ (dec s i).1 ≤ 1114111 := decN_bd _ _ _ _ _ (by omega)
theorem rune_dec (s : ByteArray) (i : Nat) (w : World) (h : i < s.size) (hT : Lib.Utf8Tabs 0 1 w) :
    Calls Tryd.prog 27 #[.string s, .int .i64 i] w fun e w' => e = .returned (.tuple #[.int .i32 (dec s i).1, .int .i64 (dec s i).2]) ∧ Below w.heap.size w w' := by
  have := rune_in s i w h hT
  rwa [dec_of_go s i h] at this
end Go.Proofs.YteajgkjiappkiaaDoor
