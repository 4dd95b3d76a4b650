/- The walk of the law OctetBack. The conditions: Go's two tables of unicode/utf8 lie in memory as their initialisers lay them; the text is within the form's own reach. -/
import Derived.Test.YteajgkjiappkiaaDoorPlainE
import Derived.Test.YteajgkjiappkiaaDoorOctF
import Derived.Test.YteajgkjiappkiaaDoorOctL
import Derived.Test.YteajgkjiappkiaaDoorLawE
namespace Go.Proofs.YteajgkjiappkiaaDoor
open Go.RowKit
section
variable {v n : Int} {s : ByteArray} {r : Value}
theorem putB (w : World) (h : Hid (putV v n = r)) : Calls Tryd.prog 13 #[.int .i64 v, .int .i64 n] w fun e w' => e = .returned r ∧ Below w.heap.size w w' := h.out ▸ put_any v n w
theorem getB (w : World) (h : Hid (getV s = r)) : Calls Tryd.prog 15 #[.string s] w fun e w' => e = .returned r ∧ w = w' := h.out ▸ get_any s w
theorem sgnB (w : World) (h : Hid (sgnV s = r)) : Calls Tryd.prog 17 #[.string s] w fun e w' => e = .returned r ∧ w = w' := h.out ▸ signed_any s w
theorem putSgnB (w : World) (hlo : -9223372036854775808 ≤ v) (hhi : v ≤ 9223372036854775807) (h : Hid ((⟨(Oct.beB (Oct.psLen v) v).toArray⟩ : ByteArray) = s)) :
    Calls Tryd.prog 19 #[.int .i64 v] w fun e w' => e = .returned (.string s) ∧ Below w.heap.size w w' := h.out ▸ putSigned_any v w hlo hhi
theorem hexB {t : ByteArray} (w : World) (hs : s.size ≤ 140737488351232) (h : Hid ((⟨(Oct.hexL s.data.toList).toArray⟩ : ByteArray) = t)) :
    Calls Tryd.prog 23 #[.string s] w fun e w' => e = .returned (.string t) ∧ Below w.heap.size w w' := h.out ▸ hex_big s w hs
theorem unhexB (w : World) (hs : s.size ≤ 281474976702464) (h : Hid (unhexV s = r)) : Calls Tryd.prog 21 #[.string s] w fun e w' => e = .returned r ∧ Below w.heap.size w w' := h.out ▸ unhex_any s w hs
end
theorem size_hex (b : ByteArray) : (⟨(Oct.hexL b.data.toList).toArray⟩ : ByteArray).size = 2 * b.size := by
  show (Oct.hexL b.data.toList).toArray.size = _
  rw [List.size_toArray, Oct.hexL_length]
  rfl
theorem size_beB (m : Nat) (v : Int) : (⟨(Oct.beB m v).toArray⟩ : ByteArray).size = m := by
  show (Oct.beB m v).toArray.size = m
  rw [List.size_toArray, Oct.beB_length]
/-- what is known of a number's Put -/
def PutIs (v n : Int) (S : ByteArray) (e : Int) : Prop := putV v n = .tuple #[.string S, .int .i64 e] ∧ ((e = 0 ∧ getV S = .tuple #[.int .i64 v, .int .i64 0] ∧ (S.size : Int) = n) ∨ e = 1)
theorem put_is (v n : Int) : ∃ S e, PutIs v n S e := by
  by_cases h : 1 ≤ n ∧ n ≤ 7 ∧ 0 ≤ v
  · obtain ⟨m, rfl⟩ := Int.eq_ofNat_of_zero_le (show 0 ≤ n by omega)
    by_cases hv : v < 256 ^ m
    · exact ⟨_, _, by unfold putV; rw [if_pos h, Int.toNat_natCast, putAns_yes hv], .inl ⟨rfl, put_get v m (by omega) (by omega) h.2.2 hv, by rw [size_beB]⟩⟩
    · exact ⟨_, _, by unfold putV; rw [if_pos h, Int.toNat_natCast, putAns_no hv], .inr rfl⟩
  · exact ⟨_, _, by unfold putV; rw [if_neg h], .inr rfl⟩
theorem rune_zero (s : ByteArray) (w : World) (h : 1 ≤ s.size) (hT : Lib.Utf8Tabs 0 1 w) (x : Int) (hx : Hid (((dec s 0).1 : Int) = x)) (hn : Hid (((dec s 0).2 : Int) = (s.size : Int))) :
    Calls Tryd.prog 27 #[.string s, .int .i64 0] w fun e w' => e = .returned (.tuple #[.int .i32 x, .int .i64 s.size]) ∧ Below w.heap.size w w' := by
  rw [← hx.out, ← hn.out]; exact rune_dec s 0 w (by omega) hT
set_option maxHeartbeats 8000000 in
theorem octetBack_any (v n : Int) (b : ByteArray) (r : Int) (w : World) (hT : Lib.Utf8Tabs 0 1 w) (hlo : -9223372036854775808 ≤ v) (hhi : v ≤ 9223372036854775807) (hb : b.size ≤ 140737488351232) :
    Calls Tryd.prog 9 #[.int .i64 v, .int .i64 n, .string b, .int .i32 r] w fun e w' => e = .returned (.bool true) ∧ Below w.heap.size w w' := by
  have HT := Lib.hid hT
  clear hT
  obtain ⟨S, e0, hp, hcase⟩ := put_is v n
  have HP := Lib.hid hp
  clear hp
  obtain ⟨T, hT1⟩ : ∃ T, (⟨(Oct.beB (Oct.psLen v) v).toArray⟩ : ByteArray) = T := ⟨_, rfl⟩
  have hTs : T.size = Oct.psLen v := by rw [← hT1, size_beB]
  have hsg := sgn_sgn v hlo hhi
  rw [hT1] at hsg
  obtain ⟨L, hL⟩ : ∃ L, Oct.psLen v = L := ⟨_, rfl⟩
  have HF : Hid (1 < L → ∃ x, sgnV (T.extract 1 T.size) = .tuple #[.int .i64 x, .int .i64 0] ∧ (x == v) = false) := Lib.hid (by
    intro h1
    have := sgn_fewer v hlo hhi (by omega)
    rw [hT1] at this
    exact ⟨_, this⟩)
  have L1 := Oct.psLen_pos v
  rw [hL] at hTs L1
  have HT1 := Lib.hid hT1
  have HTS := Lib.hid hTs
  have HSG := Lib.hid hsg
  clear hT1 hsg hL
  obtain ⟨X, hX⟩ : ∃ X, (⟨(Oct.hexL b.data.toList).toArray⟩ : ByteArray) = X := ⟨_, rfl⟩
  have hXs : X.size ≤ 281474976702464 := by rw [← hX, size_hex]; omega
  have hU := unhex_hex b
  rw [hX] at hU
  have HX := Lib.hid hX
  have HU := Lib.hid hU
  clear hX hU
  have HV : Hid (Lib.validRune r = decide ((0 ≤ r ∧ r < 0xD800) ∨ (0xDFFF < r ∧ r ≤ 0x10FFFF))) := Lib.hid rfl
  have tLoop : (1 < T.size ∧ 1 < L) ∨ (T.size ≤ 1 ∧ L ≤ 1) := by omega
  clear hTs
  by_cases hv : (0 ≤ r ∧ r < 55296) ∨ (57343 < r ∧ r ≤ 1114111)
  · have hp : putRuneV r = .tuple #[.string (Utf8.encode r), .int .i64 0] := by unfold putRuneV; rw [if_pos (by rw [HV.out]; simp; omega)]
    obtain ⟨d1, d2, d3, d4, _⟩ := dec_enc r hv
    have hd := valid_enc r hv
    obtain ⟨E, hE⟩ : ∃ E, Utf8.encode r = E := ⟨_, rfl⟩
    rw [hE] at hp d1 d2 d3 d4 hd
    have H1 := Lib.hid hp
    have D1 := Lib.hid d1
    have D2 : Hid (((dec E 0).2 : Int) = (E.size : Int)) := Lib.hid (by rw [d2])
    have D3 := Lib.hid hd
    clear hp d1 d2 hd hE hv
    rcases hcase with ⟨rfl, g1, g2⟩ | rfl
    · rcases tLoop with ⟨t1, t2⟩ | ⟨t1, t2⟩
      · skip
        have q1 : ((S.size : Int) != n) = false := by rw [bne_eq_false_iff_eq]; exact g2
        have G1 := Lib.hid g1
        clear g1 g2
        obtain ⟨x, f1, f2⟩ := HF.out t2
        have F1 := Lib.hid f1
        clear f1
        go_enter Tryd.func9, Tryd.ntmps9
        go_wp2_with fail
        refine (putB _ HP).mono ?_
        rintro e w1 ⟨rfl, c1⟩
        go_wp2_with fail
        refine (getB _ G1).mono ?_
        rintro e w' ⟨rfl, rfl⟩
        go_wp2_with fail
        refine (putSgnB _ hlo hhi HT1).mono ?_
        rintro e w2 ⟨rfl, b2⟩
        have c2 := c1.trans (b2.mono c1.size)
        clear c1 b2
        go_wp2_with fail
        refine (sgnB _ HSG).mono ?_
        rintro e w' ⟨rfl, rfl⟩
        go_wp2_with fail
        refine (hexB _ hb HX).mono ?_
        rintro e w3 ⟨rfl, b3⟩
        have c3 := c2.trans (b3.mono c2.size)
        clear c2 b3
        go_wp2_with fail
        refine (unhexB _ hXs HU).mono ?_
        rintro e w4 ⟨rfl, b4⟩
        have c4 := c3.trans (b4.mono c3.size)
        clear c3 b4
        go_wp2_with fail
        refine (sgnB _ F1).mono ?_
        rintro e w' ⟨rfl, rfl⟩
        go_wp2_with fail
        refine (putRune_var _ H1).mono ?_
        rintro e w' ⟨rfl, rfl⟩
        have HT2 := Lib.hid (Utf8Tabs_below HT.out c4)
        go_wp2_with fail
        refine (rune_zero E _ d3 HT2.out r D1 D2).mono ?_
        rintro e w5 ⟨rfl, b5⟩
        have c5 := c4.trans (b5.mono c4.size)
        clear c4 b5
        have HT3 := Lib.hid (Utf8Tabs_below HT.out c5)
        go_wp2_with fail
        refine (alive_any _ HT3.out).mono ?_
        rintro e w6 ⟨rfl, b6⟩
        have c6 := c5.trans (b6.mono c5.size)
        clear c5 b6
        have HT4 := Lib.hid (Utf8Tabs_below HT.out c6)
        go_wp2_with fail
        refine (text_var true _ (by omega) HT4.out D3).mono ?_
        rintro e w7 ⟨rfl, b7⟩
        have c7 := c6.trans (b7.mono c6.size)
        clear c6 b7
        go_wp2_with fail
        go_ret
        exact ⟨rfl, c7⟩
      · skip
        have q1 : ((S.size : Int) != n) = false := by rw [bne_eq_false_iff_eq]; exact g2
        have G1 := Lib.hid g1
        clear g1 g2
        go_enter Tryd.func9, Tryd.ntmps9
        go_wp2_with fail
        refine (putB _ HP).mono ?_
        rintro e w1 ⟨rfl, c1⟩
        go_wp2_with fail
        refine (getB _ G1).mono ?_
        rintro e w' ⟨rfl, rfl⟩
        go_wp2_with fail
        refine (putSgnB _ hlo hhi HT1).mono ?_
        rintro e w2 ⟨rfl, b2⟩
        have c2 := c1.trans (b2.mono c1.size)
        clear c1 b2
        go_wp2_with fail
        refine (sgnB _ HSG).mono ?_
        rintro e w' ⟨rfl, rfl⟩
        go_wp2_with fail
        refine (hexB _ hb HX).mono ?_
        rintro e w3 ⟨rfl, b3⟩
        have c3 := c2.trans (b3.mono c2.size)
        clear c2 b3
        go_wp2_with fail
        refine (unhexB _ hXs HU).mono ?_
        rintro e w4 ⟨rfl, b4⟩
        have c4 := c3.trans (b4.mono c3.size)
        clear c3 b4
        go_wp2_with fail
        refine (putRune_var _ H1).mono ?_
        rintro e w' ⟨rfl, rfl⟩
        have HT2 := Lib.hid (Utf8Tabs_below HT.out c4)
        go_wp2_with fail
        refine (rune_zero E _ d3 HT2.out r D1 D2).mono ?_
        rintro e w5 ⟨rfl, b5⟩
        have c5 := c4.trans (b5.mono c4.size)
        clear c4 b5
        have HT3 := Lib.hid (Utf8Tabs_below HT.out c5)
        go_wp2_with fail
        refine (alive_any _ HT3.out).mono ?_
        rintro e w6 ⟨rfl, b6⟩
        have c6 := c5.trans (b6.mono c5.size)
        clear c5 b6
        have HT4 := Lib.hid (Utf8Tabs_below HT.out c6)
        go_wp2_with fail
        refine (text_var true _ (by omega) HT4.out D3).mono ?_
        rintro e w7 ⟨rfl, b7⟩
        have c7 := c6.trans (b7.mono c6.size)
        clear c6 b7
        go_wp2_with fail
        go_ret
        exact ⟨rfl, c7⟩
    · rcases tLoop with ⟨t1, t2⟩ | ⟨t1, t2⟩
      · skip
        obtain ⟨x, f1, f2⟩ := HF.out t2
        have F1 := Lib.hid f1
        clear f1
        go_enter Tryd.func9, Tryd.ntmps9
        go_wp2_with fail
        refine (putB _ HP).mono ?_
        rintro e w1 ⟨rfl, c1⟩
        go_wp2_with fail
        refine (putSgnB _ hlo hhi HT1).mono ?_
        rintro e w2 ⟨rfl, b2⟩
        have c2 := c1.trans (b2.mono c1.size)
        clear c1 b2
        go_wp2_with fail
        refine (sgnB _ HSG).mono ?_
        rintro e w' ⟨rfl, rfl⟩
        go_wp2_with fail
        refine (hexB _ hb HX).mono ?_
        rintro e w3 ⟨rfl, b3⟩
        have c3 := c2.trans (b3.mono c2.size)
        clear c2 b3
        go_wp2_with fail
        refine (unhexB _ hXs HU).mono ?_
        rintro e w4 ⟨rfl, b4⟩
        have c4 := c3.trans (b4.mono c3.size)
        clear c3 b4
        go_wp2_with fail
        refine (sgnB _ F1).mono ?_
        rintro e w' ⟨rfl, rfl⟩
        go_wp2_with fail
        refine (putRune_var _ H1).mono ?_
        rintro e w' ⟨rfl, rfl⟩
        have HT2 := Lib.hid (Utf8Tabs_below HT.out c4)
        go_wp2_with fail
        refine (rune_zero E _ d3 HT2.out r D1 D2).mono ?_
        rintro e w5 ⟨rfl, b5⟩
        have c5 := c4.trans (b5.mono c4.size)
        clear c4 b5
        have HT3 := Lib.hid (Utf8Tabs_below HT.out c5)
        go_wp2_with fail
        refine (alive_any _ HT3.out).mono ?_
        rintro e w6 ⟨rfl, b6⟩
        have c6 := c5.trans (b6.mono c5.size)
        clear c5 b6
        have HT4 := Lib.hid (Utf8Tabs_below HT.out c6)
        go_wp2_with fail
        refine (text_var true _ (by omega) HT4.out D3).mono ?_
        rintro e w7 ⟨rfl, b7⟩
        have c7 := c6.trans (b7.mono c6.size)
        clear c6 b7
        go_wp2_with fail
        go_ret
        exact ⟨rfl, c7⟩
      · skip
        go_enter Tryd.func9, Tryd.ntmps9
        go_wp2_with fail
        refine (putB _ HP).mono ?_
        rintro e w1 ⟨rfl, c1⟩
        go_wp2_with fail
        refine (putSgnB _ hlo hhi HT1).mono ?_
        rintro e w2 ⟨rfl, b2⟩
        have c2 := c1.trans (b2.mono c1.size)
        clear c1 b2
        go_wp2_with fail
        refine (sgnB _ HSG).mono ?_
        rintro e w' ⟨rfl, rfl⟩
        go_wp2_with fail
        refine (hexB _ hb HX).mono ?_
        rintro e w3 ⟨rfl, b3⟩
        have c3 := c2.trans (b3.mono c2.size)
        clear c2 b3
        go_wp2_with fail
        refine (unhexB _ hXs HU).mono ?_
        rintro e w4 ⟨rfl, b4⟩
        have c4 := c3.trans (b4.mono c3.size)
        clear c3 b4
        go_wp2_with fail
        refine (putRune_var _ H1).mono ?_
        rintro e w' ⟨rfl, rfl⟩
        have HT2 := Lib.hid (Utf8Tabs_below HT.out c4)
        go_wp2_with fail
        refine (rune_zero E _ d3 HT2.out r D1 D2).mono ?_
        rintro e w5 ⟨rfl, b5⟩
        have c5 := c4.trans (b5.mono c4.size)
        clear c4 b5
        have HT3 := Lib.hid (Utf8Tabs_below HT.out c5)
        go_wp2_with fail
        refine (alive_any _ HT3.out).mono ?_
        rintro e w6 ⟨rfl, b6⟩
        have c6 := c5.trans (b6.mono c5.size)
        clear c5 b6
        have HT4 := Lib.hid (Utf8Tabs_below HT.out c6)
        go_wp2_with fail
        refine (text_var true _ (by omega) HT4.out D3).mono ?_
        rintro e w7 ⟨rfl, b7⟩
        have c7 := c6.trans (b7.mono c6.size)
        clear c6 b7
        go_wp2_with fail
        go_ret
        exact ⟨rfl, c7⟩
  · have hp : putRuneV r = .tuple #[.string ⟨#[]⟩, .int .i64 10] := by unfold putRuneV; rw [if_neg (by rw [HV.out]; simp; omega)]
    have H1 := Lib.hid hp
    clear hp
    have hr : r < 0 ∨ 1114111 < r ∨ (55296 ≤ r ∧ r ≤ 57343) := by omega
    clear hv
    rcases hcase with ⟨rfl, g1, g2⟩ | rfl
    all_goals rcases tLoop with ⟨t1, t2⟩ | ⟨t1, t2⟩
    all_goals rcases hr with hr | hr | ⟨hr, hr2⟩
    · skip
      have q1 : ((S.size : Int) != n) = false := by rw [bne_eq_false_iff_eq]; exact g2
      have G1 := Lib.hid g1
      clear g1 g2
      obtain ⟨x, f1, f2⟩ := HF.out t2
      have F1 := Lib.hid f1
      clear f1
      go_enter Tryd.func9, Tryd.ntmps9
      go_wp2_with fail
      refine (putB _ HP).mono ?_
      rintro e w1 ⟨rfl, c1⟩
      go_wp2_with fail
      refine (getB _ G1).mono ?_
      rintro e w' ⟨rfl, rfl⟩
      go_wp2_with fail
      refine (putSgnB _ hlo hhi HT1).mono ?_
      rintro e w2 ⟨rfl, b2⟩
      have c2 := c1.trans (b2.mono c1.size)
      clear c1 b2
      go_wp2_with fail
      refine (sgnB _ HSG).mono ?_
      rintro e w' ⟨rfl, rfl⟩
      go_wp2_with fail
      refine (hexB _ hb HX).mono ?_
      rintro e w3 ⟨rfl, b3⟩
      have c3 := c2.trans (b3.mono c2.size)
      clear c2 b3
      go_wp2_with fail
      refine (unhexB _ hXs HU).mono ?_
      rintro e w4 ⟨rfl, b4⟩
      have c4 := c3.trans (b4.mono c3.size)
      clear c3 b4
      go_wp2_with fail
      refine (sgnB _ F1).mono ?_
      rintro e w' ⟨rfl, rfl⟩
      go_wp2_with fail
      refine (putRune_var _ H1).mono ?_
      rintro e w' ⟨rfl, rfl⟩
      have HT2 := Lib.hid (Utf8Tabs_below HT.out c4)
      go_wp2_with fail
      refine (alive_any _ HT2.out).mono ?_
      rintro e w5 ⟨rfl, b5⟩
      have c5 := c4.trans (b5.mono c4.size)
      clear c4 b5
      go_wp2_with fail
      go_ret
      exact ⟨rfl, c5⟩
    · skip
      have q1 : ((S.size : Int) != n) = false := by rw [bne_eq_false_iff_eq]; exact g2
      have G1 := Lib.hid g1
      clear g1 g2
      obtain ⟨x, f1, f2⟩ := HF.out t2
      have F1 := Lib.hid f1
      clear f1
      go_enter Tryd.func9, Tryd.ntmps9
      go_wp2_with fail
      refine (putB _ HP).mono ?_
      rintro e w1 ⟨rfl, c1⟩
      go_wp2_with fail
      refine (getB _ G1).mono ?_
      rintro e w' ⟨rfl, rfl⟩
      go_wp2_with fail
      refine (putSgnB _ hlo hhi HT1).mono ?_
      rintro e w2 ⟨rfl, b2⟩
      have c2 := c1.trans (b2.mono c1.size)
      clear c1 b2
      go_wp2_with fail
      refine (sgnB _ HSG).mono ?_
      rintro e w' ⟨rfl, rfl⟩
      go_wp2_with fail
      refine (hexB _ hb HX).mono ?_
      rintro e w3 ⟨rfl, b3⟩
      have c3 := c2.trans (b3.mono c2.size)
      clear c2 b3
      go_wp2_with fail
      refine (unhexB _ hXs HU).mono ?_
      rintro e w4 ⟨rfl, b4⟩
      have c4 := c3.trans (b4.mono c3.size)
      clear c3 b4
      go_wp2_with fail
      refine (sgnB _ F1).mono ?_
      rintro e w' ⟨rfl, rfl⟩
      go_wp2_with fail
      refine (putRune_var _ H1).mono ?_
      rintro e w' ⟨rfl, rfl⟩
      have HT2 := Lib.hid (Utf8Tabs_below HT.out c4)
      go_wp2_with fail
      refine (alive_any _ HT2.out).mono ?_
      rintro e w5 ⟨rfl, b5⟩
      have c5 := c4.trans (b5.mono c4.size)
      clear c4 b5
      go_wp2_with fail
      go_ret
      exact ⟨rfl, c5⟩
    · skip
      have q1 : ((S.size : Int) != n) = false := by rw [bne_eq_false_iff_eq]; exact g2
      have G1 := Lib.hid g1
      clear g1 g2
      obtain ⟨x, f1, f2⟩ := HF.out t2
      have F1 := Lib.hid f1
      clear f1
      go_enter Tryd.func9, Tryd.ntmps9
      go_wp2_with fail
      refine (putB _ HP).mono ?_
      rintro e w1 ⟨rfl, c1⟩
      go_wp2_with fail
      refine (getB _ G1).mono ?_
      rintro e w' ⟨rfl, rfl⟩
      go_wp2_with fail
      refine (putSgnB _ hlo hhi HT1).mono ?_
      rintro e w2 ⟨rfl, b2⟩
      have c2 := c1.trans (b2.mono c1.size)
      clear c1 b2
      go_wp2_with fail
      refine (sgnB _ HSG).mono ?_
      rintro e w' ⟨rfl, rfl⟩
      go_wp2_with fail
      refine (hexB _ hb HX).mono ?_
      rintro e w3 ⟨rfl, b3⟩
      have c3 := c2.trans (b3.mono c2.size)
      clear c2 b3
      go_wp2_with fail
      refine (unhexB _ hXs HU).mono ?_
      rintro e w4 ⟨rfl, b4⟩
      have c4 := c3.trans (b4.mono c3.size)
      clear c3 b4
      go_wp2_with fail
      refine (sgnB _ F1).mono ?_
      rintro e w' ⟨rfl, rfl⟩
      go_wp2_with fail
      refine (putRune_var _ H1).mono ?_
      rintro e w' ⟨rfl, rfl⟩
      have HT2 := Lib.hid (Utf8Tabs_below HT.out c4)
      go_wp2_with fail
      refine (alive_any _ HT2.out).mono ?_
      rintro e w5 ⟨rfl, b5⟩
      have c5 := c4.trans (b5.mono c4.size)
      clear c4 b5
      go_wp2_with fail
      go_ret
      exact ⟨rfl, c5⟩
    · skip
      have q1 : ((S.size : Int) != n) = false := by rw [bne_eq_false_iff_eq]; exact g2
      have G1 := Lib.hid g1
      clear g1 g2
      go_enter Tryd.func9, Tryd.ntmps9
      go_wp2_with fail
      refine (putB _ HP).mono ?_
      rintro e w1 ⟨rfl, c1⟩
      go_wp2_with fail
      refine (getB _ G1).mono ?_
      rintro e w' ⟨rfl, rfl⟩
      go_wp2_with fail
      refine (putSgnB _ hlo hhi HT1).mono ?_
      rintro e w2 ⟨rfl, b2⟩
      have c2 := c1.trans (b2.mono c1.size)
      clear c1 b2
      go_wp2_with fail
      refine (sgnB _ HSG).mono ?_
      rintro e w' ⟨rfl, rfl⟩
      go_wp2_with fail
      refine (hexB _ hb HX).mono ?_
      rintro e w3 ⟨rfl, b3⟩
      have c3 := c2.trans (b3.mono c2.size)
      clear c2 b3
      go_wp2_with fail
      refine (unhexB _ hXs HU).mono ?_
      rintro e w4 ⟨rfl, b4⟩
      have c4 := c3.trans (b4.mono c3.size)
      clear c3 b4
      go_wp2_with fail
      refine (putRune_var _ H1).mono ?_
      rintro e w' ⟨rfl, rfl⟩
      have HT2 := Lib.hid (Utf8Tabs_below HT.out c4)
      go_wp2_with fail
      refine (alive_any _ HT2.out).mono ?_
      rintro e w5 ⟨rfl, b5⟩
      have c5 := c4.trans (b5.mono c4.size)
      clear c4 b5
      go_wp2_with fail
      go_ret
      exact ⟨rfl, c5⟩
    · skip
      have q1 : ((S.size : Int) != n) = false := by rw [bne_eq_false_iff_eq]; exact g2
      have G1 := Lib.hid g1
      clear g1 g2
      go_enter Tryd.func9, Tryd.ntmps9
      go_wp2_with fail
      refine (putB _ HP).mono ?_
      rintro e w1 ⟨rfl, c1⟩
      go_wp2_with fail
      refine (getB _ G1).mono ?_
      rintro e w' ⟨rfl, rfl⟩
      go_wp2_with fail
      refine (putSgnB _ hlo hhi HT1).mono ?_
      rintro e w2 ⟨rfl, b2⟩
      have c2 := c1.trans (b2.mono c1.size)
      clear c1 b2
      go_wp2_with fail
      refine (sgnB _ HSG).mono ?_
      rintro e w' ⟨rfl, rfl⟩
      go_wp2_with fail
      refine (hexB _ hb HX).mono ?_
      rintro e w3 ⟨rfl, b3⟩
      have c3 := c2.trans (b3.mono c2.size)
      clear c2 b3
      go_wp2_with fail
      refine (unhexB _ hXs HU).mono ?_
      rintro e w4 ⟨rfl, b4⟩
      have c4 := c3.trans (b4.mono c3.size)
      clear c3 b4
      go_wp2_with fail
      refine (putRune_var _ H1).mono ?_
      rintro e w' ⟨rfl, rfl⟩
      have HT2 := Lib.hid (Utf8Tabs_below HT.out c4)
      go_wp2_with fail
      refine (alive_any _ HT2.out).mono ?_
      rintro e w5 ⟨rfl, b5⟩
      have c5 := c4.trans (b5.mono c4.size)
      clear c4 b5
      go_wp2_with fail
      go_ret
      exact ⟨rfl, c5⟩
    · skip
      have q1 : ((S.size : Int) != n) = false := by rw [bne_eq_false_iff_eq]; exact g2
      have G1 := Lib.hid g1
      clear g1 g2
      go_enter Tryd.func9, Tryd.ntmps9
      go_wp2_with fail
      refine (putB _ HP).mono ?_
      rintro e w1 ⟨rfl, c1⟩
      go_wp2_with fail
      refine (getB _ G1).mono ?_
      rintro e w' ⟨rfl, rfl⟩
      go_wp2_with fail
      refine (putSgnB _ hlo hhi HT1).mono ?_
      rintro e w2 ⟨rfl, b2⟩
      have c2 := c1.trans (b2.mono c1.size)
      clear c1 b2
      go_wp2_with fail
      refine (sgnB _ HSG).mono ?_
      rintro e w' ⟨rfl, rfl⟩
      go_wp2_with fail
      refine (hexB _ hb HX).mono ?_
      rintro e w3 ⟨rfl, b3⟩
      have c3 := c2.trans (b3.mono c2.size)
      clear c2 b3
      go_wp2_with fail
      refine (unhexB _ hXs HU).mono ?_
      rintro e w4 ⟨rfl, b4⟩
      have c4 := c3.trans (b4.mono c3.size)
      clear c3 b4
      go_wp2_with fail
      refine (putRune_var _ H1).mono ?_
      rintro e w' ⟨rfl, rfl⟩
      have HT2 := Lib.hid (Utf8Tabs_below HT.out c4)
      go_wp2_with fail
      refine (alive_any _ HT2.out).mono ?_
      rintro e w5 ⟨rfl, b5⟩
      have c5 := c4.trans (b5.mono c4.size)
      clear c4 b5
      go_wp2_with fail
      go_ret
      exact ⟨rfl, c5⟩
    · skip
      obtain ⟨x, f1, f2⟩ := HF.out t2
      have F1 := Lib.hid f1
      clear f1
      go_enter Tryd.func9, Tryd.ntmps9
      go_wp2_with fail
      refine (putB _ HP).mono ?_
      rintro e w1 ⟨rfl, c1⟩
      go_wp2_with fail
      refine (putSgnB _ hlo hhi HT1).mono ?_
      rintro e w2 ⟨rfl, b2⟩
      have c2 := c1.trans (b2.mono c1.size)
      clear c1 b2
      go_wp2_with fail
      refine (sgnB _ HSG).mono ?_
      rintro e w' ⟨rfl, rfl⟩
      go_wp2_with fail
      refine (hexB _ hb HX).mono ?_
      rintro e w3 ⟨rfl, b3⟩
      have c3 := c2.trans (b3.mono c2.size)
      clear c2 b3
      go_wp2_with fail
      refine (unhexB _ hXs HU).mono ?_
      rintro e w4 ⟨rfl, b4⟩
      have c4 := c3.trans (b4.mono c3.size)
      clear c3 b4
      go_wp2_with fail
      refine (sgnB _ F1).mono ?_
      rintro e w' ⟨rfl, rfl⟩
      go_wp2_with fail
      refine (putRune_var _ H1).mono ?_
      rintro e w' ⟨rfl, rfl⟩
      have HT2 := Lib.hid (Utf8Tabs_below HT.out c4)
      go_wp2_with fail
      refine (alive_any _ HT2.out).mono ?_
      rintro e w5 ⟨rfl, b5⟩
      have c5 := c4.trans (b5.mono c4.size)
      clear c4 b5
      go_wp2_with fail
      go_ret
      exact ⟨rfl, c5⟩
    · skip
      obtain ⟨x, f1, f2⟩ := HF.out t2
      have F1 := Lib.hid f1
      clear f1
      go_enter Tryd.func9, Tryd.ntmps9
      go_wp2_with fail
      refine (putB _ HP).mono ?_
      rintro e w1 ⟨rfl, c1⟩
      go_wp2_with fail
      refine (putSgnB _ hlo hhi HT1).mono ?_
      rintro e w2 ⟨rfl, b2⟩
      have c2 := c1.trans (b2.mono c1.size)
      clear c1 b2
      go_wp2_with fail
      refine (sgnB _ HSG).mono ?_
      rintro e w' ⟨rfl, rfl⟩
      go_wp2_with fail
      refine (hexB _ hb HX).mono ?_
      rintro e w3 ⟨rfl, b3⟩
      have c3 := c2.trans (b3.mono c2.size)
      clear c2 b3
      go_wp2_with fail
      refine (unhexB _ hXs HU).mono ?_
      rintro e w4 ⟨rfl, b4⟩
      have c4 := c3.trans (b4.mono c3.size)
      clear c3 b4
      go_wp2_with fail
      refine (sgnB _ F1).mono ?_
      rintro e w' ⟨rfl, rfl⟩
      go_wp2_with fail
      refine (putRune_var _ H1).mono ?_
      rintro e w' ⟨rfl, rfl⟩
      have HT2 := Lib.hid (Utf8Tabs_below HT.out c4)
      go_wp2_with fail
      refine (alive_any _ HT2.out).mono ?_
      rintro e w5 ⟨rfl, b5⟩
      have c5 := c4.trans (b5.mono c4.size)
      clear c4 b5
      go_wp2_with fail
      go_ret
      exact ⟨rfl, c5⟩
    · skip
      obtain ⟨x, f1, f2⟩ := HF.out t2
      have F1 := Lib.hid f1
      clear f1
      go_enter Tryd.func9, Tryd.ntmps9
      go_wp2_with fail
      refine (putB _ HP).mono ?_
      rintro e w1 ⟨rfl, c1⟩
      go_wp2_with fail
      refine (putSgnB _ hlo hhi HT1).mono ?_
      rintro e w2 ⟨rfl, b2⟩
      have c2 := c1.trans (b2.mono c1.size)
      clear c1 b2
      go_wp2_with fail
      refine (sgnB _ HSG).mono ?_
      rintro e w' ⟨rfl, rfl⟩
      go_wp2_with fail
      refine (hexB _ hb HX).mono ?_
      rintro e w3 ⟨rfl, b3⟩
      have c3 := c2.trans (b3.mono c2.size)
      clear c2 b3
      go_wp2_with fail
      refine (unhexB _ hXs HU).mono ?_
      rintro e w4 ⟨rfl, b4⟩
      have c4 := c3.trans (b4.mono c3.size)
      clear c3 b4
      go_wp2_with fail
      refine (sgnB _ F1).mono ?_
      rintro e w' ⟨rfl, rfl⟩
      go_wp2_with fail
      refine (putRune_var _ H1).mono ?_
      rintro e w' ⟨rfl, rfl⟩
      have HT2 := Lib.hid (Utf8Tabs_below HT.out c4)
      go_wp2_with fail
      refine (alive_any _ HT2.out).mono ?_
      rintro e w5 ⟨rfl, b5⟩
      have c5 := c4.trans (b5.mono c4.size)
      clear c4 b5
      go_wp2_with fail
      go_ret
      exact ⟨rfl, c5⟩
    · skip
      go_enter Tryd.func9, Tryd.ntmps9
      go_wp2_with fail
      refine (putB _ HP).mono ?_
      rintro e w1 ⟨rfl, c1⟩
      go_wp2_with fail
      refine (putSgnB _ hlo hhi HT1).mono ?_
      rintro e w2 ⟨rfl, b2⟩
      have c2 := c1.trans (b2.mono c1.size)
      clear c1 b2
      go_wp2_with fail
      refine (sgnB _ HSG).mono ?_
      rintro e w' ⟨rfl, rfl⟩
      go_wp2_with fail
      refine (hexB _ hb HX).mono ?_
      rintro e w3 ⟨rfl, b3⟩
      have c3 := c2.trans (b3.mono c2.size)
      clear c2 b3
      go_wp2_with fail
      refine (unhexB _ hXs HU).mono ?_
      rintro e w4 ⟨rfl, b4⟩
      have c4 := c3.trans (b4.mono c3.size)
      clear c3 b4
      go_wp2_with fail
      refine (putRune_var _ H1).mono ?_
      rintro e w' ⟨rfl, rfl⟩
      have HT2 := Lib.hid (Utf8Tabs_below HT.out c4)
      go_wp2_with fail
      refine (alive_any _ HT2.out).mono ?_
      rintro e w5 ⟨rfl, b5⟩
      have c5 := c4.trans (b5.mono c4.size)
      clear c4 b5
      go_wp2_with fail
      go_ret
      exact ⟨rfl, c5⟩
    · skip
      go_enter Tryd.func9, Tryd.ntmps9
      go_wp2_with fail
      refine (putB _ HP).mono ?_
      rintro e w1 ⟨rfl, c1⟩
      go_wp2_with fail
      refine (putSgnB _ hlo hhi HT1).mono ?_
      rintro e w2 ⟨rfl, b2⟩
      have c2 := c1.trans (b2.mono c1.size)
      clear c1 b2
      go_wp2_with fail
      refine (sgnB _ HSG).mono ?_
      rintro e w' ⟨rfl, rfl⟩
      go_wp2_with fail
      refine (hexB _ hb HX).mono ?_
      rintro e w3 ⟨rfl, b3⟩
      have c3 := c2.trans (b3.mono c2.size)
      clear c2 b3
      go_wp2_with fail
      refine (unhexB _ hXs HU).mono ?_
      rintro e w4 ⟨rfl, b4⟩
      have c4 := c3.trans (b4.mono c3.size)
      clear c3 b4
      go_wp2_with fail
      refine (putRune_var _ H1).mono ?_
      rintro e w' ⟨rfl, rfl⟩
      have HT2 := Lib.hid (Utf8Tabs_below HT.out c4)
      go_wp2_with fail
      refine (alive_any _ HT2.out).mono ?_
      rintro e w5 ⟨rfl, b5⟩
      have c5 := c4.trans (b5.mono c4.size)
      clear c4 b5
      go_wp2_with fail
      go_ret
      exact ⟨rfl, c5⟩
    · skip
      go_enter Tryd.func9, Tryd.ntmps9
      go_wp2_with fail
      refine (putB _ HP).mono ?_
      rintro e w1 ⟨rfl, c1⟩
      go_wp2_with fail
      refine (putSgnB _ hlo hhi HT1).mono ?_
      rintro e w2 ⟨rfl, b2⟩
      have c2 := c1.trans (b2.mono c1.size)
      clear c1 b2
      go_wp2_with fail
      refine (sgnB _ HSG).mono ?_
      rintro e w' ⟨rfl, rfl⟩
      go_wp2_with fail
      refine (hexB _ hb HX).mono ?_
      rintro e w3 ⟨rfl, b3⟩
      have c3 := c2.trans (b3.mono c2.size)
      clear c2 b3
      go_wp2_with fail
      refine (unhexB _ hXs HU).mono ?_
      rintro e w4 ⟨rfl, b4⟩
      have c4 := c3.trans (b4.mono c3.size)
      clear c3 b4
      go_wp2_with fail
      refine (putRune_var _ H1).mono ?_
      rintro e w' ⟨rfl, rfl⟩
      have HT2 := Lib.hid (Utf8Tabs_below HT.out c4)
      go_wp2_with fail
      refine (alive_any _ HT2.out).mono ?_
      rintro e w5 ⟨rfl, b5⟩
      have c5 := c4.trans (b5.mono c4.size)
      clear c4 b5
      go_wp2_with fail
      go_ret
      exact ⟨rfl, c5⟩
end Go.Proofs.YteajgkjiappkiaaDoor
