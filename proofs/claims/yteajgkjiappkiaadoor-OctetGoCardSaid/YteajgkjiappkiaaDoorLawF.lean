/- The walk of the law OctetGo. The condition: Go's two tables of unicode/utf8 lie in memory as their initialisers lay them. -/
import Derived.Test.YteajgkjiappkiaaDoorLawE
import Derived.Lib.OthersKept
namespace Go.Proofs.YteajgkjiappkiaaDoor
open Go.RowKit
theorem decode_dec (s : ByteArray) (i : Nat) : Utf8.decode s i = dec s i := by rw [Lib.decode_at]; rfl
theorem below_iterAt {B : Nat} {a w : World} (h : Below B a w) (k : Nat) (hk : B ≤ k) (s : ByteArray) (p : Nat) : Below B a (w.iterAt k s p) :=
  ⟨h.os, h.tape, h.output, by simpa [World.iterAt] using h.size, fun i hi => by
    rw [← h.block i hi]
    simp only [World.iterAt]
    rw [Array.getElem?_setIfInBounds_ne (by omega)]⟩
theorem next_var (w : World) (k : Nat) (s : ByteArray) (p : Nat) (x : Int) (m : Nat) (hk : w.heap[k]? = some (.stringIter s p)) (h : p < s.size) (hx : Hid (((dec s p).1 : Int) = x)) (hm : Hid ((dec s p).2 = m)) (ty : TypeId) :
    (Instr.next (.pointer (some ⟨k, 0, none⟩)) true ty).run Tryd.prog w = .ok (.tuple #[.bool true, .int .i64 p, .int .i32 x]) (w.iterAt k s (p + m)) := by
  rw [Lib.run_next_any_at w k s p ty hk h, decode_dec, hx.out, hm.out]
theorem rune_at (s : ByteArray) (i : Nat) (w : World) (h : i < s.size) (hT : Lib.Utf8Tabs 0 1 w) (x : Int) (m : Nat) (hx : Hid (((dec s i).1 : Int) = x)) (hm : Hid ((dec s i).2 = m)) :
    Calls Tryd.prog 27 #[.string s, .int .i64 i] w fun e w' => e = .returned (.tuple #[.int .i32 x, .int .i64 m]) ∧ Below w.heap.size w w' := by
  rw [← hx.out, ← hm.out]; exact rune_dec s i w h hT
set_option maxHeartbeats 400000 in
theorem octetGo_out (s : ByteArray) (w : World) (hT : Lib.Utf8Tabs 0 1 w) (h : (5000 : Int) < s.size) :
    Calls Tryd.prog 7 #[.string s] w fun e w' => e = .returned (.bool true) ∧ Below w.heap.size w w' := by
  have HT := Lib.hid hT
  clear hT
  go_enter Tryd.func7, Tryd.ntmps7
  go_wp2_with (go_at_call 10; refine (alive_any _ HT.out).mono ?_; rintro e w' ⟨rfl, hb⟩)
  go_ret
  exact ⟨rfl, hb⟩
set_option maxHeartbeats 1000000 in
theorem octetGo_in (s : ByteArray) (w : World) (hT : Lib.Utf8Tabs 0 1 w) (hs : (s.size : Int) ≤ 5000) :
    Calls Tryd.prog 7 #[.string s] w fun e w' => e = .returned (.bool true) ∧ Below w.heap.size w w' := by
  have HT := Lib.hid hT
  clear hT
  go_enter Tryd.func7, Tryd.ntmps7
  go_wp2_with fail
  go_loopw [3, 4] (fun v t wr => ∃ (p : Nat) (b : Bool), p ≤ s.size ∧ v = .int .i64 p ∧ t = .bool b ∧ Hid (Lib.validD s.data.toList = (b && Lib.validD (s.data.toList.drop p))) ∧ Hid (wr.heap[w.heap.size]? = some (.stringIter s p)) ∧ Below w.heap.size w wr) (fun v _ _ => s.size - (intOf v).toNat)
  case atStart => exact ⟨0, true, Nat.zero_le _, rfl, rfl, Lib.hid (by simp), Lib.hid (World.iter_heap w s 0), (Below.refl _ _).alloc (Nat.le_refl _) _⟩
  case round =>
    obtain ⟨p, b, hp, rfl, rfl, HV, HI, hbel⟩ := hrel
    have HT1 := Lib.hid (Utf8Tabs_below HT.out hbel)
    by_cases hlt : p < s.size
    · obtain ⟨b1, b2, _⟩ := dec_bd s p hlt
      have hva := valid_at s p hlt
      obtain ⟨x, hx⟩ : ∃ x : Int, ((dec s p).1 : Int) = x := ⟨_, rfl⟩
      obtain ⟨m, hm⟩ : ∃ m : Nat, (dec s p).2 = m := ⟨_, rfl⟩
      have hg : goodAt s p = !decide (x = 65533 ∧ m = 1) := by
        unfold goodAt
        rw [← hx, ← hm]
        congr 2
        apply propext
        omega
      rw [hm] at b1 b2 hva
      rw [hg] at hva
      have HA := Lib.hid hva
      have HX := Lib.hid hx
      have HM := Lib.hid hm
      clear hx hm hva hg
      have hnx := next_var wr w.heap.size s p x m HI.out hlt HX HM
      have hbi := below_iterAt hbel w.heap.size (Nat.le_refl _) s (p + m)
      have HT2 := Lib.hid (Utf8Tabs_below HT.out hbi)
      have HI2 := Lib.hid (Lib.iterAt_heap wr w.heap.size s p (p + m) HI.out)
      go_wp2_with fail
      clear hnx
      refine (rune_at s p _ hlt HT2.out x m HX HM).mono ?_
      rintro e w1 ⟨rfl, hb1⟩
      have hK : w.heap.size < (wr.iterAt w.heap.size s (p + m)).heap.size := (Array.getElem?_eq_some_iff.1 HI2.out).1
      have HI3 := Lib.hid ((hb1.block w.heap.size hK).trans HI2.out)
      have hb2 := hbi.trans (hb1.mono hbi.size)
      clear hb1 hK hbi
      by_cases hm1 : m = 1
      · have e1 : ((m : Int) == 1) = true := by rw [beq_iff_eq]; omega
        by_cases hx1 : x = 65533
        · have e2 : (x == 65533) = true := by rw [beq_iff_eq]; exact hx1
          have HF : Hid (Lib.validD s.data.toList = (false && Lib.validD (s.data.toList.drop (p + m)))) := Lib.hid (by rw [HV.out, HA.out, hx1, hm1]; simp)
          clear hm1 hx1
          go_wp2_with fail
          go_roundw
          case rel => exact ⟨p + m, false, by omega, by go_num, rfl, HF, HI3, hb2⟩
          case measure => simp [intOf]; omega
        · have e2 : (x == 65533) = false := by rw [beq_eq_false_iff_ne]; exact hx1
          have HF : Hid (Lib.validD s.data.toList = (b && Lib.validD (s.data.toList.drop (p + m)))) := Lib.hid (by rw [HV.out, HA.out]; simp [hx1])
          clear hm1 hx1
          go_wp2_with fail
          go_roundw
          case rel => exact ⟨p + m, b, by omega, by go_num, rfl, HF, HI3, hb2⟩
          case measure => simp [intOf]; omega
      · have e1 : ((m : Int) == 1) = false := by rw [beq_eq_false_iff_ne]; omega
        have HF : Hid (Lib.validD s.data.toList = (b && Lib.validD (s.data.toList.drop (p + m)))) := Lib.hid (by rw [HV.out, HA.out]; simp [hm1])
        clear hm1
        go_wp2_with fail
        go_roundw
        case rel => exact ⟨p + m, b, by omega, by go_num, rfl, HF, HI3, hb2⟩
        case measure => simp [intOf]; omega
    · have hnx := fun ty => Lib.run_next_end_at (P := Tryd.prog) wr w.heap.size s p ty HI.out hlt
      have hpe : ((p : Int) == (s.size : Int)) = true := by rw [beq_iff_eq]; omega
      have HB : Hid (Lib.validD s.data.toList = b) := Lib.hid (by rw [HV.out, List.drop_of_length_le (by simp; omega), Lib.validD_nil]; simp)
      go_wp2_with fail
      clear hnx
      refine (alive_any _ HT1.out).mono ?_
      rintro e w1 ⟨rfl, hb1⟩
      have hb2 := hbel.trans (hb1.mono hbel.size)
      clear hb1
      have HT3 := Lib.hid (Utf8Tabs_below HT.out hb2)
      go_wp2_with fail
      refine (text_var b _ (by omega) HT3.out HB).mono ?_
      rintro e w2 ⟨rfl, hb3⟩
      have hb4 := hb2.trans (hb3.mono hb2.size)
      clear hb2 hb3
      cases b
      all_goals
        go_wp2_with fail
        go_ret
        exact ⟨rfl, hb4⟩
theorem octetGo_any (s : ByteArray) (w : World) (hT : Lib.Utf8Tabs 0 1 w) :
    Calls Tryd.prog 7 #[.string s] w fun e w' => e = .returned (.bool true) ∧ Below w.heap.size w w' := by
  by_cases h : (5000 : Int) < s.size
  · exact octetGo_out s w hT h
  · exact octetGo_in s w hT (by omega)
end Go.Proofs.YteajgkjiappkiaaDoor
