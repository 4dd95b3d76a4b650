/- What Hide writes is a hidden password whose parts are the salt and the sums. No conditions. -/
import Derived.Test.YteajgkjiappkiaaSecE
import Derived.Test.YteajgkjiappkiaaPlainF
import Derived.Test.YteajgkjiappkiaaPlainC
import Derived.Lib.IndexBytes
namespace Go.Proofs.Yteajgkjiappkiaa
open Go.RowKit
/-- the sums' bytes -/
def sums16 (a p : List UInt8) : List UInt8 := Oct.beB 4 (ssum 0 a p : Nat) ++ (Oct.beB 4 (ssum 1 a p : Nat) ++ (Oct.beB 4 (ssum 2 a p : Nat) ++ Oct.beB 4 (ssum 3 a p : Nat)))
theorem sums16_length (a p : List UInt8) : (sums16 a p).length = 16 := by simp [sums16, Oct.beB_length]
theorem hexL_append (a b : List UInt8) : Oct.hexL (a ++ b) = Oct.hexL a ++ Oct.hexL b := by simp [Oct.hexL]
theorem hide_list (a p : List UInt8) : (hideB a p 4).data.toList = [123, 83, 125] ++ (Oct.hexL a ++ (46 :: Oct.hexL (sums16 a p))) := by
  have e : (hideB a p 4).data = (((((((⟨#[123, 83, 125]⟩ : ByteArray) ++ hexBA a) ++ (⟨#[46]⟩ : ByteArray)) ++ hexBA (Oct.beB 4 (ssum 0 a p : Nat))) ++ hexBA (Oct.beB 4 (ssum 1 a p : Nat))) ++ hexBA (Oct.beB 4 (ssum 2 a p : Nat))) ++ hexBA (Oct.beB 4 (ssum 3 a p : Nat))).data := rfl
  rw [e]
  simp only [ByteArray.data_append, Array.toList_append, sums16, hexL_append]
  simp only [hexBA, List.append_assoc, List.cons_append, List.nil_append]
theorem drop_pre (x : List UInt8) (n : Nat) : (([123, 83, 125] : List UInt8) ++ x).drop (3 + n) = x.drop n := by
  rw [Nat.add_comm 3 n]
  rfl
theorem hide_A (a p : List UInt8) (ha : a.length = 4) : sA (hideB a p 4) = Oct.hexL a := by
  have hl := Oct.hexL_length a
  unfold sA
  rw [Lib.extract_data, hide_list, drop_pre _ 0, List.drop_zero, List.take_append_of_le_length (by omega), List.take_of_length_le (by omega)]
theorem hide_R (a p : List UInt8) (ha : a.length = 4) : sR (hideB a p 4) = Oct.hexL (sums16 a p) := by
  have hl := Oct.hexL_length a
  unfold sR
  rw [Lib.extract_to_end, hide_list, drop_pre _ 9, List.drop_append, List.drop_of_length_le (by omega), show 9 - (Oct.hexL a).length = 1 from by omega]
  rfl
theorem hide_head (a p : List UInt8) (ha : a.length = 4) : headOk (hideB a p 4) := by
  have hl := Oct.hexL_length a
  refine ⟨by rw [hideB_size a p ha], ?_, ?_⟩
  · rw [ByteArray.toList_eq, Lib.extract_data, hide_list]
    rfl
  · rw [hide_list, List.getD_eq_getElem?_getD, List.getElem?_append_right (by simp), List.getElem?_append_right (by simp; omega)]
    simp [hl, ha]
theorem hide_hid (a p : List UInt8) (ha : a.length = 4) : hid (hideB a p 4) ∧ saltOf (hideB a p 4) = ⟨a.toArray⟩ ∧ restOf (hideB a p 4) = ⟨(sums16 a p).toArray⟩ := by
  have hA := hide_A a p ha
  have hR := hide_R a p ha
  have u1 : Oct.unB (Oct.hexL a) 4 = a := by have := Oct.unB_hex a; rwa [ha] at this
  have u2 : Oct.unB (Oct.hexL (sums16 a p)) 16 = sums16 a p := by have := Oct.unB_hex (sums16 a p); rwa [sums16_length] at this
  refine ⟨⟨hide_head a p ha, ?_, ?_, ?_⟩, ?_, ?_⟩
  · rw [hA]; exact Oct.good_hex a
  · rw [hR]; exact Oct.good_hex _
  · rw [hA, hR, u1, u2]
  · unfold saltOf; rw [hA, u1]
  · unfold restOf; rw [hR, u2]
theorem piece_sums (a p : List UInt8) : piece (sums16 a p) 0 = (ssum 0 a p : Nat) ∧ piece (sums16 a p) 1 = (ssum 1 a p : Nat) ∧ piece (sums16 a p) 2 = (ssum 2 a p : Nat) ∧ piece (sums16 a p) 3 = (ssum 3 a p : Nat) := by
  have g : ∀ k, Oct.getFrom 0 (Oct.beB 4 (ssum k a p : Nat)) = (ssum k a p : Nat) := fun k => Oct.get_put 4 _ (by omega) (by have := ssum_lt k a p; show ((ssum k a p : Nat) : Int) < 256 ^ 4; omega)
  have hl : ∀ k, (Oct.beB 4 ((ssum k a p : Nat) : Int)).length = 4 := fun k => Oct.beB_length 4 _
  have d : ∀ (x y : List UInt8), x.length = 4 → (x ++ y).drop 4 = y := fun x y h => by rw [List.drop_append, List.drop_of_length_le (by omega), h]; rfl
  have t : ∀ (x y : List UInt8), x.length = 4 → (x ++ y).take 4 = x := fun x y h => by rw [List.take_append_of_le_length (by omega), List.take_of_length_le (by omega)]
  unfold piece sums16
  refine ⟨?_, ?_, ?_, ?_⟩
  · rw [show 4 * 0 = 0 from rfl, List.drop_zero, t _ _ (hl 0), g]
  · rw [show 4 * 1 = 4 from rfl, d _ _ (hl 0), t _ _ (hl 1), g]
  · rw [show 4 * 2 = 4 + 4 from rfl, ← List.drop_drop, d _ _ (hl 0), d _ _ (hl 1), t _ _ (hl 2), g]
  · rw [show 4 * 3 = 4 + 4 + 4 from rfl, ← List.drop_drop, ← List.drop_drop, d _ _ (hl 0), d _ _ (hl 1), d _ _ (hl 2), List.take_of_length_le (by rw [hl 3]; omega), g]
/-- what was hidden is found again -/
theorem hide_check (a : List UInt8) (p : ByteArray) (ha : a.length = 4) (hp : p.size ≤ 1024) : checkB (hideB a p.data.toList 4) p = true := by
  obtain ⟨h1, h2, h3⟩ := hide_hid a p.data.toList ha
  obtain ⟨q0, q1, q2, q3⟩ := piece_sums a p.data.toList
  unfold checkB same4
  rw [if_pos h1, decide_eq_true hp, h2, h3]
  simp only [q0, q1, q2, q3, beq_self_eq_true, Bool.and_self]
theorem hexL_inj (a b : List UInt8) (h : Oct.hexL a = Oct.hexL b) : a = b := by
  have hl : a.length = b.length := by
    have := congrArg List.length h
    rw [Oct.hexL_length, Oct.hexL_length] at this
    omega
  rw [← Oct.unB_hex a, h, hl, Oct.unB_hex]
theorem beB4_inj (x y : Int) (hx0 : 0 ≤ x) (hx : x < 4294967296) (hy0 : 0 ≤ y) (hy : y < 4294967296) (h : Oct.beB 4 x = Oct.beB 4 y) : x = y := by
  rw [← Oct.get_put 4 x hx0 (by show x < 256 ^ 4; omega), h, Oct.get_put 4 y hy0 (by show y < 256 ^ 4; omega)]
theorem hide_inj (x y : Int) (p : List UInt8) (hx0 : 0 ≤ x) (hx : x < 4294967296) (hy0 : 0 ≤ y) (hy : y < 4294967296) (h : hideB (Oct.beB 4 x) p 4 = hideB (Oct.beB 4 y) p 4) : x = y := by
  have h1 := hide_A (Oct.beB 4 x) p (Oct.beB_length 4 x)
  rw [h, hide_A (Oct.beB 4 y) p (Oct.beB_length 4 y)] at h1
  exact (beB4_inj y x hy0 hy hx0 hx (hexL_inj _ _ h1)).symm
end Go.Proofs.Yteajgkjiappkiaa
