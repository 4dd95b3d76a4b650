/- Plain mathematics: digits are read as the bytes that were written. No conditions. -/
import Derived.Test.YteajgkjiappkiaaOctG
namespace Go.Proofs.Yteajgkjiappkiaa
open Go.RowKit
namespace Oct
theorem dig_hexD : ∀ n : Fin 16, digZ ((hexD n.val).toNat : Int) = (n.val : Int) := by decide
theorem hexL_even (l : List UInt8) : ∀ j, j < l.length → (hexL l).getD (2 * j) 0 = hexD ((l.getD j 0).toNat / 16) ∧ (hexL l).getD (2 * j + 1) 0 = hexD ((l.getD j 0).toNat % 16) := by
  induction l with
  | nil => intro j hj; simp at hj
  | cons c l ih =>
    intro j hj
    have e : hexL (c :: l) = hexD (c.toNat / 16) :: hexD (c.toNat % 16) :: hexL l := rfl
    rw [e]
    cases j with
    | zero => exact ⟨rfl, rfl⟩
    | succ j =>
      have := ih j (by simpa using hj)
      rw [show 2 * (j + 1) = 2 * j + 1 + 1 from by omega]
      simpa using this
theorem dg_hex (l : List UInt8) (j : Nat) (h : j < l.length) : dg (hexL l) (2 * j) = ((l.getD j 0).toNat / 16 : Nat) ∧ dg (hexL l) (2 * j + 1) = ((l.getD j 0).toNat % 16 : Nat) := by
  obtain ⟨e1, e2⟩ := hexL_even l j h
  have hc : (l.getD j 0).toNat < 256 := (l.getD j 0).toNat_lt
  unfold dg
  rw [e1, e2]
  exact ⟨dig_hexD ⟨(l.getD j 0).toNat / 16, by omega⟩, dig_hexD ⟨(l.getD j 0).toNat % 16, by omega⟩⟩
theorem pair_hex (l : List UInt8) (j : Nat) (h : j < l.length) : pair (hexL l) j = l.getD j 0 := by
  obtain ⟨e1, e2⟩ := dg_hex l j h
  unfold pair
  rw [e1, e2]
  apply UInt8.toNat_inj.1
  have hc : (l.getD j 0).toNat < 256 := (l.getD j 0).toNat_lt
  rw [UInt8.toNat_ofNat']
  omega
theorem unB_hex (l : List UInt8) : unB (hexL l) l.length = l := by
  apply List.ext_getElem
  · simp [unB]
  · intro i h1 h2
    simp only [unB, List.getElem_map, List.getElem_range]
    rw [pair_hex l i h2]
    simp [h2]
theorem good_hex (l : List UInt8) : allGood (hexL l) := by
  intro j hj
  rw [hexL_length] at hj
  obtain ⟨e1, e2⟩ := dg_hex l j (by omega)
  unfold good
  rw [e1, e2]
  omega
end Oct
theorem unhex_hex (b : ByteArray) : unhexV ⟨(Oct.hexL b.data.toList).toArray⟩ = .tuple #[.string b, .int .i64 0] := by
  have hz : (⟨(Oct.hexL b.data.toList).toArray⟩ : ByteArray).size = 2 * b.size := by
    show (Oct.hexL b.data.toList).toArray.size = _
    rw [List.size_toArray, Oct.hexL_length]
    rfl
  have hl : b.size = b.data.toList.length := rfl
  rw [unhexV_yes (by omega) (Oct.good_hex _)]
  rw [hz, show 2 * b.size / 2 = b.size from by omega]
  rw [show (⟨(Oct.hexL b.data.toList).toArray⟩ : ByteArray).data.toList = Oct.hexL b.data.toList from rfl, hl, Oct.unB_hex]
end Go.Proofs.Yteajgkjiappkiaa
