/- Plain mathematics: a hidden password is one of small digits; Check asks what Hide writes. No conditions. -/
import Derived.Test.YteajgkjiappkiaaSecH
namespace Go.Proofs.Yteajgkjiappkiaa
open Go.RowKit
/-- a small hexadecimal digit -/
def low (c : UInt8) : Prop := (48 ≤ c.toNat ∧ c.toNat ≤ 57) ∨ (97 ≤ c.toNat ∧ c.toNat ≤ 102)
instance (c : UInt8) : Decidable (low c) := by unfold low; infer_instance
theorem low_hexD : ∀ n : Fin 16, low (Oct.hexD n.val) := by decide
theorem low_hexL (l : List UInt8) : ∀ c ∈ Oct.hexL l, low c := by
  intro c hc
  unfold Oct.hexL at hc
  rw [List.mem_flatMap] at hc
  obtain ⟨x, _, hx⟩ := hc
  have h := x.toNat_lt
  simp only [List.mem_cons, List.mem_nil_iff, or_false] at hx
  rcases hx with rfl | rfl
  · exact low_hexD ⟨x.toNat / 16, by omega⟩
  · exact low_hexD ⟨x.toNat % 16, by omega⟩
theorem low_dig (c : UInt8) (h : low c) : 0 ≤ Oct.digZ (c.toNat : Int) ∧ Oct.digZ (c.toNat : Int) ≤ 15 ∧ Oct.hexD (Oct.digZ (c.toNat : Int)).toNat = c := by
  have key : ∀ n : Fin 256, low (UInt8.ofNat n.val) → 0 ≤ Oct.digZ (((UInt8.ofNat n.val).toNat : Nat) : Int) ∧ Oct.digZ (((UInt8.ofNat n.val).toNat : Nat) : Int) ≤ 15 ∧ Oct.hexD (Oct.digZ (((UInt8.ofNat n.val).toNat : Nat) : Int)).toNat = UInt8.ofNat n.val := by decide +kernel
  have := key ⟨c.toNat, c.toNat_lt⟩
  simp only [UInt8.ofNat_toNat] at this
  exact this h
theorem pair_list : ∀ (n : Nat) (l : List UInt8), l.length = 2 * n → (∀ c ∈ l, low c) → Oct.hexL (Oct.unB l n) = l := by
  intro n l hl hlow
  have hg : ∀ i, i < l.length → low (l.getD i 0) := fun i hi => by
    rw [List.getD_eq_getElem?_getD, List.getElem?_eq_getElem hi]
    exact hlow _ (List.getElem_mem hi)
  apply List.ext_getElem?
  intro i
  by_cases hi : i < 2 * n
  · have hlen : (Oct.unB l n).length = n := Oct.unB_length l n
    have hj : i / 2 < n := by omega
    obtain ⟨e1, e2⟩ := Oct.hexL_even (Oct.unB l n) (i / 2) (by omega)
    have hp : (Oct.unB l n).getD (i / 2) 0 = Oct.pair l (i / 2) := by
      rw [List.getD_eq_getElem?_getD]
      simp [Oct.unB, hj]
    rw [hp] at e1 e2
    obtain ⟨a1, a2, a3⟩ := low_dig _ (hg (2 * (i / 2)) (by omega))
    obtain ⟨b1, b2, b3⟩ := low_dig _ (hg (2 * (i / 2) + 1) (by omega))
    have hpt : ((Oct.pair l (i / 2)).toNat : Int) = 16 * Oct.dg l (2 * (i / 2)) + Oct.dg l (2 * (i / 2) + 1) := by
      unfold Oct.pair
      rw [UInt8.toNat_ofNat']
      unfold Oct.dg
      omega
    have q1 : (Oct.pair l (i / 2)).toNat / 16 = (Oct.digZ ((l.getD (2 * (i / 2)) 0).toNat : Int)).toNat := by unfold Oct.dg at hpt; omega
    have q2 : (Oct.pair l (i / 2)).toNat % 16 = (Oct.digZ ((l.getD (2 * (i / 2) + 1) 0).toNat : Int)).toNat := by unfold Oct.dg at hpt; omega
    rw [q1, a3] at e1
    rw [q2, b3] at e2
    have hL : i < (Oct.hexL (Oct.unB l n)).length := by rw [Oct.hexL_length, hlen]; exact hi
    have hl2 : i < l.length := by omega
    rw [List.getElem?_eq_getElem hL, List.getElem?_eq_getElem hl2]
    have conv : ∀ (m : List UInt8) (k : Nat) (h : k < m.length), m.getD k 0 = m[k] := fun m k h => by rw [List.getD_eq_getElem?_getD, List.getElem?_eq_getElem h]; rfl
    rcases Nat.mod_two_eq_zero_or_one i with h0 | h0
    · have hi2 : 2 * (i / 2) = i := by omega
      rw [hi2] at e1
      rw [← conv _ _ hL, ← conv _ _ hl2, e1]
    · have hi2 : 2 * (i / 2) + 1 = i := by omega
      rw [hi2] at e2
      rw [← conv _ _ hL, ← conv _ _ hl2, e2]
  · rw [List.getElem?_eq_none (by rw [Oct.hexL_length, Oct.unB_length]; omega), List.getElem?_eq_none (by omega)]
theorem good_low (l : List UInt8) (hlow : ∀ c ∈ l, low c) : Oct.allGood l := by
  intro j hj
  have hg : ∀ i, i < l.length → low (l.getD i 0) := fun i hi => by
    rw [List.getD_eq_getElem?_getD, List.getElem?_eq_getElem hi]
    exact hlow _ (List.getElem_mem hi)
  exact ⟨(low_dig _ (hg _ (by omega))).1, (low_dig _ (hg _ (by omega))).1⟩
theorem sA_len {s : ByteArray} (h : headOk s) : (sA s).length = 8 := by
  have := sA_size h
  rw [← this]
  exact Array.length_toList
theorem sR_len {s : ByteArray} (h : headOk s) : (sR s).length = 32 := by
  have := sR_size h
  rw [← this]
  exact Array.length_toList
theorem hid_low (s : ByteArray) : hid s ↔ headOk s ∧ (∀ c ∈ sA s, low c) ∧ (∀ c ∈ sR s, low c) := by
  constructor
  · rintro ⟨h1, _, _, h4⟩
    have hA := sA_len h1
    have hl : (Oct.hexL (Oct.unB (sA s) 4)).length = (sA s).length := by rw [Oct.hexL_length, Oct.unB_length, hA]
    obtain ⟨e1, e2⟩ := List.append_inj h4 hl
    exact ⟨h1, by rw [← e1]; exact low_hexL _, by rw [← e2]; exact low_hexL _⟩
  · rintro ⟨h1, h2, h3⟩
    exact ⟨h1, good_low _ h2, good_low _ h3, by rw [pair_list 4 _ (sA_len h1) h2, pair_list 16 _ (sR_len h1) h3]⟩
end Go.Proofs.Yteajgkjiappkiaa
