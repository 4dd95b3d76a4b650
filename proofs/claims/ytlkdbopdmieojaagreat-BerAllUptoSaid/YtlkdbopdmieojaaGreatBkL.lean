/- An argument that is a list of texts, opened. -/
import Derived.Test.YtlkdbopdmieojaaGreatBkK
import Derived.Test.YtlkdbopdmieojaaGreatPostB
import Derived.Deep.Strs
namespace Go.Proofs.YtlkdbopdmieojaaGreat
open Go.RowKit Go.WideShapes Go.ChangeShapes
set_option maxRecDepth 20000
theorem cells_str : Tryz.prog.cellsOf 9 = 1 := by kernel_rfl
theorem bytes_str : Tryz.prog.bytesOf 9 = 16 := by kernel_rfl
theorem mem_wAll {H : Type} {P : Program} {e : TypeId} : ∀ (ds : List (DataW H)) (d : DataW H), d ∈ ds → ∀ q ∈ d.weights P e, q ∈ DataW.weightsAll P e ds
  | d0 :: ds, d, hd, q, hq => by
    rw [DataW.weightsAll, List.mem_append]
    rcases List.mem_cons.1 hd with rfl | hd
    · exact .inl hq
    · exact .inr (mem_wAll ds d hd q hq)
  | [], d, hd, _, _ => by cases hd
theorem add_spot {W : World} {a : Addr} {n k : Nat} {f : Nat → Value} (h : ∀ i, i < n → W.cell? (a.add i) = some (f i)) (hk : k < n) : a = ⟨a.block, a.off, none⟩ ∧ a.block < W.heap.size ∧ W.cell? ⟨a.block, a.off + k, none⟩ = some (f k) := by
  obtain ⟨ab, ao, asp⟩ := a
  have h0 := h 0 (by omega)
  have e0 : ((⟨ab, ao, asp⟩ : Addr).add 0) = ⟨ab, ao, asp⟩ := by simp [Addr.add]
  rw [e0] at h0
  have hs : asp = none := World.cell?_spot h0
  subst hs
  have hk' := h k hk
  have e : ((⟨ab, ao, none⟩ : Addr).add k) = ⟨ab, ao + k, none⟩ := by unfold Addr.add; split <;> simp_all
  rw [e] at hk'
  exact ⟨rfl, World.block_lt_of_cell? _ _ h0, hk'⟩
theorem open_ls {H : Type} {enc : TypeId × Value → H} {W : World} {b0 : Nat} {v : Value} {d : DataW H} {ps : List MemPlace} (hv : Value.okWide Tryz.prog W .any b0 22 v) (h : DataW.Trod enc Tryz.prog W 0 (fun _ => true) true 22 v d ps) (hw : (d.weights Tryz.prog 22).all (· ≤ reachBytes) = true) :
    ∃ (A : Option Addr) (n cap : Nat) (Sx : Nat → ByteArray), v = .slice A n cap ∧ n ≤ 140737488351232 ∧ Ls W A n Sx := by
  obtain ⟨A, n, cap, rfl⟩ := okWide_slice Tryz.underlying22 hv
  obtain ⟨fuel, hf⟩ := h
  rcases Go.Deep.open_strs Tryz.underlying22 Tryz.underlying9 cells_str hf with ⟨hcs, _⟩ | ⟨a, len, cap', m, Sx, hcs, _, hl, hm, hmm, hx, hi⟩
  · simp [Value.cells] at hcs
    obtain ⟨rfl, rfl, rfl⟩ := hcs
    exact ⟨none, 0, 0, fun _ => ⟨#[]⟩, rfl, by omega, fun i hi => absurd hi (by omega)⟩
  · simp [Value.cells] at hcs
    obtain ⟨rfl, rfl, rfl⟩ := hcs
    simp only [if_true] at hmm
    subst hmm
    simp only [Prod.mk.injEq] at hx
    obtain ⟨rfl, _⟩ := hx
    rw [DataW.weights, Tryz.underlying22] at hw
    simp only at hw
    rw [List.all_cons, Bool.and_eq_true, bytes_str] at hw
    have hlen : n ≤ 140737488351232 := by
      have := hw.1
      simp only [List.length_map, List.length_range, decide_eq_true_eq] at this
      unfold reachBytes at this
      omega
    refine ⟨some a, n, m, Sx, rfl, hlen, fun k hk => ?_⟩
    obtain ⟨h1, h2, h3⟩ := add_spot (fun i (hi' : i < m) => (hi i hi').1) (k := k) (by omega)
    refine ⟨a.block, a.off, congrArg some h1, h2, h3, ?_⟩
    have hq := List.all_eq_true.1 hw.2 (Sx k).data.toList.length (List.mem_append_left _ (mem_wAll _ (.lit (.string (Sx k).data.toList)) (List.mem_map.2 ⟨k, List.mem_range.2 hk, rfl⟩) _ (by simp [DataW.weights])))
    have hq : (Sx k).data.toList.length ≤ reachBytes := by simpa using hq
    unfold reachBytes at hq
    simpa using hq
end Go.Proofs.YtlkdbopdmieojaaGreat
