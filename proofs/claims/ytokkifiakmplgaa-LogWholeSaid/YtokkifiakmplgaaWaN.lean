/- An argument that is a list of lists of texts, opened. -/
import Derived.Test.YtokkifiakmplgaaWaM
import Derived.Test.YtokkifiakmplgaaPostB
import Derived.Deep.Strs
namespace Go.Proofs.Ytokkifiakmplgaa
open Go.RowKit Go.WideShapes Go.ChangeShapes
theorem cells_strs : Try.prog.cellsOf 34 = 1 := by kernel_rfl
theorem cells_str : Try.prog.cellsOf 9 = 1 := by kernel_rfl
theorem bytes_strs : Try.prog.bytesOf 34 = 24 := by kernel_rfl
theorem bytes_str : Try.prog.bytesOf 9 = 16 := by kernel_rfl
theorem mem_wAll {H : Type} {P : Program} {e : TypeId} : ∀ (ds : List (DataW H)) (d : DataW H), d ∈ ds → ∀ q ∈ d.weights P e, q ∈ DataW.weightsAll P e ds
  | d0 :: ds, d, hd, q, hq => by
    rw [DataW.weightsAll, List.mem_append]
    rcases List.mem_cons.1 hd with rfl | hd
    · exact .inl hq
    · exact .inr (mem_wAll ds d hd q hq)
  | [], d, hd, _, _ => by cases hd
/-- one of the lists -/
def RowAt (W : World) (v : Value) (y : List (List UInt8) × Option Addr × Nat) : Prop :=
  v = .slice y.2.1 y.1.length y.2.2 ∧ y.1.length ≤ 140737488351232 ∧ ∀ k (hk : k < y.1.length), ∃ gi oi, y.2.1 = some ⟨gi, oi, none⟩ ∧ gi < W.heap.size ∧ W.cell? ⟨gi, oi + k, none⟩ = some (.string ⟨(y.1[k]).toArray⟩) ∧ (y.1[k]).length ≤ 140737488351232
theorem add_spot {W : World} {a : Addr} {n k : Nat} {f : Nat → Value} (h : ∀ i, i < n → W.cell? (a.add i) = some (f i)) (hk : k < n) : a = ⟨a.block, a.off, none⟩ ∧ a.block < W.heap.size ∧ W.cell? ⟨a.block, a.off + k, none⟩ = some (f k) := by
  obtain ⟨ab, ao, asp⟩ := a
  have h0 := h 0 (by omega)
  have e0 : ((⟨ab, ao, asp⟩ : Addr).add 0) = ⟨ab, ao, asp⟩ := by simp [Addr.add]
  rw [e0] at h0
  have hs : asp = none := World.cell?_spot h0
  subst hs
  have hk' := h k hk
  have e : ((⟨ab, ao, none⟩ : Addr).add k) = ⟨ab, ao + k, none⟩ := by unfold Addr.add; split <;> simp_all
  rw [e] at hk'
  exact ⟨rfl, World.block_lt_of_cell? _ _ h0, hk'⟩
theorem open_row {H : Type} {enc : TypeId × Value → H} {W : World} {n : Nat} {v : Value} {d : DataW H} {ps : List MemPlace} (h : DataW.trod enc Try.prog W 0 (fun _ => true) true n 34 [v] = some (d, ps)) (hw : (d.weights Try.prog 34).all (· ≤ reachBytes) = true) : ∃ y, RowAt W v y := by
  rcases Go.Deep.open_strs Try.underlying34 Try.underlying9 cells_str h with ⟨hcs, _⟩ | ⟨a, len, cap, m, Sx, hcs, _, hl, hm, hmm, hx, hi⟩
  · injection hcs with hcs _
    subst hcs
    exact ⟨([], none, 0), rfl, by simp, fun k hk => absurd hk (by simp)⟩
  · injection hcs with hcs _
    subst hcs
    simp only [if_true] at hmm
    subst hmm
    simp only [Prod.mk.injEq] at hx
    obtain ⟨rfl, _⟩ := hx
    rw [DataW.weights, Try.underlying34] at hw
    simp only at hw
    rw [List.all_cons, Bool.and_eq_true, bytes_str] at hw
    have hlen : len ≤ 140737488351232 := by
      have := hw.1
      simp only [List.length_map, List.length_range, decide_eq_true_eq] at this
      unfold reachBytes at this
      omega
    refine ⟨((List.range len).map fun i => (Sx i).data.toList, some a, m), by simp, by simpa using hlen, fun k hk => ?_⟩
    have hk' : k < len := by simpa using hk
    obtain ⟨h1, h2, h3⟩ := add_spot (fun i (hi' : i < m) => (hi i hi').1) (k := k) (by omega)
    refine ⟨a.block, a.off, congrArg some h1, h2, ?_, ?_⟩
    · rw [h3]
      simp
    · have hq := List.all_eq_true.1 hw.2 (Sx k).data.toList.length (List.mem_append_left _ (mem_wAll _ (.lit (.string (Sx k).data.toList)) (List.mem_map.2 ⟨k, List.mem_range.2 hk', rfl⟩) _ (by simp [DataW.weights])))
      have hq : (Sx k).data.toList.length ≤ reachBytes := by simpa using hq
      unfold reachBytes at hq
      simpa using hq
theorem open_gens {H : Type} {enc : TypeId × Value → H} {W : World} {b0 : Nat} {v : Value} {d : DataW H} {ps : List MemPlace} (hv : Value.okWide Try.prog W .any b0 40 v) (h : DataW.Trod enc Try.prog W 0 (fun _ => true) true 40 v d ps) (hw : (d.weights Try.prog 40).all (· ≤ reachBytes) = true) : ∃ G, GA W v G := by
  obtain ⟨A, n, cap, rfl⟩ := okWide_slice Try.underlying40 hv
  obtain ⟨fuel, hf⟩ := h
  rcases Go.Deep.open_slice1 Try.underlying40 cells_strs hf with ⟨hcs, _⟩ | ⟨a, len, cap', m, n', V, D, Pl, hcs, _, hl, hm, hmm, hx, hi⟩
  · simp [Value.cells] at hcs
    obtain ⟨rfl, rfl, rfl⟩ := hcs
    exact ⟨[], ⟨⟨none, 0, rfl, fun i hi => absurd hi (by simp)⟩, by simp, fun i hi => absurd hi (by simp)⟩⟩
  · simp [Value.cells] at hcs
    obtain ⟨rfl, rfl, rfl⟩ := hcs
    simp only [if_true] at hmm
    subst hmm
    simp only [Prod.mk.injEq] at hx
    obtain ⟨rfl, _⟩ := hx
    rw [DataW.weights, Try.underlying40] at hw
    simp only at hw
    rw [List.all_cons, Bool.and_eq_true, bytes_strs] at hw
    have hlen : n ≤ 140737488351232 := by
      have := hw.1
      simp only [List.length_map, List.length_range, decide_eq_true_eq] at this
      unfold reachBytes at this
      omega
    have hrow : ∀ i, i < n → ∃ y, RowAt W (V i) y := fun i hin => by
      refine open_row (hi i (by omega)).2 (List.all_eq_true.2 (fun q hq => ?_))
      exact List.all_eq_true.1 hw.2 q (List.mem_append_left _ (mem_wAll _ (D i) (List.mem_map.2 ⟨i, List.mem_range.2 hin, rfl⟩) q hq))
    obtain ⟨Y, hY⟩ := Go.Deep.choose_lt hrow
    have hGl : ((List.range n).map fun i => (Y i).1).length = n := by simp
    refine ⟨(List.range n).map fun i => (Y i).1, ⟨some a, m, by rw [hGl], fun i hi' => ?_⟩, by rw [hGl]; exact hlen, fun i hi' => ?_⟩
    · have hin : i < n := by rw [hGl] at hi'; exact hi'
      obtain ⟨h1, h2, h3⟩ := add_spot (fun i (hi' : i < m) => (hi i hi').1) (k := i) (by omega)
      obtain ⟨r1, r2, r3⟩ := hY i hin
      refine ⟨a.block, a.off, (Y i).2.1, (Y i).2.2, congrArg some h1, h2, ?_, fun k hk => ?_⟩
      · rw [h3, r1]
        simp
      · have hk' : k < (Y i).1.length := by simpa using hk
        obtain ⟨gi, oi, k1, k2, k3, k4⟩ := r3 k hk'
        exact ⟨gi, oi, k1, k2, by simpa using k3, by simpa using k4⟩
    · have hin : i < n := by rw [hGl] at hi'; exact hi'
      simpa using (hY i hin).2.1
end Go.Proofs.Ytokkifiakmplgaa
