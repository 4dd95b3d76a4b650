/- A slice of integers opened; the walk of the law DiskSynced, whole. -/
import Derived.Test.YtmkcmahfededeaaVdT
import Derived.Test.YtmkcmahfededeaaPostB
namespace Go.Proofs.Ytmkcmahfededeaa
open Go.RowKit Go.WideShapes Go.ChangeShapes
theorem cells_int : Try.prog.cellsOf 3 = 1 := by kernel_rfl
theorem open_intsAt {H : Type} {enc : TypeId × Value → H} {W : World} {b0 : Nat} {v : Value} {d : DataW H} {ps : List MemPlace} (hv : Value.okWide Try.prog W .any b0 22 v) (h : DataW.Trod enc Try.prog W 0 (fun _ => true) true 22 v d ps) :
    ∃ A n cap zs, v = .slice A n cap ∧ IntsAt W A n zs := by
  obtain ⟨A, n, cap, rfl⟩ := okWide_slice Try.underlying22 hv
  obtain ⟨fuel, hf⟩ := h
  rcases open_ints Try.underlying22 Try.underlying3 cells_int hf with ⟨hcs, _⟩ | ⟨a, len, cap', zs, hcs, _, hl, hm, hz, _, hcell, hwz⟩
  · simp [Value.cells] at hcs
    obtain ⟨rfl, rfl, rfl⟩ := hcs
    exact ⟨none, 0, 0, [], rfl, rfl, fun k hk => by omega⟩
  · simp [Value.cells] at hcs
    obtain ⟨rfl, rfl, rfl⟩ := hcs
    simp only [if_true] at hz
    refine ⟨some a, n, cap, zs.take n, rfl, by rw [List.length_take]; omega, fun k hk => ?_⟩
    have hc := hcell k (by omega)
    have hlt := World.block_lt_of_cell? _ _ hc
    rw [block_of_add] at hlt
    refine ⟨a, rfl, hlt, ?_⟩
    rw [hc, List.getD_eq_getElem?_getD, List.getD_eq_getElem?_getD, List.getElem?_take, if_pos hk]
theorem diskSynced_walk (A : Option Addr) (n cap : Nat) (zs : List Int) (sy keep torn : Int) (w : World) (hA : IntsAt w A n zs) : Calls Try.prog 3 #[.slice A n cap, .int .i64 sy, .int .i64 keep, .int .i64 torn] w fun e w' => e = .returned (.bool true) ∧ Below w.heap.size w w' := by
  by_cases h : 60 < n ∨ sy < 0 ∨ (n : Int) < sy
  · exact synced_out A n cap sy keep torn w h
  · obtain ⟨k, rfl⟩ : ∃ k : Nat, sy = k := ⟨sy.toNat, by omega⟩
    exact synced_in A n cap k keep torn zs w hA (by omega) (by omega)
end Go.Proofs.Ytmkcmahfededeaa
