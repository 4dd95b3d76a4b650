/- The contract of the law's own alive (chapter 11). -/
import Derived.Test.YtoleojljpaglhaaWaE
namespace Go.Proofs.Ytoleojljpaglhaa
open Go.RowKit
set_option maxRecDepth 20000
theorem wnew_df {w w' : World} {n : Nat} (h : DiskAt w' (w.heap.size + 2) w.heap.size (w.heap.size + 1) (.slice none 0 0) (newVD n)) : DF w' (w.heap.size + 2) (newVD n) [w.heap.size + 2, w.heap.size, w.heap.size + 1] := ⟨_, _, _, rfl, h⟩
theorem new_look (n a : Nat) (h : a < n) : Vd.look (newVD n) a = List.replicate 64 0 := by
  unfold Vd.look newVD Vd.lay
  simp [List.getD_eq_getElem?_getD, h]
theorem new_takes (n : Nat) : Wa.Takes (newVD n) := ⟨rfl, rfl, rfl⟩
theorem os_slice {B : Nat} {w0 w : World} {v : Value} {l : List (List UInt8)} (h : OwnS B w0 w v l) : ∃ p cap, v = .slice p l.length cap := by
  rcases h.own.2 with ⟨rfl, h0⟩ | ⟨g, cap, cur, rfl, _⟩
  · exact ⟨none, 0, by rw [h0]⟩
  · exact ⟨_, cap, rfl⟩
def aL (op : Bool) (gen used : Nat) (recs : List (List UInt8)) : Wa.WL := { fr := 2, n := 4, gen := gen, op := op, used := used, recs := recs }
theorem aL_ok (op : Bool) (gen used : Nat) (recs : List (List UInt8)) (h : used ≤ 4) (h2 : gen ≤ 1) (h3 : recs.length ≤ 1) : Wok (aL op gen used recs) := ⟨by simp [aL], by simp [aL], h, by simp only [aL]; omega, by simp only [aL]; omega⟩
theorem pieces_a : Wa.pieces (⟨#[97]⟩ : ByteArray).data.toList = [[97]] := by decide
end Go.Proofs.Ytoleojljpaglhaa
