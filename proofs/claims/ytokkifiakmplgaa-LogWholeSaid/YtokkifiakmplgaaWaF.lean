/- The contract of the law's own alive (chapter 11). -/
import Derived.Test.YtokkifiakmplgaaWaE
namespace Go.Proofs.Ytokkifiakmplgaa
open Go.RowKit
theorem wnew_df {w w' : World} {n : Nat} (h : DiskAt w' (w.heap.size + 2) w.heap.size (w.heap.size + 1) (.slice none 0 0) (newVD n)) : DF w' (w.heap.size + 2) (newVD n) [w.heap.size + 2, w.heap.size, w.heap.size + 1] := ⟨_, _, _, rfl, h⟩
theorem new_look (n a : Nat) (h : a < n) : Vd.look (newVD n) a = List.replicate 64 0 := by
  unfold Vd.look newVD Vd.lay
  simp [List.getD_eq_getElem?_getD, h]
theorem new_takes (n : Nat) : Wa.Takes (newVD n) := ⟨rfl, rfl, rfl⟩
theorem os_slice {B : Nat} {w0 w : World} {v : Value} {l : List (List UInt8)} (h : OwnS B w0 w v l) : ∃ p cap, v = .slice p l.length cap := by
  rcases h.own.2 with ⟨rfl, h0⟩ | ⟨g, cap, cur, rfl, _⟩
  · exact ⟨none, 0, by rw [h0]⟩
  · exact ⟨_, cap, rfl⟩
def aL (op : Bool) (gen used : Nat) (recs : List (List UInt8)) : Wa.WL := { fr := 2, n := 4, gen := gen, op := op, used := used, recs := recs }
theorem aL_ok (op : Bool) (gen used : Nat) (recs : List (List UInt8)) (h : used ≤ 4) (h2 : gen ≤ 1) (h3 : recs.length ≤ 1) : Wok (aL op gen used recs) := ⟨by simp [aL], by simp [aL], h, by simp only [aL]; omega, by simp only [aL]; omega⟩
theorem pieces_a : Wa.pieces (⟨#[97]⟩ : ByteArray).data.toList = [[97]] := by decide
set_option maxRecDepth 20000 in
set_option maxHeartbeats 1000000 in
theorem alive_any (w : World) : Calls Try.prog 6 #[] w fun e w' => e = .returned (.bool true) ∧ Below w.heap.size w w' := by
  have hN : Calls Try.prog 7 #[.int .i64 8] w fun e w' => e = .returned (.tuple #[.pointer (some ⟨w.heap.size + 2, 0, none⟩), .int .i64 0]) ∧ DiskAt w' (w.heap.size + 2) w.heap.size (w.heap.size + 1) (.slice none 0 0) (newVD 8) ∧ Below w.heap.size w w' := new_in 8 w (by omega) (by omega)
  have HN := Lib.hid hN
  clear hN
  go_enter Try.func6, Try.ntmps6
  go_wp2_with fail
  (with_reducible refine HN.out.mono ?_)
  rintro e w1 ⟨rfl, hD, hb1⟩
  have hO : Calls Try.prog 8 #[.pointer (some ⟨w.heap.size + 2, 0, none⟩), .int .i64 2, .int .i64 4] w1 fun e w' => ∃ lg, e = .returned (.tuple #[.pointer (some ⟨lg, 0, none⟩), .int .i64 0]) ∧ LG (Up w.heap.size) w w' (w.heap.size + 2) (newVD 8) lg (aL false 0 0 []) [w.heap.size + 2, w.heap.size, w.heap.size + 1] (.slice none 0 0) :=
    open_zero (S := Up w.heap.size) (w0 := w) (w := w1) (KeepS.ofBelow hb1) (fun _ h => h) (wnew_df hD) (by simp [Up]) 2 4 rfl (by omega) (by simp [newVD]) (by simp [newVD]) (new_look 8 2 (by omega))
  have HO := Lib.hid hO
  clear hO hD
  go_wp2_with fail
  (with_reducible refine HO.out.mono ?_)
  rintro e w2 ⟨lg, rfl, h2⟩
  have HA := Lib.hid (append_closed h2 rfl ⟨#[97]⟩ (by show 1 ≤ _; omega))
  clear h2 hb1
  go_wp2_with fail
  (with_reducible refine HA.out.mono ?_)
  rintro e w3 ⟨rfl, h3⟩
  have HR := Lib.hid (reset_any h3 rfl (by show (0 : Nat) < _; omega))
  clear h3
  go_wp2_with fail
  (with_reducible refine HR.out.mono ?_)
  rintro e w4 ⟨rfl, h4⟩
  have h4 : LG (Up w.heap.size) w w4 (w.heap.size + 2) (newVD 8) lg (aL true 1 0 []) _ _ := h4
  have hap := append_ok h4 (aL_ok true 1 0 [] (by omega) (by omega) (by simp)) rfl (new_takes 8) ⟨#[97]⟩ (by show 1 ≤ _; omega) (by rw [pieces_a]; decide) (by simp [newVD, aL]) (by simp [newVD]) (by simp [aL])
  rw [pieces_a] at hap
  have HAP := Lib.hid hap
  clear hap h4
  go_wp2_with fail
  (with_reducible refine HAP.out.mono ?_)
  rintro e w5 ⟨rfl, fp5, rv5, h5⟩
  have h5 : LG (Up w.heap.size) w w5 (w.heap.size + 2) _ lg (aL true 1 1 [[97]]) fp5 rv5 := h5
  have HK := aL_ok true 1 1 [[97]] (by omega) (by omega) (by simp)
  have hf : Calls Try.prog 13 #[.pointer (some ⟨lg, 0, none⟩)] w5 fun e w' => e = .returned (.int .i64 3) ∧ Below w5.heap.size w5 w' := free_any h5 HK
  have HF := Lib.hid hf
  have H5 := Lib.hid h5
  clear h5 hf
  go_wp2_with fail
  (with_reducible refine HF.out.mono ?_)
  rintro e w6 ⟨rfl, hb6⟩
  have h6 := H5.out.later hb6
  have hg : Calls Try.prog 15 #[.pointer (some ⟨lg, 0, none⟩)] w6 fun e w' => e = .returned (.int .i64 1) ∧ w6 = w' := gen_any h6
  have HG := Lib.hid hg
  have HRC := Lib.hid (records_any h6 HK)
  have H6 := Lib.hid h6
  clear h6 hg hb6
  go_wp2_with fail
  (with_reducible refine HG.out.mono ?_)
  rintro e w7 ⟨rfl, rfl⟩
  go_wp2_with fail
  (with_reducible refine HRC.out.mono ?_)
  rintro e w8 ⟨v8, rfl, ho8⟩
  obtain ⟨p8, cap8, hv8⟩ := os_slice ho8
  have hv8 : v8 = .slice p8 1 cap8 := hv8
  subst hv8
  have hb8 := ho8.bel
  have hs6 := H6.out.bel.size
  clear ho8
  go_wp2_with fail
  go_ret
  exact ⟨rfl, (H6.out.bel.toBelow (Nat.le_refl _)).trans (hb8.mono hs6)⟩
end Go.Proofs.Ytokkifiakmplgaa
