/- The walk of the law LogNone. -/
import Derived.Test.YtokkifiakmplgaaWaF
namespace Go.Proofs.Ytokkifiakmplgaa
open Go.RowKit
set_option maxRecDepth 20000 in
set_option maxHeartbeats 1000000 in
theorem logNone_walk (s : ByteArray) (a b : Int) (w : World) (hs : s.size ≤ 140737488351232) : Calls Try.prog 4 #[.string s, .int .i64 a, .int .i64 b] w fun e w' => e = .returned (.bool true) ∧ Below w.heap.size w w' := by
  have HS := Lib.hid hs
  have HX : Hid (∀ W, NoLog W (.pointer none)) := Lib.hid (fun W => ⟨.inl rfl⟩)
  have HZ : Hid (∀ W, Below (w.heap.size + 1) (w.alloc (.cells (lcells (.pointer none) { fr := 0, n := 0, gen := 0, op := false, used := 0, recs := [] } (.slice none 0 0)) 38)) W → NoLog W (.pointer (some ⟨w.heap.size, 0, none⟩))) := Lib.hid (fun W hW => ⟨.inr ⟨_, rfl, (hW.cell (p := ⟨w.heap.size, 0, none⟩) (Nat.lt_succ_self _)).trans ((Blk.new w 38 _).cell 0)⟩⟩)
  have HB0 : Hid (Below (w.heap.size + 1) (w.alloc (.cells (lcells (.pointer none) { fr := 0, n := 0, gen := 0, op := false, used := 0, recs := [] } (.slice none 0 0)) 38)) (w.alloc (.cells (lcells (.pointer none) { fr := 0, n := 0, gen := 0, op := false, used := 0, recs := [] } (.slice none 0 0)) 38))) := Lib.hid (Below.refl _ _)
  have HW : Hid (∀ W, Below (w.heap.size + 1) (w.alloc (.cells (lcells (.pointer none) { fr := 0, n := 0, gen := 0, op := false, used := 0, recs := [] } (.slice none 0 0)) 38)) W → Below w.heap.size w W) := Lib.hid (fun W hW => ((Below.refl _ _).alloc (Nat.le_refl _) _).trans (hW.mono (Nat.le_succ _)))
  clear hs
  go_enter Try.func4, Try.ntmps4
  go_wp2_with fail
  (with_reducible refine (open_nil a b _).mono ?_)
  rintro e w1 ⟨rfl, hw1⟩
  have hz1 : w1.heap.size = w.heap.size + 1 := by rw [← show (w.alloc (.cells (lcells (.pointer none) { fr := 0, n := 0, gen := 0, op := false, used := 0, recs := [] } (.slice none 0 0)) 38)) = w1 from hw1]; simp
  have h1 := HB0.out
  rw [show (w.alloc (.cells (lcells (.pointer none) { fr := 0, n := 0, gen := 0, op := false, used := 0, recs := [] } (.slice none 0 0)) 38)) = w1 from hw1] at h1 HZ HW
  clear hw1 HB0
  go_wp2_with fail
  (with_reducible refine (alive_any _).mono ?_)
  rintro e w2 ⟨rfl, hb2⟩
  have h2 := h1.trans (hb2.mono (by omega))
  have hz2 := hb2.size
  clear hb2 h1
  go_wp2_with fail
  (with_reducible refine (append_no (HX.out _) s HS.out).mono ?_)
  rintro e w3 ⟨rfl, hb3⟩
  have h3 := h2.trans (hb3.mono (by omega))
  have hz3 := hb3.size
  clear hb3 h2
  go_wp2_with fail
  (with_reducible refine (append_no (HZ.out _ h3) s HS.out).mono ?_)
  rintro e w4 ⟨rfl, hb4⟩
  have h4 := h3.trans (hb4.mono (by omega))
  have HH4 := Lib.hid h4
  have HZ4 := Lib.hid (HZ.out _ h4)
  clear hb4 h3 h4
  go_wp2_with fail
  (with_reducible refine (lsync_no (HX.out _)).mono ?_)
  rintro e w5 ⟨rfl, rfl⟩
  go_wp2_with fail
  (with_reducible refine (reset_no HZ4.out).mono ?_)
  rintro e w5 ⟨rfl, rfl⟩
  go_wp2_with fail
  (with_reducible refine (records_no (HX.out _)).mono ?_)
  rintro e w5 ⟨rfl, rfl⟩
  go_wp2_with fail
  (with_reducible refine (records_no HZ4.out).mono ?_)
  rintro e w5 ⟨rfl, rfl⟩
  go_wp2_with fail
  (with_reducible refine (free_no (HX.out _)).mono ?_)
  rintro e w5 ⟨rfl, rfl⟩
  go_wp2_with fail
  (with_reducible refine (free_no HZ4.out).mono ?_)
  rintro e w5 ⟨rfl, rfl⟩
  go_wp2_with fail
  (with_reducible refine (gen_no (HX.out _)).mono ?_)
  rintro e w5 ⟨rfl, rfl⟩
  go_wp2_with fail
  (with_reducible refine (gen_no HZ4.out).mono ?_)
  rintro e w5 ⟨rfl, rfl⟩
  go_wp2_with fail
  go_ret
  exact ⟨rfl, HW.out _ HH4.out⟩
end Go.Proofs.Ytokkifiakmplgaa
