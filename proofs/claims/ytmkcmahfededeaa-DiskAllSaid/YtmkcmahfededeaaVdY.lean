/- The contracts of slices.Clone at the disk's two slices. -/
import Derived.Test.YtmkcmahfededeaaVdX
import Derived.Lib.SliceRun
namespace Go.Proofs.Ytmkcmahfededeaa
open Go.RowKit Go.Maps
/-- what Clone leaves -/
def CloneP (e : TypeId) (size n : Nat) (xs : List Value) (w : World) (en : Ending) (w' : World) : Prop := ∃ p c, en = .returned (.slice p n c) ∧ w'.ownsRow w.heap.size e size (.slice p n c) n xs ∧ Below w.heap.size w w'
theorem run_bs1 (w : World) : (Instr.buildSlice 44 0 #[]).run Try.prog w = .ok (.slice (some ⟨w.heap.size, 0, none⟩) 0 0) (w.alloc (.cells #[] 57)) := by kernel_rfl
theorem run_bs2 (w : World) : (Instr.buildSlice 45 0 #[]).run Try.prog w = .ok (.slice (some ⟨w.heap.size, 0, none⟩) 0 0) (w.alloc (.cells #[] 59)) := by kernel_rfl
theorem own_empty (w : World) (e : TypeId) (size : Nat) : (w.alloc (.cells #[] e)).ownsRow w.heap.size e size (.slice (some ⟨w.heap.size, 0, none⟩) 0 0) 0 [] :=
  ⟨by simp, .inr ⟨w.heap.size, 0, #[], rfl, Nat.le_refl _, Blk.new _ _ _, Nat.le_refl _, Nat.zero_le _, by simp, by simp⟩⟩
set_option maxHeartbeats 400000 in
theorem cloneSecs {w : World} {b0 : Nat} {sv : Value} {n : Nat} {xs : List Value} (h : w.ownsRow b0 57 64 sv n xs) (h1 : ∀ u ∈ xs, u.oneCell' = true) (hn : n ≤ 1000000000) :
    Calls Try.prog 33 #[sv] w (CloneP 57 64 n xs w) := by
  obtain ⟨p, c, rfl⟩ := own_slice h
  have hnil := fun W => Lib.run_eql_slice_nil (P := Try.prog) W 44 57 p n c 0 0 Try.underlying44
  rcases p with _ | ad
  · have h0 : n = 0 := by
      rcases h.2 with ⟨_, h0⟩ | ⟨g, cap, cur, e, _⟩
      · exact h0
      · cases e
    have hx : xs = [] := List.eq_nil_of_length_eq_zero (by rw [h.1, h0])
    subst h0 hx
    clear h
    go_enter Try.func33, Try.ntmps33
    go_wp2_with fail
    go_ret
    exact ⟨none, 0, rfl, ⟨by simp, .inl ⟨rfl, rfl⟩⟩, Below.refl _ _⟩
  · have hbs := run_bs1
    obtain ⟨i0, hi0, hz0, hz1, hz2⟩ := info_parts sec_info
    have HSrc := Lib.hid (h.alloc (.cells #[] 57))
    have H1 := Lib.hid h1
    have Hi0 := Lib.hid hi0
    have Hz0 := Lib.hid hz0
    have Hz1 := Lib.hid hz1
    have Hz2 := Lib.hid hz2
    clear h h1 hi0 hz0 hz1 hz2
    go_enter Try.func33, Try.ntmps33
    go_wp2_with (refine wpList_append_copy (by rfl) (.tmp 5) (.tmp 6) 44 (by rfl) w.heap.size 57 i0 _ 64 64 Try.underlying44 Hi0.out Hz0.out Hz1.out Hz2.out (by simp [Value.cells]) (by omega) (.slice (some ⟨w.heap.size, 0, none⟩) 0 0) (by rfl) (own_empty w _ _) b0 (.slice (some ad) n c) n xs (by rfl) HSrc.out H1.out (by unfold maxLen; omega) (by omega) (by simp) ?_; intro p1 c1 w3 hown3 hgrow3 hat3)
    go_ret
    exact ⟨p1, c1, rfl, hown3, ((Below.refl _ _).alloc (Nat.le_refl _) _).grown hgrow3 (by simp) (by simp [Value.ownBlock])⟩
set_option maxHeartbeats 400000 in
theorem cloneQ {w : World} {b0 : Nat} {sv : Value} {n : Nat} {xs : List Value} (h : w.ownsRow b0 59 65 sv n xs) (h1 : ∀ u ∈ xs, u.oneCell' = true) (hn : n ≤ 1000000000) :
    Calls Try.prog 34 #[sv] w (CloneP 59 65 n xs w) := by
  obtain ⟨p, c, rfl⟩ := own_slice h
  have hnil := fun W => Lib.run_eql_slice_nil (P := Try.prog) W 45 59 p n c 0 0 Try.underlying45
  rcases p with _ | ad
  · have h0 : n = 0 := by
      rcases h.2 with ⟨_, h0⟩ | ⟨g, cap, cur, e, _⟩
      · exact h0
      · cases e
    have hx : xs = [] := List.eq_nil_of_length_eq_zero (by rw [h.1, h0])
    subst h0 hx
    clear h
    go_enter Try.func34, Try.ntmps34
    go_wp2_with fail
    go_ret
    exact ⟨none, 0, rfl, ⟨by simp, .inl ⟨rfl, rfl⟩⟩, Below.refl _ _⟩
  · have hbs := run_bs2
    obtain ⟨i0, hi0, hz0, hz1, hz2⟩ := info_parts wr_info
    have HSrc := Lib.hid (h.alloc (.cells #[] 59))
    have H1 := Lib.hid h1
    have Hi0 := Lib.hid hi0
    have Hz0 := Lib.hid hz0
    have Hz1 := Lib.hid hz1
    have Hz2 := Lib.hid hz2
    clear h h1 hi0 hz0 hz1 hz2
    go_enter Try.func34, Try.ntmps34
    go_wp2_with (refine wpList_append_copy (by rfl) (.tmp 5) (.tmp 6) 45 (by rfl) w.heap.size 59 i0 _ 65 72 Try.underlying45 Hi0.out Hz0.out Hz1.out Hz2.out (by simp [Value.cells]) (by omega) (.slice (some ⟨w.heap.size, 0, none⟩) 0 0) (by rfl) (own_empty w _ _) b0 (.slice (some ad) n c) n xs (by rfl) HSrc.out H1.out (by unfold maxLen; omega) (by omega) (by simp) ?_; intro p1 c1 w3 hown3 hgrow3 hat3)
    go_ret
    exact ⟨p1, c1, rfl, hown3, ((Below.refl _ _).alloc (Nat.le_refl _) _).grown hgrow3 (by simp) (by simp [Value.ownBlock])⟩
end Go.Proofs.Ytmkcmahfededeaa
