/- The contract of the law's step. -/
import Derived.Test.YtmkcmahfededeaaPlB
namespace Go.Proofs.Ytmkcmahfededeaa
open Go.RowKit Go.Maps
attribute [local go_sem ↓] Go.wp_at_zero Go.wp_at_succ
section
variable {c : Nat → Nat} {i j B g r : Nat} {w : World} {d : Vd.VD}
set_option maxRecDepth 100000 in
set_option maxHeartbeats 1000000 in
theorem step1 (hS : ∀ op, SS c i j B w w.heap.size op g r d d (w.alloc (.cells op 68))) (hw : d.writes < 900000000) (u a b q : Int) (s : ByteArray) (hs : s.size ≤ 9223372036854775807) :
    Calls Try.prog 31 #[.pointer (some ⟨g, 0, none⟩), .pointer (some ⟨r, 0, none⟩), .agg (opc 1 u a b q s)] w (StepP c i j B w g r d) := by
  have h := hS (opc 1 u a b q s)
  have n0 : (w.alloc (.cells (opc 1 u a b q s) 68)).cell? ⟨w.heap.size, 0, none⟩ = some (.int .i64 1) := h.blk.cell 0
  have n2 : (w.alloc (.cells (opc 1 u a b q s) 68)).cell? ⟨w.heap.size, 2, none⟩ = some (.int .i64 a) := h.blk.cell 2
  have n5 : (w.alloc (.cells (opc 1 u a b q s) 68)).cell? ⟨w.heap.size, 5, none⟩ = some (.string s) := h.blk.cell 5
  have HS1 := Lib.hid (h.below ((Below.refl _ _).drew))
  obtain ⟨v, hv⟩ : ∃ v, (Vd.write d a s.data.toList).1 = v := ⟨_, rfl⟩
  have hwr := ss_write HS1.out a s hs (by omega)
  rw [hv] at hwr
  have HW := Lib.hid hwr
  have HRW : Hid (∀ w3, SS c i j B w w.heap.size (opc 1 u a b q s) g r (Vd.write d a s.data.toList).2 d w3 → Calls Try.prog 35 #[.pointer (some ⟨r, 0, none⟩), .int .i64 a, .string s] w3 fun en w' => en = .returned (.int .i64 v) ∧ SS c i j B w w.heap.size (opc 1 u a b q s) g r (Vd.write d a s.data.toList).2 (Vd.write d a s.data.toList).2 w') := Lib.hid (fun w3 h3 => by
    have := ss_rwrite h3 a s hs (by omega)
    rw [hv] at this
    exact this)
  clear h hS hwr hv
  go_enter Try.func31, Try.ntmps31
  go_wp2_with fail
  go_region_held3 (fun w' => w'.cell? ⟨w.heap.size, 2, none⟩ = some (.int .i64 a) ∧ w'.cell? ⟨w.heap.size, 5, none⟩ = some (.string s)) (first | exact ⟨n2, n5⟩ | exact ⟨k2, k5⟩ | exact ⟨l2, l5⟩ | go_keep)
    ((first
      | ((with_reducible refine HW.out.mono ?_); rintro e w3 ⟨rfl, h3⟩; have k2 : w3.cell? ⟨w.heap.size, 2, none⟩ = some (.int .i64 a) := h3.blk.cell 2; have k5 : w3.cell? ⟨w.heap.size, 5, none⟩ = some (.string s) := h3.blk.cell 5; have H3' := Lib.hid (HRW.out w3 h3); clear h3)
      | ((with_reducible refine H3'.out.mono ?_); rintro e w4 ⟨rfl, h4⟩; have l2 : w4.cell? ⟨w.heap.size, 2, none⟩ = some (.int .i64 a) := h4.blk.cell 2; have l5 : w4.cell? ⟨w.heap.size, 5, none⟩ = some (.string s) := h4.blk.cell 5; have H4 := Lib.hid h4; clear h4)))
  all_goals
    clear n0 n2 n5 k2 k5 l2 l5
    go_wp2_with fail
    go_ret
    exact H4.out.done (write_writes _ _ _)
end
end Go.Proofs.Ytmkcmahfededeaa
