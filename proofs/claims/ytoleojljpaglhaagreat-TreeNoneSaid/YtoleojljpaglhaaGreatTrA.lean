/- Of a nil and of a zero tree; Open. -/
import Derived.Test.YtoleojljpaglhaaGreatPaX
set_option maxRecDepth 20000
namespace Go.Proofs.YtoleojljpaglhaaGreat
open Go.RowKit
set_option maxRecDepth 20000
/-- a nil tree, or a zero one -/
structure NoTr (w : World) (v : Value) : Prop where
  no : v = .pointer none ∨ ∃ b, v = .pointer (some ⟨b, 0, none⟩) ∧ w.cell? ⟨b, 0, none⟩ = some (.pointer none)
section
variable {w w' : World} {v : Value}
theorem NoTr.later (h : NoTr w v) (hb : Below w.heap.size w w') : NoTr w' v := by
  rcases h.no with h | ⟨b, h, hc⟩
  · exact ⟨.inl h⟩
  · exact ⟨.inr ⟨b, h, (hb.cell (p := ⟨b, 0, none⟩) (World.block_lt_of_cell? _ _ hc)).trans hc⟩⟩
theorem tnone_no (h : NoTr w v) : Calls Tryz.prog 34 #[v] w fun e w' => e = .returned (.bool true) ∧ w = w' := by
  rcases h.no with rfl | ⟨b, rfl, hc⟩
  · go_enter Tryz.func34, Tryz.ntmps34
    go_wp2_with fail
    go_ret
    exact ⟨rfl, rfl⟩
  · go_enter Tryz.func34, Tryz.ntmps34
    go_wp2_with fail
    go_ret
    exact ⟨rfl, rfl⟩
theorem tnone_yes {b p : Nat} (hc : w.cell? ⟨b, 0, none⟩ = some (.pointer (some ⟨p, 0, none⟩))) : Calls Tryz.prog 34 #[.pointer (some ⟨b, 0, none⟩)] w fun e w' => e = .returned (.bool false) ∧ w = w' := by
  go_enter Tryz.func34, Tryz.ntmps34
  go_wp2_with fail
  go_ret
  exact ⟨rfl, rfl⟩
theorem asked_no (h : NoTr w v) (k s : ByteArray) : Calls Tryz.prog 27 #[v, .string k, .string s] w fun e w' => e = .returned (.int .i64 1) ∧ w = w' := by
  have H := Lib.hid (tnone_no h)
  clear h
  go_enter Tryz.func27, Tryz.ntmps27
  go_wp2_with fail
  (with_reducible refine H.out.mono ?_)
  rintro e w1 ⟨rfl, rfl⟩
  go_wp2_with fail
  go_ret
  exact ⟨rfl, rfl⟩
theorem all_no (h : NoTr w v) (k : ByteArray) (m y : Value) : Calls Tryz.prog 32 #[v, .string k, m, y] w fun e w' => e = .returned (.int .i64 1) ∧ w = w' := by
  have H := Lib.hid (tnone_no h)
  clear h
  go_enter Tryz.func32, Tryz.ntmps32
  go_wp2_with fail
  (with_reducible refine H.out.mono ?_)
  rintro e w1 ⟨rfl, rfl⟩
  go_wp2_with fail
  go_ret
  exact ⟨rfl, rfl⟩
theorem tget_no (h : NoTr w v) (k : ByteArray) : Calls Tryz.prog 10 #[v, .string k] w fun e w' => e = .returned (.tuple #[.string ⟨#[]⟩, .int .i64 1]) ∧ w = w' := by
  have H := Lib.hid (asked_no h k ⟨#[]⟩)
  clear h
  go_enter Tryz.func10, Tryz.ntmps10
  go_wp2_with fail
  (with_reducible refine H.out.mono ?_)
  rintro e w1 ⟨rfl, rfl⟩
  go_wp2_with fail
  go_ret2
  exact ⟨rfl, rfl⟩
theorem tput_no (h : NoTr w v) (k s : ByteArray) : Calls Tryz.prog 16 #[v, .string k, .string s] w fun e w' => e = .returned (.int .i64 1) ∧ w = w' := by
  have H := Lib.hid (asked_no h k s)
  clear h
  go_enter Tryz.func16, Tryz.ntmps16
  go_wp2_with fail
  (with_reducible refine H.out.mono ?_)
  rintro e w1 ⟨rfl, rfl⟩
  go_wp2_with fail
  go_ret
  exact ⟨rfl, rfl⟩
theorem tdelete_no (h : NoTr w v) (k : ByteArray) : Calls Tryz.prog 17 #[v, .string k] w fun e w' => e = .returned (.int .i64 1) ∧ w = w' := by
  have H := Lib.hid (tget_no h k)
  clear h
  go_enter Tryz.func17, Tryz.ntmps17
  go_wp2_with fail
  (with_reducible refine H.out.mono ?_)
  rintro e w1 ⟨rfl, rfl⟩
  go_wp2_with fail
  go_ret
  exact ⟨rfl, rfl⟩
theorem tcount_no (h : NoTr w v) : Calls Tryz.prog 11 #[v] w fun e w' => e = .returned (.tuple #[.int .i64 0, .int .i64 1]) ∧ Below w.heap.size w w' := by
  have hb : ∀ o u, Below w.heap.size w ((w.alloc o).setCell ⟨w.heap.size, 0, none⟩ u) := fun o u => ((Below.refl _ w).alloc (Nat.le_refl _) o).setCell (by simp) u
  have H := Lib.hid (fun o u => all_no (h.later (hb o u)) ⟨#[]⟩)
  have HB := Lib.hid hb
  have hb0 : ∀ o, Below w.heap.size w (w.alloc o) := fun o => (Below.refl _ w).alloc (Nat.le_refl _) o
  have H0 := Lib.hid (fun o => all_no (h.later (hb0 o)) ⟨#[]⟩)
  have HB0 := Lib.hid hb0
  clear h hb hb0
  go_enter Tryz.func11, Tryz.ntmps11
  go_wp2_with fail
  first
    | (with_reducible refine (H0.out _ _ _).mono ?_)
    | (with_reducible refine (H.out _ _ _ _).mono ?_)
  rintro e w1 ⟨rfl, rfl⟩
  go_wp2_with fail
  go_ret2
  exact ⟨rfl, by first | exact HB0.out _ | exact HB.out _ _⟩
theorem tpages_no (h : NoTr w v) : Calls Tryz.prog 14 #[v] w fun e w' => e = .returned (.tuple #[.int .i64 0, .int .i64 1]) ∧ Below w.heap.size w w' := by
  have hb : ∀ o u, Below w.heap.size w ((w.alloc o).setCell ⟨w.heap.size, 0, none⟩ u) := fun o u => ((Below.refl _ w).alloc (Nat.le_refl _) o).setCell (by simp) u
  have H := Lib.hid (fun o u => all_no (h.later (hb o u)) ⟨#[]⟩)
  have HB := Lib.hid hb
  have hb0 : ∀ o, Below w.heap.size w (w.alloc o) := fun o => (Below.refl _ w).alloc (Nat.le_refl _) o
  have H0 := Lib.hid (fun o => all_no (h.later (hb0 o)) ⟨#[]⟩)
  have HB0 := Lib.hid hb0
  clear h hb hb0
  go_enter Tryz.func14, Tryz.ntmps14
  go_wp2_with fail
  first
    | (with_reducible refine (H0.out _ _ _).mono ?_)
    | (with_reducible refine (H.out _ _ _ _).mono ?_)
  rintro e w1 ⟨rfl, rfl⟩
  go_wp2_with fail
  go_ret2
  exact ⟨rfl, by first | exact HB0.out _ | exact HB.out _ _⟩
end
end Go.Proofs.YtoleojljpaglhaaGreat
