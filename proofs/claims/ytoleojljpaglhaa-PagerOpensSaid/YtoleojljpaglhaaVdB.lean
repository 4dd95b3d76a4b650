/- The contracts of the disk's small calls. -/
import Derived.Test.YtoleojljpaglhaaVdA
import Derived.BigQuiet
namespace Go.Proofs.Ytoleojljpaglhaa
open Go.RowKit Go.Maps
set_option maxRecDepth 20000
/-- the ten cells -/
structure Cells10 (w : World) (g S M : Nat) (qv : Value) (d : Vd.VD) : Prop where
  c0 : w.cell? ⟨g, 0, none⟩ = some (.slice (some ⟨S, 0, none⟩) d.secs.length d.sc)
  c1 : w.cell? ⟨g, 1, none⟩ = some qv
  c2 : w.cell? ⟨g, 2, none⟩ = some (.map (some M))
  c3 : w.cell? ⟨g, 3, none⟩ = some (.bool d.on)
  c4 : w.cell? ⟨g, 4, none⟩ = some (.int .i64 d.room)
  c5 : w.cell? ⟨g, 5, none⟩ = some (.bool (fset d.fuse))
  c6 : w.cell? ⟨g, 6, none⟩ = some (.int .i64 (fn d.fuse))
  c7 : w.cell? ⟨g, 7, none⟩ = some (.int .i64 (fkeep d.fuse))
  c8 : w.cell? ⟨g, 8, none⟩ = some (.int .i64 (ftorn d.fuse))
  c9 : w.cell? ⟨g, 9, none⟩ = some (.int .i64 d.writes)
theorem DiskAt.cells {w : World} {g S M : Nat} {qv : Value} {d : Vd.VD} (h : DiskAt w g S M qv d) : Cells10 w g S M qv d :=
  ⟨h.self.cell 0, h.self.cell 1, h.self.cell 2, h.self.cell 3, h.self.cell 4, h.self.cell 5, h.self.cell 6, h.self.cell 7, h.self.cell 8, h.self.cell 9⟩
set_option maxHeartbeats 400000 in
theorem on_any {w : World} {g S M : Nat} {qv : Value} {d : Vd.VD} (h : DiskAt w g S M qv d) :
    Calls Try.prog 28 #[.pointer (some ⟨g, 0, none⟩)] w fun e w' => e = .returned (.bool d.on) ∧ w = w' := by
  have c3 := h.cells.c3
  clear h
  go_enter Try.func28, Try.ntmps28
  go_wp2_with fail
  go_ret
  exact ⟨rfl, rfl⟩
set_option maxHeartbeats 400000 in
theorem on_nil (w : World) : Calls Try.prog 28 #[.pointer none] w fun e w' => e = .returned (.bool false) ∧ w = w' := by
  go_enter Try.func28, Try.ntmps28
  go_wp2_with fail
  go_ret
  exact ⟨rfl, rfl⟩
set_option maxHeartbeats 400000 in
theorem sectors_any {w : World} {g S M : Nat} {qv : Value} {d : Vd.VD} (h : DiskAt w g S M qv d) :
    Calls Try.prog 29 #[.pointer (some ⟨g, 0, none⟩)] w fun e w' => e = .returned (.int .i64 d.secs.length) ∧ w = w' := by
  have c0 := h.cells.c0
  clear h
  go_enter Try.func29, Try.ntmps29
  go_wp2_with fail
  go_ret
  exact ⟨rfl, rfl⟩
end Go.Proofs.Ytoleojljpaglhaa
