/- The contracts of the disk's Queue, Room, Fuse, Restore and asked. -/
import Derived.Test.YtoleojljpaglhaaGreatVdA
namespace Go.Proofs.YtoleojljpaglhaaGreat
open Go.RowKit Go.Maps
set_option maxRecDepth 20000
section
variable {w : World} {g S M : Nat} {qv : Value} {d : Vd.VD}
/-- the queue's value is a slice -/
theorem DiskAt.qform (h : DiskAt w g S M qv d) : ∃ p cap, qv = .slice p d.q.length cap := by
  rcases h.queue.2 with ⟨rfl, h0⟩ | ⟨g', cap, cur, rfl, _⟩
  · exact ⟨none, 0, by rw [h0]⟩
  · exact ⟨some ⟨g', 0, none⟩, cap, rfl⟩
set_option maxHeartbeats 400000 in
theorem restore_any (h : DiskAt w g S M qv d) :
    Calls Tryz.prog 64 #[.pointer (some ⟨g, 0, none⟩)] w fun e w' => e = .returned (.tuple #[]) ∧ DiskAt w' g S M qv { d with on := true } ∧ Only [g] w w' := by
  have hs := sectors_any h
  have h1 : (0 : Int) < (d.secs.length : Int) := by have := h.ok.secs0; omega
  have hd : DiskAt (w.setCell ⟨g, 3, none⟩ (.bool true)) g S M qv { d with on := true } :=
    h.store 3 _ _ ⟨h.ok.secs, h.ok.secs0, h.ok.q, h.ok.room, h.ok.fuse, h.ok.writes⟩ rfl rfl rfl
  have c3 := h.cells.c3
  have f3 := h.self.frozen 3
  have h1' : decide ((0 : Int) < (d.secs.length : Int)) = true := decide_eq_true h1
  clear h
  go_enter Tryz.func64, Tryz.ntmps64
  go_wp2_with fail
  refine hs.mono ?_
  rintro e w1 ⟨rfl, rfl⟩
  go_wp2_with fail
  go_end0
  exact ⟨rfl, hd, (Only.refl _ _).setCell (.inl (by simp)) _⟩
/-- the fuse or the room is set -/
theorem VD_room (h : d.ok) (n : Int) (h0 : n ≤ 9223372036854775807) : ({ d with room := max n (-1) } : Vd.VD).ok := ⟨h.secs, h.secs0, h.q, ⟨by simp; omega, by simp; omega⟩, h.fuse, h.writes⟩
/-- Fuse -/
def setFuse (d : Vd.VD) (n keep torn : Int) : Vd.VD := { d with fuse := if 0 ≤ n then some (n, keep, torn) else none }
theorem setFuse_ok (h : d.ok) (n keep torn : Int) (h0 : n ≤ 9223372036854775807) : (setFuse d n keep torn).ok := by
  refine ⟨h.secs, h.secs0, h.q, h.room, ?_, h.writes⟩
  intro a b c e
  unfold setFuse at e
  simp only at e
  split at e
  · simp only [Option.some.injEq, Prod.mk.injEq] at e
    omega
  · cases e
theorem asked_any (h : DiskAt w g S M qv d) (a : Int) :
    Calls Tryz.prog 103 #[.pointer (some ⟨g, 0, none⟩), .int .i64 a] w fun e w' => e = .returned (.int .i64 (Vd.asked d a)) ∧ w = w' := by
  have hs := on_any h
  have c0 := h.cells.c0
  clear h
  by_cases ho : d.on = true
  · rw [ho] at hs
    by_cases h1 : a < 0
    · have h1' : decide (a < 0) = true := decide_eq_true h1
      have e : Vd.asked d a = 81 := by unfold Vd.asked; rw [if_pos ho, if_pos (.inl h1)]
      rw [e]
      clear e
      go_enter Tryz.func103, Tryz.ntmps103
      go_wp2_with fail
      refine hs.mono ?_
      rintro e w1 ⟨rfl, rfl⟩
      go_wp2_with fail
      go_ret
      exact ⟨rfl, rfl⟩
    · have h1' : decide (a < 0) = false := decide_eq_false h1
      by_cases h2 : (d.secs.length : Int) ≤ a
      · have h2' : decide ((d.secs.length : Int) ≤ a) = true := decide_eq_true h2
        have e : Vd.asked d a = 81 := by unfold Vd.asked; rw [if_pos ho, if_pos (.inr h2)]
        rw [e]
        clear e
        go_enter Tryz.func103, Tryz.ntmps103
        go_wp2_with fail
        refine hs.mono ?_
        rintro e w1 ⟨rfl, rfl⟩
        go_wp2_with fail
        go_ret
        exact ⟨rfl, rfl⟩
      · have h2' : decide ((d.secs.length : Int) ≤ a) = false := decide_eq_false h2
        have e : Vd.asked d a = 0 := by unfold Vd.asked; rw [if_pos ho, if_neg (by omega)]
        rw [e]
        clear e
        go_enter Tryz.func103, Tryz.ntmps103
        go_wp2_with fail
        refine hs.mono ?_
        rintro e w1 ⟨rfl, rfl⟩
        go_wp2_with fail
        go_ret
        exact ⟨rfl, rfl⟩
  · have ho' : d.on = false := by simpa using ho
    rw [ho'] at hs
    have e : Vd.asked d a = 80 := by unfold Vd.asked; rw [if_neg ho]
    rw [e]
    clear e
    go_enter Tryz.func103, Tryz.ntmps103
    go_wp2_with fail
    refine hs.mono ?_
    rintro e w1 ⟨rfl, rfl⟩
    go_wp2_with fail
    go_ret
    exact ⟨rfl, rfl⟩
end
end Go.Proofs.YtoleojljpaglhaaGreat
