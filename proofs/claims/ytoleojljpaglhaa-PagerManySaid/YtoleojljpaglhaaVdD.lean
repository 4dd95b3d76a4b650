/- The contracts of the disk's Queue, Room, Fuse, Restore and asked. -/
import Derived.Test.YtoleojljpaglhaaVdA
namespace Go.Proofs.Ytoleojljpaglhaa
open Go.RowKit Go.Maps
set_option maxRecDepth 20000
section
variable {w : World} {g S M : Nat} {qv : Value} {d : Vd.VD}
/-- the queue's value is a slice -/
theorem DiskAt.qform (h : DiskAt w g S M qv d) : ∃ p cap, qv = .slice p d.q.length cap := by
  rcases h.queue.2 with ⟨rfl, h0⟩ | ⟨g', cap, cur, rfl, _⟩
  · exact ⟨none, 0, by rw [h0]⟩
  · exact ⟨some ⟨g', 0, none⟩, cap, rfl⟩
set_option maxHeartbeats 400000 in
theorem restore_any (h : DiskAt w g S M qv d) :
    Calls Try.prog 26 #[.pointer (some ⟨g, 0, none⟩)] w fun e w' => e = .returned (.tuple #[]) ∧ DiskAt w' g S M qv { d with on := true } ∧ Only [g] w w' := by
  have hs := sectors_any h
  have h1 : (0 : Int) < (d.secs.length : Int) := by have := h.ok.secs0; omega
  have hd : DiskAt (w.setCell ⟨g, 3, none⟩ (.bool true)) g S M qv { d with on := true } :=
    h.store 3 _ _ ⟨h.ok.secs, h.ok.secs0, h.ok.q, h.ok.room, h.ok.fuse, h.ok.writes⟩ rfl rfl rfl
  have c3 := h.cells.c3
  have f3 := h.self.frozen 3
  have h1' : decide ((0 : Int) < (d.secs.length : Int)) = true := decide_eq_true h1
  clear h
  go_enter Try.func26, Try.ntmps26
  go_wp2_with fail
  refine hs.mono ?_
  rintro e w1 ⟨rfl, rfl⟩
  go_wp2_with fail
  go_end0
  exact ⟨rfl, hd, (Only.refl _ _).setCell (.inl (by simp)) _⟩
/-- the fuse or the room is set -/
theorem VD_room (h : d.ok) (n : Int) (h0 : n ≤ 9223372036854775807) : ({ d with room := max n (-1) } : Vd.VD).ok := ⟨h.secs, h.secs0, h.q, ⟨by simp; omega, by simp; omega⟩, h.fuse, h.writes⟩
set_option maxHeartbeats 400000 in
theorem room_any (h : DiskAt w g S M qv d) (n : Int) (h0 : n ≤ 9223372036854775807) :
    Calls Try.prog 24 #[.pointer (some ⟨g, 0, none⟩), .int .i64 n] w fun e w' => e = .returned (.tuple #[]) ∧ DiskAt w' g S M qv { d with room := max n (-1) } ∧ Only [g] w w' := by
  have hs := sectors_any h
  have h1 : (0 : Int) < (d.secs.length : Int) := by have := h.ok.secs0; omega
  have hd : DiskAt (w.setCell ⟨g, 4, none⟩ (.int .i64 (max n (-1)))) g S M qv { d with room := max n (-1) } :=
    h.store 4 _ _ (VD_room h.ok n h0) rfl rfl rfl
  have c4 := h.cells.c4
  have f4 := h.self.frozen 4
  have h1' : decide ((0 : Int) < (d.secs.length : Int)) = true := decide_eq_true h1
  clear h
  obtain ⟨r, hr⟩ : ∃ r, r = max n (-1) := ⟨_, rfl⟩
  rw [← hr] at hd ⊢
  by_cases hn : -1 ≤ n
  · have hrn : r = n := by omega
    subst hrn
    clear hr
    go_enter Try.func24, Try.ntmps24
    go_wp2_with fail
    refine hs.mono ?_
    rintro e w1 ⟨rfl, rfl⟩
    go_wp2_with fail
    go_end0
    exact ⟨rfl, hd, (Only.refl _ _).own _ _⟩
  · have hrn : r = -1 := by omega
    subst hrn
    clear hr
    go_enter Try.func24, Try.ntmps24
    go_wp2_with fail
    refine hs.mono ?_
    rintro e w1 ⟨rfl, rfl⟩
    go_wp2_with fail
    go_end0
    exact ⟨rfl, hd, (Only.refl _ _).own _ _⟩
/-- Fuse -/
def setFuse (d : Vd.VD) (n keep torn : Int) : Vd.VD := { d with fuse := if 0 ≤ n then some (n, keep, torn) else none }
theorem setFuse_ok (h : d.ok) (n keep torn : Int) (h0 : n ≤ 9223372036854775807) : (setFuse d n keep torn).ok := by
  refine ⟨h.secs, h.secs0, h.q, h.room, ?_, h.writes⟩
  intro a b c e
  unfold setFuse at e
  simp only at e
  split at e
  · simp only [Option.some.injEq, Prod.mk.injEq] at e
    omega
  · cases e
set_option maxHeartbeats 800000 in
theorem fuse_any (h : DiskAt w g S M qv d) (n keep torn : Int) (h0 : n ≤ 9223372036854775807) :
    Calls Try.prog 27 #[.pointer (some ⟨g, 0, none⟩), .int .i64 n, .int .i64 keep, .int .i64 torn] w fun e w' => e = .returned (.tuple #[]) ∧ DiskAt w' g S M qv (setFuse d n keep torn) ∧ Only [g] w w' := by
  have hs := sectors_any h
  have h1 : (0 : Int) < (d.secs.length : Int) := by have := h.ok.secs0; omega
  have h1' : decide ((d.secs.length : Int) = 0) = false := decide_eq_false (by omega)
  obtain ⟨c0, c1, c2, c3, c4, c5, c6, c7, c8, c9⟩ := h.cells
  have f5 := h.self.frozen 5
  have f6 := h.self.frozen 6
  have f7 := h.self.frozen 7
  have f8 := h.self.frozen 8
  by_cases hn : 0 ≤ n
  · have hn' : decide (0 ≤ n) = true := decide_eq_true hn
    have e : setFuse d n keep torn = { d with fuse := some (n, keep, torn) } := by unfold setFuse; rw [if_pos hn]
    have hok := setFuse_ok h.ok n keep torn h0
    rw [e] at hok ⊢
    have hd := fun w' => h.self' (w' := w') { d with fuse := some (n, keep, torn) } hok rfl rfl
    have hb := h.self
    clear h
    go_enter Try.func27, Try.ntmps27
    go_wp2_with fail
    refine hs.mono ?_
    rintro e w1 ⟨rfl, rfl⟩
    go_wp2_with fail
    go_end0
    have ho : Only [g] w ((((((((w.setCell ⟨g, 5, none⟩ (.bool false)).setCell ⟨g, 6, none⟩ (.int .i64 0)).setCell ⟨g, 7, none⟩ (.int .i64 0)).setCell ⟨g, 8, none⟩ (.int .i64 0)).setCell ⟨g, 5, none⟩ (.bool true)).setCell ⟨g, 6, none⟩ (.int .i64 n)).setCell ⟨g, 7, none⟩ (.int .i64 keep)).setCell ⟨g, 8, none⟩ (.int .i64 torn)) :=
      (((((((((Only.refl _ _).own _ _).own _ _).own _ _).own _ _).own _ _).own _ _).own _ _).own _ _)
    exact ⟨rfl, hd _ ho ((((((((((hb.set_ 5 _).set_ 6 _).set_ 7 _).set_ 8 _).set_ 5 _).set_ 6 _).set_ 7 _).set_ 8 _)).eq_ (by simp [dcells, fset, fn, fkeep, ftorn])), ho⟩
  · have hn' : decide (0 ≤ n) = false := decide_eq_false hn
    have e : setFuse d n keep torn = { d with fuse := none } := by unfold setFuse; rw [if_neg hn]
    have hok := setFuse_ok h.ok n keep torn h0
    rw [e] at hok ⊢
    have hd := fun w' => h.self' (w' := w') { d with fuse := none } hok rfl rfl
    have hb := h.self
    clear h
    go_enter Try.func27, Try.ntmps27
    go_wp2_with fail
    refine hs.mono ?_
    rintro e w1 ⟨rfl, rfl⟩
    go_wp2_with fail
    go_end0
    have ho : Only [g] w ((((w.setCell ⟨g, 5, none⟩ (.bool false)).setCell ⟨g, 6, none⟩ (.int .i64 0)).setCell ⟨g, 7, none⟩ (.int .i64 0)).setCell ⟨g, 8, none⟩ (.int .i64 0)) :=
      (((((Only.refl _ _).own _ _).own _ _).own _ _).own _ _)
    exact ⟨rfl, hd _ ho ((((((hb.set_ 5 _).set_ 6 _).set_ 7 _).set_ 8 _)).eq_ (by simp [dcells, fset, fn, fkeep, ftorn])), ho⟩
theorem asked_any (h : DiskAt w g S M qv d) (a : Int) :
    Calls Try.prog 74 #[.pointer (some ⟨g, 0, none⟩), .int .i64 a] w fun e w' => e = .returned (.int .i64 (Vd.asked d a)) ∧ w = w' := by
  have hs := on_any h
  have c0 := h.cells.c0
  clear h
  by_cases ho : d.on = true
  · rw [ho] at hs
    by_cases h1 : a < 0
    · have h1' : decide (a < 0) = true := decide_eq_true h1
      have e : Vd.asked d a = 81 := by unfold Vd.asked; rw [if_pos ho, if_pos (.inl h1)]
      rw [e]
      clear e
      go_enter Try.func74, Try.ntmps74
      go_wp2_with fail
      refine hs.mono ?_
      rintro e w1 ⟨rfl, rfl⟩
      go_wp2_with fail
      go_ret
      exact ⟨rfl, rfl⟩
    · have h1' : decide (a < 0) = false := decide_eq_false h1
      by_cases h2 : (d.secs.length : Int) ≤ a
      · have h2' : decide ((d.secs.length : Int) ≤ a) = true := decide_eq_true h2
        have e : Vd.asked d a = 81 := by unfold Vd.asked; rw [if_pos ho, if_pos (.inr h2)]
        rw [e]
        clear e
        go_enter Try.func74, Try.ntmps74
        go_wp2_with fail
        refine hs.mono ?_
        rintro e w1 ⟨rfl, rfl⟩
        go_wp2_with fail
        go_ret
        exact ⟨rfl, rfl⟩
      · have h2' : decide ((d.secs.length : Int) ≤ a) = false := decide_eq_false h2
        have e : Vd.asked d a = 0 := by unfold Vd.asked; rw [if_pos ho, if_neg (by omega)]
        rw [e]
        clear e
        go_enter Try.func74, Try.ntmps74
        go_wp2_with fail
        refine hs.mono ?_
        rintro e w1 ⟨rfl, rfl⟩
        go_wp2_with fail
        go_ret
        exact ⟨rfl, rfl⟩
  · have ho' : d.on = false := by simpa using ho
    rw [ho'] at hs
    have e : Vd.asked d a = 80 := by unfold Vd.asked; rw [if_neg ho]
    rw [e]
    clear e
    go_enter Try.func74, Try.ntmps74
    go_wp2_with fail
    refine hs.mono ?_
    rintro e w1 ⟨rfl, rfl⟩
    go_wp2_with fail
    go_ret
    exact ⟨rfl, rfl⟩
end
end Go.Proofs.Ytoleojljpaglhaa
