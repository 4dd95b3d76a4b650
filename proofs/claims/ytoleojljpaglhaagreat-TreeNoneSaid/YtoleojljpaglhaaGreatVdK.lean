/- The contracts of the disk's Write, whole, and of Sync. -/
import Derived.Test.YtoleojljpaglhaaGreatVdJ
namespace Go.Proofs.YtoleojljpaglhaaGreat
open Go.RowKit Go.Maps
set_option maxRecDepth 20000
section
variable {w : World} {g : Nat} {d : Vd.VD} {fp : List Nat}
theorem write_any (h : DF w g d fp) (a : Int) (s : ByteArray) (hm : s.size ≤ 9223372036854775807) (hw : d.writes < 1000000000) :
    Calls Tryz.prog 74 #[.pointer (some ⟨g, 0, none⟩), .int .i64 a, .string s] w (DPost (.int .i64 (Vd.write d a s.data.toList).1) g (Vd.write d a s.data.toList).2 fp w) := by
  by_cases h0 : Vd.asked d a = 0
  · by_cases hs : s.size = 64
    · have hl : ¬ s.data.toList.length ≠ 64 := by simpa using hs
      by_cases hr : d.room = 0
      · have e : Vd.write d a s.data.toList = (83, d) := by unfold Vd.write; rw [if_neg (by simpa using h0), if_neg hl, if_pos hr]
        rw [e]; exact write_no3 h a s h0 hs hr
      · by_cases hb : (Vd.burns d).1 = true
        · have e : Vd.write d a s.data.toList = (80, (Vd.burns d).2) := by unfold Vd.write; rw [if_neg (by simpa using h0), if_neg hl, if_neg hr, if_pos hb]
          rw [e]; exact write_no4 h a s h0 hs hr hb
        · have hz := asked_zero h0
          obtain ⟨k, rfl⟩ : ∃ k : Nat, a = k := ⟨a.toNat, by omega⟩
          have e : (Vd.write d k s.data.toList).1 = 0 := by unfold Vd.write; rw [if_neg (by simpa using h0), if_neg hl, if_neg hr, if_neg hb]
          rw [e]; exact write_ok h k s h0 hs hr (by simpa using hb) hw
    · have hl : s.data.toList.length ≠ 64 := by simpa using hs
      have e : Vd.write d a s.data.toList = (82, d) := by unfold Vd.write; rw [if_neg (by simpa using h0), if_pos hl]
      rw [e]; exact write_no2 h a s h0 hs hm
  · have e : Vd.write d a s.data.toList = (Vd.asked d a, d) := by unfold Vd.write; rw [if_pos h0]
    rw [e]; exact write_no1 h a s h0
theorem on_df (h : DF w g d fp) : Calls Tryz.prog 86 #[.pointer (some ⟨g, 0, none⟩)] w fun e w' => e = .returned (.bool d.on) ∧ w = w' := by
  obtain ⟨S, M, qv, rfl, h⟩ := h
  exact on_any h
theorem kept_df (h : DF w g d fp) (n : Nat) (hn : n ≤ d.q.length) : Calls Tryz.prog 102 #[.pointer (some ⟨g, 0, none⟩), .int .i64 n] w (DPost (.tuple #[]) g (keptVD d n) fp w) := by
  obtain ⟨S, M, qv, rfl, h⟩ := h
  refine (kept_any h n hn).mono ?_
  rintro e w' ⟨rfl, ⟨M', hM, hD⟩, hO⟩
  exact ⟨rfl, _, ⟨S, M', _, rfl, hD⟩, frame_of hO (.inr hM) (.inr rfl)⟩
set_option maxHeartbeats 400000 in
theorem sync_any (h : DF w g d fp) : Calls Tryz.prog 75 #[.pointer (some ⟨g, 0, none⟩)] w (DPost (.int .i64 (Vd.sync d).1) g (Vd.sync d).2 fp w) := by
  have ho := on_df h
  have hbu := burns_any h
  have HD := Lib.hid h
  clear h
  by_cases hon : d.on = true
  · rw [hon] at ho
    by_cases hb : (Vd.burns d).1 = true
    · have e : Vd.sync d = (80, (Vd.burns d).2) := by unfold Vd.sync; rw [if_pos hon, if_pos hb]
      rw [e]
      rw [hb] at hbu
      clear e hb hon
      go_enter Tryz.func75, Tryz.ntmps75
      go_wp2_with fail
      refine ho.mono ?_
      rintro e w1 ⟨rfl, rfl⟩
      go_wp2_with fail
      refine hbu.mono ?_
      rintro e w1 ⟨rfl, hF⟩
      go_wp2_with fail
      go_ret
      exact ⟨rfl, hF⟩
    · have hb' : (Vd.burns d).1 = false := by simpa using hb
      have e : Vd.sync d = (0, { (Vd.burns d).2 with secs := Vd.lay (Vd.burns d).2.secs (Vd.burns d).2.q, q := [] }) := by unfold Vd.sync; rw [if_pos hon, if_neg hb]
      rw [e]
      rw [hb'] at hbu
      clear e hb hb' hon
      go_enter Tryz.func75, Tryz.ntmps75
      go_wp2_with fail
      refine ho.mono ?_
      rintro e w1 ⟨rfl, rfl⟩
      go_wp2_with fail
      refine hbu.mono ?_
      rintro e w1 ⟨rfl, fp1, hF1, hFr1⟩
      have hk := kept_df hF1 (Vd.burns d).2.q.length (Nat.le_refl _)
      have e : keptVD (Vd.burns d).2 (Vd.burns d).2.q.length = { (Vd.burns d).2 with secs := Vd.lay (Vd.burns d).2.secs (Vd.burns d).2.q, q := [] } := by unfold keptVD; rw [List.take_length]
      rw [e] at hk
      obtain ⟨S1, M1, qv1, rfl, hD1⟩ := hF1
      obtain ⟨p, cap, rfl⟩ := hD1.qform
      have c1 := hD1.cells.c1
      have HFr := Lib.hid hFr1
      clear hD1 hFr1 e
      go_wp2_with fail
      refine hk.mono ?_
      rintro e w2 ⟨rfl, fp2, hF2, hFr2⟩
      go_wp2_with fail
      go_ret
      exact ⟨rfl, fp2, hF2, HFr.out.trans hFr2⟩
  · have hon' : d.on = false := by simpa using hon
    have e : Vd.sync d = (80, d) := by unfold Vd.sync; rw [if_neg hon]
    rw [hon'] at ho
    rw [e]
    clear e hon hon' hbu
    go_enter Tryz.func75, Tryz.ntmps75
    go_wp2_with fail
    refine ho.mono ?_
    rintro e w1 ⟨rfl, rfl⟩
    go_wp2_with fail
    go_ret
    exact ⟨rfl, _, HD.out, Fr.refl _ _⟩
end
end Go.Proofs.YtoleojljpaglhaaGreat
