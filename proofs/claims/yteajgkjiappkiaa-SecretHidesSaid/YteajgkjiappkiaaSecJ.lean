/- The contracts of chanceryref17.small and Hidden. The condition of small: the text is within the form's own reach. -/
import Derived.Test.YteajgkjiappkiaaSecI
namespace Go.Proofs.Yteajgkjiappkiaa
open Go.RowKit
/-- all digits are small -/
def lowB (l : List UInt8) : Bool := decide (∀ c ∈ l, low c)
theorem refDigitX (n d : Int) (w : World) (h0 : 0 ≤ n) (h1 : n ≤ 255) (hd : Hid (Oct.digZ n = d)) :
    Calls Try.prog 25 #[.int .u8 n] w fun e w' => e = .returned (.int .i64 d) ∧ w = w' := hd.out ▸ refDigit_any n w h0 h1
theorem low_iff (c : UInt8) (d : Int) (h : Oct.digZ (c.toNat : Int) = d) : low c ↔ (¬ d < 0 ∧ ¬ ((65 : Int) ≤ c.toNat ∧ (c.toNat : Int) ≤ 70)) := by
  have hc := c.toNat_lt
  unfold Oct.digZ at h
  unfold low
  (repeat' split at h) <;> omega
theorem lowB_bad (s : ByteArray) (k : Nat) (h : k < s.size) (hb : ¬ low s[k]) : lowB s.data.toList = false := by
  unfold lowB
  rw [decide_eq_false]
  intro hh
  have hk : k < s.data.toList.length := by simpa using h
  exact hb (hh _ (List.getElem_mem hk))
theorem lowB_all (s : ByteArray) (k : Nat) (h : ¬ k < s.size) (hg : ∀ c ∈ s.data.toList.take k, low c) : lowB s.data.toList = true := by
  unfold lowB
  rw [decide_eq_true]
  rwa [Oct.take_all s k h] at hg
theorem low_step (s : ByteArray) (k : Nat) (h : k < s.size) (hg : ∀ c ∈ s.data.toList.take k, low c) (hb : low s[k]) : ∀ c ∈ s.data.toList.take (k + 1), low c := by
  rw [Oct.take_snoc s k h]
  intro c hc
  rw [List.mem_append, List.mem_singleton] at hc
  rcases hc with hc | rfl
  · exact hg c hc
  · exact hb
set_option maxHeartbeats 1000000 in
theorem small_any (s : ByteArray) (w : World) (hs : s.size ≤ 140737488351232) :
    Calls Try.prog 19 #[.string s] w fun e w' => e = .returned (.bool (lowB s.data.toList)) ∧ w = w' := by
  go_enter Try.func19, Try.ntmps19
  go_wp2_with fail
  go_loop [3] (fun i => ∃ k : Nat, k ≤ s.size ∧ i = .int .i64 k ∧ Hid (∀ c ∈ s.data.toList.take k, low c)) (fun i => s.size - (intOf i).toNat)
  case atStart => exact ⟨0, Nat.zero_le _, rfl, Lib.hid (by simp)⟩
  case round =>
    obtain ⟨k, hk, rfl, HG⟩ := hrel
    by_cases hlt : k < s.size
    · obtain ⟨d, hd⟩ : ∃ d, Oct.digZ (s[k].toNat : Int) = d := ⟨_, rfl⟩
      have hc : s[k].toNat < 256 := s[k].toNat_lt
      have hl := low_iff s[k] d hd
      have HD := Lib.hid hd
      have HL := Lib.hid hl
      clear hd hl
      by_cases d0 : d < 0
      · have HB := Lib.hid (lowB_bad s k hlt (fun h => (HL.out.1 h).1 d0))
        go_wp2_with fail
        refine (refDigitX _ d _ (by omega) (by omega) HD).mono ?_
        rintro e w' ⟨rfl, rfl⟩
        go_wp2_with fail
        go_ret
        exact ⟨by rw [HB.out]; rfl, rfl⟩
      by_cases d1 : (65 : Int) ≤ s[k].toNat ∧ (s[k].toNat : Int) ≤ 70
      · have HB := Lib.hid (lowB_bad s k hlt (fun h => (HL.out.1 h).2 d1))
        obtain ⟨d2, d3⟩ := d1
        go_wp2_with fail
        refine (refDigitX _ d _ (by omega) (by omega) HD).mono ?_
        rintro e w' ⟨rfl, rfl⟩
        go_wp2_with fail
        go_ret
        exact ⟨by rw [HB.out]; rfl, rfl⟩
      · have HG2 := Lib.hid (low_step s k hlt HG.out (HL.out.2 ⟨d0, d1⟩))
        have d4 : (s[k].toNat : Int) < 65 ∨ (70 : Int) < s[k].toNat := by omega
        clear d1
        rcases d4 with d4 | d4
        all_goals
          go_wp2_with fail
          refine (refDigitX _ d _ (by omega) (by omega) HD).mono ?_
          rintro e w' ⟨rfl, rfl⟩
          go_wp2_with fail
          go_round
          case rel => exact ⟨k + 1, by omega, by go_num, HG2⟩
          case measure => simp [intOf]; omega
    · have HB := Lib.hid (lowB_all s k hlt HG.out)
      go_wp2_with fail
      go_ret
      exact ⟨by rw [HB.out]; rfl, rfl⟩
theorem smallX (s : ByteArray) (b : Bool) (w : World) (hs : s.size ≤ 140737488351232) (h : Hid (lowB s.data.toList = b)) :
    Calls Try.prog 19 #[.string s] w fun e w' => e = .returned (.bool b) ∧ w = w' := h.out ▸ small_any s w hs
set_option maxHeartbeats 1000000 in
theorem refHidden_any (s : ByteArray) (w : World) : Calls Try.prog 9 #[.string s] w fun e w' => e = .returned (.bool (decide (hid s))) ∧ w = w' := by
  by_cases hh : headOk s
  · have hd : decide (hid s) = (lowB (sA s) && lowB (sR s)) := by
      unfold lowB
      rw [Bool.eq_iff_iff, Bool.and_eq_true, decide_eq_true_iff, decide_eq_true_iff, decide_eq_true_iff, hid_low]
      exact ⟨fun h => h.2, fun h => ⟨hh, h⟩⟩
    have z1 : (s.extract 3 11).size ≤ 140737488351232 := by rw [sA_size hh]; omega
    have z2 : (s.extract 12 s.size).size ≤ 140737488351232 := by rw [sR_size hh]; omega
    have Z1 := Lib.hid z1
    have Z2 := Lib.hid z2
    obtain ⟨b1, hb1⟩ : ∃ b1, lowB (sA s) = b1 := ⟨_, rfl⟩
    obtain ⟨b2, hb2⟩ : ∃ b2, lowB (sR s) = b2 := ⟨_, rfl⟩
    rw [hb1, hb2] at hd
    have B1 : Hid (lowB (s.extract 3 11).data.toList = b1) := Lib.hid hb1
    have B2 : Hid (lowB (s.extract 12 s.size).data.toList = b2) := Lib.hid hb2
    have HD := Lib.hid hd
    obtain ⟨h0, h2, h3⟩ := hh
    have h11 : 11 < s.size := by omega
    have h1' : ((s.size : Int) == 44) = true := by rw [beq_iff_eq]; omega
    have h3' : ((s[11].toNat : Int) == 46) = true := by rw [beq_iff_eq, ← getD_at s 11 h11]; omega
    have g3 : (11 : Int) ≤ s.size := by omega
    have g4 : (12 : Int) ≤ s.size := by omega
    have g5 : 11 ≤ s.size := by omega
    have g6 : 12 ≤ s.size := by omega
    have g7 : 3 ≤ s.size := by omega
    have g8 : (3 : Int) ≤ s.size := by omega
    clear z1 z2 hb1 hb2 hd h0 h3
    cases b1
    · go_enter Try.func9, Try.ntmps9
      go_wp2_with fail
      refine (smallX _ false _ Z1.out B1).mono ?_
      rintro e w' ⟨rfl, rfl⟩
      go_wp2_with fail
      go_ret
      exact ⟨by rw [HD.out]; rfl, rfl⟩
    · go_enter Try.func9, Try.ntmps9
      go_wp2_with fail
      refine (smallX _ true _ Z1.out B1).mono ?_
      rintro e w' ⟨rfl, rfl⟩
      go_wp2_with fail
      refine (smallX _ b2 _ Z2.out B2).mono ?_
      rintro e w' ⟨rfl, rfl⟩
      go_wp2_with fail
      go_ret
      exact ⟨by rw [HD.out]; rfl, rfl⟩
  · have HD := Lib.hid (decide_eq_false (p := hid s) (fun h => hh h.1))
    have H := Lib.hid hh
    clear hh
    by_cases h1 : (s.size : Int) = 44
    · have h1' : ((s.size : Int) == 44) = true := by rw [beq_iff_eq]; exact h1
      have g7 : 3 ≤ s.size := by omega
      have g8 : (3 : Int) ≤ s.size := by omega
      by_cases h2 : (s.extract 0 3).toList = [123, 83, 125]
      · have h11 : 11 < s.size := by omega
        have g9 : (11 : Int) < s.size := by omega
        have h3 : ((s[11].toNat : Int) == 46) = false := by
          rw [beq_eq_false_iff_ne]
          intro hh
          exact H.out ⟨by omega, h2, by rw [getD_at s 11 h11]; omega⟩
        clear h1
        go_enter Try.func9, Try.ntmps9
        go_wp2_with fail
        go_ret
        exact ⟨by rw [HD.out]; rfl, rfl⟩
      · have h2' : ((s.extract 0 3).toList == [123, 83, 125]) = false := by simpa using h2
        clear h1
        go_enter Try.func9, Try.ntmps9
        go_wp2_with fail
        go_ret
        exact ⟨by rw [HD.out]; rfl, rfl⟩
    · have h1' : ((s.size : Int) == 44) = false := by rw [beq_eq_false_iff_ne]; exact h1
      go_enter Try.func9, Try.ntmps9
      go_wp2_with fail
      go_ret
      exact ⟨by rw [HD.out]; rfl, rfl⟩
end Go.Proofs.Yteajgkjiappkiaa
