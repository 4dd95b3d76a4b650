/- The contract of the reference's Read. -/
import Derived.Test.YtmkcmahfededeaaReE
namespace Go.Proofs.Ytmkcmahfededeaa
open Go.RowKit Go.Maps
section
variable {w w' : World} {r : Nat} {bv qv : Value} {kp tn : Int} {d : Vd.VD} {fp : List Nat}
set_option maxHeartbeats 1000000 in
theorem refRead_no (h : RF w r d fp) (a : Int) (h0 : Vd.asked d a ≠ 0) : Calls Try.prog 36 #[.pointer (some ⟨r, 0, none⟩), .int .i64 a] w fun e w' => e = .returned (rdV (Vd.asked d a, [])) ∧ w = w' := by
  have hs := refSectors h
  obtain ⟨bv, qv, kp, tn, rfl, h⟩ := h
  have c2 := h.c2
  clear h
  by_cases ho : d.on = true
  · rw [ho] at c2
    have h1 : a < 0 ∨ (d.secs.length : Int) ≤ a := by
      unfold Vd.asked at h0
      rw [if_pos ho] at h0
      by_cases h1 : a < 0 ∨ (d.secs.length : Int) ≤ a
      · exact h1
      · rw [if_neg h1] at h0; exact absurd rfl h0
    have e : Vd.asked d a = 81 := by unfold Vd.asked; rw [if_pos ho, if_pos h1]
    rw [e]
    clear e h0 ho
    by_cases h2 : a < 0
    · clear h1
      go_enter Try.func36, Try.ntmps36
      go_wp2_with fail
      go_ret2
      exact ⟨rfl, rfl⟩
    · have h3 : (d.secs.length : Int) ≤ a := by omega
      have h3' : decide ((d.secs.length : Int) ≤ a) = true := decide_eq_true h3
      clear h1
      go_enter Try.func36, Try.ntmps36
      go_wp2_with fail
      with_reducible refine hs.mono ?_
      rintro e w1 ⟨rfl, rfl⟩
      go_wp2_with fail
      go_ret2
      exact ⟨rfl, rfl⟩
  · have e : Vd.asked d a = 80 := by unfold Vd.asked; rw [if_neg ho]
    have ho' : d.on = false := by simpa using ho
    rw [ho'] at c2
    rw [e]
    clear e h0 ho ho'
    go_enter Try.func36, Try.ntmps36
    go_wp2_with fail
    go_ret2
    exact ⟨rfl, rfl⟩
/-- what a read has found in the first k writes -/
def rdL (d : Vd.VD) (a k : Nat) : ByteArray := ⟨((Vd.lay d.secs (d.q.take k)).getD a []).toArray⟩
theorem rdL_hit (d : Vd.VD) (a k : Nat) (h : k < d.q.length) (ha : a < d.secs.length) (e : d.q[k].1 = a) : rdL d a (k + 1) = ⟨d.q[k].2.toArray⟩ := by
  unfold rdL
  rw [lay_take _ _ _ h, e, List.getD_eq_getElem?_getD, List.getElem?_set_self (by rw [Vd.lay_length]; exact ha)]
  rfl
theorem rdL_miss (d : Vd.VD) (a k : Nat) (h : k < d.q.length) (e : d.q[k].1 ≠ a) : rdL d a (k + 1) = rdL d a k := by
  unfold rdL
  rw [lay_take _ _ _ h, List.getD_eq_getElem?_getD, List.getElem?_set_ne e, ← List.getD_eq_getElem?_getD]
set_option maxHeartbeats 1000000 in
theorem refRead_ok (h : RF w r d fp) (a : Nat) (h0 : Vd.asked d a = 0) : Calls Try.prog 36 #[.pointer (some ⟨r, 0, none⟩), .int .i64 a] w fun e w' => e = .returned (rdV (0, Vd.look d a)) ∧ w = w' := by
  have hs := refSectors h
  obtain ⟨bv, qv, kp, tn, rfl, h⟩ := h
  have c2 := h.c2
  obtain ⟨ho, h1, h2⟩ := asked_zero h0
  rw [ho] at c2
  have g1 : ¬ (a : Int) < 0 := by omega
  have g2 : decide ((d.secs.length : Int) ≤ (a : Int)) = false := decide_eq_false (by omega)
  have g2' : decide (d.secs.length ≤ a) = false := decide_eq_false (by omega)
  have hal : a < d.secs.length := by omega
  have hs1 := h.secs1
  have hmax := h.qmax
  unfold maxLen at hmax
  have hb := h.bytes
  have c0 := h.self.cell 0
  have c0' : w.cell? ⟨r, 0, none⟩ = some bv := c0
  have c1 : w.cell? ⟨r, 1, none⟩ = some qv := h.self.cell 1
  obtain ⟨gb, cb, rfl, hcb, _⟩ := h.bform
  obtain ⟨p, cap, rfl, hcap⟩ := h.qform
  have h64 : (d.secs.getD a []).length = 64 := by
    rw [List.getD_eq_getElem?_getD, List.getElem?_eq_getElem hal]
    exact h.ok.secs _ (List.getElem_mem hal)
  have hcv : (convert 54 9 (.slice (some ⟨gb, a * 64, none⟩) 64 (cb - a * 64))).run Try.prog w = .ok (.string (rdL d a 0)) w := by
    have := run_convert_bytes_back (P := Try.prog) w 54 9 5 ⟨gb, a * 64, none⟩ (cb - a * 64) (d.secs.getD a []) Try.underlying54 Try.underlying5 Try.underlying9 (fun j hj => by
      rw [Addr.add_mid, hb.cellAt (a * 64 + j) (by omega)]
      unfold bl
      rw [List.getElem?_map, flat_at _ _ _ h.ok.secs hal (by omega), List.getElem?_eq_getElem hj]
      rfl)
    rw [h64] at this
    have e : rdL d a 0 = ⟨(d.secs.getD a []).toArray⟩ := by unfold rdL; rw [List.take_zero]; rfl
    rw [e]
    exact this
  have b0 : (0 : Int) ≤ (a : Int) * 64 := by omega
  have b1 : (a : Int) * 64 ≤ (a : Int) * 64 + 64 := by omega
  have b2 : (a : Int) * 64 + 64 ≤ (cb : Int) := by omega
  have b3 : ¬ cb = a * 64 := by omega
  have HD := Lib.hid h
  have HLook : Hid (rdL d a d.q.length = ⟨(Vd.look d a).toArray⟩) := Lib.hid (by unfold rdL Vd.look; rw [List.take_length])
  clear h h0 ho c0 hb h64
  go_enter Try.func36, Try.ntmps36
  go_wp2_with fail
  with_reducible refine hs.mono ?_
  rintro e w1 ⟨rfl, rfl⟩
  go_wp2_with fail
  clear hcv b0 b1 b2 b3
  go_loop [6, 7] (fun s i => ∃ k : Nat, k ≤ d.q.length ∧ i = .int .i64 k ∧ s = .string (rdL d a k)) (fun _ i => d.q.length - (intOf i).toNat)
  case atStart => exact ⟨0, Nat.zero_le _, rfl, rfl⟩
  case round =>
    obtain ⟨k, hk, rfl, rfl⟩ := hrel
    by_cases hlt : k < d.q.length
    · obtain ⟨qb, cap', hv, hrg⟩ := HD.out.at_ k hlt
      obtain ⟨rfl, rfl⟩ : p = some ⟨qb, 0, none⟩ ∧ cap = cap' := by injection hv with e1 _ e2; exact ⟨e1, e2⟩
      clear hv
      have m0 : w.cell? ⟨qb, k * 2, none⟩ = some (.int .i64 (d.q[k].1 : Int)) := hrg 0 _ rfl
      have m1 : w.cell? ⟨qb, k * 2 + 1, none⟩ = some (.string ⟨d.q[k].2.toArray⟩) := hrg 1 _ rfl
      have i0 : (0 : Int) ≤ (k : Int) := by omega
      have i1 : (k : Int) < (d.q.length : Int) := by omega
      have st1 := rdL_hit d a k hlt hal
      have st2 := rdL_miss d a k hlt
      obtain ⟨x, hx⟩ : ∃ x, d.q[k] = x := ⟨_, rfl⟩
      rw [hx] at m0 m1 st1 st2
      obtain ⟨xa, xd⟩ := x
      simp only at m0 m1 st1 st2
      have HS1 := Lib.hid st1
      have HS2 := Lib.hid st2
      clear hx st1 st2 hrg
      by_cases q : xa = a
      · have q1 : (xa == a) = true := by rw [q]; simp
        have q2 : ((xa : Int) == (a : Int)) = true := by rw [q]; simp
        have Q := Lib.hid q
        clear q
        go_wp2_with fail
        go_round
        case rel => exact ⟨k + 1, by omega, by go_num, by rw [HS1.out Q.out]⟩
        case measure => simp [intOf]; omega
      · have q1 : (xa == a) = false := by simpa using q
        have q2 : ((xa : Int) == (a : Int)) = false := by simpa using (by omega : ¬ (xa : Int) = (a : Int))
        go_wp2_with fail
        go_round
        case rel => exact ⟨k + 1, by omega, by go_num, by rw [HS2.out q]⟩
        case measure => simp [intOf]; omega
    · obtain rfl : k = d.q.length := by omega
      go_wp2_with fail
      go_ret2
      exact ⟨by rw [HLook.out]; rfl, rfl⟩
theorem refRead (h : RF w r d fp) (a : Int) : Calls Try.prog 36 #[.pointer (some ⟨r, 0, none⟩), .int .i64 a] w fun e w' => e = .returned (rdV (Vd.read d a)) ∧ w = w' := by
  by_cases h0 : Vd.asked d a = 0
  · have hz := asked_zero h0
    obtain ⟨k, rfl⟩ : ∃ k : Nat, a = k := ⟨a.toNat, by omega⟩
    have e : Vd.read d k = (0, Vd.look d k) := by unfold Vd.read; rw [if_neg (by simpa using h0), Int.toNat_natCast]
    rw [e]; exact refRead_ok h k h0
  · have e : Vd.read d a = (Vd.asked d a, []) := by unfold Vd.read; rw [if_pos h0]
    rw [e]; exact refRead_no h a h0
end
end Go.Proofs.Ytmkcmahfededeaa
