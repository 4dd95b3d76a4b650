/- The contract of chanceryref17.Check, and the law SecretHides. No conditions. -/
import Derived.Test.YteajgkjiappkiaaSecJ
namespace Go.Proofs.Yteajgkjiappkiaa
open Go.RowKit
theorem be_get (a : List UInt8) (h : a.length = 4) : Oct.beB 4 (Oct.getFrom 0 a) = a := by
  match a, h with
  | [c0, c1, c2, c3], _ =>
    have h0 := c0.toNat_lt
    have h1 := c1.toNat_lt
    have h2 := c2.toNat_lt
    have h3 := c3.toNat_lt
    have hv : Oct.getFrom 0 [c0, c1, c2, c3] = (((c0.toNat : Int) * 256 + c1.toNat) * 256 + c2.toNat) * 256 + c3.toNat := by
      simp [Oct.getFrom, Oct.stepZ]
    have b : ∀ v : Int, Oct.beB 4 v = [UInt8.ofNat (v / 16777216 % 256).toNat, UInt8.ofNat (v / 65536 % 256).toNat, UInt8.ofNat (v / 256 % 256).toNat, UInt8.ofNat (v % 256).toNat] := fun v => by simp [Oct.beB]
    rw [hv, b]
    have e : ∀ (x : Int) (c : UInt8), x = (c.toNat : Int) → UInt8.ofNat x.toNat = c := fun x c hx => by subst hx; simp
    rw [e _ c0 (by omega), e _ c1 (by omega), e _ c2 (by omega), e _ c3 (by omega)]
theorem get4_bd (a : List UInt8) (h : a.length = 4) : 0 ≤ Oct.getFrom 0 a ∧ Oct.getFrom 0 a < 4294967296 := by
  have := Oct.getFrom_bd a 0 0 1 (by omega) (by omega)
  rw [h] at this
  omega
theorem chunks (r : List UInt8) (h : r.length = 16) : r = Oct.beB 4 (piece r 0) ++ (Oct.beB 4 (piece r 1) ++ (Oct.beB 4 (piece r 2) ++ Oct.beB 4 (piece r 3))) := by
  have e : ∀ k, k < 4 → Oct.beB 4 (piece r k) = (r.drop (4 * k)).take 4 := fun k hk => be_get _ (by simp; omega)
  rw [e 0 (by omega), e 1 (by omega), e 2 (by omega), e 3 (by omega)]
  have d1 : r.drop (4 * 1) = (r.drop (4 * 1)).take 4 ++ r.drop (4 * 2) := by rw [show r.drop (4 * 2) = (r.drop (4 * 1)).drop 4 from by rw [List.drop_drop], List.take_append_drop]
  have d2 : r.drop (4 * 2) = (r.drop (4 * 2)).take 4 ++ r.drop (4 * 3) := by rw [show r.drop (4 * 3) = (r.drop (4 * 2)).drop 4 from by rw [List.drop_drop], List.take_append_drop]
  have d3 : r.drop (4 * 3) = (r.drop (4 * 3)).take 4 := (List.take_of_length_le (by simp; omega)).symm
  rw [← d3, ← d2, ← d1]
  exact (List.take_append_drop 4 r).symm
theorem sums_iff (a p r : List UInt8) (h : r.length = 16) : sums16 a p = r ↔ ((ssum 0 a p : Nat) : Int) = piece r 0 ∧ ((ssum 1 a p : Nat) : Int) = piece r 1 ∧ ((ssum 2 a p : Nat) : Int) = piece r 2 ∧ ((ssum 3 a p : Nat) : Int) = piece r 3 := by
  constructor
  · rintro rfl
    obtain ⟨q0, q1, q2, q3⟩ := piece_sums a p
    exact ⟨q0.symm, q1.symm, q2.symm, q3.symm⟩
  · rintro ⟨q0, q1, q2, q3⟩
    rw [chunks r h, ← q0, ← q1, ← q2, ← q3]
    rfl
theorem whole_list (s : ByteArray) (h : headOk s) : s.data.toList = [123, 83, 125] ++ (sA s ++ (46 :: sR s)) := by
  obtain ⟨h0, h1, h2⟩ := h
  have hl : s.data.toList.length = 44 := by rw [← h0]; exact Array.length_toList
  have t3 : s.data.toList.take 3 = [123, 83, 125] := by
    rw [ByteArray.toList_eq, Lib.extract_data, List.drop_zero] at h1
    exact h1
  have eA : sA s = (s.data.toList.drop 3).take 8 := by unfold sA; rw [Lib.extract_data]
  have eR : sR s = s.data.toList.drop 12 := by unfold sR; rw [Lib.extract_to_end]
  have e11 : s.data.toList.drop 11 = 46 :: s.data.toList.drop 12 := by
    rw [List.drop_eq_getElem_cons (by omega)]
    have : s.data.toList[11] = 46 := by
      rw [List.getD_eq_getElem?_getD, List.getElem?_eq_getElem (by omega)] at h2
      apply UInt8.toNat_inj.1
      exact h2
    rw [this]
  rw [eA, eR, ← e11, ← t3]
  have : s.data.toList.drop 11 = (s.data.toList.drop 3).drop 8 := by rw [List.drop_drop]
  rw [this, List.take_append_drop, List.take_append_drop]
theorem hid_parts (s : ByteArray) (h : hid s) : sA s = Oct.hexL (saltOf s).data.toList ∧ sR s = Oct.hexL (restOf s).data.toList := by
  have hA := sA_len h.1
  have hl : (Oct.hexL (Oct.unB (sA s) 4)).length = (sA s).length := by rw [Oct.hexL_length, Oct.unB_length, hA]
  obtain ⟨e1, e2⟩ := List.append_inj h.2.2.2 hl
  exact ⟨e1.symm, e2.symm⟩
theorem check_eq (s p : ByteArray) (h : hid s) : ((hideB (saltOf s).data.toList p.data.toList 4).toList == s.toList) = same4 s p := by
  obtain ⟨hA, hR⟩ := hid_parts s h
  have hrl : (restOf s).data.toList.length = 16 := Oct.unB_length _ _
  rw [Bool.eq_iff_iff, beq_iff_eq, ByteArray.toList_eq, ByteArray.toList_eq, hide_list, whole_list s h.1, hA, hR]
  have e1 : ([123, 83, 125] ++ (Oct.hexL (saltOf s).data.toList ++ 46 :: Oct.hexL (sums16 (saltOf s).data.toList p.data.toList)) = [123, 83, 125] ++ (Oct.hexL (saltOf s).data.toList ++ 46 :: Oct.hexL (restOf s).data.toList)) ↔ sums16 (saltOf s).data.toList p.data.toList = (restOf s).data.toList := by
    constructor
    · intro hh
      have h1 := List.append_cancel_left hh
      have h2 := List.append_cancel_left h1
      exact hexL_inj _ _ (List.cons.inj h2).2
    · intro hh
      rw [hh]
  rw [e1, sums_iff _ _ _ hrl]
  unfold same4
  simp only [Bool.and_eq_true, beq_iff_eq]
theorem refUnhexX (s : ByteArray) (r : Value) (w : World) (hs : s.size ≤ 281474976702464) (h : Hid (unhexV s = r)) : Calls Try.prog 20 #[.string s] w fun e w' => e = .returned r ∧ Below w.heap.size w w' := h.out ▸ refUnhex_any s w hs
theorem refGetX (s : ByteArray) (r : Value) (w : World) (h : Hid (getV s = r)) : Calls Try.prog 21 #[.string s] w fun e w' => e = .returned r ∧ w = w' := h.out ▸ refGet_any s w
theorem refHideX (v : Int) (p : ByteArray) (r : Value) (w : World) (hm : v ≤ 9223372036854775807) (h : Hid (hideV v p.data.toList = r)) : Calls Try.prog 7 #[.int .i64 v, .string p] w fun e w' => e = .returned r ∧ Below w.heap.size w w' := h.out ▸ refHide_any v p w hm
theorem refHiddenX (s : ByteArray) (b : Bool) (w : World) (h : Hid (decide (hid s) = b)) : Calls Try.prog 9 #[.string s] w fun e w' => e = .returned (.bool b) ∧ w = w' := h.out ▸ refHidden_any s w
set_option maxHeartbeats 1000000 in
theorem refCheck_any (s p : ByteArray) (w : World) : Calls Try.prog 11 #[.string s, .string p] w fun e w' => e = .returned (.bool (checkB s p)) ∧ Below w.heap.size w w' := by
  by_cases h : hid s
  · have hal : (saltOf s).data.toList.length = 4 := Oct.unB_length _ _
    have hu : unhexV (s.extract 3 11) = .tuple #[.string (saltOf s), .int .i64 0] := by
      have u1 := unhexV_yes (s := s.extract 3 11) (by rw [sA_size h.1]) h.2.1
      rw [sA_size h.1] at u1
      exact u1
    have hz : (s.extract 3 11).size ≤ 281474976702464 := by rw [sA_size h.1]; omega
    obtain ⟨x0, x1⟩ := get4_bd _ hal
    have hg : getV (saltOf s) = .tuple #[.int .i64 (Oct.getFrom 0 (saltOf s).data.toList), .int .i64 0] := by
      unfold getV
      rw [if_pos (by rw [show (saltOf s).size = 4 from size_of (Oct.unB_length _ _)]; omega)]
    have hce := check_eq s p h
    have hc : checkB s p = (decide (p.size ≤ 1024) && same4 s p) := if_pos h
    have hbe := be_get _ hal
    have D1 := Lib.hid (decide_eq_true h)
    have h0 := h.1.1
    have g3 : (11 : Int) ≤ s.size := by omega
    have g5 : 11 ≤ s.size := by omega
    have HU := Lib.hid hu
    have HZ := Lib.hid hz
    by_cases hp : p.size ≤ 1024
    · have hh := hide_ok _ p x0 x1 hp
      rw [hbe] at hh
      obtain ⟨S, hS⟩ : ∃ S, hideB (saltOf s).data.toList p.data.toList 4 = S := ⟨_, rfl⟩
      rw [hS] at hh hce
      have HC : Hid (checkB s p = (S.toList == s.toList)) := Lib.hid (by rw [hc, decide_eq_true hp, hce]; rfl)
      generalize Oct.getFrom 0 (saltOf s).data.toList = x at hh hg x0 x1
      have HH := Lib.hid hh
      have HGT := Lib.hid hg
      clear hh hg hu hz hce hc hbe h hS h0 hal
      go_enter Try.func11, Try.ntmps11
      go_wp2_with fail
      refine (refHiddenX s true _ D1).mono ?_
      rintro e w' ⟨rfl, rfl⟩
      go_wp2_with fail
      refine (refUnhexX _ _ _ HZ.out HU).mono ?_
      rintro e w1 ⟨rfl, c1⟩
      go_wp2_with fail
      refine (refGetX _ _ _ HGT).mono ?_
      rintro e w' ⟨rfl, rfl⟩
      go_wp2_with fail
      refine (refHideX x p _ _ (by omega) HH).mono ?_
      rintro e w2 ⟨rfl, k2⟩
      have c2 := c1.trans (k2.mono c1.size)
      clear c1 k2
      go_wp2_with fail
      go_ret
      exact ⟨by rw [HC.out]; rfl, c2⟩
    · have hh := hide_long _ p x0 x1 hp
      have HC : Hid (checkB s p = false) := Lib.hid (by rw [hc, decide_eq_false hp]; rfl)
      generalize Oct.getFrom 0 (saltOf s).data.toList = x at hh hg x0 x1
      have HH := Lib.hid hh
      have HGT := Lib.hid hg
      clear hh hg hu hz hce hc hbe h h0 hal
      go_enter Try.func11, Try.ntmps11
      go_wp2_with fail
      refine (refHiddenX s true _ D1).mono ?_
      rintro e w' ⟨rfl, rfl⟩
      go_wp2_with fail
      refine (refUnhexX _ _ _ HZ.out HU).mono ?_
      rintro e w1 ⟨rfl, c1⟩
      go_wp2_with fail
      refine (refGetX _ _ _ HGT).mono ?_
      rintro e w' ⟨rfl, rfl⟩
      go_wp2_with fail
      refine (refHideX x p _ _ (by omega) HH).mono ?_
      rintro e w2 ⟨rfl, k2⟩
      have c2 := c1.trans (k2.mono c1.size)
      clear c1 k2
      go_wp2_with fail
      go_ret
      exact ⟨by rw [HC.out]; rfl, c2⟩
  · have D1 := Lib.hid (decide_eq_false h)
    have HC : Hid (checkB s p = (s.toList == p.toList)) := Lib.hid (if_neg h)
    clear h
    go_enter Try.func11, Try.ntmps11
    go_wp2_with fail
    refine (refHiddenX s false _ D1).mono ?_
    rintro e w' ⟨rfl, rfl⟩
    go_wp2_with fail
    go_ret
    exact ⟨by rw [HC.out]; rfl, Below.refl _ _⟩
theorem refCheckX (s p : ByteArray) (b : Bool) (w : World) (h : Hid (checkB s p = b)) : Calls Try.prog 11 #[.string s, .string p] w fun e w' => e = .returned (.bool b) ∧ Below w.heap.size w w' := h.out ▸ refCheck_any s p w
set_option maxHeartbeats 1000000 in
theorem secretHides_any (salt : Int) (p s : ByteArray) (w : World) (hm : salt ≤ 9223372036854775807) :
    Calls Try.prog 3 #[.int .i64 salt, .string p, .string s] w fun e w' => e = .returned (.bool true) ∧ Below w.heap.size w w' := by
  by_cases h : (3000 : Int) < p.size ∨ (3000 : Int) < s.size
  · rcases h with h | h
    · go_enter Try.func3, Try.ntmps3
      go_wp2_with fail
      refine (alive17 _).mono ?_
      rintro e w1 ⟨rfl, c1⟩
      go_wp2_with fail
      go_ret
      exact ⟨rfl, c1⟩
    · go_enter Try.func3, Try.ntmps3
      go_wp2_with (go_at_call 5; refine (alive17 _).mono ?_; rintro e w1 ⟨rfl, c1⟩)
      all_goals first | (go_ret; exact ⟨rfl, c1⟩) | omega
  · have h1 : (p.size : Int) ≤ 3000 := by omega
    have h2 : (s.size : Int) ≤ 3000 := by omega
    obtain ⟨S, e, hS⟩ := hideV_form salt p.data.toList
    obtain ⟨b1, hb1⟩ : ∃ b1, decide (hid s) = b1 := ⟨_, rfl⟩
    obtain ⟨b2, hb2⟩ : ∃ b2, checkB s p = b2 := ⟨_, rfl⟩
    have HS := Lib.hid hS
    have B1 := Lib.hid hb1
    have B2 := Lib.hid hb2
    clear h hS hb1 hb2
    cases b1 <;> cases b2
    all_goals
      go_enter Try.func3, Try.ntmps3
      go_wp2_with fail
      refine (hideX _ _ _ _ HS).mono ?_
      rintro e w1 ⟨rfl, c1⟩
      go_wp2_with fail
      refine (refHideX _ _ _ _ hm HS).mono ?_
      rintro e w2 ⟨rfl, k2⟩
      have c2 := c1.trans (k2.mono c1.size)
      clear c1 k2
      go_wp2_with fail
      refine (alive17 _).mono ?_
      rintro e w3 ⟨rfl, k3⟩
      have c3 := c2.trans (k3.mono c2.size)
      clear c2 k3
      go_wp2_with fail
      refine (hiddenX _ _ _ B1).mono ?_
      rintro e w4 ⟨rfl, k4⟩
      have c4 := c3.trans (k4.mono c3.size)
      clear c3 k4
      go_wp2_with fail
      refine (refHiddenX _ _ _ B1).mono ?_
      rintro e w' ⟨rfl, rfl⟩
      go_wp2_with fail
      refine (checkX _ _ _ _ B2).mono ?_
      rintro e w5 ⟨rfl, k5⟩
      have c5 := c4.trans (k5.mono c4.size)
      clear c4 k5
      go_wp2_with fail
      refine (refCheckX _ _ _ _ B2).mono ?_
      rintro e w6 ⟨rfl, k6⟩
      have c6 := c5.trans (k6.mono c5.size)
      clear c5 k6
      go_wp2_with fail
      go_ret
      exact ⟨rfl, c6⟩
end Go.Proofs.Yteajgkjiappkiaa
