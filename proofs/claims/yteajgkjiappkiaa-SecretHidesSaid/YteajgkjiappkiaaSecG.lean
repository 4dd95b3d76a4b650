/- The walks of chancerylaw17.alive and of the law SecretBack. No conditions. -/
import Derived.Test.YteajgkjiappkiaaSecF
namespace Go.Proofs.Yteajgkjiappkiaa
open Go.RowKit
theorem hideX (v : Int) (p : ByteArray) (r : Value) (w : World) (h : Hid (hideV v p.data.toList = r)) : Calls Try.prog 6 #[.int .i64 v, .string p] w fun e w' => e = .returned r ∧ Below w.heap.size w w' := h.out ▸ hide_any v p w
theorem checkX (s p : ByteArray) (b : Bool) (w : World) (h : Hid (checkB s p = b)) : Calls Try.prog 10 #[.string s, .string p] w fun e w' => e = .returned (.bool b) ∧ Below w.heap.size w w' := h.out ▸ check_any s p w
theorem hiddenX (s : ByteArray) (b : Bool) (w : World) (h : Hid (decide (hid s) = b)) : Calls Try.prog 8 #[.string s] w fun e w' => e = .returned (.bool b) ∧ Below w.heap.size w w' := h.out ▸ hidden_any s w
theorem hide_ok (v : Int) (p : ByteArray) (h0 : 0 ≤ v) (h1 : v < 4294967296) (hp : p.size ≤ 1024) : hideV v p.data.toList = .tuple #[.string (hideB (Oct.beB 4 v) p.data.toList 4), .int .i64 0] := by
  unfold hideV
  rw [if_pos ⟨h0, h1⟩, if_pos (by rw [show p.data.toList.length = p.size from Array.length_toList]; exact hp)]
theorem check_short (s p : ByteArray) (h : s.size ≠ 44) : checkB s p = (s.toList == p.toList) := if_neg (fun hh => h hh.1.1)
theorem be1 : Oct.beB 4 1 = [0, 0, 0, 1] := by decide +kernel
theorem first12 (a p : List UInt8) (ha : a.length = 4) : ((hideB a p 4).extract 0 12).toList = [123, 83, 125] ++ (Oct.hexL a ++ [46]) := by
  have hl := Oct.hexL_length a
  rw [ByteArray.toList_eq, Lib.extract_data, hide_list, List.drop_zero]
  rw [show (12 - 0) = 3 + ((Oct.hexL a).length + 1) from by omega]
  rw [List.take_append, List.take_of_length_le (by simp), show 3 + ((Oct.hexL a).length + 1) - ([123, 83, 125] : List UInt8).length = (Oct.hexL a).length + 1 from by simp]
  rw [List.take_append, List.take_of_length_le (by omega), show (Oct.hexL a).length + 1 - (Oct.hexL a).length = 1 from by omega]
  rfl
set_option maxHeartbeats 1000000 in
theorem alive17 (w : World) : Calls Try.prog 5 #[] w fun e w' => e = .returned (.bool true) ∧ Below w.heap.size w w' := by
  have hh := hide_ok 1 ⟨#[97]⟩ (by omega) (by omega) (by decide)
  have hz := hideB_size (Oct.beB 4 1) (⟨#[97]⟩ : ByteArray).data.toList (Oct.beB_length 4 1) 4
  have hf := first12 (Oct.beB 4 1) (⟨#[97]⟩ : ByteArray).data.toList (Oct.beB_length 4 1)
  have hc := hide_check (Oct.beB 4 1) ⟨#[97]⟩ (Oct.beB_length 4 1) (by decide)
  have hd := decide_eq_true (hide_hid (Oct.beB 4 1) (⟨#[97]⟩ : ByteArray).data.toList (Oct.beB_length 4 1)).1
  obtain ⟨S, hS⟩ : ∃ S, hideB (Oct.beB 4 1) (⟨#[97]⟩ : ByteArray).data.toList 4 = S := ⟨_, rfl⟩
  rw [hS] at hh hz hf hc
  rw [be1] at hf
  have hf' : (S.extract 0 12).toList = [123, 83, 125, 48, 48, 48, 48, 48, 48, 48, 49, 46] := hf
  have HD : Hid (decide (hid S) = true) := Lib.hid (by rw [← hS]; exact hd)
  have HH := Lib.hid hh
  have HC := Lib.hid hc
  have z1 : ((S.size : Int) == 44) = true := by rw [beq_iff_eq]; omega
  have z2 : (12 : Int) ≤ S.size := by omega
  have z3 : 12 ≤ S.size := by omega
  have HB1 : Hid (checkB ⟨#[98]⟩ ⟨#[98]⟩ = true) := Lib.hid (by rw [check_short _ _ (by decide)]; exact beq_self_eq_true _)
  have HB2 : Hid (checkB ⟨#[98]⟩ ⟨#[97]⟩ = false) := Lib.hid (by rw [check_short _ _ (by decide), ByteArray.toList_eq, ByteArray.toList_eq]; rfl)
  clear hh hz hf hc hd hS
  go_enter Try.func5, Try.ntmps5
  go_wp2_with fail
  refine (hideX 1 ⟨#[97]⟩ _ _ HH).mono ?_
  rintro e w1 ⟨rfl, c1⟩
  go_wp2_with fail
  refine (checkX S ⟨#[97]⟩ true _ HC).mono ?_
  rintro e w2 ⟨rfl, k2⟩
  have c2 := c1.trans (k2.mono c1.size)
  clear c1 k2
  go_wp2_with fail
  refine (hiddenX S true _ HD).mono ?_
  rintro e w3 ⟨rfl, k3⟩
  have c3 := c2.trans (k3.mono c2.size)
  clear c2 k3
  go_wp2_with fail
  refine (checkX ⟨#[98]⟩ ⟨#[98]⟩ true _ HB1).mono ?_
  rintro e w4 ⟨rfl, k4⟩
  have c4 := c3.trans (k4.mono c3.size)
  clear c3 k4
  go_wp2_with fail
  refine (checkX ⟨#[98]⟩ ⟨#[97]⟩ false _ HB2).mono ?_
  rintro e w5 ⟨rfl, k5⟩
  have c5 := c4.trans (k5.mono c4.size)
  clear c4 k5
  go_wp2_with fail
  go_ret
  exact ⟨rfl, c5⟩
theorem hide_long (v : Int) (p : ByteArray) (h0 : 0 ≤ v) (h1 : v < 4294967296) (hp : ¬ p.size ≤ 1024) : hideV v p.data.toList = .tuple #[.string ⟨#[]⟩, .int .i64 2] := by
  unfold hideV
  rw [if_pos ⟨h0, h1⟩, if_neg (by rw [show p.data.toList.length = p.size from Array.length_toList]; exact hp)]
theorem hide_arg (v : Int) (p : ByteArray) (h : ¬ (0 ≤ v ∧ v < 4294967296)) : hideV v p.data.toList = .tuple #[.string ⟨#[]⟩, .int .i64 1] := by
  unfold hideV
  rw [if_neg h]
theorem hideV_form (v : Int) (p : List UInt8) : ∃ S e, hideV v p = .tuple #[.string S, .int .i64 e] := by
  unfold hideV
  split
  · split <;> exact ⟨_, _, rfl⟩
  · exact ⟨_, _, rfl⟩
set_option maxHeartbeats 1000000 in
theorem secretBack_yes (a b : Int) (p : ByteArray) (w : World) (a0 : 0 ≤ a) (a1 : a < 4294967296) (b0 : 0 ≤ b) (b1 : b < 4294967296) (hp : p.size ≤ 1024) :
    Calls Try.prog 4 #[.int .i64 a, .int .i64 b, .string p] w fun e w' => e = .returned (.bool true) ∧ Below w.heap.size w w' := by
  have h1 := hide_ok a p a0 a1 hp
  have h2 := hide_ok b p b0 b1 hp
  have k1 := hide_check (Oct.beB 4 a) p (Oct.beB_length 4 a) hp
  have k2 := hide_check (Oct.beB 4 b) p (Oct.beB_length 4 b) hp
  have d1 := decide_eq_true (hide_hid (Oct.beB 4 a) p.data.toList (Oct.beB_length 4 a)).1
  have hin := hide_inj a b p.data.toList a0 a1 b0 b1
  have hco : a = b → hideB (Oct.beB 4 a) p.data.toList 4 = hideB (Oct.beB 4 b) p.data.toList 4 := fun h => by rw [h]
  obtain ⟨S, hS⟩ : ∃ S, hideB (Oct.beB 4 a) p.data.toList 4 = S := ⟨_, rfl⟩
  obtain ⟨T, hT⟩ : ∃ T, hideB (Oct.beB 4 b) p.data.toList 4 = T := ⟨_, rfl⟩
  have D1 : Hid (decide (hid S) = true) := Lib.hid (by rw [← hS]; exact d1)
  rw [hS] at h1 k1 hin hco
  rw [hT] at h2 k2 hin hco
  have H1 := Lib.hid h1
  have H2 := Lib.hid h2
  have K1 := Lib.hid k1
  have K2 := Lib.hid k2
  have hcase : (a = b ∧ S = T) ∨ (¬ a = b ∧ (a == b) = false ∧ ¬ S.toList = T.toList ∧ (S.toList == T.toList) = false) := by
    by_cases hab : a = b
    · exact .inl ⟨hab, hco hab⟩
    · have hst : ¬ S.toList = T.toList := fun hh => hab (hin (Go.WideShapes.bytes_inj (by rwa [ByteArray.toList_eq, ByteArray.toList_eq] at hh)))
      exact .inr ⟨hab, by simpa using hab, hst, by simpa using hst⟩
  clear h1 h2 k1 k2 d1 hin hco hS hT
  rcases hcase with ⟨rfl, rfl⟩ | ⟨q1, q2, q3, q4⟩
  all_goals
    go_enter Try.func4, Try.ntmps4
    go_wp2_with fail
    refine (hideX _ p _ _ H1).mono ?_
    rintro e w1 ⟨rfl, c1⟩
    go_wp2_with fail
    refine (hideX _ p _ _ H2).mono ?_
    rintro e w2 ⟨rfl, k2⟩
    have c2 := c1.trans (k2.mono c1.size)
    clear c1 k2
    go_wp2_with fail
    refine (alive17 _).mono ?_
    rintro e w3 ⟨rfl, k3⟩
    have c3 := c2.trans (k3.mono c2.size)
    clear c2 k3
    go_wp2_with fail
    refine (checkX _ p true _ K1).mono ?_
    rintro e w4 ⟨rfl, k4⟩
    have c4 := c3.trans (k4.mono c3.size)
    clear c3 k4
    go_wp2_with fail
    refine (checkX _ p true _ K2).mono ?_
    rintro e w5 ⟨rfl, k5⟩
    have c5 := c4.trans (k5.mono c4.size)
    clear c4 k5
    go_wp2_with fail
    refine (hiddenX _ true _ D1).mono ?_
    rintro e w6 ⟨rfl, k6⟩
    have c6 := c5.trans (k6.mono c5.size)
    clear c5 k6
    go_wp2_with fail
    go_ret
    exact ⟨rfl, c6⟩
set_option maxHeartbeats 1000000 in
theorem secretBack_no (a b : Int) (p S T : ByteArray) (e f : Int) (w : World) (H1 : Hid (hideV a p.data.toList = .tuple #[.string S, .int .i64 e])) (H2 : Hid (hideV b p.data.toList = .tuple #[.string T, .int .i64 f]))
    (hef : (e != 0) = true ∨ ((e != 0) = false ∧ (f != 0) = true)) (hr : a < 0 ∨ 4294967296 ≤ a ∨ b < 0 ∨ 4294967296 ≤ b ∨ (1024 : Int) < p.size) :
    Calls Try.prog 4 #[.int .i64 a, .int .i64 b, .string p] w fun e w' => e = .returned (.bool true) ∧ Below w.heap.size w w' := by
  rcases hef with h1 | ⟨h1, h2⟩
  all_goals
    go_enter Try.func4, Try.ntmps4
    go_wp2_with fail
    refine (hideX a p _ _ H1).mono ?_
    rintro e w1 ⟨rfl, c1⟩
    go_wp2_with fail
    refine (hideX b p _ _ H2).mono ?_
    rintro e w2 ⟨rfl, k2⟩
    have c2 := c1.trans (k2.mono c1.size)
    clear c1 k2
    go_wp2_with fail
    refine (alive17 _).mono ?_
    rintro e w3 ⟨rfl, k3⟩
    have c3 := c2.trans (k3.mono c2.size)
    clear c2 k3
    rcases hr with hr | hr | hr | hr | hr
    all_goals
      go_wp2_with fail
      all_goals go_ret
      all_goals exact ⟨rfl, c3⟩
theorem secretBack_any (a b : Int) (p : ByteArray) (w : World) :
    Calls Try.prog 4 #[.int .i64 a, .int .i64 b, .string p] w fun e w' => e = .returned (.bool true) ∧ Below w.heap.size w w' := by
  by_cases ha : 0 ≤ a ∧ a < 4294967296
  · by_cases hp : p.size ≤ 1024
    · by_cases hb : 0 ≤ b ∧ b < 4294967296
      · exact secretBack_yes a b p w ha.1 ha.2 hb.1 hb.2 hp
      · exact secretBack_no a b p _ _ _ _ w (Lib.hid (hide_ok a p ha.1 ha.2 hp)) (Lib.hid (hide_arg b p hb)) (.inr ⟨rfl, rfl⟩) (by omega)
    · obtain ⟨T, f, hf⟩ := hideV_form b p.data.toList
      exact secretBack_no a b p _ _ _ _ w (Lib.hid (hide_long a p ha.1 ha.2 hp)) (Lib.hid hf) (.inl rfl) (by omega)
  · obtain ⟨T, f, hf⟩ := hideV_form b p.data.toList
    exact secretBack_no a b p _ _ _ _ w (Lib.hid (hide_arg a p ha)) (Lib.hid hf) (.inl rfl) (by omega)
end Go.Proofs.Yteajgkjiappkiaa
