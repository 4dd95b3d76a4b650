/- The contracts of chanceryref1.Good, Text and PutRune, and of octet.Text and PutRune. The conditions: the text is within the form's own reach; where the program's text reads them, Go's two tables of unicode/utf8 lie in memory as their initialisers lay them. -/
import Derived.Test.YteajgkjiappkiaaDoorOctJ
namespace Go.Proofs.YteajgkjiappkiaaDoor
open Go.RowKit
theorem refRune_var (s : ByteArray) (i : Nat) (w : World) (hs : s.size ≤ 140737488351232) (hi : i < s.size) (x n : Int) (hx : Hid (((dec s i).1 : Int) = x)) (hn : Hid (((dec s i).2 : Int) = n)) :
    Calls Tryd.prog 29 #[.string s, .int .i64 i] w fun e w' => e = .returned (.tuple #[.int .i32 x, .int .i64 n]) ∧ w = w' := by
  rw [← hx.out, ← hn.out]; exact refRune_in s i w hs hi
/-- a well-formed sequence stands at a place -/
def goodAt (s : ByteArray) (i : Nat) : Bool := !decide ((dec s i).1 = 65533 ∧ (dec s i).2 = 1)
set_option maxHeartbeats 400000 in
theorem refGood_in (s : ByteArray) (i : Nat) (w : World) (hs : s.size ≤ 140737488351232) (hi : i < s.size) :
    Calls Tryd.prog 39 #[.string s, .int .i64 i] w fun e w' => e = .returned (.bool (goodAt s i)) ∧ w = w' := by
  obtain ⟨b1, b2, b3⟩ := dec_bd s i hi
  obtain ⟨x, hx⟩ : ∃ x : Int, ((dec s i).1 : Int) = x := ⟨_, rfl⟩
  obtain ⟨n, hn⟩ : ∃ n : Int, ((dec s i).2 : Int) = n := ⟨_, rfl⟩
  have n1 : 1 ≤ n := by omega
  have hg : goodAt s i = !decide (x = 65533 ∧ n = 1) := by
    unfold goodAt
    rw [← hx, ← hn]
    congr 2
    apply propext
    omega
  have HX := Lib.hid hx
  have HN := Lib.hid hn
  have HG := Lib.hid hg
  clear hx hn hg b1 b2 b3
  by_cases k1 : 1 < n
  · have hr : goodAt s i = true := by rw [HG.out]; simp; omega
    have HR := Lib.hid hr
    clear hr
    go_enter Tryd.func39, Tryd.ntmps39
    go_wp2_with fail
    refine (refRune_var s i _ hs hi x n HX HN).mono ?_
    rintro e w' ⟨rfl, rfl⟩
    go_wp2_with fail
    go_ret
    exact ⟨by rw [HR.out]; rfl, rfl⟩
  · have k2 : (n == 1) = true := by rw [beq_iff_eq]; omega
    have k5 : decide (1 < n) = false := decide_eq_false k1
    by_cases k3 : x = 65533
    · have k4 : (x != 65533) = false := by rw [bne_eq_false_iff_eq]; exact k3
      have hr : goodAt s i = false := by rw [HG.out]; simp; omega
      have HR := Lib.hid hr
      clear hr k3
      go_enter Tryd.func39, Tryd.ntmps39
      go_wp2_with fail
      refine (refRune_var s i _ hs hi x n HX HN).mono ?_
      rintro e w' ⟨rfl, rfl⟩
      go_wp2_with fail
      go_ret
      exact ⟨by rw [HR.out]; rfl, rfl⟩
    · have k4 : (x != 65533) = true := by rw [bne_iff_ne]; exact k3
      have hr : goodAt s i = true := by rw [HG.out]; simp; omega
      have HR := Lib.hid hr
      clear hr k3
      go_enter Tryd.func39, Tryd.ntmps39
      go_wp2_with fail
      refine (refRune_var s i _ hs hi x n HX HN).mono ?_
      rintro e w' ⟨rfl, rfl⟩
      go_wp2_with fail
      go_ret
      exact ⟨by rw [HR.out]; rfl, rfl⟩
theorem valid_at (s : ByteArray) (i : Nat) (h : i < s.size) : Lib.validD (s.data.toList.drop i) = if goodAt s i then Lib.validD (s.data.toList.drop (i + (dec s i).2)) else false := by
  have hne : s.data.toList.drop i ≠ [] := by
    intro hh
    have := congrArg List.length hh
    simp at this
    omega
  rw [Lib.validD_step _ hne, dec_of_list, List.drop_drop]
  unfold goodAt
  by_cases hb : (dec s i).1 = 65533 ∧ (dec s i).2 = 1
  · rw [if_pos hb, decide_eq_true hb]; rfl
  · rw [if_neg hb, decide_eq_false hb]; rfl
theorem refGood_var (s : ByteArray) (i : Nat) (w : World) (hs : s.size ≤ 140737488351232) (hi : i < s.size) (b : Bool) (h : Hid (goodAt s i = b)) :
    Calls Tryd.prog 39 #[.string s, .int .i64 i] w fun e w' => e = .returned (.bool b) ∧ w = w' := h.out ▸ refGood_in s i w hs hi
set_option maxHeartbeats 400000 in
theorem refText_any (s : ByteArray) (w : World) (hs : s.size ≤ 140737488351232) :
    Calls Tryd.prog 32 #[.string s] w fun e w' => e = .returned (.bool (Lib.validD s.data.toList)) ∧ w = w' := by
  go_enter Tryd.func32, Tryd.ntmps32
  go_wp2
  go_loop [3] (fun i => ∃ k : Nat, k ≤ s.size ∧ i = .int .i64 k ∧ Hid (Lib.validD s.data.toList = Lib.validD (s.data.toList.drop k))) (fun i => s.size - (intOf i).toNat)
  case atStart => exact ⟨0, Nat.zero_le _, rfl, Lib.hid rfl⟩
  case round =>
    obtain ⟨k, hk, rfl, HV⟩ := hrel
    by_cases hlt : k < s.size
    · obtain ⟨b1, b2, _⟩ := dec_bd s k hlt
      have hv := valid_at s k hlt
      obtain ⟨x, hx⟩ : ∃ x : Int, ((dec s k).1 : Int) = x := ⟨_, rfl⟩
      obtain ⟨m, hm⟩ : ∃ m : Nat, (dec s k).2 = m := ⟨_, rfl⟩
      rw [hm] at b1 b2 hv
      have HX := Lib.hid hx
      have HM := Lib.hid hm
      have HA := Lib.hid hv
      clear hx hm hv
      cases hg : goodAt s k
      · have HG := Lib.hid hg
        clear hg
        go_wp2_with fail
        refine (refGood_var s k _ hs hlt false HG).mono ?_
        rintro e w' ⟨rfl, rfl⟩
        go_wp2_with fail
        go_ret
        exact ⟨by rw [HV.out, HA.out, HG.out]; rfl, rfl⟩
      · have HG := Lib.hid hg
        clear hg
        go_wp2_with fail
        refine (refGood_var s k _ hs hlt true HG).mono ?_
        rintro e w' ⟨rfl, rfl⟩
        go_wp2_with fail
        refine (refRune_var s k _ hs hlt x m HX (Lib.hid (by rw [HM.out]))).mono ?_
        rintro e w' ⟨rfl, rfl⟩
        go_wp2_with fail
        go_round
        case rel => exact ⟨k + m, by omega, by go_num, Lib.hid (by rw [HV.out, HA.out, HG.out]; rfl)⟩
        case measure => simp [intOf]; omega
    · go_wp2
      go_ret
      exact ⟨by rw [HV.out, List.drop_of_length_le (by simp; omega)]; rfl, rfl⟩
set_option maxHeartbeats 400000 in
theorem text_any (s : ByteArray) (w : World) (hs : s.size ≤ 140737488351232) (hT : Lib.Utf8Tabs 0 1 w) :
    Calls Tryd.prog 28 #[.string s] w fun e w' => e = .returned (.bool (Lib.validD s.data.toList)) ∧ Below w.heap.size w w' := by
  have HT := Lib.hid hT
  clear hT
  go_enter Tryd.func28, Tryd.ntmps28
  go_wp2_with fail
  refine (Tryd.utf8_ValidString s _ (by omega) HT.out).mono ?_
  rintro e w' ⟨rfl, hb⟩
  go_wp2_with fail
  go_ret
  exact ⟨rfl, hb⟩
/-- what a PutRune answers -/
def putRuneV (r : Int) : Value := if Lib.validRune r = true then .tuple #[.string (Utf8.encode r), .int .i64 0] else .tuple #[.string ⟨#[]⟩, .int .i64 10]
theorem validRune_var (r : Int) (w : World) (b : Bool) (h : Hid (Lib.validRune r = b)) : Calls Tryd.prog 38 #[.int .i32 r] w fun e w' => e = .returned (.bool b) ∧ w' = w := h.out ▸ Tryd.utf8_ValidRune r w
set_option maxHeartbeats 400000 in
theorem putRune_any (r : Int) (w : World) : Calls Tryd.prog 30 #[.int .i32 r] w fun e w' => e = .returned (putRuneV r) ∧ w = w' := by
  cases hv : Lib.validRune r
  · have hp : putRuneV r = .tuple #[.string ⟨#[]⟩, .int .i64 10] := by unfold putRuneV; rw [if_neg (by rw [hv]; decide)]
    have HV := Lib.hid hv
    have HP := Lib.hid hp
    clear hv hp
    go_enter Tryd.func30, Tryd.ntmps30
    go_wp2_with fail
    refine (validRune_var r _ false HV).mono ?_
    rintro e w' ⟨rfl, rfl⟩
    go_wp2_with fail
    go_ret2
    exact ⟨by rw [HP.out]; rfl, rfl⟩
  · have hp : putRuneV r = .tuple #[.string (Utf8.encode r), .int .i64 0] := by unfold putRuneV; rw [if_pos hv]
    have HV := Lib.hid hv
    have HP := Lib.hid hp
    clear hv hp
    go_enter Tryd.func30, Tryd.ntmps30
    go_wp2_with fail
    refine (validRune_var r _ true HV).mono ?_
    rintro e w' ⟨rfl, rfl⟩
    go_wp2_with fail
    go_ret2
    exact ⟨by rw [HP.out]; rfl, rfl⟩
section
variable (w : World)
theorem conv1 (x : Int) : (convert 26 9 (.slice (some ⟨w.heap.size, 0, none⟩) 1 1)).run Tryd.prog (w.alloc (.cells #[.int .u8 x] 5)) = .ok (.string (strOfNums [x])) (w.alloc (.cells #[.int .u8 x] 5)) :=
  run_convert_bytes_arg _ 26 5 Tryd.underlying26 Tryd.underlying5 w.heap.size 0 1 1 [x] rfl (fun i hi => by
    rw [(Blk.new w 5 _).cell]
    obtain rfl : i = 0 := by omega
    rfl) 9 Tryd.underlying9
theorem conv2 (x y : Int) : (convert 26 9 (.slice (some ⟨w.heap.size, 0, none⟩) 2 2)).run Tryd.prog (w.alloc (.cells #[.int .u8 x, .int .u8 y] 5)) = .ok (.string (strOfNums [x, y])) (w.alloc (.cells #[.int .u8 x, .int .u8 y] 5)) :=
  run_convert_bytes_arg _ 26 5 Tryd.underlying26 Tryd.underlying5 w.heap.size 0 2 2 [x, y] rfl (fun i hi => by
    rw [(Blk.new w 5 _).cell]
    have : i = 0 ∨ i = 1 := by omega
    rcases this with rfl | rfl <;> rfl) 9 Tryd.underlying9
theorem conv3 (x y z : Int) : (convert 26 9 (.slice (some ⟨w.heap.size, 0, none⟩) 3 3)).run Tryd.prog (w.alloc (.cells #[.int .u8 x, .int .u8 y, .int .u8 z] 5)) = .ok (.string (strOfNums [x, y, z])) (w.alloc (.cells #[.int .u8 x, .int .u8 y, .int .u8 z] 5)) :=
  run_convert_bytes_arg _ 26 5 Tryd.underlying26 Tryd.underlying5 w.heap.size 0 3 3 [x, y, z] rfl (fun i hi => by
    rw [(Blk.new w 5 _).cell]
    have : i = 0 ∨ i = 1 ∨ i = 2 := by omega
    rcases this with rfl | rfl | rfl <;> rfl) 9 Tryd.underlying9
theorem conv4 (x y z u : Int) : (convert 26 9 (.slice (some ⟨w.heap.size, 0, none⟩) 4 4)).run Tryd.prog (w.alloc (.cells #[.int .u8 x, .int .u8 y, .int .u8 z, .int .u8 u] 5)) = .ok (.string (strOfNums [x, y, z, u])) (w.alloc (.cells #[.int .u8 x, .int .u8 y, .int .u8 z, .int .u8 u] 5)) :=
  run_convert_bytes_arg _ 26 5 Tryd.underlying26 Tryd.underlying5 w.heap.size 0 4 4 [x, y, z, u] rfl (fun i hi => by
    rw [(Blk.new w 5 _).cell]
    have : i = 0 ∨ i = 1 ∨ i = 2 ∨ i = 3 := by omega
    rcases this with rfl | rfl | rfl | rfl <;> rfl) 9 Tryd.underlying9
end
theorem ofNat_int (a : Int) (n : Nat) (h : a = (n : Int)) : UInt8.ofNat a.toNat = UInt8.ofNat n := by subst h; simp
theorem enc1 (r : Int) (h0 : 0 ≤ r) (h1 : r < 128) : Utf8.encode r = strOfNums [r] := by
  obtain ⟨n, rfl⟩ := Int.eq_ofNat_of_zero_le h0
  have hv : Utf8.valid (n : Int) = true := by simp [Utf8.valid]; omega
  unfold Utf8.encode strOfNums
  simp only [hv, if_true, Int.toNat_natCast]
  rw [if_pos (by omega)]
  rfl
theorem enc2 (r : Int) (h0 : 128 ≤ r) (h1 : r < 2048) : Utf8.encode r = strOfNums [192 + r / 64, 128 + r % 64] := by
  obtain ⟨n, rfl⟩ := Int.eq_ofNat_of_zero_le (show 0 ≤ r by omega)
  have hv : Utf8.valid (n : Int) = true := by simp [Utf8.valid]; omega
  unfold Utf8.encode strOfNums
  simp only [hv, if_true, Int.toNat_natCast, List.map_cons, List.map_nil]
  rw [if_neg (by omega), if_pos (by omega), ofNat_int _ (192 + n / 64) (by omega), ofNat_int _ (128 + n % 64) (by omega)]
theorem enc3 (r : Int) (h0 : 2048 ≤ r) (h1 : r < 55296 ∨ (57343 < r ∧ r < 65536)) : Utf8.encode r = strOfNums [224 + r / 4096, 128 + r / 64 % 64, 128 + r % 64] := by
  obtain ⟨n, rfl⟩ := Int.eq_ofNat_of_zero_le (show 0 ≤ r by omega)
  have hv : Utf8.valid (n : Int) = true := by simp [Utf8.valid]; omega
  unfold Utf8.encode strOfNums
  simp only [hv, if_true, Int.toNat_natCast, List.map_cons, List.map_nil]
  rw [if_neg (by omega), if_neg (by omega), if_pos (by omega), ofNat_int _ (224 + n / 4096) (by omega), ofNat_int _ (128 + n / 64 % 64) (by omega), ofNat_int _ (128 + n % 64) (by omega)]
theorem enc4 (r : Int) (h0 : 65536 ≤ r) (h1 : r ≤ 1114111) : Utf8.encode r = strOfNums [240 + r / 262144, 128 + r / 4096 % 64, 128 + r / 64 % 64, 128 + r % 64] := by
  obtain ⟨n, rfl⟩ := Int.eq_ofNat_of_zero_le (show 0 ≤ r by omega)
  have hv : Utf8.valid (n : Int) = true := by simp [Utf8.valid]; omega
  unfold Utf8.encode strOfNums
  simp only [hv, if_true, Int.toNat_natCast, List.map_cons, List.map_nil]
  rw [if_neg (by omega), if_neg (by omega), if_neg (by omega), ofNat_int _ (240 + n / 262144) (by omega), ofNat_int _ (128 + n / 4096 % 64) (by omega), ofNat_int _ (128 + n / 64 % 64) (by omega), ofNat_int _ (128 + n % 64) (by omega)]
set_option maxHeartbeats 1000000 in
theorem refPutRune_any (r : Int) (w : World) (hlo : -2147483648 ≤ r) (hhi : r ≤ 2147483647) : Calls Tryd.prog 31 #[.int .i32 r] w fun e w' => e = .returned (putRuneV r) ∧ Below w.heap.size w w' := by
  have h1 := conv1 w
  have h2 := conv2 w
  have h3 := conv3 w
  have h4 := conv4 w
  have HV : Hid (Lib.validRune r = decide ((0 ≤ r ∧ r < 0xD800) ∨ (0xDFFF < r ∧ r ≤ 0x10FFFF))) := Lib.hid rfl
  by_cases hv : (0 ≤ r ∧ r < 55296) ∨ (57343 < r ∧ r ≤ 1114111)
  · have hp : putRuneV r = .tuple #[.string (Utf8.encode r), .int .i64 0] := by unfold putRuneV; rw [if_pos (by rw [HV.out]; simp; omega)]
    have HP := Lib.hid hp
    clear hp
    have hc : (0 ≤ r ∧ r < 128) ∨ (128 ≤ r ∧ r < 2048) ∨ (2048 ≤ r ∧ r < 55296) ∨ (57343 < r ∧ r < 65536) ∨ (65536 ≤ r ∧ r ≤ 1114111) := by omega
    clear hv
    rcases hc with ⟨r1, r2⟩ | ⟨r1, r2⟩ | ⟨r1, r2⟩ | ⟨r1, r2⟩ | ⟨r1, r2⟩
    all_goals
      go_enter Tryd.func31, Tryd.ntmps31
      go_wp2_with fail
      go_ret2
      refine ⟨?_, (Below.refl _ _).alloc (Nat.le_refl _) _⟩
      rw [HP.out]
      first
        | (rw [enc1 r (by omega) (by omega)]; rfl)
        | (rw [enc2 r (by omega) (by omega)]; rfl)
        | (rw [enc3 r (by omega) (by omega)]; rfl)
        | (rw [enc4 r (by omega) (by omega)]; rfl)
  · have hp : putRuneV r = .tuple #[.string ⟨#[]⟩, .int .i64 10] := by unfold putRuneV; rw [if_neg (by rw [HV.out]; simp; omega)]
    have HP := Lib.hid hp
    clear hp
    go_enter Tryd.func31, Tryd.ntmps31
    go_wp2_with fail
    all_goals go_ret2
    all_goals exact ⟨by rw [HP.out]; rfl, Below.refl _ _⟩
end Go.Proofs.YteajgkjiappkiaaDoor
