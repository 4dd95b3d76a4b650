/- The contract of wal.read: a sector that is this generation's piece, and one that is not. -/
import Derived.Test.YtoleojljpaglhaaGreatWaE
import Derived.Test.YtoleojljpaglhaaGreatWbP
namespace Go.Proofs.YtoleojljpaglhaaGreat
open Go.RowKit
set_option maxRecDepth 20000
theorem ext_list (s : ByteArray) (i j : Nat) : (s.extract i j).data.toList = (s.data.toList.drop i).take (j - i) := by simp
theorem form_parts (s : List UInt8) (kind gen place : Nat) : ∃ R, Wa.formL s kind gen place = Oct.beB 4 (gen : Int) ++ (Oct.beB 2 (s.length : Int) ++ ([UInt8.ofNat kind, 0] ++ (s ++ R))) := by
  refine ⟨List.replicate (48 - s.length) 0 ++ (Oct.beB 4 (place : Int) ++ Oct.beB 4 (gen : Int)), ?_⟩
  unfold Wa.formL
  simp only [List.append_assoc]
theorem drop_take_mid (A B C : List UInt8) (a b : Nat) (h1 : A.length = a) (h2 : B.length = b) : ((A ++ (B ++ C)).drop a).take b = B := by
  subst h1 h2
  rw [List.drop_left, List.take_left]
theorem form_len (s : List UInt8) (kind gen place : Nat) : ((Wa.formL s kind gen place).drop 4).take 2 = Oct.beB 2 (s.length : Int) := by
  obtain ⟨R, hR⟩ := form_parts s kind gen place
  rw [hR]
  exact drop_take_mid _ _ _ 4 2 (Oct.beB_length 4 _) (Oct.beB_length 2 _)
theorem form_kind (s : List UInt8) (kind gen place : Nat) : (Wa.formL s kind gen place)[6]? = some (UInt8.ofNat kind) := by
  obtain ⟨R, hR⟩ := form_parts s kind gen place
  have e4 : (Oct.beB 4 (gen : Int)).length = 4 := Oct.beB_length 4 _
  have e2 : (Oct.beB 2 (s.length : Int)).length = 2 := Oct.beB_length 2 _
  rw [hR, List.getElem?_append_right (by omega), e4, List.getElem?_append_right (by omega), e2]
  rfl
theorem form_text (s : List UInt8) (kind gen place : Nat) : ((Wa.formL s kind gen place).drop 8).take s.length = s := by
  obtain ⟨R, hR⟩ := form_parts s kind gen place
  have e : Wa.formL s kind gen place = (Oct.beB 4 (gen : Int) ++ (Oct.beB 2 (s.length : Int) ++ [UInt8.ofNat kind, 0])) ++ (s ++ R) := by rw [hR]; simp only [List.append_assoc]
  rw [e]
  exact drop_take_mid _ _ _ 8 s.length (by simp [Oct.beB_length]) rfl
theorem getV_two (s : ByteArray) (hs : s.size = 2) : getV s = .tuple #[.int .i64 (Oct.getFrom 0 s.data.toList), .int .i64 0] := by
  unfold getV
  rw [if_pos (by omega)]
set_option maxRecDepth 20000 in
set_option maxHeartbeats 1000000 in
theorem lread_yes (t : List UInt8) (kn gen place : Nat) (b : ByteArray) (w : World) (hb : b = ⟨(Wa.formL t kn gen place).toArray⟩) (ht : t.length ≤ 48) (hk : kn = 1 ∧ t.length = 48 ∨ kn = 2) (hg : gen < 256) (hp : place < 4294967296) :
    Calls Tryz.prog 67 #[.string b, .int .i64 (gen : Int), .int .i64 (place : Int)] w fun e w' => e = .returned (.tuple #[.string ⟨t.toArray⟩, .int .i64 (kn : Int), .bool true]) ∧ Below w.heap.size w w' := by
  have hbl : b.data.toList = Wa.formL t kn gen place := by rw [hb]
  have hbz : b.size = 64 := by rw [hb, ba_len]; exact Wa.formL_length _ _ _ _ ht
  obtain ⟨T, hT⟩ : ∃ T : ByteArray, (⟨t.toArray⟩ : ByteArray) = T := ⟨_, rfl⟩
  have hTl : T.data.toList = t := by rw [← hT]
  have hTz : T.size = t.length := by rw [← hT, ba_len]
  have h1 := fun W => get_any (b.extract 4 6) W
  have q1 : (b.extract 4 6).size = 2 := by simp; omega
  have q2 : (t.length : Int) < 256 ^ 2 := by have : (256 : Int) ^ 2 = 65536 := by decide
                                             omega
  rw [getV_two _ q1, ext_list, hbl, form_len, Oct.get_put 2 _ (by omega) q2, ← hTz] at h1
  have h6 : 6 < b.size := by omega
  have hk6 : (b[6].toNat : Int) = (kn : Int) := by
    have e := form_kind t kn gen place
    rw [← hbl, List.getElem?_eq_getElem (by simpa using h6)] at e
    have e2 : b[6] = UInt8.ofNat kn := by injection e
    rw [e2, UInt8.toNat_ofNat']
    omega
  have hx : b.extract 8 (8 + T.size) = T := by
    rw [← ba_back (b.extract 8 (8 + T.size)), ext_list, hbl, show 8 + T.size - 8 = T.size from by omega, hTz, form_text, hT]
  have hF := fun W => form_any T kn gen place W (by omega) (by omega) hp
  rw [hTl, ← hb] at hF
  have i0 : (T.size : Int) ≤ 48 := by omega
  have i1 : (8 : Int) + (T.size : Int) ≤ (b.size : Int) := by omega
  have i2 : ((8 : Int) + (T.size : Int)).toNat = 8 + T.size := by omega
  have i3 : 8 + T.size ≤ b.size := by omega
  have i4 : (6 : Int) < (b.size : Int) := by omega
  have i5 : (4 : Int) ≤ (b.size : Int) := by omega
  have i6 : (6 : Int) ≤ (b.size : Int) := by omega
  have i7 : (8 : Int) ≤ (b.size : Int) := by omega
  have hkk : (kn : Int) = 1 ∧ (T.size : Int) = 48 ∨ (kn : Int) = 2 := by omega
  have H1 := Lib.hid h1
  have HF := Lib.hid hF
  have HX := Lib.hid hx
  have HT := Lib.hid hT
  clear h1 hF hx q1 q2 hb hbl hTl hTz ht hk hg hp hbz
  rw [HT.out]
  obtain ⟨N, hN⟩ : ∃ N : Nat, T.size = N := ⟨_, rfl⟩
  rw [hN] at i0 i1 i2 i3 hkk
  have HN := Lib.hid hN
  have HX2 : b.extract 8 (8 + N) = T := by rw [← hN]; exact HX.out
  have HH1 : Hid (∀ W, Calls Tryz.prog 73 #[.string (b.extract 4 6)] W fun e w' => e = .returned (.tuple #[.int .i64 (N : Int), .int .i64 0]) ∧ W = w') := Lib.hid (by rw [← hN]; exact H1.out)
  clear hN H1
  obtain ⟨kz, hkz⟩ : ∃ kz : Int, (kn : Int) = kz := ⟨_, rfl⟩
  rw [hkz] at hk6 hkk ⊢
  have HF2 : Hid (∀ W, Calls Tryz.prog 104 #[.string T, .int .i64 kz, .int .i64 (gen : Int), .int .i64 (place : Int)] W fun e w' => e = .returned (.string b) ∧ Below W.heap.size W w') := Lib.hid (by rw [← hkz]; exact HF.out)
  clear hkz HF
  rcases hkk with ⟨rfl, hn48⟩ | rfl
  · obtain rfl : N = 48 := by omega
    have j1 : (56 : Int) ≤ (b.size : Int) := by omega
    have j2 : b.extract 8 56 = T := HX2
    have j3 : 56 ≤ b.size := by omega
    clear i0 i1 i2 i3 hn48 HX2
    go_enter Tryz.func67, Tryz.ntmps67
    go_wp2_with fail
    (with_reducible refine (HH1.out _).mono ?_)
    rintro e w1 ⟨rfl, rfl⟩
    go_wp2_with fail
    (with_reducible refine (HF2.out _).mono ?_)
    rintro e w2 ⟨rfl, hb2⟩
    go_wp2_with fail
    go_ret3
    exact ⟨rfl, hb2⟩
  · have j1 : (8 : Int) ≤ 8 + (N : Int) := by omega
    go_enter Tryz.func67, Tryz.ntmps67
    go_wp2_with fail
    (with_reducible refine (HH1.out _).mono ?_)
    rintro e w1 ⟨rfl, rfl⟩
    go_wp2_with fail
    (with_reducible refine (HF2.out _).mono ?_)
    rintro e w2 ⟨rfl, hb2⟩
    go_wp2_with fail
    go_ret3
    exact ⟨rfl, hb2⟩
theorem ba_ne {a b : ByteArray} (h : a ≠ b) : (a.toList == b.toList) = false := by
  rw [beq_eq_false_iff_ne, ByteArray.toList_eq, ByteArray.toList_eq]
  intro e
  apply h
  rw [← ba_back a, ← ba_back b, e]
set_option maxRecDepth 20000 in
set_option maxHeartbeats 1000000 in
theorem lread_no (gen place : Nat) (b : ByteArray) (w : World) (hb : b.size = 64) (hne : b.data.toList.drop 60 ≠ Oct.beB 4 (gen : Int)) (hg : gen < 4294967296) (hp : place < 4294967296) :
    Calls Tryz.prog 67 #[.string b, .int .i64 (gen : Int), .int .i64 (place : Int)] w fun e w' => (∃ s k, e = .returned (.tuple #[.string s, .int .i64 k, .bool false])) ∧ Below w.heap.size w w' := by
  have q1 : (b.extract 4 6).size = 2 := by simp; omega
  have h1 := fun W => get_any (b.extract 4 6) W
  rw [getV_two _ q1] at h1
  have hbd := Oct.get_bd (b.extract 4 6).data.toList (by rw [ext_list]; simp; omega)
  obtain ⟨Ni, hNi⟩ : ∃ x, Oct.getFrom 0 (b.extract 4 6).data.toList = x := ⟨_, rfl⟩
  rw [hNi] at h1 hbd
  obtain ⟨N, rfl⟩ : ∃ N : Nat, Ni = N := ⟨Ni.toNat, by omega⟩
  have h6 : 6 < b.size := by omega
  obtain ⟨kn, hkn⟩ : ∃ kn : Nat, b[6].toNat = kn := ⟨_, rfl⟩
  have hk6 : (b[6].toNat : Int) = (kn : Int) := by rw [hkn]
  have i4 : (6 : Int) < (b.size : Int) := by omega
  have i5 : (4 : Int) ≤ (b.size : Int) := by omega
  have i6 : (6 : Int) ≤ (b.size : Int) := by omega
  have i7 : (8 : Int) ≤ (b.size : Int) := by omega
  have hF : ∀ T : ByteArray, T.size ≤ 48 → ∃ F, Hid (∀ W, Calls Tryz.prog 104 #[.string T, .int .i64 (kn : Int), .int .i64 (gen : Int), .int .i64 (place : Int)] W fun e w' => e = .returned (.string F) ∧ Below W.heap.size W w') ∧ b ≠ F := fun T hT => by
    refine ⟨_, Lib.hid (fun W => form_any T kn gen place W hT hg hp), fun e => hne ?_⟩
    rw [e]
    have hl := Wa.formL_length T.data.toList kn gen place (by simpa using hT)
    have e4 : (Oct.beB 4 (gen : Int)).length = 4 := Oct.beB_length 4 _
    show (Wa.formL T.data.toList kn gen place).drop 60 = _
    unfold Wa.formL at hl ⊢
    rw [List.length_append, e4] at hl
    rw [List.drop_append_of_le_length (by omega), List.drop_of_length_le (by omega), List.nil_append]
  have HF := Lib.hid hF
  have H1 := Lib.hid h1
  obtain ⟨hb0, hb1⟩ := hbd
  have HB := Lib.hid hb
  clear h1 hF hNi hkn q1 hne hg hp hb0 hb1 hb
  by_cases q1 : (48 : Int) < (N : Int)
  · go_enter Tryz.func67, Tryz.ntmps67
    go_wp2_with fail
    (with_reducible refine (H1.out _).mono ?_)
    rintro e w1 ⟨rfl, rfl⟩
    go_wp2_with fail
    go_ret3
    exact ⟨⟨_, _, rfl⟩, Below.refl _ _⟩
  obtain ⟨kz, hkz⟩ : ∃ kz : Int, (kn : Int) = kz := ⟨_, rfl⟩
  rw [hkz] at hk6
  have HKZ := Lib.hid hkz
  have hwz : wrap64 kz = kz := by have := b[6].toNat_lt; unfold wrap64; omega
  clear hkz
  by_cases q2 : kz = 1
  · subst q2
    by_cases q3 : (N : Int) = 48
    · obtain rfl : N = 48 := by omega
      obtain ⟨F, HFF, hFne⟩ := HF.out (b.extract 8 56) (by simp; omega)
      rw [HKZ.out] at HFF
      have j1 : (56 : Int) ≤ (b.size : Int) := by have := HB.out; omega
      have j3 : 56 ≤ b.size := by omega
      have hFb := ba_ne hFne
      clear q1 q3 hFne
      go_enter Tryz.func67, Tryz.ntmps67
      go_wp2_with fail
      (with_reducible refine (H1.out _).mono ?_)
      rintro e w1 ⟨rfl, rfl⟩
      go_wp2_with fail
      (with_reducible refine (HFF.out _).mono ?_)
      rintro e w2 ⟨rfl, hb2⟩
      go_wp2_with fail
      go_ret3
      exact ⟨⟨_, _, rfl⟩, hb2⟩
    · have q3' : ((N : Int) != 48) = true := by rw [bne_iff_ne]; exact q3
      clear q3
      go_enter Tryz.func67, Tryz.ntmps67
      go_wp2_with fail
      (with_reducible refine (H1.out _).mono ?_)
      rintro e w1 ⟨rfl, rfl⟩
      go_wp2_with fail
      go_ret3
      exact ⟨⟨_, _, rfl⟩, Below.refl _ _⟩
  · have q2' : (kz != 1) = true := by rw [bne_iff_ne]; exact q2
    have q2'' : (kz == 1) = false := by rw [beq_eq_false_iff_ne]; exact q2
    by_cases q3 : kz = 2
    · subst q3
      obtain ⟨F, HFF, hFne⟩ := HF.out (b.extract 8 (8 + N)) (by simp; omega)
      rw [HKZ.out] at HFF
      have i0 : (N : Int) ≤ 48 := by omega
      have i1 : (8 : Int) + (N : Int) ≤ (b.size : Int) := by have := HB.out; omega
      have i2 : ((8 : Int) + (N : Int)).toNat = 8 + N := by omega
      have i3 : 8 + N ≤ b.size := by have := HB.out; omega
      have j1 : (8 : Int) ≤ 8 + (N : Int) := by omega
      have hFb := ba_ne hFne
      clear hFne q2 q2' q2''
      go_enter Tryz.func67, Tryz.ntmps67
      go_wp2_with fail
      (with_reducible refine (H1.out _).mono ?_)
      rintro e w1 ⟨rfl, rfl⟩
      go_wp2_with fail
      (with_reducible refine (HFF.out _).mono ?_)
      rintro e w2 ⟨rfl, hb2⟩
      go_wp2_with fail
      go_ret3
      exact ⟨⟨_, _, rfl⟩, hb2⟩
    · have q3' : (kz != 2) = true := by rw [bne_iff_ne]; exact q3
      clear q2 q3
      go_enter Tryz.func67, Tryz.ntmps67
      go_wp2_with fail
      (with_reducible refine (H1.out _).mono ?_)
      rintro e w1 ⟨rfl, rfl⟩
      go_wp2_with fail
      go_ret3
      exact ⟨⟨_, _, rfl⟩, Below.refl _ _⟩
end Go.Proofs.YtoleojljpaglhaaGreat
