/- The walk of the law BerMakes. -/
import Derived.Test.YtejnfnpcabldeaaBerCA
import Derived.Test.YtejnfnpcabldeaaBerL
import Derived.Test.YtejnfnpcabldeaaBerQ
namespace Go.Proofs.Ytejnfnpcabldeaa
open Go.RowKit Ber
theorem same_nil (c t : Int) (k : Bool) (b : ByteArray) (W : World) : Calls Try.prog 17 #[.agg #[.int .i64 c, .int .i64 t, .bool k, .string b, .slice none 0 0], .agg #[.int .i64 c, .int .i64 t, .bool k, .string b, .slice none 0 0]] W fun e w' => e = .returned (.bool true) ∧ Below W.heap.size W w' :=
  same_any (KsAt.nil W) _ c t k b W (KsAt.nil W) (Below.refl _ _)
/-- two elements side by side, their lists laid already -/
theorem pair_at {w : World} {g : Nat} {c0 t0 c1 t1 : Int} {k0 k1 : Bool} {b0 b1 : ByteArray} {ks0 ks1 : List El} {a0 a1 : Option Addr} {n0 cap0 n1 cap1 : Nat} (h : Blk w g 24 #[.int .i64 c0, .int .i64 t0, .bool k0, .string b0, .slice a0 n0 cap0, .int .i64 c1, .int .i64 t1, .bool k1, .string b1, .slice a1 n1 cap1]) (h0 : Few b0.size) (h1 : Few b1.size) (hk0 : KsAt w ks0 (.slice a0 n0 cap0)) (hk1 : KsAt w ks1 (.slice a1 n1 cap1)) :
    KsAt w [.mk c0 t0 k0 b0 ks0, .mk c1 t1 k1 b1 ks1] (.slice (some ⟨g, 0, none⟩) 2 2) := by
  refine .mk [.mk c0 t0 k0 b0 ks0, .mk c1 t1 k1 b1 ks1] (some ⟨g, 0, none⟩) 2 g 0 (fun i => if i = 0 then .slice a0 n0 cap0 else .slice a1 n1 cap1) ⟨Nat.le_refl _, by unfold maxLen; simp⟩ (by unfold FewK; simp) ?_ ?_
  · intro i hi
    match i, hi with
    | 0, _ => exact ⟨rfl, h.lt, ⟨h.cell 0, h.cell 1, h.cell 2, h.cell 3, h.cell 4⟩, h0⟩
    | 1, _ => exact ⟨rfl, h.lt, ⟨h.cell 5, h.cell 6, h.cell 7, h.cell 8, h.cell 9⟩, h1⟩
  · intro i hi
    match i, hi with
    | 0, _ => exact hk0
    | 1, _ => exact hk1
theorem seq_x {w : World} {ks : List El} {kv : Value} (h : KsAt w ks kv) : Calls Try.prog 23 #[kv] w fun e w' => ∃ v, e = .returned (.agg #[.int .i64 0, .int .i64 16, .bool true, .string ⟨#[]⟩, v]) ∧ KsP (fun b => w.heap.size ≤ b ∧ b < w'.heap.size) w' ks v ∧ Below w.heap.size w w' := seq_any h
theorem as_x {w : World} {ks : List El} {kv : Value} (h : KsAt w ks kv) (c t : Int) (k : Bool) (b : ByteArray) (c2 t2 : Int) : Calls Try.prog 28 #[.agg #[.int .i64 c, .int .i64 t, .bool k, .string b, kv], .int .i64 c2, .int .i64 t2] w fun e w' => ∃ v, e = .returned (.agg #[.int .i64 c2, .int .i64 t2, .bool k, .string b, v]) ∧ KsP (fun b => w.heap.size ≤ b ∧ b < w'.heap.size) w' ks v ∧ Below w.heap.size w w' := as_any h c t k b c2 t2
theorem rAs_x (c t : Int) (k : Bool) (b : ByteArray) (a : Option Addr) (n cap : Nat) (c2 t2 : Int) (w : World) : Calls Try.prog 29 #[.agg #[.int .i64 c, .int .i64 t, .bool k, .string b, .slice a n cap], .int .i64 c2, .int .i64 t2] w fun e w' => e = .returned (.agg #[.int .i64 c2, .int .i64 t2, .bool k, .string b, .slice a n cap]) ∧ Below w.heap.size w w' := rAs_any c t k b a n cap c2 t2 w
theorem rSeq_x (a : Option Addr) (n cap : Nat) (w : World) : Calls Try.prog 27 #[.slice a n cap] w fun e w' => e = .returned (.agg #[.int .i64 0, .int .i64 16, .bool true, .string ⟨#[]⟩, .slice a n cap]) ∧ Below w.heap.size w w' := rSeq_any a n cap w
theorem rStr_x (t : Int) (s : ByteArray) (w : World) : Calls Try.prog 25 #[.int .i64 t, .string s] w fun e w' => e = .returned (.agg #[.int .i64 0, .int .i64 t, .bool false, .string s, .slice none 0 0]) ∧ Below w.heap.size w w' := rStr_any t s w
theorem field4 (a : Option Addr) (cap : Nat) (W : World) : (Instr.field 24 (.agg #[.int .i64 0, .int .i64 16, .bool true, .string ⟨#[]⟩, .slice a 0 cap]) 4).run Try.prog W = .ok (.slice a 0 cap) W := by kernel_rfl
theorem field2 (a : Option Addr) (cap : Nat) (W : World) : (Instr.field 24 (.agg #[.int .i64 0, .int .i64 16, .bool true, .string ⟨#[]⟩, .slice a 0 cap]) 2).run Try.prog W = .ok (.bool true) W := by kernel_rfl
theorem belowStep {V w w' : World} (h : Below V.heap.size V w) (h2 : Below w.heap.size w w') : Below V.heap.size V w' := h.trans (h2.mono h.size)
set_option maxHeartbeats 4000000 in
theorem berMakes_walk {w : World} {ks : List El} {kv : Value} (h : KsAt w ks kv) (c t : Int) (k : Bool) (b : ByteArray) (hfb : Few b.size) (tag v cl : Int) (s : ByteArray) (is : Bool) (hlo : -9223372036854775808 ≤ v) (hhi : v ≤ 9223372036854775807) :
    Calls Try.prog 5 #[.agg #[.int .i64 c, .int .i64 t, .bool k, .string b, kv], .int .i64 tag, .int .i64 v, .int .i64 cl, .string s, .bool is] w fun e w' => e = .returned (.bool true) ∧ Below w.heap.size w w' := by
  obtain ⟨a, cap, rfl, _, _⟩ := h.len
  obtain ⟨L, hL⟩ : ∃ L : ByteArray, (⟨(Oct.beB (Oct.psLen v) v).toArray⟩ : ByteArray) = L := ⟨_, rfl⟩
  obtain ⟨M, hM⟩ : ∃ M : ByteArray, (⟨(if is then [255] else [0]).toArray⟩ : ByteArray) = M := ⟨_, rfl⟩
  have hFL : Few L.size := by
    rw [← hL]
    have h1 := Oct.psLen_le v
    have h2 := Oct.beB_length (Oct.psLen v) v
    show (Oct.beB (Oct.psLen v) v).toArray.size ≤ _
    rw [List.size_toArray, h2]
    omega
  have G1 := fun W => int_any tag v W hlo hhi
  have G2 := fun W => bool_any tag is W
  have R1 := fun W => rInt_any tag v W hlo hhi
  have R2 := fun W => rBool_any tag is W
  rw [hL] at G1 R1
  rw [hM] at G2 R2
  unfold EV at G1 G2 R1 R2
  have HG1 := Lib.hid G1
  have HG2 := Lib.hid G2
  have HR1 := Lib.hid R1
  have HR2 := Lib.hid R2
  have HFL := Lib.hid hFL
  have HFB := Lib.hid hfb
  have HH := Lib.hid h
  clear h hfb hFL hL hM G1 G2 R1 R2 hlo hhi
  go_enter Try.func5, Try.ntmps5
  go_wp2_with fail
  (with_reducible refine (many_any HH.out c t k b _ ((Below.refl _ _).alloc (Nat.le_refl _) _)).mono ?_)
  rintro e w1 ⟨⟨n, rfl⟩, hb1⟩
  have hB1 : Below w.heap.size w w1 := ((Below.refl _ _).alloc (Nat.le_refl _) _).trans (hb1.mono (by simp))
  have hE1 := (Blk.new w 24 #[.int .i64 c, .int .i64 t, .bool k, .string b, .slice a ks.length cap]).below hb1 (by simp)
  have HE1 := Lib.hid hE1
  clear hb1 hE1
  by_cases hn : 500 < n
  · go_wp2_with fail
    (with_reducible refine (alive_any _).mono ?_)
    rintro e w2 ⟨rfl, hb2⟩
    go_wp2_with fail
    go_ret
    exact ⟨rfl, hB1.trans (hb2.mono hB1.size)⟩
  · go_wp2_with fail
    (with_reducible refine (HG1.out _).mono ?_)
    rintro e w2 ⟨rfl, hb2⟩
    have hB2 := hB1.trans (hb2.mono hB1.size)
    have HE2 := Lib.hid (HE1.out.below hb2 HE1.out.lt)
    clear hb2 hB1 HE1 hn
    go_wp2_with fail
    (with_reducible refine (str_any tag s _).mono ?_)
    rintro e w3 ⟨rfl, hb3⟩
    unfold EV
    have hB3 := hB2.trans (hb3.mono hB2.size)
    have HE3 := Lib.hid (HE2.out.below hb3 HE2.out.lt)
    clear hb3 hB2 HE2
    go_wp2_with fail
    (with_reducible refine (HG2.out _).mono ?_)
    rintro e w4 ⟨rfl, hb4⟩
    have hB4 := hB3.trans (hb4.mono hB3.size)
    have HE4 := Lib.hid (HE3.out.below hb4 HE3.out.lt)
    clear hb4 hB3 HE3
    have hEa := ((HE4.out.alloc (.cells #[.int .i64 0, .int .i64 tag, .bool false, .string L, .slice none 0 0] 24)).alloc (.cells #[.int .i64 0, .int .i64 tag, .bool false, .string s, .slice none 0 0] 24)).alloc (.cells #[.int .i64 0, .int .i64 tag, .bool false, .string M, .slice none 0 0] 24)
    obtain ⟨c0, c1, c2, c3, c4⟩ := hEa.five
    go_wp2_with fail
    obtain ⟨A, hA⟩ : ∃ A, w4.heap.size = A := ⟨_, rfl⟩
    obtain ⟨W5, hW5⟩ : ∃ W5, (((w4.alloc (.cells #[.int .i64 0, .int .i64 tag, .bool false, .string L, .slice none 0 0] 24)).alloc (.cells #[.int .i64 0, .int .i64 tag, .bool false, .string s, .slice none 0 0] 24)).alloc (.cells #[.int .i64 0, .int .i64 tag, .bool false, .string M, .slice none 0 0] 24)).alloc (.cells #[.int .i64 c, .int .i64 t, .bool k, .string b, .slice a ks.length cap, .int .i64 0, .int .i64 tag, .bool false, .string L, .slice none 0 0] 24) = W5 := ⟨_, rfl⟩
    have hz5 : W5.heap.size = A + 4 := by rw [← hW5, ← hA]; simp
    have hEb : Blk W5 w.heap.size 24 #[.int .i64 c, .int .i64 t, .bool k, .string b, .slice a ks.length cap] := by rw [← hW5]; exact hEa.alloc _
    have hAb : Blk W5 A 24 #[.int .i64 0, .int .i64 tag, .bool false, .string L, .slice none 0 0] := by rw [← hW5, ← hA]; exact (((Blk.new w4 _ _).alloc _).alloc _).alloc _
    have hSb : Blk W5 (A + 1) 24 #[.int .i64 0, .int .i64 tag, .bool false, .string s, .slice none 0 0] := by
      have h0 := Blk.new (w4.alloc (.cells #[.int .i64 0, .int .i64 tag, .bool false, .string L, .slice none 0 0] 24)) 24 #[.int .i64 0, .int .i64 tag, .bool false, .string s, .slice none 0 0]
      rw [World.size_alloc, hA] at h0
      rw [← hW5]; exact (h0.alloc _).alloc _
    have hMb : Blk W5 (A + 1 + 1) 24 #[.int .i64 0, .int .i64 tag, .bool false, .string M, .slice none 0 0] := by
      have h0 := Blk.new ((w4.alloc (.cells #[.int .i64 0, .int .i64 tag, .bool false, .string L, .slice none 0 0] 24)).alloc (.cells #[.int .i64 0, .int .i64 tag, .bool false, .string s, .slice none 0 0] 24)) 24 #[.int .i64 0, .int .i64 tag, .bool false, .string M, .slice none 0 0]
      rw [World.size_alloc, World.size_alloc, hA] at h0
      rw [← hW5]; exact h0.alloc _
    have hPb : Blk W5 (A + 1 + 1 + 1) 24 #[.int .i64 c, .int .i64 t, .bool k, .string b, .slice a ks.length cap, .int .i64 0, .int .i64 tag, .bool false, .string L, .slice none 0 0] := by
      have h0 := Blk.new (((w4.alloc (.cells #[.int .i64 0, .int .i64 tag, .bool false, .string L, .slice none 0 0] 24)).alloc (.cells #[.int .i64 0, .int .i64 tag, .bool false, .string s, .slice none 0 0] 24)).alloc (.cells #[.int .i64 0, .int .i64 tag, .bool false, .string M, .slice none 0 0] 24)) 24 #[.int .i64 c, .int .i64 t, .bool k, .string b, .slice a ks.length cap, .int .i64 0, .int .i64 tag, .bool false, .string L, .slice none 0 0]
      rw [World.size_alloc, World.size_alloc, World.size_alloc, hA] at h0
      rw [← hW5]; exact h0
    have hB5 : Below w.heap.size w W5 := by
      rw [← hW5]
      have := hB4.size
      exact (((hB4.alloc this _).alloc (by simp; omega) _).alloc (by simp; omega) _).alloc (by simp; omega) _
    rw [hW5, hA]
    have hKE := HH.out.later hB5
    have hKP := pair_at hPb HFB.out HFL.out hKE (KsAt.nil W5)
    obtain ⟨A1, hA1⟩ : ∃ A1, A + 1 = A1 := ⟨_, rfl⟩
    rw [hA1] at hSb hMb hKP ⊢
    obtain ⟨A2, hA2⟩ : ∃ A2, A1 + 1 = A2 := ⟨_, rfl⟩
    rw [hA2] at hMb hKP ⊢
    have hKQ := seq_x hKP
    have HKQ := Lib.hid hKQ
    have HB5 := Lib.hid hB5
    have HEb := Lib.hid hEb
    have HAb := Lib.hid hAb
    have HSb := Lib.hid hSb
    have HMb := Lib.hid hMb
    have HKE5 := Lib.hid hKE
    have HZ5 := Lib.hid hz5
    clear hKQ hB5 hEb hAb hSb hMb hPb hKE hKP hEa hB4 HE4 c0 c1 c2 c3 c4 hA hW5 hz5 hA1 hA2
    (with_reducible refine HKQ.out.mono ?_)
    rintro e w6 ⟨v6, rfl, hk6, hb6⟩
    obtain ⟨aD, capD, rfl, _, _⟩ := hk6.at.len
    obtain ⟨V, hV0⟩ : ∃ V, w6.alloc (.cells #[.int .i64 0, .int .i64 16, .bool true, .string ⟨#[]⟩, .slice aD 2 capD] 24) = V := ⟨_, rfl⟩
    have hBV : Below w.heap.size w V := by
      rw [← hV0]
      have := HB5.out.size
      have := hb6.size
      exact (HB5.out.trans (hb6.mono (by omega))).alloc (by omega) _
    have HKD : Hid (∀ W', Below V.heap.size V W' → KsAt W' [.mk c t k b ks, .mk 0 tag false L []] (.slice aD 2 capD)) := Lib.hid (fun W' hW' => KsAt.later hW' (by rw [← hV0]; exact hk6.at.later ((Below.refl _ _).alloc (Nat.le_refl _) _)))
    have HKE : Hid (∀ W', Below V.heap.size V W' → KsAt W' ks (.slice a ks.length cap)) := Lib.hid (fun W' hW' => KsAt.later hW' (HH.out.later hBV))
    have HS : Hid (∀ w', Below V.heap.size V w' → w'.cell? ⟨w.heap.size, 0, none⟩ = some (.int .i64 c) ∧ w'.cell? ⟨w.heap.size, 1, none⟩ = some (.int .i64 t) ∧ w'.cell? ⟨w.heap.size, 2, none⟩ = some (.bool k) ∧ w'.cell? ⟨w.heap.size, 3, none⟩ = some (.string b) ∧ w'.cell? ⟨w.heap.size, 4, none⟩ = some (.slice a ks.length cap) ∧ w'.cell? ⟨A, 0, none⟩ = some (.int .i64 0) ∧ w'.cell? ⟨A, 1, none⟩ = some (.int .i64 tag) ∧ w'.cell? ⟨A, 2, none⟩ = some (.bool false) ∧ w'.cell? ⟨A, 3, none⟩ = some (.string L) ∧ w'.cell? ⟨A, 4, none⟩ = some (.slice none 0 0) ∧ w'.cell? ⟨A1, 0, none⟩ = some (.int .i64 0) ∧ w'.cell? ⟨A1, 1, none⟩ = some (.int .i64 tag) ∧ w'.cell? ⟨A1, 2, none⟩ = some (.bool false) ∧ w'.cell? ⟨A1, 3, none⟩ = some (.string s) ∧ w'.cell? ⟨A1, 4, none⟩ = some (.slice none 0 0) ∧ w'.cell? ⟨A2, 0, none⟩ = some (.int .i64 0) ∧ w'.cell? ⟨A2, 1, none⟩ = some (.int .i64 tag) ∧ w'.cell? ⟨A2, 2, none⟩ = some (.bool false) ∧ w'.cell? ⟨A2, 3, none⟩ = some (.string M) ∧ w'.cell? ⟨A2, 4, none⟩ = some (.slice none 0 0) ∧ w'.cell? ⟨w6.heap.size, 0, none⟩ = some (.int .i64 0) ∧ w'.cell? ⟨w6.heap.size, 1, none⟩ = some (.int .i64 16) ∧ w'.cell? ⟨w6.heap.size, 2, none⟩ = some (.bool true) ∧ w'.cell? ⟨w6.heap.size, 3, none⟩ = some (.string ⟨#[]⟩) ∧ w'.cell? ⟨w6.heap.size, 4, none⟩ = some (.slice aD 2 capD)) := Lib.hid (fun w' hW' => by
      have f1 := (HEb.out.below hb6 HEb.out.lt).alloc (.cells #[.int .i64 0, .int .i64 16, .bool true, .string ⟨#[]⟩, .slice aD 2 capD] 24)
      have f2 := (HAb.out.below hb6 HAb.out.lt).alloc (.cells #[.int .i64 0, .int .i64 16, .bool true, .string ⟨#[]⟩, .slice aD 2 capD] 24)
      have f3 := (HSb.out.below hb6 HSb.out.lt).alloc (.cells #[.int .i64 0, .int .i64 16, .bool true, .string ⟨#[]⟩, .slice aD 2 capD] 24)
      have f4 := (HMb.out.below hb6 HMb.out.lt).alloc (.cells #[.int .i64 0, .int .i64 16, .bool true, .string ⟨#[]⟩, .slice aD 2 capD] 24)
      have f5 := Blk.new w6 24 #[.int .i64 0, .int .i64 16, .bool true, .string ⟨#[]⟩, .slice aD 2 capD]
      rw [hV0] at f1 f2 f3 f4 f5
      have f1 := f1.below hW' f1.lt
      have f2 := f2.below hW' f2.lt
      have f3 := f3.below hW' f3.lt
      have f4 := f4.below hW' f4.lt
      have f5 := f5.below hW' f5.lt
      exact ⟨f1.cell 0, f1.cell 1, f1.cell 2, f1.cell 3, f1.cell 4, f2.cell 0, f2.cell 1, f2.cell 2, f2.cell 3, f2.cell 4, f3.cell 0, f3.cell 1, f3.cell 2, f3.cell 3, f3.cell 4, f4.cell 0, f4.cell 1, f4.cell 2, f4.cell 3, f4.cell 4, f5.cell 0, f5.cell 1, f5.cell 2, f5.cell 3, f5.cell 4⟩)
    have HBV := Lib.hid hBV
    clear HB5 HEb HAb HSb HMb HKE5 HZ5 HKQ hk6 hb6 hBV HG1 HG2 HH
    go_wp2_with fail
    have hV : Below V.heap.size V V := Below.refl _ _
    have hf4 := fun (a7 : Option Addr) (cap7 : Nat) W => field4 a7 cap7 W
    have hf2 := fun (a7 : Option Addr) (cap7 : Nat) W => field2 a7 cap7 W
    clear hV0

    go_region_held3 (fun w' => w'.cell? ⟨w.heap.size, 0, none⟩ = some (.int .i64 c) ∧ w'.cell? ⟨w.heap.size, 1, none⟩ = some (.int .i64 t) ∧ w'.cell? ⟨w.heap.size, 2, none⟩ = some (.bool k) ∧ w'.cell? ⟨w.heap.size, 3, none⟩ = some (.string b) ∧ w'.cell? ⟨w.heap.size, 4, none⟩ = some (.slice a ks.length cap) ∧ w'.cell? ⟨A, 0, none⟩ = some (.int .i64 0) ∧ w'.cell? ⟨A, 1, none⟩ = some (.int .i64 tag) ∧ w'.cell? ⟨A, 2, none⟩ = some (.bool false) ∧ w'.cell? ⟨A, 3, none⟩ = some (.string L) ∧ w'.cell? ⟨A, 4, none⟩ = some (.slice none 0 0) ∧ w'.cell? ⟨A1, 0, none⟩ = some (.int .i64 0) ∧ w'.cell? ⟨A1, 1, none⟩ = some (.int .i64 tag) ∧ w'.cell? ⟨A1, 2, none⟩ = some (.bool false) ∧ w'.cell? ⟨A1, 3, none⟩ = some (.string s) ∧ w'.cell? ⟨A1, 4, none⟩ = some (.slice none 0 0) ∧ w'.cell? ⟨A2, 0, none⟩ = some (.int .i64 0) ∧ w'.cell? ⟨A2, 1, none⟩ = some (.int .i64 tag) ∧ w'.cell? ⟨A2, 2, none⟩ = some (.bool false) ∧ w'.cell? ⟨A2, 3, none⟩ = some (.string M) ∧ w'.cell? ⟨A2, 4, none⟩ = some (.slice none 0 0) ∧ w'.cell? ⟨w6.heap.size, 0, none⟩ = some (.int .i64 0) ∧ w'.cell? ⟨w6.heap.size, 1, none⟩ = some (.int .i64 16) ∧ w'.cell? ⟨w6.heap.size, 2, none⟩ = some (.bool true) ∧ w'.cell? ⟨w6.heap.size, 3, none⟩ = some (.string ⟨#[]⟩) ∧ w'.cell? ⟨w6.heap.size, 4, none⟩ = some (.slice aD 2 capD)) (first | exact HS.out _ hV | exact HS.out _ (hV.alloc hV.size _) | exact HS.out _ (below_drew1 hV) | go_keep)
      ((first
        | ((with_reducible refine (alive_any _).mono ?_); rintro e w7 ⟨rfl, hb7⟩; have hV := belowStep (below_drew1 hV) hb7; clear hb7)
        | ((with_reducible refine (HR1.out _).mono ?_); rintro e w7 ⟨rfl, hb7⟩; have hV := belowStep hV hb7; clear hb7)
        | ((with_reducible refine (rStr_x tag s _).mono ?_); rintro e w7 ⟨rfl, hb7⟩; have hV := belowStep hV hb7; clear hb7)
        | ((with_reducible refine (HR2.out _).mono ?_); rintro e w7 ⟨rfl, hb7⟩; have hV := belowStep hV hb7; clear hb7)
        | ((with_reducible refine (same_nil _ _ _ _ _).mono ?_); rintro e w7 ⟨rfl, hb7⟩; have hV := belowStep hV hb7; clear hb7)
        | ((with_reducible refine (rSeq_x _ _ _ _).mono ?_); rintro e w7 ⟨rfl, hb7⟩; have hP := KsAt.later hb7 (pair_at (Blk.new _ _ _) HFB.out HFL.out (HKE.out _ (hV.alloc hV.size _)) (KsAt.nil _)); have hV := belowStep (hV.alloc hV.size _) hb7; clear hb7)
        | ((with_reducible refine (same_any (HKD.out _ hV) _ 0 16 true ⟨#[]⟩ _ hP (Below.refl _ _)).mono ?_); rintro e w7 ⟨rfl, hb7⟩; have hV := belowStep hV hb7; clear hb7 hP)
        | ((with_reducible refine (as_x (HKE.out _ hV) c t k b cl tag).mono ?_); rintro e w7 ⟨v7, rfl, hk7, hb7⟩; obtain ⟨a7, cap7, rfl, _, _⟩ := hk7.at.len; have hKA := hk7.at; have hV := belowStep hV hb7; clear hb7 hk7)
        | ((with_reducible refine (rAs_x c t k b a ks.length cap cl tag _).mono ?_); rintro e w7 ⟨rfl, hb7⟩; (try have hKA := KsAt.later hb7 hKA); have hV := belowStep hV hb7; clear hb7)
        | ((with_reducible refine (same_any hKA _ cl tag k b _ (HKE.out _ hV) (Below.refl _ _)).mono ?_); rintro e w7 ⟨rfl, hb7⟩; have hV := belowStep hV hb7; clear hb7 hKA)
        | ((with_reducible refine (seq_x (KsAt.nil _)).mono ?_); rintro e w7 ⟨v7, rfl, hk7, hb7⟩; obtain ⟨a7, cap7, rfl, _, _⟩ := hk7.at.len; have hV := belowStep hV hb7; clear hb7 hk7)))
    all_goals
      go_wp2_with fail
      go_ret
      exact ⟨rfl, HBV.out.trans (hV.mono HBV.out.size)⟩
end Go.Proofs.Ytejnfnpcabldeaa
