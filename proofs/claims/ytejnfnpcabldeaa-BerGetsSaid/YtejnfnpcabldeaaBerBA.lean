/- The contracts of the readers of elements: is, GetInt, GetStr, GetBool, GetKids, on both sides; chancerybook.SameElements. -/
import Derived.Test.YtejnfnpcabldeaaBerQ
import Derived.Test.YtejnfnpcabldeaaBerF
import Derived.Test.YtejnfnpcabldeaaBerR
import Derived.Test.YtejnfnpcabldeaaOctE
namespace Go.Proofs.Ytejnfnpcabldeaa
open Go.RowKit Ber
def isB (c t : Int) (k : Bool) (z1 z2 : Int) (kk : Bool) : Bool := (c == z1) && ((t == z2) && (k == kk))
def giV (q : Bool) (b : ByteArray) : Value := if q = true ∧ (1 ≤ b.size ∧ b.size ≤ 8) then .tuple #[.int .i64 (Oct.sgnZ b.data.toList), .int .i64 0] else .tuple #[.int .i64 0, .int .i64 24]
def gbV (q : Bool) (b : ByteArray) : Value := if h : q = true ∧ b.size = 1 then .tuple #[.bool (((b[0]'(by omega)).toNat : Int) != 0), .int .i64 0] else .tuple #[.bool false, .int .i64 24]
theorem giV_shape (q : Bool) (b : ByteArray) : ∃ v r, giV q b = .tuple #[.int .i64 v, .int .i64 r] := by
  unfold giV
  split
  · exact ⟨_, _, rfl⟩
  · exact ⟨_, _, rfl⟩
theorem gbV_shape (q : Bool) (b : ByteArray) : ∃ v r, gbV q b = .tuple #[.bool v, .int .i64 r] := by
  unfold gbV
  split
  · exact ⟨_, _, rfl⟩
  · exact ⟨_, _, rfl⟩
theorem signed_var (s : ByteArray) (w : World) (v r : Int) (h : Hid (sgnV s = .tuple #[.int .i64 v, .int .i64 r])) : Calls Try.prog 56 #[.string s] w fun e w' => e = .returned (.tuple #[.int .i64 v, .int .i64 r]) ∧ w = w' := by
  rw [← h.out]
  exact signed_any s w
theorem rsigned_var (s : ByteArray) (w : World) (v r : Int) (h : Hid (sgnV s = .tuple #[.int .i64 v, .int .i64 r])) : Calls Try.prog 59 #[.string s] w fun e w' => e = .returned (.tuple #[.int .i64 v, .int .i64 r]) ∧ w = w' := by
  rw [← h.out]
  exact refSigned_any s w
set_option maxHeartbeats 1000000 in
theorem is_any (c t : Int) (k : Bool) (b : ByteArray) (a : Option Addr) (n cap : Nat) (z1 z2 : Int) (kk q : Bool) (h : Hid (isB c t k z1 z2 kk = q)) (w : World) : Calls Try.prog 57 #[.agg #[.int .i64 c, .int .i64 t, .bool k, .string b, .slice a n cap], .int .i64 z1, .int .i64 z2, .bool kk] w fun e w' => e = .returned (.bool q) ∧ Below w.heap.size w w' := by
  obtain ⟨q1, h1⟩ : ∃ q1, (c == z1) = q1 := ⟨_, rfl⟩
  obtain ⟨q2, h2⟩ : ∃ q2, (t == z2) = q2 := ⟨_, rfl⟩
  obtain ⟨q3, h3⟩ : ∃ q3, (k == kk) = q3 := ⟨_, rfl⟩
  have hq := h.out
  unfold isB at hq
  rw [h1, h2, h3] at hq
  subst hq
  clear h
  cases q1 <;> cases q2 <;> cases q3
  all_goals
    go_enter Try.func57, Try.ntmps57
    go_wp2_with fail
    go_ret
    exact ⟨rfl, (Below.refl _ _).alloc (Nat.le_refl _) _⟩
set_option maxHeartbeats 1000000 in
theorem ris_any (c t : Int) (k : Bool) (b : ByteArray) (a : Option Addr) (n cap : Nat) (z1 z2 : Int) (kk q : Bool) (h : Hid (isB c t k z1 z2 kk = q)) (w : World) : Calls Try.prog 58 #[.agg #[.int .i64 c, .int .i64 t, .bool k, .string b, .slice a n cap], .int .i64 z1, .int .i64 z2, .bool kk] w fun e w' => e = .returned (.bool q) ∧ Below w.heap.size w w' := by
  obtain ⟨q1, h1⟩ : ∃ q1, (c == z1) = q1 := ⟨_, rfl⟩
  obtain ⟨q2, h2⟩ : ∃ q2, (t == z2) = q2 := ⟨_, rfl⟩
  obtain ⟨q3, h3⟩ : ∃ q3, (k == kk) = q3 := ⟨_, rfl⟩
  have hq := h.out
  unfold isB at hq
  rw [h1, h2, h3] at hq
  subst hq
  clear h
  cases q1 <;> cases q2 <;> cases q3
  all_goals
    go_enter Try.func58, Try.ntmps58
    go_wp2_with fail
    go_ret
    exact ⟨rfl, (Below.refl _ _).alloc (Nat.le_refl _) _⟩
set_option maxHeartbeats 1000000 in
theorem getStr_any (c t : Int) (k : Bool) (b : ByteArray) (a : Option Addr) (n cap : Nat) (z1 z2 : Int) (q : Bool) (h : Hid (isB c t k z1 z2 false = q)) (w : World) : Calls Try.prog 32 #[.agg #[.int .i64 c, .int .i64 t, .bool k, .string b, .slice a n cap], .int .i64 z1, .int .i64 z2] w fun e w' => e = .returned (.tuple #[.string (if q then b else ⟨#[]⟩), .int .i64 (if q then 0 else 24)]) ∧ Below w.heap.size w w' := by
  have hB := fun (w1 : World) (hb : Below (w.alloc (.cells #[.int .i64 c, .int .i64 t, .bool k, .string b, .slice a n cap] 24)).heap.size (w.alloc (.cells #[.int .i64 c, .int .i64 t, .bool k, .string b, .slice a n cap] 24)) w1) => ((Below.refl w.heap.size w).alloc (Nat.le_refl _) (.cells #[.int .i64 c, .int .i64 t, .bool k, .string b, .slice a n cap] 24)).trans (hb.mono (by simp))
  have HB := Lib.hid hB
  clear hB
  cases q
  · go_enter Try.func32, Try.ntmps32
    go_wp2_with fail
    (with_reducible refine (is_any c t k b a n cap z1 z2 false false h _).mono ?_)
    rintro e w1 ⟨rfl, hb1⟩
    obtain ⟨d0, d1, d2, d3, d4⟩ := ((Blk.new w 24 #[.int .i64 c, .int .i64 t, .bool k, .string b, .slice a n cap]).below hb1 (by simp)).five
    have HB1 := Lib.hid (HB.out _ hb1)
    clear hb1
    go_wp2_with fail
    go_ret2
    exact ⟨rfl, HB1.out⟩
  · go_enter Try.func32, Try.ntmps32
    go_wp2_with fail
    (with_reducible refine (is_any c t k b a n cap z1 z2 false true h _).mono ?_)
    rintro e w1 ⟨rfl, hb1⟩
    obtain ⟨d0, d1, d2, d3, d4⟩ := ((Blk.new w 24 #[.int .i64 c, .int .i64 t, .bool k, .string b, .slice a n cap]).below hb1 (by simp)).five
    have HB1 := Lib.hid (HB.out _ hb1)
    clear hb1
    go_wp2_with fail
    go_ret2
    exact ⟨rfl, HB1.out⟩
set_option maxHeartbeats 1000000 in
theorem getBool_any (c t : Int) (k : Bool) (b : ByteArray) (a : Option Addr) (n cap : Nat) (z1 z2 : Int) (q : Bool) (h : Hid (isB c t k z1 z2 false = q)) (w : World) : Calls Try.prog 34 #[.agg #[.int .i64 c, .int .i64 t, .bool k, .string b, .slice a n cap], .int .i64 z1, .int .i64 z2] w fun e w' => e = .returned (gbV q b) ∧ Below w.heap.size w w' := by
  have hB := fun (w1 : World) (hb : Below (w.alloc (.cells #[.int .i64 c, .int .i64 t, .bool k, .string b, .slice a n cap] 24)).heap.size (w.alloc (.cells #[.int .i64 c, .int .i64 t, .bool k, .string b, .slice a n cap] 24)) w1) => ((Below.refl w.heap.size w).alloc (Nat.le_refl _) (.cells #[.int .i64 c, .int .i64 t, .bool k, .string b, .slice a n cap] 24)).trans (hb.mono (by simp))
  have HB := Lib.hid hB
  clear hB
  cases q
  · have hg : gbV false b = .tuple #[.bool false, .int .i64 24] := by unfold gbV; rw [dif_neg (by simp)]
    rw [hg]
    clear hg
    go_enter Try.func34, Try.ntmps34
    go_wp2_with fail
    (with_reducible refine (is_any c t k b a n cap z1 z2 false false h _).mono ?_)
    rintro e w1 ⟨rfl, hb1⟩
    obtain ⟨d0, d1, d2, d3, d4⟩ := ((Blk.new w 24 #[.int .i64 c, .int .i64 t, .bool k, .string b, .slice a n cap]).below hb1 (by simp)).five
    have HB1 := Lib.hid (HB.out _ hb1)
    clear hb1
    go_wp2_with fail
    go_ret2
    exact ⟨rfl, HB1.out⟩
  · by_cases hs : b.size = 1
    · have h0 : 0 < b.size := by omega
      obtain ⟨x, hx⟩ : ∃ x : Int, ((b[0]'h0).toNat : Int) = x := ⟨_, rfl⟩
      have hg : gbV true b = .tuple #[.bool (x != 0), .int .i64 0] := by unfold gbV; rw [dif_pos ⟨rfl, hs⟩, hx]
      rw [hg]
      have hsb : ((b.size : Int) != 1) = false := by rw [hs]; rfl
      clear hg hs
      go_enter Try.func34, Try.ntmps34
      go_wp2_with fail
      (with_reducible refine (is_any c t k b a n cap z1 z2 false true h _).mono ?_)
      rintro e w1 ⟨rfl, hb1⟩
      obtain ⟨d0, d1, d2, d3, d4⟩ := ((Blk.new w 24 #[.int .i64 c, .int .i64 t, .bool k, .string b, .slice a n cap]).below hb1 (by simp)).five
      have HB1 := Lib.hid (HB.out _ hb1)
      clear hb1
      go_wp2_with fail
      go_ret2
      exact ⟨rfl, HB1.out⟩
    · have hg : gbV true b = .tuple #[.bool false, .int .i64 24] := by unfold gbV; rw [dif_neg (fun h => hs h.2)]
      rw [hg]
      have hsb : ((b.size : Int) != 1) = true := by rw [bne_iff_ne]; omega
      clear hg hs
      go_enter Try.func34, Try.ntmps34
      go_wp2_with fail
      (with_reducible refine (is_any c t k b a n cap z1 z2 false true h _).mono ?_)
      rintro e w1 ⟨rfl, hb1⟩
      obtain ⟨d0, d1, d2, d3, d4⟩ := ((Blk.new w 24 #[.int .i64 c, .int .i64 t, .bool k, .string b, .slice a n cap]).below hb1 (by simp)).five
      have HB1 := Lib.hid (HB.out _ hb1)
      clear hb1
      go_wp2_with fail
      go_ret2
      exact ⟨rfl, HB1.out⟩
set_option maxHeartbeats 1000000 in
theorem rgetStr_any (c t : Int) (k : Bool) (b : ByteArray) (a : Option Addr) (n cap : Nat) (z1 z2 : Int) (q : Bool) (h : Hid (isB c t k z1 z2 false = q)) (w : World) : Calls Try.prog 33 #[.agg #[.int .i64 c, .int .i64 t, .bool k, .string b, .slice a n cap], .int .i64 z1, .int .i64 z2] w fun e w' => e = .returned (.tuple #[.string (if q then b else ⟨#[]⟩), .int .i64 (if q then 0 else 24)]) ∧ Below w.heap.size w w' := by
  have hB := fun (w1 : World) (hb : Below (w.alloc (.cells #[.int .i64 c, .int .i64 t, .bool k, .string b, .slice a n cap] 24)).heap.size (w.alloc (.cells #[.int .i64 c, .int .i64 t, .bool k, .string b, .slice a n cap] 24)) w1) => ((Below.refl w.heap.size w).alloc (Nat.le_refl _) (.cells #[.int .i64 c, .int .i64 t, .bool k, .string b, .slice a n cap] 24)).trans (hb.mono (by simp))
  have HB := Lib.hid hB
  clear hB
  cases q
  · go_enter Try.func33, Try.ntmps33
    go_wp2_with fail
    (with_reducible refine (ris_any c t k b a n cap z1 z2 false false h _).mono ?_)
    rintro e w1 ⟨rfl, hb1⟩
    obtain ⟨d0, d1, d2, d3, d4⟩ := ((Blk.new w 24 #[.int .i64 c, .int .i64 t, .bool k, .string b, .slice a n cap]).below hb1 (by simp)).five
    have HB1 := Lib.hid (HB.out _ hb1)
    clear hb1
    go_wp2_with fail
    go_ret2
    exact ⟨rfl, HB1.out⟩
  · go_enter Try.func33, Try.ntmps33
    go_wp2_with fail
    (with_reducible refine (ris_any c t k b a n cap z1 z2 false true h _).mono ?_)
    rintro e w1 ⟨rfl, hb1⟩
    obtain ⟨d0, d1, d2, d3, d4⟩ := ((Blk.new w 24 #[.int .i64 c, .int .i64 t, .bool k, .string b, .slice a n cap]).below hb1 (by simp)).five
    have HB1 := Lib.hid (HB.out _ hb1)
    clear hb1
    go_wp2_with fail
    go_ret2
    exact ⟨rfl, HB1.out⟩
set_option maxHeartbeats 1000000 in
theorem rgetBool_any (c t : Int) (k : Bool) (b : ByteArray) (a : Option Addr) (n cap : Nat) (z1 z2 : Int) (q : Bool) (h : Hid (isB c t k z1 z2 false = q)) (w : World) : Calls Try.prog 35 #[.agg #[.int .i64 c, .int .i64 t, .bool k, .string b, .slice a n cap], .int .i64 z1, .int .i64 z2] w fun e w' => e = .returned (gbV q b) ∧ Below w.heap.size w w' := by
  have hB := fun (w1 : World) (hb : Below (w.alloc (.cells #[.int .i64 c, .int .i64 t, .bool k, .string b, .slice a n cap] 24)).heap.size (w.alloc (.cells #[.int .i64 c, .int .i64 t, .bool k, .string b, .slice a n cap] 24)) w1) => ((Below.refl w.heap.size w).alloc (Nat.le_refl _) (.cells #[.int .i64 c, .int .i64 t, .bool k, .string b, .slice a n cap] 24)).trans (hb.mono (by simp))
  have HB := Lib.hid hB
  clear hB
  cases q
  · have hg : gbV false b = .tuple #[.bool false, .int .i64 24] := by unfold gbV; rw [dif_neg (by simp)]
    rw [hg]
    clear hg
    go_enter Try.func35, Try.ntmps35
    go_wp2_with fail
    (with_reducible refine (ris_any c t k b a n cap z1 z2 false false h _).mono ?_)
    rintro e w1 ⟨rfl, hb1⟩
    obtain ⟨d0, d1, d2, d3, d4⟩ := ((Blk.new w 24 #[.int .i64 c, .int .i64 t, .bool k, .string b, .slice a n cap]).below hb1 (by simp)).five
    have HB1 := Lib.hid (HB.out _ hb1)
    clear hb1
    go_wp2_with fail
    go_ret2
    exact ⟨rfl, HB1.out⟩
  · by_cases hs : b.size = 1
    · have h0 : 0 < b.size := by omega
      obtain ⟨x, hx⟩ : ∃ x : Int, ((b[0]'h0).toNat : Int) = x := ⟨_, rfl⟩
      have hg : gbV true b = .tuple #[.bool (x != 0), .int .i64 0] := by unfold gbV; rw [dif_pos ⟨rfl, hs⟩, hx]
      rw [hg]
      have hsb : ((b.size : Int) != 1) = false := by rw [hs]; rfl
      clear hg hs
      go_enter Try.func35, Try.ntmps35
      go_wp2_with fail
      (with_reducible refine (ris_any c t k b a n cap z1 z2 false true h _).mono ?_)
      rintro e w1 ⟨rfl, hb1⟩
      obtain ⟨d0, d1, d2, d3, d4⟩ := ((Blk.new w 24 #[.int .i64 c, .int .i64 t, .bool k, .string b, .slice a n cap]).below hb1 (by simp)).five
      have HB1 := Lib.hid (HB.out _ hb1)
      clear hb1
      go_wp2_with fail
      go_ret2
      exact ⟨rfl, HB1.out⟩
    · have hg : gbV true b = .tuple #[.bool false, .int .i64 24] := by unfold gbV; rw [dif_neg (fun h => hs h.2)]
      rw [hg]
      have hsb : ((b.size : Int) != 1) = true := by rw [bne_iff_ne]; omega
      clear hg hs
      go_enter Try.func35, Try.ntmps35
      go_wp2_with fail
      (with_reducible refine (ris_any c t k b a n cap z1 z2 false true h _).mono ?_)
      rintro e w1 ⟨rfl, hb1⟩
      obtain ⟨d0, d1, d2, d3, d4⟩ := ((Blk.new w 24 #[.int .i64 c, .int .i64 t, .bool k, .string b, .slice a n cap]).below hb1 (by simp)).five
      have HB1 := Lib.hid (HB.out _ hb1)
      clear hb1
      go_wp2_with fail
      go_ret2
      exact ⟨rfl, HB1.out⟩
set_option maxHeartbeats 1000000 in
theorem getInt_any (c t : Int) (k : Bool) (b : ByteArray) (a : Option Addr) (n cap : Nat) (z1 z2 : Int) (q : Bool) (h : Hid (isB c t k z1 z2 false = q)) (w : World) : Calls Try.prog 30 #[.agg #[.int .i64 c, .int .i64 t, .bool k, .string b, .slice a n cap], .int .i64 z1, .int .i64 z2] w fun e w' => e = .returned (giV q b) ∧ Below w.heap.size w w' := by
  have hB := fun (w1 : World) (hb : Below (w.alloc (.cells #[.int .i64 c, .int .i64 t, .bool k, .string b, .slice a n cap] 24)).heap.size (w.alloc (.cells #[.int .i64 c, .int .i64 t, .bool k, .string b, .slice a n cap] 24)) w1) => ((Below.refl w.heap.size w).alloc (Nat.le_refl _) (.cells #[.int .i64 c, .int .i64 t, .bool k, .string b, .slice a n cap] 24)).trans (hb.mono (by simp))
  have HB := Lib.hid hB
  clear hB
  by_cases hz : 1 ≤ b.size ∧ b.size ≤ 8
  · obtain ⟨x, hx⟩ : ∃ x, Oct.sgnZ b.data.toList = x := ⟨_, rfl⟩
    have hs : Hid (sgnV b = .tuple #[.int .i64 x, .int .i64 0]) := Lib.hid (by unfold sgnV; rw [if_pos hz, hx])
    cases q
    · have hg : giV false b = .tuple #[.int .i64 0, .int .i64 24] := by unfold giV; rw [if_neg (by simp)]
      rw [hg]
      clear hg hx hz
      go_enter Try.func30, Try.ntmps30
      go_wp2_with fail
      (with_reducible refine (signed_var _ _ x 0 hs).mono ?_)
      rintro e w0 ⟨rfl, rfl⟩
      go_wp2_with fail
      (with_reducible refine (is_any c t k b a n cap z1 z2 false false h _).mono ?_)
      rintro e w1 ⟨rfl, hb1⟩
      have HB1 := Lib.hid (HB.out _ hb1)
      clear hb1
      go_wp2_with fail
      go_ret2
      exact ⟨rfl, HB1.out⟩
    · have hg : giV true b = .tuple #[.int .i64 x, .int .i64 0] := by unfold giV; rw [if_pos ⟨rfl, hz⟩, hx]
      rw [hg]
      clear hg hx hz
      go_enter Try.func30, Try.ntmps30
      go_wp2_with fail
      (with_reducible refine (signed_var _ _ x 0 hs).mono ?_)
      rintro e w0 ⟨rfl, rfl⟩
      go_wp2_with fail
      (with_reducible refine (is_any c t k b a n cap z1 z2 false true h _).mono ?_)
      rintro e w1 ⟨rfl, hb1⟩
      have HB1 := Lib.hid (HB.out _ hb1)
      clear hb1
      go_wp2_with fail
      go_ret2
      exact ⟨rfl, HB1.out⟩
  · have hs : Hid (sgnV b = .tuple #[.int .i64 0, .int .i64 1]) := Lib.hid (by unfold sgnV; rw [if_neg hz])
    have hg : giV q b = .tuple #[.int .i64 0, .int .i64 24] := by unfold giV; rw [if_neg (fun h => hz h.2)]
    rw [hg]
    clear hg hz
    cases q
    · go_enter Try.func30, Try.ntmps30
      go_wp2_with fail
      (with_reducible refine (signed_var _ _ 0 1 hs).mono ?_)
      rintro e w0 ⟨rfl, rfl⟩
      go_wp2_with fail
      (with_reducible refine (is_any c t k b a n cap z1 z2 false false h _).mono ?_)
      rintro e w1 ⟨rfl, hb1⟩
      have HB1 := Lib.hid (HB.out _ hb1)
      clear hb1
      go_wp2_with fail
      go_ret2
      exact ⟨rfl, HB1.out⟩
    · go_enter Try.func30, Try.ntmps30
      go_wp2_with fail
      (with_reducible refine (signed_var _ _ 0 1 hs).mono ?_)
      rintro e w0 ⟨rfl, rfl⟩
      go_wp2_with fail
      (with_reducible refine (is_any c t k b a n cap z1 z2 false true h _).mono ?_)
      rintro e w1 ⟨rfl, hb1⟩
      have HB1 := Lib.hid (HB.out _ hb1)
      clear hb1
      go_wp2_with fail
      go_ret2
      exact ⟨rfl, HB1.out⟩
set_option maxHeartbeats 1000000 in
theorem rgetInt_any (c t : Int) (k : Bool) (b : ByteArray) (a : Option Addr) (n cap : Nat) (z1 z2 : Int) (q : Bool) (h : Hid (isB c t k z1 z2 false = q)) (w : World) : Calls Try.prog 31 #[.agg #[.int .i64 c, .int .i64 t, .bool k, .string b, .slice a n cap], .int .i64 z1, .int .i64 z2] w fun e w' => e = .returned (giV q b) ∧ Below w.heap.size w w' := by
  have hB := fun (w1 : World) (hb : Below (w.alloc (.cells #[.int .i64 c, .int .i64 t, .bool k, .string b, .slice a n cap] 24)).heap.size (w.alloc (.cells #[.int .i64 c, .int .i64 t, .bool k, .string b, .slice a n cap] 24)) w1) => ((Below.refl w.heap.size w).alloc (Nat.le_refl _) (.cells #[.int .i64 c, .int .i64 t, .bool k, .string b, .slice a n cap] 24)).trans (hb.mono (by simp))
  have HB := Lib.hid hB
  clear hB
  cases q
  · have hg : giV false b = .tuple #[.int .i64 0, .int .i64 24] := by unfold giV; rw [if_neg (by simp)]
    rw [hg]
    clear hg
    go_enter Try.func31, Try.ntmps31
    go_wp2_with fail
    (with_reducible refine (ris_any c t k b a n cap z1 z2 false false h _).mono ?_)
    rintro e w1 ⟨rfl, hb1⟩
    obtain ⟨d0, d1, d2, d3, d4⟩ := ((Blk.new w 24 #[.int .i64 c, .int .i64 t, .bool k, .string b, .slice a n cap]).below hb1 (by simp)).five
    have HB1 := Lib.hid (HB.out _ hb1)
    clear hb1
    go_wp2_with fail
    go_ret2
    exact ⟨rfl, HB1.out⟩
  · obtain ⟨zb, hzb⟩ : ∃ zb : Int, (b.size : Int) = zb := ⟨_, rfl⟩
    by_cases l1 : zb < 1
    · have hg : giV true b = .tuple #[.int .i64 0, .int .i64 24] := by unfold giV; rw [if_neg (fun h => by omega)]
      rw [hg]
      clear hg
      go_enter Try.func31, Try.ntmps31
      go_wp2_with fail
      (with_reducible refine (ris_any c t k b a n cap z1 z2 false true h _).mono ?_)
      rintro e w1 ⟨rfl, hb1⟩
      obtain ⟨d0, d1, d2, d3, d4⟩ := ((Blk.new w 24 #[.int .i64 c, .int .i64 t, .bool k, .string b, .slice a n cap]).below hb1 (by simp)).five
      have HB1 := Lib.hid (HB.out _ hb1)
      clear hb1
      go_wp2_with fail
      go_ret2
      exact ⟨rfl, HB1.out⟩
    · by_cases l2 : 8 < zb
      · have hg : giV true b = .tuple #[.int .i64 0, .int .i64 24] := by unfold giV; rw [if_neg (fun h => by omega)]
        rw [hg]
        clear hg
        go_enter Try.func31, Try.ntmps31
        go_wp2_with fail
        (with_reducible refine (ris_any c t k b a n cap z1 z2 false true h _).mono ?_)
        rintro e w1 ⟨rfl, hb1⟩
        obtain ⟨d0, d1, d2, d3, d4⟩ := ((Blk.new w 24 #[.int .i64 c, .int .i64 t, .bool k, .string b, .slice a n cap]).below hb1 (by simp)).five
        have HB1 := Lib.hid (HB.out _ hb1)
        clear hb1
        go_wp2_with fail
        go_ret2
        exact ⟨rfl, HB1.out⟩
      · have hz : 1 ≤ b.size ∧ b.size ≤ 8 := by omega
        obtain ⟨x, hx⟩ : ∃ x, Oct.sgnZ b.data.toList = x := ⟨_, rfl⟩
        have hs : Hid (sgnV b = .tuple #[.int .i64 x, .int .i64 0]) := Lib.hid (by unfold sgnV; rw [if_pos hz, hx])
        have hg : giV true b = .tuple #[.int .i64 x, .int .i64 0] := by unfold giV; rw [if_pos ⟨rfl, hz⟩, hx]
        rw [hg]
        clear hg hx hz
        go_enter Try.func31, Try.ntmps31
        go_wp2_with fail
        (with_reducible refine (ris_any c t k b a n cap z1 z2 false true h _).mono ?_)
        rintro e w1 ⟨rfl, hb1⟩
        obtain ⟨d0, d1, d2, d3, d4⟩ := ((Blk.new w 24 #[.int .i64 c, .int .i64 t, .bool k, .string b, .slice a n cap]).below hb1 (by simp)).five
        have HB1 := Lib.hid (HB.out _ hb1)
        clear hb1
        go_wp2_with fail
        (with_reducible refine (rsigned_var _ _ x 0 hs).mono ?_)
        rintro e w2 ⟨rfl, rfl⟩
        go_wp2_with fail
        go_ret2
        exact ⟨rfl, HB1.out⟩
/-- what a GetKids leaves -/
def GkPost (w0 : World) (q : Bool) (ks : List El) (e : Ending) (w' : World) : Prop := ∃ v, e = .returned (.tuple #[v, .int .i64 (if q then 0 else 24)]) ∧ KsAt w' (if q then ks else []) v ∧ Below w0.heap.size w0 w'
set_option maxHeartbeats 1000000 in
theorem getKids_any {w' : World} {ks : List El} {a : Option Addr} {n cap : Nat} (hk : KsAt w' ks (.slice a n cap)) (c t : Int) (k : Bool) (b : ByteArray) (z1 z2 : Int) (q : Bool) (h : Hid (isB c t k z1 z2 true = q)) (w : World) (hw : Below w'.heap.size w' w) : Calls Try.prog 36 #[.agg #[.int .i64 c, .int .i64 t, .bool k, .string b, .slice a n cap], .int .i64 z1, .int .i64 z2] w fun e w1 => GkPost w q ks e w1 := by
  have hB := fun (w1 : World) (hb : Below (w.alloc (.cells #[.int .i64 c, .int .i64 t, .bool k, .string b, .slice a n cap] 24)).heap.size (w.alloc (.cells #[.int .i64 c, .int .i64 t, .bool k, .string b, .slice a n cap] 24)) w1) => ((Below.refl w.heap.size w).alloc (Nat.le_refl _) (.cells #[.int .i64 c, .int .i64 t, .bool k, .string b, .slice a n cap] 24)).trans (hb.mono (by simp))
  have HB := Lib.hid hB
  clear hB
  have HK := Lib.hid (hk.later hw)
  clear hk hw
  cases q
  · go_enter Try.func36, Try.ntmps36
    go_wp2_with fail
    (with_reducible refine (is_any c t k b a n cap z1 z2 true false h _).mono ?_)
    rintro e w1 ⟨rfl, hb1⟩
    have HB1 := Lib.hid (HB.out _ hb1)
    clear hb1
    go_wp2_with fail
    go_ret2
    exact ⟨_, rfl, KsAt.nil _, HB1.out⟩
  · go_enter Try.func36, Try.ntmps36
    go_wp2_with fail
    (with_reducible refine (is_any c t k b a n cap z1 z2 true true h _).mono ?_)
    rintro e w1 ⟨rfl, hb1⟩
    obtain ⟨d0, d1, d2, d3, d4⟩ := ((Blk.new w 24 #[.int .i64 c, .int .i64 t, .bool k, .string b, .slice a n cap]).below hb1 (by simp)).five
    have HB1 := Lib.hid (HB.out _ hb1)
    have HK1 := Lib.hid (HK.out.later HB1.out)
    clear hb1
    go_wp2_with fail
    (with_reducible refine (copies_any HK1.out _ (Below.refl _ _)).mono ?_)
    rintro e w2 ⟨v2, rfl, hk2, hb2⟩
    obtain ⟨a2, cap2, rfl, _, _⟩ := hk2.at.len
    go_wp2_with fail
    go_ret2
    exact ⟨_, rfl, hk2.at, HB1.out.trans (hb2.mono HB1.out.size)⟩
set_option maxHeartbeats 1000000 in
theorem rgetKids_any {w' : World} {ks : List El} {a : Option Addr} {n cap : Nat} (hk : KsAt w' ks (.slice a n cap)) (c t : Int) (k : Bool) (b : ByteArray) (z1 z2 : Int) (q : Bool) (h : Hid (isB c t k z1 z2 true = q)) (w : World) (hw : Below w'.heap.size w' w) : Calls Try.prog 37 #[.agg #[.int .i64 c, .int .i64 t, .bool k, .string b, .slice a n cap], .int .i64 z1, .int .i64 z2] w fun e w1 => GkPost w q ks e w1 := by
  have hB := fun (w1 : World) (hb : Below (w.alloc (.cells #[.int .i64 c, .int .i64 t, .bool k, .string b, .slice a n cap] 24)).heap.size (w.alloc (.cells #[.int .i64 c, .int .i64 t, .bool k, .string b, .slice a n cap] 24)) w1) => ((Below.refl w.heap.size w).alloc (Nat.le_refl _) (.cells #[.int .i64 c, .int .i64 t, .bool k, .string b, .slice a n cap] 24)).trans (hb.mono (by simp))
  have HB := Lib.hid hB
  clear hB
  have HK := Lib.hid (hk.later hw)
  clear hk hw
  cases q
  · go_enter Try.func37, Try.ntmps37
    go_wp2_with fail
    (with_reducible refine (ris_any c t k b a n cap z1 z2 true false h _).mono ?_)
    rintro e w1 ⟨rfl, hb1⟩
    have HB1 := Lib.hid (HB.out _ hb1)
    clear hb1
    go_wp2_with fail
    go_ret2
    exact ⟨_, rfl, KsAt.nil _, HB1.out⟩
  · go_enter Try.func37, Try.ntmps37
    go_wp2_with fail
    (with_reducible refine (ris_any c t k b a n cap z1 z2 true true h _).mono ?_)
    rintro e w1 ⟨rfl, hb1⟩
    obtain ⟨d0, d1, d2, d3, d4⟩ := ((Blk.new w 24 #[.int .i64 c, .int .i64 t, .bool k, .string b, .slice a n cap]).below hb1 (by simp)).five
    have HB1 := Lib.hid (HB.out _ hb1)
    have HK1 := Lib.hid (HK.out.later HB1.out)
    clear hb1
    go_wp2_with fail
    go_ret2
    exact ⟨_, rfl, HK1.out, HB1.out⟩
end Go.Proofs.Ytejnfnpcabldeaa
