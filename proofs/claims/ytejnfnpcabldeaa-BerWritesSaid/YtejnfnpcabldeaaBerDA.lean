/- The contract of chanceryref2.faults. -/
import Derived.Test.YtejnfnpcabldeaaBerA
import Derived.Test.YtejnfnpcabldeaaBerR
namespace Go.Proofs.Ytejnfnpcabldeaa
open Go.RowKit Ber
/-- does some element, of those looked at so far, fail -/
def nin (p : El → Bool) (m : Nat) (e : El) (j : Nat) : Bool := !(p e && (e.ks.take j).all (allIn p m))
theorem nin_0 (p : El → Bool) (m : Nat) (e : El) : nin p m e 0 = !(p e) := by unfold nin; simp
theorem nin_step (p : El → Bool) (m : Nat) (e : El) (j : Nat) (h : j < e.ks.length) : nin p m e (j + 1) = (nin p m e j || !(allIn p m e.ks[j])) := by
  unfold nin
  rw [List.take_succ_eq_append_getElem h, List.all_append]
  cases p e <;> cases (e.ks.take j).all (allIn p m) <;> simp
theorem nin_end (p : El → Bool) (m : Nat) (e : El) : nin p m e e.ks.length = !(allIn p (m + 1) e) := by
  unfold nin
  rw [List.take_length, allIn]
def din (m : Nat) (ks : List El) (j : Nat) : Bool := (ks.take j).any (deepIn m)
theorem din_step (m : Nat) (ks : List El) (j : Nat) (h : j < ks.length) : din m ks (j + 1) = (din m ks j || deepIn m ks[j]) := by
  unfold din
  rw [List.take_succ_eq_append_getElem h, List.any_append]
  simp
theorem din_end (m : Nat) (c t : Int) (k : Bool) (b : ByteArray) (ks : List El) : din m ks ks.length = deepIn (m + 1) (.mk c t k b ks) := by
  unfold din
  rw [List.take_length]
  rfl
theorem fl_tag {c t : Int} {k : Bool} {b : ByteArray} {ks : List El} (h : c < 0 ∨ 3 < c ∨ t < 0 ∨ 30 < t) : (!(tagOk (.mk c t k b ks))) = true := by
  show (!decide (0 ≤ c ∧ c ≤ 3 ∧ 0 ≤ t ∧ t ≤ 30)) = true
  rw [Bool.not_eq_true', decide_eq_false_iff_not]
  omega
theorem fl_tag0 {c t : Int} {k : Bool} {b : ByteArray} {ks : List El} (h0 : ¬ c < 0) (h1 : ¬ 3 < c) (h2 : ¬ t < 0) (h3 : ¬ 30 < t) : (!(tagOk (.mk c t k b ks))) = false := by
  show (!decide (0 ≤ c ∧ c ≤ 3 ∧ 0 ≤ t ∧ t ≤ 30)) = false
  rw [Bool.not_eq_false', decide_eq_true_iff]
  omega
theorem fl_form {c t : Int} {b : ByteArray} {ks : List El} : (!(formOk (.mk c t true b ks))) = decide (0 < (b.size : Int)) := by
  show (!decide (b.size = 0)) = _
  by_cases h : b.size = 0
  · rw [decide_eq_true h, decide_eq_false (by omega)]; rfl
  · rw [decide_eq_false h, decide_eq_true (by omega)]; rfl
theorem fl_form0 {c t : Int} {b : ByteArray} {ks : List El} : (!(formOk (.mk c t false b ks))) = decide (0 < (ks.length : Int)) := by
  show (!decide (ks.length = 0)) = _
  by_cases h : ks.length = 0
  · rw [decide_eq_true h, decide_eq_false (by omega)]; rfl
  · rw [decide_eq_false h, decide_eq_true (by omega)]; rfl
set_option maxHeartbeats 2000000 in
set_option maxRecDepth 20000 in
theorem faults_any {w : World} {ks : List El} {kv : Value} (h : KsAt w ks kv) : ∀ (m : Nat) (z : Int) (c t : Int) (k : Bool) (b : ByteArray) (w0 : World), Hid (z + m = 20) → 0 ≤ z → Below w.heap.size w w0 → ∀ (r1 r2 r3 : Bool), Hid ((!(allIn tagOk m (.mk c t k b ks))) = r1) → Hid ((!(allIn formOk m (.mk c t k b ks))) = r2) → Hid (deepIn m (.mk c t k b ks) = r3) →
    Calls Try.prog 49 #[.agg #[.int .i64 c, .int .i64 t, .bool k, .string b, kv], .int .i64 z] w0 fun e w' => e = .returned (.tuple #[.bool r1, .bool r2, .bool r3]) ∧ Below w0.heap.size w0 w' := by
  induction h with
  | mk ks a cap g o f h1 h2 h3 h4 ih =>
  intro m z c t k b w0 hz hz0 hb r1 r2 r3 H1 H2 H3
  cases m with
  | zero =>
    have h20 : 20 ≤ z := by have := hz.out; omega
    have e1 : r1 = false := by rw [← H1.out]; rfl
    have e2 : r2 = false := by rw [← H2.out]; rfl
    have e3 : r3 = true := by rw [← H3.out]; rfl
    subst e1 e2 e3
    go_enter Try.func49, Try.ntmps49
    go_wp2_with fail
    go_ret3
    exact ⟨rfl, (Below.refl _ _).alloc (Nat.le_refl _) _⟩
  | succ m =>
    have h20 : z < 20 := by have := hz.out; omega
    have hk := h2.le
    have HI := Lib.hid ih
    have HK := Lib.hid (kid_at h3 h4)
    have HB := Lib.hid hb
    obtain ⟨x0, hx0⟩ : ∃ x, (!(tagOk (.mk c t k b ks))) = x := ⟨_, rfl⟩
    obtain ⟨y0, hy0⟩ : ∃ y, (!(formOk (.mk c t k b ks))) = y := ⟨_, rfl⟩
    have HX0 := Lib.hid hx0
    have HY0 := Lib.hid hy0
    clear ih h3 h4 h2 hb hx0 hy0
    go_enter Try.func49, Try.ntmps49
    go_upto_region 3 with fail
    go_cut [7] (fun s7 wx => s7 = .bool x0 ∧ wx = w0.alloc (.cells #[.int .i64 c, .int .i64 t, .bool k, .string b, .slice a ks.length cap] 24))
    case first =>
      by_cases q1 : c < 0
      · have hx := HX0.out; rw [fl_tag (by omega)] at hx; subst hx
        go_wp2_with fail
        go_meet
        exact ⟨rfl, rfl⟩
      by_cases q2 : 3 < c
      · have hx := HX0.out; rw [fl_tag (by omega)] at hx; subst hx
        go_wp2_with fail
        go_meet
        exact ⟨rfl, rfl⟩
      by_cases q3 : t < 0
      · have hx := HX0.out; rw [fl_tag (by omega)] at hx; subst hx
        go_wp2_with fail
        go_meet
        exact ⟨rfl, rfl⟩
      by_cases q4 : 30 < t
      · have hx := HX0.out; rw [fl_tag (by omega)] at hx; subst hx
        go_wp2_with fail
        go_meet
        exact ⟨rfl, rfl⟩
      have hx := HX0.out; rw [fl_tag0 q1 q2 q3 q4] at hx; subst hx
      go_wp2_with fail
      go_meet
      exact ⟨rfl, rfl⟩
    case rest =>
    obtain ⟨rfl, rfl⟩ := hcut
    go_upto_region 4 with fail
    go_cut [8] (fun s8 wx => s8 = .bool y0 ∧ wx = w0.alloc (.cells #[.int .i64 c, .int .i64 t, .bool k, .string b, .slice a ks.length cap] 24))
    case first =>
      cases k
      · have hy := HY0.out
        rw [fl_form0] at hy
        obtain ⟨zl, hzl⟩ : ∃ zl : Int, (ks.length : Int) = zl := ⟨_, rfl⟩
        rw [hzl] at hy
        by_cases q : 0 < zl
        · rw [decide_eq_true q] at hy; subst hy
          go_wp2_with fail
          go_meet
          first | exact ⟨rfl, rfl⟩ | exact ⟨by rw [decide_eq_true (by omega)], rfl⟩
        · rw [decide_eq_false q] at hy; subst hy
          go_wp2_with fail
          go_meet
          first | exact ⟨rfl, rfl⟩ | exact ⟨by rw [decide_eq_false (by omega)], rfl⟩
      · have hy := HY0.out
        rw [fl_form] at hy
        obtain ⟨zb, hzb⟩ : ∃ zb : Int, (b.size : Int) = zb := ⟨_, rfl⟩
        rw [hzb] at hy
        by_cases q : 0 < zb
        · rw [decide_eq_true q] at hy; subst hy
          go_wp2_with fail
          go_meet
          first | exact ⟨rfl, rfl⟩ | exact ⟨by rw [decide_eq_true (by omega)], rfl⟩
        · rw [decide_eq_false q] at hy; subst hy
          go_wp2_with fail
          go_meet
          first | exact ⟨rfl, rfl⟩ | exact ⟨by rw [decide_eq_false (by omega)], rfl⟩
    case rest =>
    obtain ⟨rfl, rfl⟩ := hcut
    go_wp2_with fail
    go_loopw [7, 8, 9, 10] (fun s7 s8 s9 i wr => ∃ (j : Nat) (x y d : Bool), j ≤ ks.length ∧ i = .int .i64 j ∧ s7 = .bool x ∧ s8 = .bool y ∧ s9 = .bool d ∧ Hid (nin tagOk m (.mk c t k b ks) j = x) ∧ Hid (nin formOk m (.mk c t k b ks) j = y) ∧ Hid (din m ks j = d) ∧ Hid (wr.cell? ⟨w0.heap.size, 4, none⟩ = some (.slice a ks.length cap)) ∧ Below w0.heap.size w0 wr) (fun _ _ _ i _ => ks.length - (intOf i).toNat)
    case atStart => exact ⟨0, x0, y0, false, Nat.zero_le _, rfl, rfl, rfl, rfl, Lib.hid (by rw [nin_0]; exact HX0.out), Lib.hid (by rw [nin_0]; exact HY0.out), Lib.hid rfl, Lib.hid ((Blk.new w0 _ _).cell 4), (Below.refl _ _).alloc (Nat.le_refl _) _⟩
    case round =>
      obtain ⟨j, x, y, d, hj, rfl, rfl, rfl, rfl, HX, HY, HD, HE, hbel⟩ := hrel
      have e4 := HE.out
      by_cases hlt : j < ks.length
      · obtain ⟨kc, kt, kk, kb, a2, n2, cap2, rfl, hg, hf, he, hfj, hn2, hc⟩ := HK.out j hlt
        have hI := HI.out j hlt m (z + 1) kc kt kk kb
        rw [hfj, ← he] at hI
        obtain ⟨c0, c1, c2, c3, c4⟩ := hc.later (HB.out.trans (hbel.mono HB.out.size)) hg
        obtain ⟨k1, hk1⟩ : ∃ r, (!(allIn tagOk m ks[j])) = r := ⟨_, rfl⟩
        obtain ⟨k2, hk2⟩ : ∃ r, (!(allIn formOk m ks[j])) = r := ⟨_, rfl⟩
        obtain ⟨k3, hk3⟩ : ∃ r, deepIn m ks[j] = r := ⟨_, rfl⟩
        have hx1 := nin_step tagOk m (.mk c t k b ks) j hlt
        have hy1 := nin_step formOk m (.mk c t k b ks) j hlt
        have hd1 := din_step m ks j hlt
        rw [HX.out] at hx1
        rw [HY.out] at hy1
        rw [HD.out, hk3] at hd1
        have hx2 : nin tagOk m (.mk c t k b ks) (j + 1) = (x || k1) := by rw [hx1, ← hk1]; rfl
        have hy2 : nin formOk m (.mk c t k b ks) (j + 1) = (y || k2) := by rw [hy1, ← hk2]; rfl
        have HX1 := Lib.hid hx2
        have HY1 := Lib.hid hy2
        have HD1 := Lib.hid hd1
        have K1 := Lib.hid hk1
        have K2 := Lib.hid hk2
        have K3 := Lib.hid hk3
        have HII := Lib.hid hI
        have HBB := Lib.hid hbel
        have hs := hbel.size
        have hel : w0.heap.size < wr.heap.size := World.block_lt_of_cell? _ _ e4
        clear hk1 hk2 hk3 hx1 hy1 hd1 hx2 hy2 hc he hfj hn2 hI hbel HX HY HD HE hf
        cases x <;> cases y <;> cases d
        all_goals
          go_wp2_with fail
          (with_reducible refine (HII.out _ (Lib.hid (by have := hz.out; omega)) (by omega) (HB.out.trans (HBB.out.mono HB.out.size)) k1 k2 k3 K1 K2 K3).mono ?_)
          rintro e w3 ⟨rfl, hb3⟩
          have HE3 := Lib.hid ((hb3.cell (p := ⟨w0.heap.size, 4, none⟩) hel).trans e4)
          go_wp2_with fail
          go_roundw
          case rel => exact ⟨j + 1, _, _, _, by omega, by go_num, rfl, rfl, rfl, Lib.hid (by rw [HX1.out]; simp), Lib.hid (by rw [HY1.out]; simp), Lib.hid (by rw [HD1.out]; simp), HE3, HBB.out.trans (hb3.mono hs)⟩
          case measure => simp [intOf]; omega
      · obtain rfl : j = ks.length := by omega
        have hx := HX.out
        have hy := HY.out
        have hd := HD.out
        have ex : r1 = x := by rw [← H1.out, ← hx]; exact (nin_end tagOk m (.mk c t k b ks)).symm
        have ey : r2 = y := by rw [← H2.out, ← hy]; exact (nin_end formOk m (.mk c t k b ks)).symm
        have ed : r3 = d := by rw [← H3.out, ← hd, din_end m c t k b ks]
        subst ex ey ed
        clear hx hy hd H1 H2 H3 HX HY HD
        go_wp2_with fail
        go_ret3
        exact ⟨rfl, hbel⟩
end Go.Proofs.Ytejnfnpcabldeaa
