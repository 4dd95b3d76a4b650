/- The contract of secret.Hide. No conditions. -/
import Derived.Test.YteajgkjiappkiaaSecA
import Derived.Test.YteajgkjiappkiaaOctC
namespace Go.Proofs.Yteajgkjiappkiaa
open Go.RowKit
/-- digits of bytes -/
def hexBA (l : List UInt8) : ByteArray := ⟨(Oct.hexL l).toArray⟩
/-- a hidden password, k sums written -/
def hideB (a p : List UInt8) : Nat → ByteArray
  | 0 => ((⟨#[123, 83, 125]⟩ : ByteArray) ++ hexBA a) ++ (⟨#[46]⟩ : ByteArray)
  | k + 1 => hideB a p k ++ hexBA (Oct.beB 4 (ssum k a p : Nat))
theorem hexBA_size (l : List UInt8) : (hexBA l).size = 2 * l.length := by
  show (Oct.hexL l).toArray.size = _
  rw [List.size_toArray, Oct.hexL_length]
theorem hideB_size (a p : List UInt8) (ha : a.length = 4) : ∀ k, (hideB a p k).size = 12 + 8 * k
  | 0 => by
    unfold hideB
    rw [ByteArray.size_append, ByteArray.size_append, hexBA_size, ha]
    rfl
  | k + 1 => by
    unfold hideB
    rw [ByteArray.size_append, hideB_size a p ha k, hexBA_size, Oct.beB_length]
    omega
/-- what a Hide answers -/
def hideV (salt : Int) (p : List UInt8) : Value :=
  if 0 ≤ salt ∧ salt < 4294967296 then (if p.length ≤ 1024 then .tuple #[.string (hideB (Oct.beB 4 salt) p 4), .int .i64 0] else .tuple #[.string ⟨#[]⟩, .int .i64 2]) else .tuple #[.string ⟨#[]⟩, .int .i64 1]
theorem putX (v n : Int) (r : Value) (w : World) (h : Hid (putV v n = r)) : Calls Try.prog 12 #[.int .i64 v, .int .i64 n] w fun e w' => e = .returned r ∧ Below w.heap.size w w' := h.out ▸ put_any v n w
theorem hexX (s t : ByteArray) (w : World) (hs : s.size ≤ 70368744177664) (h : Hid (hexBA s.data.toList = t)) :
    Calls Try.prog 13 #[.string s] w fun e w' => e = .returned (.string t) ∧ Below w.heap.size w w' := h.out ▸ hex_any s w hs
theorem put4 (x : Int) (h0 : 0 ≤ x) (h1 : x < 4294967296) : putV x 4 = .tuple #[.string ⟨(Oct.beB 4 x).toArray⟩, .int .i64 0] := by
  unfold putV
  rw [if_pos ⟨by decide, by decide, h0⟩]
  exact putAns_yes (by show x < 256 ^ 4; omega)
theorem put4_no (x : Int) (h : x < 0 ∨ 4294967296 ≤ x) : putV x 4 = .tuple #[.string ⟨#[]⟩, .int .i64 1] := by
  unfold putV
  by_cases h0 : 0 ≤ x
  · rw [if_pos ⟨by decide, by decide, h0⟩]
    exact putAns_no (by show ¬ x < 256 ^ 4; omega)
  · rw [if_neg (by omega)]
theorem sumOfX (a b : ByteArray) (r : Value) (w : World) (ha : a.size ≤ 4000) (hb : b.size ≤ 4000) (h : Hid (Value.agg (srow 4 a.data.toList b.data.toList) = r)) :
    Calls Try.prog 14 #[.string a, .string b] w fun e w' => e = .returned r ∧ Below w.heap.size w w' := h.out ▸ sumOf_any a b w ha hb
theorem be4_size (v : Int) : (⟨(Oct.beB 4 v).toArray⟩ : ByteArray).size = 4 := by
  show (Oct.beB 4 v).toArray.size = 4
  rw [List.size_toArray, Oct.beB_length]
theorem be4_le (v : Int) : (⟨(Oct.beB 4 v).toArray⟩ : ByteArray).size ≤ 70368744177664 := by rw [be4_size]; omega
theorem index4 (x0 x1 x2 x3 : Value) : (∀ w, (Instr.index 34 (.agg #[x0, x1, x2, x3]) (.int .i64 0)).run Try.prog w = .ok x0 w) ∧ (∀ w, (Instr.index 34 (.agg #[x0, x1, x2, x3]) (.int .i64 1)).run Try.prog w = .ok x1 w) ∧
    (∀ w, (Instr.index 34 (.agg #[x0, x1, x2, x3]) (.int .i64 2)).run Try.prog w = .ok x2 w) ∧ (∀ w, (Instr.index 34 (.agg #[x0, x1, x2, x3]) (.int .i64 3)).run Try.prog w = .ok x3 w) :=
  ⟨fun _ => by kernel_rfl, fun _ => by kernel_rfl, fun _ => by kernel_rfl, fun _ => by kernel_rfl⟩
set_option maxHeartbeats 1000000 in
theorem hide_any (salt : Int) (p : ByteArray) (w : World) :
    Calls Try.prog 6 #[.int .i64 salt, .string p] w fun e w' => e = .returned (hideV salt p.data.toList) ∧ Below w.heap.size w w' := by
  have hlp : p.data.toList.length = p.size := Array.length_toList
  by_cases hs : 0 ≤ salt ∧ salt < 4294967296
  · by_cases hp : p.size ≤ 1024
    · have hv : hideV salt p.data.toList = .tuple #[.string (hideB (Oct.beB 4 salt) p.data.toList 4), .int .i64 0] := by unfold hideV; rw [if_pos hs, if_pos (by omega)]
      have HV := Lib.hid hv
      have H1 := Lib.hid (put4 salt hs.1 hs.2)
      obtain ⟨s0, h0⟩ : ∃ s0 : Int, ((ssum 0 (Oct.beB 4 salt) p.data.toList : Nat) : Int) = s0 := ⟨_, rfl⟩
      obtain ⟨s1, h1⟩ : ∃ s1 : Int, ((ssum 1 (Oct.beB 4 salt) p.data.toList : Nat) : Int) = s1 := ⟨_, rfl⟩
      obtain ⟨s2, h2⟩ : ∃ s2 : Int, ((ssum 2 (Oct.beB 4 salt) p.data.toList : Nat) : Int) = s2 := ⟨_, rfl⟩
      obtain ⟨s3, h3⟩ : ∃ s3 : Int, ((ssum 3 (Oct.beB 4 salt) p.data.toList : Nat) : Int) = s3 := ⟨_, rfl⟩
      have b0 : 0 ≤ s0 ∧ s0 < 4294967296 := by have := ssum_lt 0 (Oct.beB 4 salt) p.data.toList; omega
      have b1 : 0 ≤ s1 ∧ s1 < 4294967296 := by have := ssum_lt 1 (Oct.beB 4 salt) p.data.toList; omega
      have b2 : 0 ≤ s2 ∧ s2 < 4294967296 := by have := ssum_lt 2 (Oct.beB 4 salt) p.data.toList; omega
      have b3 : 0 ≤ s3 ∧ s3 < 4294967296 := by have := ssum_lt 3 (Oct.beB 4 salt) p.data.toList; omega
      have hag : Value.agg (srow 4 (⟨(Oct.beB 4 salt).toArray⟩ : ByteArray).data.toList p.data.toList) = .agg #[.int .u32 s0, .int .u32 s1, .int .u32 s2, .int .u32 s3] := by rw [← h0, ← h1, ← h2, ← h3]; rfl
      have HA := Lib.hid hag
      have e0 : hideB (Oct.beB 4 salt) p.data.toList 1 = hideB (Oct.beB 4 salt) p.data.toList 0 ++ hexBA (Oct.beB 4 s0) := by rw [← h0]; rfl
      have e1 : hideB (Oct.beB 4 salt) p.data.toList 2 = hideB (Oct.beB 4 salt) p.data.toList 1 ++ hexBA (Oct.beB 4 s1) := by rw [← h1]; rfl
      have e2 : hideB (Oct.beB 4 salt) p.data.toList 3 = hideB (Oct.beB 4 salt) p.data.toList 2 ++ hexBA (Oct.beB 4 s2) := by rw [← h2]; rfl
      have e3 : hideB (Oct.beB 4 salt) p.data.toList 4 = hideB (Oct.beB 4 salt) p.data.toList 3 ++ hexBA (Oct.beB 4 s3) := by rw [← h3]; rfl
      have hz := hideB_size (Oct.beB 4 salt) p.data.toList (Oct.beB_length 4 salt)
      have E0 := Lib.hid e0
      have E1 := Lib.hid e1
      have E2 := Lib.hid e2
      have E3 := Lib.hid e3
      have HZ := Lib.hid hz
      have hbz := be4_size salt
      have HBZ := Lib.hid hbz
      have hst : hideB (Oct.beB 4 salt) p.data.toList 0 = ((⟨#[123, 83, 125]⟩ : ByteArray) ++ hexBA (Oct.beB 4 salt)) ++ (⟨#[46]⟩ : ByteArray) := rfl
      have HST := Lib.hid hst
      have hxz : (hexBA (Oct.beB 4 salt)).size ≤ 8 := by rw [hexBA_size, Oct.beB_length]; decide
      obtain ⟨i0, i1, i2, i3⟩ := index4 (.int .u32 s0) (.int .u32 s1) (.int .u32 s2) (.int .u32 s3)
      clear hv h0 h1 h2 h3 hag e0 e1 e2 e3 hz hbz hst hs
      obtain ⟨out, ho⟩ : ∃ out : Nat → ByteArray, hideB (Oct.beB 4 salt) p.data.toList = out := ⟨_, rfl⟩
      obtain ⟨hx, hh⟩ : ∃ hx : ByteArray, hexBA (Oct.beB 4 salt) = hx := ⟨_, rfl⟩
      have HH : Hid (hexBA (⟨(Oct.beB 4 salt).toArray⟩ : ByteArray).data.toList = hx) := Lib.hid hh
      rw [ho] at HV E0 E1 E2 E3 HZ HST
      rw [hh] at HST hxz
      have x1 : ∃ hx : ByteArray, Hid (hexBA (Oct.beB 4 s0) = hx) ∧ hx.size ≤ 8 := ⟨_, Lib.hid rfl, by rw [hexBA_size, Oct.beB_length]; decide⟩
      have x2 : ∃ hx : ByteArray, Hid (hexBA (Oct.beB 4 s1) = hx) ∧ hx.size ≤ 8 := ⟨_, Lib.hid rfl, by rw [hexBA_size, Oct.beB_length]; decide⟩
      have x3 : ∃ hx : ByteArray, Hid (hexBA (Oct.beB 4 s2) = hx) ∧ hx.size ≤ 8 := ⟨_, Lib.hid rfl, by rw [hexBA_size, Oct.beB_length]; decide⟩
      have x4 : ∃ hx : ByteArray, Hid (hexBA (Oct.beB 4 s3) = hx) ∧ hx.size ≤ 8 := ⟨_, Lib.hid rfl, by rw [hexBA_size, Oct.beB_length]; decide⟩
      obtain ⟨y0, Y0, z0⟩ := x1
      obtain ⟨y1, Y1, z1⟩ := x2
      obtain ⟨y2, Y2, z2⟩ := x3
      obtain ⟨y3, Y3, z3⟩ := x4
      rw [Y0.out] at E0
      rw [Y1.out] at E1
      rw [Y2.out] at E2
      rw [Y3.out] at E3
      clear ho hh
      have HB4 : Hid ((⟨(Oct.beB 4 salt).toArray⟩ : ByteArray).size ≤ 4000) := Lib.hid (by rw [HBZ.out]; omega)
      have HB5 : Hid ((⟨(Oct.beB 4 salt).toArray⟩ : ByteArray).size ≤ 70368744177664) := Lib.hid (by rw [HBZ.out]; omega)
      have HP4 : Hid (p.size ≤ 4000) := Lib.hid (by omega)
      go_enter Try.func6, Try.ntmps6
      go_wp2_with fail
      refine (putX _ _ _ _ H1).mono ?_
      rintro e w1 ⟨rfl, c1⟩
      go_wp2_with fail
      refine (hexX _ hx _ HB5.out HH).mono ?_
      rintro e w2 ⟨rfl, k2⟩
      have c2 := c1.trans (k2.mono c1.size)
      clear c1 k2
      go_wp2_with fail
      refine (sumOfX _ p _ _ HB4.out HP4.out HA).mono ?_
      rintro e w3 ⟨rfl, k3⟩
      have c3 := c2.trans (k3.mono c2.size)
      clear c2 k3
      go_wp2_with fail
      go_loopw [8, 32] (fun v i wr => ∃ k : Nat, k ≤ 4 ∧ i = .int .i64 k ∧ v = .string (out k) ∧ Below w.heap.size w wr) (fun _ i _ => 4 - (intOf i).toNat)
      case atStart => exact ⟨0, by omega, rfl, by rw [HST.out], c3⟩
      case round =>
        obtain ⟨k, hk, rfl, rfl, hbel⟩ := hrel
        have hoz : (out k).size ≤ 44 := by rw [HZ.out]; omega
        have hkk : k = 0 ∨ k = 1 ∨ k = 2 ∨ k = 3 ∨ k = 4 := by omega
        rcases hkk with rfl | rfl | rfl | rfl | rfl
        · go_wp2_with fail
          refine (putX _ _ _ _ (Lib.hid (put4 s0 b0.1 b0.2))).mono ?_
          rintro e u1 ⟨rfl, m1⟩
          have m2 := hbel.trans (m1.mono hbel.size)
          clear m1
          go_wp2_with fail
          refine (hexX _ y0 _ (be4_le _) Y0).mono ?_
          rintro e u2 ⟨rfl, m3⟩
          have m4 := m2.trans (m3.mono m2.size)
          clear m2 m3
          go_wp2_with fail
          go_roundw
          case rel => exact ⟨1, by omega, rfl, by rw [E0.out], m4⟩
          case measure => simp [intOf]
        · go_wp2_with fail
          refine (putX _ _ _ _ (Lib.hid (put4 s1 b1.1 b1.2))).mono ?_
          rintro e u1 ⟨rfl, m1⟩
          have m2 := hbel.trans (m1.mono hbel.size)
          clear m1
          go_wp2_with fail
          refine (hexX _ y1 _ (be4_le _) Y1).mono ?_
          rintro e u2 ⟨rfl, m3⟩
          have m4 := m2.trans (m3.mono m2.size)
          clear m2 m3
          go_wp2_with fail
          go_roundw
          case rel => exact ⟨2, by omega, rfl, by rw [E1.out], m4⟩
          case measure => simp [intOf]
        · go_wp2_with fail
          refine (putX _ _ _ _ (Lib.hid (put4 s2 b2.1 b2.2))).mono ?_
          rintro e u1 ⟨rfl, m1⟩
          have m2 := hbel.trans (m1.mono hbel.size)
          clear m1
          go_wp2_with fail
          refine (hexX _ y2 _ (be4_le _) Y2).mono ?_
          rintro e u2 ⟨rfl, m3⟩
          have m4 := m2.trans (m3.mono m2.size)
          clear m2 m3
          go_wp2_with fail
          go_roundw
          case rel => exact ⟨3, by omega, rfl, by rw [E2.out], m4⟩
          case measure => simp [intOf]
        · go_wp2_with fail
          refine (putX _ _ _ _ (Lib.hid (put4 s3 b3.1 b3.2))).mono ?_
          rintro e u1 ⟨rfl, m1⟩
          have m2 := hbel.trans (m1.mono hbel.size)
          clear m1
          go_wp2_with fail
          refine (hexX _ y3 _ (be4_le _) Y3).mono ?_
          rintro e u2 ⟨rfl, m3⟩
          have m4 := m2.trans (m3.mono m2.size)
          clear m2 m3
          go_wp2_with fail
          go_roundw
          case rel => exact ⟨4, by omega, rfl, by rw [E3.out], m4⟩
          case measure => simp [intOf]
        · go_wp2_with fail
          go_ret2
          exact ⟨by rw [HV.out]; rfl, hbel⟩
    · have hv : hideV salt p.data.toList = .tuple #[.string ⟨#[]⟩, .int .i64 2] := by unfold hideV; rw [if_pos hs, if_neg (by omega)]
      have HV := Lib.hid hv
      have H1 := Lib.hid (put4 salt hs.1 hs.2)
      clear hv hs hlp
      go_enter Try.func6, Try.ntmps6
      go_wp2_with fail
      refine (putX _ _ _ _ H1).mono ?_
      rintro e w1 ⟨rfl, c1⟩
      go_wp2_with fail
      go_ret2
      exact ⟨by rw [HV.out]; rfl, c1⟩
  · have hv : hideV salt p.data.toList = .tuple #[.string ⟨#[]⟩, .int .i64 1] := by unfold hideV; rw [if_neg hs]
    have HV := Lib.hid hv
    have H1 := Lib.hid (put4_no salt (by omega))
    clear hv hs hlp
    go_enter Try.func6, Try.ntmps6
    go_wp2_with fail
    refine (putX _ _ _ _ H1).mono ?_
    rintro e w1 ⟨rfl, c1⟩
    go_wp2_with fail
    go_ret2
    exact ⟨by rw [HV.out]; rfl, c1⟩
end Go.Proofs.Yteajgkjiappkiaa
