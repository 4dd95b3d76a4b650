/- The contract of secret.parts. No conditions. -/
import Derived.Test.YteajgkjiappkiaaSecB
import Derived.Test.YteajgkjiappkiaaOctG
import Derived.Test.YteajgkjiappkiaaOctE
import Derived.Deep.RegionHeld3
import Derived.BigQuiet
import Derived.Laws.Concat
namespace Go.Proofs.Yteajgkjiappkiaa
open Go.RowKit
def zero4 : Array Value := #[.int .u32 0, .int .u32 0, .int .u32 0, .int .u32 0]
def noParts : Value := .tuple #[.string ⟨#[]⟩, .agg #[.int .u32 0, .int .u32 0, .int .u32 0, .int .u32 0], .bool false]
theorem unhexX (s : ByteArray) (r : Value) (w : World) (hs : s.size ≤ 281474976702464) (h : Hid (unhexV s = r)) : Calls Try.prog 23 #[.string s] w fun e w' => e = .returned r ∧ Below w.heap.size w w' := h.out ▸ unhex_any s w hs
/-- a text that may be joined -/
def Small (a : ByteArray) : Prop := a.size ≤ 4194304
theorem run_cat {P : Program} {w : World} (a b : ByteArray) (h : Small a) (k : Small b) : (Op.stringOp .add a b).run P w = .ok (.string (a ++ b)) w :=
  run_string_add_sum (P := P) w a b (by unfold Small at h k; omega)
/-- a hidden password's frame -/
def headOk (s : ByteArray) : Prop := s.size = 44 ∧ (s.extract 0 3).toList = [123, 83, 125] ∧ (s.data.toList.getD 11 0).toNat = 46
theorem getD_at (s : ByteArray) (i : Nat) (h : i < s.size) : s.data.toList.getD i 0 = s[i] := by
  have h2 : i < s.data.toList.length := by simpa using h
  rw [List.getD_eq_getElem?_getD, List.getElem?_eq_getElem h2]
  rfl
set_option maxHeartbeats 1000000 in
theorem parts_nohead (s : ByteArray) (w : World) (h : ¬ headOk s) :
    Calls Try.prog 18 #[.string s] w fun e w' => e = .returned noParts ∧ Below w.heap.size w w' := by
  have H := Lib.hid h
  clear h
  by_cases h1 : (s.size : Int) = 44
  · have h1' : ((s.size : Int) != 44) = false := by rw [bne_eq_false_iff_eq]; exact h1
    by_cases h2 : (s.extract 0 3).toList = [123, 83, 125]
    · have h11 : 11 < s.size := by omega
      have h3 : ((s[11].toNat : Int) != 46) = true := by
        rw [bne_iff_ne]
        intro hh
        exact H.out ⟨by omega, h2, by rw [getD_at s 11 h11]; omega⟩
      have g1 : (44 : Int) ≤ s.size := by omega
      have g2 : (s.size : Int) ≤ 44 := by omega
      clear h1
      go_enter Try.func18, Try.ntmps18
      go_wp2_with fail
      exact bodyPost_ret (v := noParts) (by simp [results, Try.results18, go_sem, noParts]) rfl ⟨rfl, (Below.refl _ _).alloc (Nat.le_refl _) _⟩
    · have g1 : (44 : Int) ≤ s.size := by omega
      have g2 : (s.size : Int) ≤ 44 := by omega
      have h2' : ((s.extract 0 3).toList == [123, 83, 125]) = false := by simpa using h2
      clear h1
      go_enter Try.func18, Try.ntmps18
      go_wp2_with fail
      exact bodyPost_ret (v := noParts) (by simp [results, Try.results18, go_sem, noParts]) rfl ⟨rfl, (Below.refl _ _).alloc (Nat.le_refl _) _⟩
  · have h1' : ((s.size : Int) != 44) = true := by rw [bne_iff_ne]; exact h1
    go_enter Try.func18, Try.ntmps18
    go_wp2_with fail
    exact bodyPost_ret (v := noParts) (by simp [results, Try.results18, go_sem, noParts]) rfl ⟨rfl, (Below.refl _ _).alloc (Nat.le_refl _) _⟩
set_option maxHeartbeats 1000000 in
theorem parts_bad1 (s : ByteArray) (w : World) (h : headOk s) (b c : ByteArray) (e f : Int) (HE : Hid (unhexV (s.extract 3 11) = .tuple #[.string b, .int .i64 e])) (HF : Hid (unhexV (s.extract 12 s.size) = .tuple #[.string c, .int .i64 f])) (he : (e != 0) = true) :
    Calls Try.prog 18 #[.string s] w fun e w' => e = .returned noParts ∧ Below w.heap.size w w' := by
  obtain ⟨h0, h2, h3⟩ := h
  have h11 : 11 < s.size := by omega
  have h1' : ((s.size : Int) != 44) = false := by rw [bne_eq_false_iff_eq]; omega
  have h3' : ((s[11].toNat : Int) != 46) = false := by rw [bne_eq_false_iff_eq, ← getD_at s 11 h11]; omega
  have g1 : (44 : Int) ≤ s.size := by omega
  have g2 : (s.size : Int) ≤ 44 := by omega
  have g3 : (11 : Int) ≤ s.size := by omega
  have g4 : (12 : Int) ≤ s.size := by omega
  have g5 : 11 ≤ s.size := by omega
  have g6 : 12 ≤ s.size := by omega
  have g7 : 3 ≤ s.size := by omega
  have z1 : (s.extract 3 11).size ≤ 281474976702464 := by simp; omega
  have z2 : (s.extract 12 s.size).size ≤ 281474976702464 := by simp; omega
  have Z1 := Lib.hid z1
  have Z2 := Lib.hid z2
  clear h0 h3 z1 z2
  go_enter Try.func18, Try.ntmps18
  go_wp2_with fail
  refine (unhexX _ _ _ Z1.out HE).mono ?_
  rintro e w1 ⟨rfl, c1⟩
  go_wp2_with fail
  refine (unhexX _ _ _ Z2.out HF).mono ?_
  rintro e w2 ⟨rfl, k2⟩
  have c2 := c1.trans (k2.mono c1.size)
  clear k2
  go_wp2_with fail
  have hres := (Blk.new w 34 zero4).below c2 (by simp)
  have r0 : w2.cell? ⟨w.heap.size, 0, none⟩ = some (.int .u32 0) := hres.cell 0
  have r1 : w2.cell? ⟨w.heap.size, 1, none⟩ = some (.int .u32 0) := hres.cell 1
  have r2 : w2.cell? ⟨w.heap.size, 2, none⟩ = some (.int .u32 0) := hres.cell 2
  have r3 : w2.cell? ⟨w.heap.size, 3, none⟩ = some (.int .u32 0) := hres.cell 3
  have f0 := hres.frozen 0
  have f1 := hres.frozen 1
  have f2 := hres.frozen 2
  have f3 := hres.frozen 3
  clear hres
  have hw2 : Below w.heap.size w w2 := ((Below.refl w.heap.size w).alloc (Nat.le_refl _) _).trans (c2.mono (by simp))
  go_quiet (fail)
  go_wp2_with fail
  refine bodyPost_ret (v := noParts) (by simp [results, Try.results18, go_sem, noParts, r0, r1, r2, r3]) rfl ⟨rfl, ?_⟩
  exact ((((below_drewN hw2 _).setCell (Nat.le_refl _) _).setCell (Nat.le_refl _) _).setCell (Nat.le_refl _) _).setCell (Nat.le_refl _) _
set_option maxHeartbeats 1000000 in
theorem parts_bad2 (s : ByteArray) (w : World) (h : headOk s) (b c : ByteArray) (e f : Int) (HE : Hid (unhexV (s.extract 3 11) = .tuple #[.string b, .int .i64 e])) (HF : Hid (unhexV (s.extract 12 s.size) = .tuple #[.string c, .int .i64 f])) (he : (e != 0) = false) (hf : (f != 0) = true) :
    Calls Try.prog 18 #[.string s] w fun e w' => e = .returned noParts ∧ Below w.heap.size w w' := by
  obtain ⟨h0, h2, h3⟩ := h
  have h11 : 11 < s.size := by omega
  have h1' : ((s.size : Int) != 44) = false := by rw [bne_eq_false_iff_eq]; omega
  have h3' : ((s[11].toNat : Int) != 46) = false := by rw [bne_eq_false_iff_eq, ← getD_at s 11 h11]; omega
  have g1 : (44 : Int) ≤ s.size := by omega
  have g2 : (s.size : Int) ≤ 44 := by omega
  have g3 : (11 : Int) ≤ s.size := by omega
  have g4 : (12 : Int) ≤ s.size := by omega
  have g5 : 11 ≤ s.size := by omega
  have g6 : 12 ≤ s.size := by omega
  have g7 : 3 ≤ s.size := by omega
  have z1 : (s.extract 3 11).size ≤ 281474976702464 := by simp; omega
  have z2 : (s.extract 12 s.size).size ≤ 281474976702464 := by simp; omega
  have Z1 := Lib.hid z1
  have Z2 := Lib.hid z2
  clear h0 h3 z1 z2
  go_enter Try.func18, Try.ntmps18
  go_wp2_with fail
  refine (unhexX _ _ _ Z1.out HE).mono ?_
  rintro e w1 ⟨rfl, c1⟩
  go_wp2_with fail
  refine (unhexX _ _ _ Z2.out HF).mono ?_
  rintro e w2 ⟨rfl, k2⟩
  have c2 := c1.trans (k2.mono c1.size)
  clear k2
  go_wp2_with fail
  have hres := (Blk.new w 34 zero4).below c2 (by simp)
  have r0 : w2.cell? ⟨w.heap.size, 0, none⟩ = some (.int .u32 0) := hres.cell 0
  have r1 : w2.cell? ⟨w.heap.size, 1, none⟩ = some (.int .u32 0) := hres.cell 1
  have r2 : w2.cell? ⟨w.heap.size, 2, none⟩ = some (.int .u32 0) := hres.cell 2
  have r3 : w2.cell? ⟨w.heap.size, 3, none⟩ = some (.int .u32 0) := hres.cell 3
  have f0 := hres.frozen 0
  have f1 := hres.frozen 1
  have f2 := hres.frozen 2
  have f3 := hres.frozen 3
  clear hres
  have hw2 : Below w.heap.size w w2 := ((Below.refl w.heap.size w).alloc (Nat.le_refl _) _).trans (c2.mono (by simp))
  go_quiet (fail)
  go_wp2_with fail
  refine bodyPost_ret (v := noParts) (by simp [results, Try.results18, go_sem, noParts, r0, r1, r2, r3]) rfl ⟨rfl, ?_⟩
  exact ((((below_drewN hw2 _).setCell (Nat.le_refl _) _).setCell (Nat.le_refl _) _).setCell (Nat.le_refl _) _).setCell (Nat.le_refl _) _
attribute [local go_sem ↓] run_cat
/-- the number of a piece of four bytes -/
def piece (l : List UInt8) (k : Nat) : Int := Oct.getFrom 0 ((l.drop (4 * k)).take 4)
/-- the numbers that are read after k rounds -/
def grow (k : Nat) (l : List UInt8) : Array Value := ((List.range 4).map fun j => Value.int .u32 (if j < k then piece l j else 0)).toArray
theorem piece_get (c : ByteArray) (k : Nat) (hk : k < 4) (hc : c.size = 16) : getV (c.extract (4 * k) (4 * k + 4)) = .tuple #[.int .i64 (piece c.data.toList k), .int .i64 0] := by
  have hd : (c.extract (4 * k) (4 * k + 4)).data.toList = (c.data.toList.drop (4 * k)).take 4 := by
    rw [Lib.extract_data, show 4 * k + 4 - 4 * k = 4 from by omega]
  have hz : (c.extract (4 * k) (4 * k + 4)).size = 4 := by simp; omega
  unfold getV piece
  rw [if_pos (by omega), hd]
theorem piece_bd (l : List UInt8) (k : Nat) : 0 ≤ piece l k ∧ piece l k < 4294967296 := by
  have h := Oct.getFrom_bd ((l.drop (4 * k)).take 4) 0 0 1 (by omega) (by omega)
  have hl := List.length_take_le 4 (l.drop (4 * k))
  have hp : (256 : Int) ^ ((l.drop (4 * k)).take 4).length ≤ 4294967296 := by
    have : ((l.drop (4 * k)).take 4).length = 0 ∨ ((l.drop (4 * k)).take 4).length = 1 ∨ ((l.drop (4 * k)).take 4).length = 2 ∨ ((l.drop (4 * k)).take 4).length = 3 ∨ ((l.drop (4 * k)).take 4).length = 4 := by omega
    rcases this with e | e | e | e | e <;> rw [e] <;> decide
  unfold piece
  omega
theorem getX (s : ByteArray) (r : Value) (w : World) (h : Hid (getV s = r)) : Calls Try.prog 24 #[.string s] w fun e w' => e = .returned r ∧ w = w' := h.out ▸ get_any s w
theorem grow_set (k : Nat) (l : List UInt8) (h : k < 4) : (grow k l).setIfInBounds k (.int .u32 (piece l k)) = grow (k + 1) l := by
  have hk : k = 0 ∨ k = 1 ∨ k = 2 ∨ k = 3 := by omega
  rcases hk with rfl | rfl | rfl | rfl <;> rfl
set_option maxHeartbeats 1000000 in
theorem parts_bad3 (s : ByteArray) (w : World) (h : headOk s) (b c : ByteArray) (e f : Int) (HE : Hid (unhexV (s.extract 3 11) = .tuple #[.string b, .int .i64 e])) (HF : Hid (unhexV (s.extract 12 s.size) = .tuple #[.string c, .int .i64 f])) (y z : ByteArray) (HY : Hid (hexBA b.data.toList = y)) (HZ : Hid (hexBA c.data.toList = z)) (b4 : b.size ≤ 70368744177664) (c4 : c.size ≤ 70368744177664) (y4 : Small y) (z4 : Small z) (s3 : Small (s.extract 3 11)) (s4 : Small (s.extract 12 s.size)) (_hne : ¬ (y ++ z).toList = (s.extract 3 11 ++ s.extract 12 s.size).toList) (hne2 : ((y ++ z).toList == (s.extract 3 11 ++ s.extract 12 s.size).toList) = false) (he : (e != 0) = false) (hf : (f != 0) = false) :
    Calls Try.prog 18 #[.string s] w fun e w' => e = .returned noParts ∧ Below w.heap.size w w' := by
  obtain ⟨h0, h2, h3⟩ := h
  have h11 : 11 < s.size := by omega
  have h1' : ((s.size : Int) != 44) = false := by rw [bne_eq_false_iff_eq]; omega
  have h3' : ((s[11].toNat : Int) != 46) = false := by rw [bne_eq_false_iff_eq, ← getD_at s 11 h11]; omega
  have g1 : (44 : Int) ≤ s.size := by omega
  have g2 : (s.size : Int) ≤ 44 := by omega
  have g3 : (11 : Int) ≤ s.size := by omega
  have g4 : (12 : Int) ≤ s.size := by omega
  have g5 : 11 ≤ s.size := by omega
  have g6 : 12 ≤ s.size := by omega
  have g7 : 3 ≤ s.size := by omega
  have z1 : (s.extract 3 11).size ≤ 281474976702464 := by simp; omega
  have z2 : (s.extract 12 s.size).size ≤ 281474976702464 := by simp; omega
  have Z1 := Lib.hid z1
  have Z2 := Lib.hid z2
  clear h0 h3 z1 z2
  go_enter Try.func18, Try.ntmps18
  go_wp2_with fail
  refine (unhexX _ _ _ Z1.out HE).mono ?_
  rintro e w1 ⟨rfl, c1⟩
  go_wp2_with fail
  refine (unhexX _ _ _ Z2.out HF).mono ?_
  rintro e w2 ⟨rfl, k2⟩
  have c2 := c1.trans (k2.mono c1.size)
  clear k2
  go_wp2_with fail
  have hres := (Blk.new w 34 zero4).below c2 (by simp)
  have hw2 : Below w.heap.size w w2 := ((Below.refl w.heap.size w).alloc (Nat.le_refl _) _).trans (c2.mono (by simp))
  have m1 : Small y := y4
  have m2 : Small z := z4
  have m3 : Small (s.extract 3 11) := s3
  have m4 : Small (s.extract 12 s.size) := s4
  clear y4 z4 s3 s4
  go_region_held3 (fun _ => True) (trivial)
    (first
      | (go_at_call 13; ((with_reducible refine (hexX b y _ b4 HY).mono ?_)); rintro e w3 ⟨rfl, k3⟩)
      | (go_at_call 13; ((with_reducible refine (hexX c z _ c4 HZ).mono ?_)); rintro e w4 ⟨rfl, k4⟩))
  have hr3 := hres.drew.below k3 hres.lt
  have hr4 := hr3.below k4 hr3.lt
  have hw3 := (hw2.drew).trans (k3.mono hw2.size)
  have hw4 := hw3.trans (k4.mono hw3.size)
  clear hres hr3 hw2 hw3 k3 k4
  have r0 : w4.cell? ⟨w.heap.size, 0, none⟩ = some (.int .u32 0) := hr4.cell 0
  have r1 : w4.cell? ⟨w.heap.size, 1, none⟩ = some (.int .u32 0) := hr4.cell 1
  have r2 : w4.cell? ⟨w.heap.size, 2, none⟩ = some (.int .u32 0) := hr4.cell 2
  have r3 : w4.cell? ⟨w.heap.size, 3, none⟩ = some (.int .u32 0) := hr4.cell 3
  have f0 := hr4.frozen 0
  have f1 := hr4.frozen 1
  have f2 := hr4.frozen 2
  have f3 := hr4.frozen 3
  clear hr4
  go_wp2_with fail
  refine bodyPost_ret (v := noParts) (by simp [results, Try.results18, go_sem, noParts, r0, r1, r2, r3]) rfl ⟨rfl, ?_⟩
  exact (((hw4.setCell (Nat.le_refl _) _).setCell (Nat.le_refl _) _).setCell (Nat.le_refl _) _).setCell (Nat.le_refl _) _
set_option maxHeartbeats 1000000 in
theorem parts_yes (s : ByteArray) (w : World) (h : headOk s) (b c : ByteArray) (e f : Int) (HE : Hid (unhexV (s.extract 3 11) = .tuple #[.string b, .int .i64 e])) (HF : Hid (unhexV (s.extract 12 s.size) = .tuple #[.string c, .int .i64 f])) (y z : ByteArray) (HY : Hid (hexBA b.data.toList = y)) (HZ : Hid (hexBA c.data.toList = z)) (b4 : b.size ≤ 70368744177664) (c4 : c.size ≤ 70368744177664) (y4 : Small y) (z4 : Small z) (s3 : Small (s.extract 3 11)) (s4 : Small (s.extract 12 s.size)) (_hne : (y ++ z).toList = (s.extract 3 11 ++ s.extract 12 s.size).toList) (_hne2 : ((y ++ z).toList == (s.extract 3 11 ++ s.extract 12 s.size).toList) = true) (hc16 : c.size = 16) (he : (e != 0) = false) (hf : (f != 0) = false) :
    Calls Try.prog 18 #[.string s] w fun e w' => e = .returned (.tuple #[.string b, .agg (grow 4 c.data.toList), .bool true]) ∧ Below w.heap.size w w' := by
  obtain ⟨h0, h2, h3⟩ := h
  have HC16 := Lib.hid hc16
  clear hc16
  have h11 : 11 < s.size := by omega
  have h1' : ((s.size : Int) != 44) = false := by rw [bne_eq_false_iff_eq]; omega
  have h3' : ((s[11].toNat : Int) != 46) = false := by rw [bne_eq_false_iff_eq, ← getD_at s 11 h11]; omega
  have g1 : (44 : Int) ≤ s.size := by omega
  have g2 : (s.size : Int) ≤ 44 := by omega
  have g3 : (11 : Int) ≤ s.size := by omega
  have g4 : (12 : Int) ≤ s.size := by omega
  have g5 : 11 ≤ s.size := by omega
  have g6 : 12 ≤ s.size := by omega
  have g7 : 3 ≤ s.size := by omega
  have z1 : (s.extract 3 11).size ≤ 281474976702464 := by simp; omega
  have z2 : (s.extract 12 s.size).size ≤ 281474976702464 := by simp; omega
  have Z1 := Lib.hid z1
  have Z2 := Lib.hid z2
  clear h0 h3 z1 z2
  go_enter Try.func18, Try.ntmps18
  go_wp2_with fail
  refine (unhexX _ _ _ Z1.out HE).mono ?_
  rintro e w1 ⟨rfl, c1⟩
  go_wp2_with fail
  refine (unhexX _ _ _ Z2.out HF).mono ?_
  rintro e w2 ⟨rfl, k2⟩
  have c2 := c1.trans (k2.mono c1.size)
  clear k2
  go_wp2_with fail
  have hres := (Blk.new w 34 zero4).below c2 (by simp)
  have hw2 : Below w.heap.size w w2 := ((Below.refl w.heap.size w).alloc (Nat.le_refl _) _).trans (c2.mono (by simp))
  have m1 : Small y := y4
  have m2 : Small z := z4
  have m3 : Small (s.extract 3 11) := s3
  have m4 : Small (s.extract 12 s.size) := s4
  clear y4 z4 s3 s4
  go_region_held3 (fun _ => True) (trivial)
    (first
      | (go_at_call 13; ((with_reducible refine (hexX b y _ b4 HY).mono ?_)); rintro e w3 ⟨rfl, k3⟩)
      | (go_at_call 13; ((with_reducible refine (hexX c z _ c4 HZ).mono ?_)); rintro e w4 ⟨rfl, k4⟩))
  have hr3 := hres.drew.below k3 hres.lt
  have hr4 := hr3.below k4 hr3.lt
  have hw3 := (hw2.drew).trans (k3.mono hw2.size)
  have hw4 := hw3.trans (k4.mono hw3.size)
  clear hres hr3 hw2 hw3 k3 k4
  have hlt4 := hr4.lt
  have u16 : 16 ≤ c.size := by rw [HC16.out]; omega
  have u1 : (4 : Int) ≤ c.size := by omega
  have u2 : (8 : Int) ≤ c.size := by omega
  have u3 : (12 : Int) ≤ c.size := by omega
  have u4 : (16 : Int) ≤ c.size := by omega
  have v1 : 4 ≤ c.size := by omega
  have v2 : 8 ≤ c.size := by omega
  have v3 : 12 ≤ c.size := by omega
  go_wp2_with fail
  go_loopw [59] (fun i wr => ∃ k : Nat, k ≤ 4 ∧ i = .int .i64 k ∧ Blk wr w4.heap.size 34 (grow k c.data.toList) ∧ Blk wr w.heap.size 34 zero4 ∧ Below w.heap.size w wr) (fun i _ => 4 - (intOf i).toNat)
  case atStart => exact ⟨0, by omega, rfl, Blk.new w4 _ _, hr4.alloc _, hw4.alloc (by omega) _⟩
  case round =>
    obtain ⟨k, hk, rfl, hblk, hres, hbel⟩ := hrel
    have hkk : k = 0 ∨ k = 1 ∨ k = 2 ∨ k = 3 ∨ k = 4 := by omega
    rcases hkk with rfl | rfl | rfl | rfl | rfl
    · obtain ⟨x, hx⟩ : ∃ x, piece c.data.toList 0 = x := ⟨_, rfl⟩
      have hg := piece_get c 0 (by omega) HC16.out
      have hbx := piece_bd c.data.toList 0
      rw [hx] at hg hbx
      obtain ⟨x1, x2⟩ := hbx
      have HG := Lib.hid hg
      have HX := Lib.hid hx
      have ho : wr.cell? ⟨w4.heap.size, 0, none⟩ = some (.int .u32 0) := hblk.cell 0
      have hfo := hblk.frozen 0
      have HB := Lib.hid hblk
      have HR := Lib.hid hres
      clear hg hx hblk hres
      go_wp2_with fail
      refine (getX _ _ _ HG).mono ?_
      rintro e w' ⟨rfl, rfl⟩
      go_wp2_with fail
      go_roundw
      case rel => exact ⟨1, by omega, rfl, (HB.out.set_ 0 _).eq_ (by rw [← HX.out]; exact grow_set 0 c.data.toList (by omega)), HR.out.far (by simp; omega) _, hbel.setCell (by simp; omega) _⟩
      case measure => simp [intOf]
    · obtain ⟨x, hx⟩ : ∃ x, piece c.data.toList 1 = x := ⟨_, rfl⟩
      have hg := piece_get c 1 (by omega) HC16.out
      have hbx := piece_bd c.data.toList 1
      rw [hx] at hg hbx
      obtain ⟨x1, x2⟩ := hbx
      have HG := Lib.hid hg
      have HX := Lib.hid hx
      have ho : wr.cell? ⟨w4.heap.size, 1, none⟩ = some (.int .u32 0) := hblk.cell 1
      have hfo := hblk.frozen 1
      have HB := Lib.hid hblk
      have HR := Lib.hid hres
      clear hg hx hblk hres
      go_wp2_with fail
      refine (getX _ _ _ HG).mono ?_
      rintro e w' ⟨rfl, rfl⟩
      go_wp2_with fail
      go_roundw
      case rel => exact ⟨2, by omega, rfl, (HB.out.set_ 1 _).eq_ (by rw [← HX.out]; exact grow_set 1 c.data.toList (by omega)), HR.out.far (by simp; omega) _, hbel.setCell (by simp; omega) _⟩
      case measure => simp [intOf]
    · obtain ⟨x, hx⟩ : ∃ x, piece c.data.toList 2 = x := ⟨_, rfl⟩
      have hg := piece_get c 2 (by omega) HC16.out
      have hbx := piece_bd c.data.toList 2
      rw [hx] at hg hbx
      obtain ⟨x1, x2⟩ := hbx
      have HG := Lib.hid hg
      have HX := Lib.hid hx
      have ho : wr.cell? ⟨w4.heap.size, 2, none⟩ = some (.int .u32 0) := hblk.cell 2
      have hfo := hblk.frozen 2
      have HB := Lib.hid hblk
      have HR := Lib.hid hres
      clear hg hx hblk hres
      go_wp2_with fail
      refine (getX _ _ _ HG).mono ?_
      rintro e w' ⟨rfl, rfl⟩
      go_wp2_with fail
      go_roundw
      case rel => exact ⟨3, by omega, rfl, (HB.out.set_ 2 _).eq_ (by rw [← HX.out]; exact grow_set 2 c.data.toList (by omega)), HR.out.far (by simp; omega) _, hbel.setCell (by simp; omega) _⟩
      case measure => simp [intOf]
    · obtain ⟨x, hx⟩ : ∃ x, piece c.data.toList 3 = x := ⟨_, rfl⟩
      have hg := piece_get c 3 (by omega) HC16.out
      have hbx := piece_bd c.data.toList 3
      rw [hx] at hg hbx
      obtain ⟨x1, x2⟩ := hbx
      have HG := Lib.hid hg
      have HX := Lib.hid hx
      have ho : wr.cell? ⟨w4.heap.size, 3, none⟩ = some (.int .u32 0) := hblk.cell 3
      have hfo := hblk.frozen 3
      have HB := Lib.hid hblk
      have HR := Lib.hid hres
      clear hg hx hblk hres
      go_wp2_with fail
      refine (getX _ _ _ HG).mono ?_
      rintro e w' ⟨rfl, rfl⟩
      go_wp2_with fail
      go_roundw
      case rel => exact ⟨4, by omega, rfl, (HB.out.set_ 3 _).eq_ (by rw [← HX.out]; exact grow_set 3 c.data.toList (by omega)), HR.out.far (by simp; omega) _, hbel.setCell (by simp; omega) _⟩
      case measure => simp [intOf]
    · have l0 : wr.cell? ⟨w4.heap.size, 0, none⟩ = some (.int .u32 (piece c.data.toList 0)) := hblk.cell 0
      have l1 : wr.cell? ⟨w4.heap.size, 1, none⟩ = some (.int .u32 (piece c.data.toList 1)) := hblk.cell 1
      have l2 : wr.cell? ⟨w4.heap.size, 2, none⟩ = some (.int .u32 (piece c.data.toList 2)) := hblk.cell 2
      have l3 : wr.cell? ⟨w4.heap.size, 3, none⟩ = some (.int .u32 (piece c.data.toList 3)) := hblk.cell 3
      have r0 : wr.cell? ⟨w.heap.size, 0, none⟩ = some (.int .u32 0) := hres.cell 0
      have r1 : wr.cell? ⟨w.heap.size, 1, none⟩ = some (.int .u32 0) := hres.cell 1
      have r2 : wr.cell? ⟨w.heap.size, 2, none⟩ = some (.int .u32 0) := hres.cell 2
      have r3 : wr.cell? ⟨w.heap.size, 3, none⟩ = some (.int .u32 0) := hres.cell 3
      have f0 := hres.frozen 0
      have f1 := hres.frozen 1
      have f2 := hres.frozen 2
      have f3 := hres.frozen 3
      clear hblk hres
      go_wp2_with fail
      go_region
      go_wp2_with fail
      refine bodyPost_ret (v := .tuple #[.string b, .agg (grow 4 c.data.toList), .bool true]) (by simp [results, Try.results18, go_sem, grow, r0, r1, r2, r3]) rfl ⟨rfl, ?_⟩
      exact ((((hbel.drew).setCell (Nat.le_refl _) _).setCell (Nat.le_refl _) _).setCell (Nat.le_refl _) _).setCell (Nat.le_refl _) _
end Go.Proofs.Yteajgkjiappkiaa
