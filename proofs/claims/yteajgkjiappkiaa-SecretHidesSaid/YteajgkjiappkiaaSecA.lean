/- The contract of secret.sumOf. The condition: the texts are short. -/
import Derived.Test.YteajgkjiappkiaaOctA
import Derived.Test.YteajgkjiappkiaaOctB
import Derived.Laws.ResultCell
namespace Go.Proofs.Yteajgkjiappkiaa
open Go.RowKit
/-- a secret's sum -/
def ssum (k : Nat) (a b : List UInt8) : Nat := Oct.sumN (UInt8.ofNat k :: (a ++ (b ++ (a ++ b))))
/-- the sums that are laid after k rounds -/
def srow (k : Nat) (a b : List UInt8) : Array Value := ((List.range 4).map fun j => Value.int .u32 (if j < k then (ssum j a b : Nat) else 0)).toArray
theorem srow_set (k : Nat) (a b : List UInt8) (h : k < 4) : (srow k a b).setIfInBounds k (.int .u32 (ssum k a b : Nat)) = srow (k + 1) a b := by
  have hk : k = 0 ∨ k = 1 ∨ k = 2 ∨ k = 3 := by omega
  rcases hk with rfl | rfl | rfl | rfl <;> rfl
theorem srow_size (k : Nat) (a b : List UInt8) : (srow k a b).size = 4 := rfl
theorem conv1' (w : World) (x : Int) : (convert 37 9 (.slice (some ⟨w.heap.size, 0, none⟩) 1 1)).run Try.prog (w.alloc (.cells #[.int .u8 x] 5)) = .ok (.string (strOfNums [x])) (w.alloc (.cells #[.int .u8 x] 5)) :=
  run_convert_bytes_arg _ 37 5 Try.underlying37 Try.underlying5 w.heap.size 0 1 1 [x] rfl (fun i hi => by
    rw [(Blk.new w 5 _).cell]
    obtain rfl : i = 0 := by omega
    rfl) 9 Try.underlying9
theorem ssum_of (k : Nat) (a b : ByteArray) : (Oct.sumN ((((strOfNums [(k : Int)] ++ a) ++ b) ++ a) ++ b).data.toList : Nat) = ssum k a.data.toList b.data.toList := by
  unfold ssum
  congr 1
  simp [strOfNums, ByteArray.data_append]
theorem ssum_lt (k : Nat) (a b : List UInt8) : ssum k a b < 4294967296 := Oct.sumN_lt _
theorem size5 (x : Int) (a b : ByteArray) (ha : a.size ≤ 4000) (hb : b.size ≤ 4000) : ((((strOfNums [x] ++ a) ++ b) ++ a) ++ b).size ≤ maxLen := by
  rw [ByteArray.size_append, ByteArray.size_append, ByteArray.size_append, ByteArray.size_append, strOfNums_size]
  unfold maxLen
  simp only [List.length_cons, List.length_nil]
  omega
theorem sumX (s : ByteArray) (w : World) (x : Int) (hs : s.size ≤ maxLen) (hx : Hid (((Oct.sumN s.data.toList : Nat) : Int) = x)) :
    Calls Try.prog 22 #[.string s] w fun e w' => e = .returned (.int .i64 x) ∧ w = w' := hx.out ▸ sum_any s w hs
theorem new2 (w : World) (o : Obj) (t : TypeId) (cs : Array Value) : Blk ((w.alloc o).alloc (.cells cs t)) (w.heap.size + 1) t cs := by
  have := Blk.new (w.alloc o) t cs
  simpa using this
set_option maxHeartbeats 1000000 in
theorem sumOf_any (a b : ByteArray) (w : World) (ha : a.size ≤ 4000) (hb : b.size ≤ 4000) :
    Calls Try.prog 14 #[.string a, .string b] w fun e w' => e = .returned (.agg (srow 4 a.data.toList b.data.toList)) ∧ Below w.heap.size w w' := by
  go_enter Try.func14, Try.ntmps14
  go_wp2_with fail
  go_loopw [7] (fun i wr => ∃ k : Nat, k ≤ 4 ∧ i = .int .i64 k ∧ Blk wr (w.heap.size + 1) 34 (srow k a.data.toList b.data.toList) ∧ Blk wr w.heap.size 34 (srow 0 a.data.toList b.data.toList) ∧ Below w.heap.size w wr) (fun i _ => 4 - (intOf i).toNat)
  case atStart => exact ⟨0, by omega, rfl, new2 w _ _ _, (Blk.new w _ _).alloc _, ((Below.refl _ _).alloc (Nat.le_refl _) _).alloc (by simp) _⟩
  case round =>
    obtain ⟨k, hk, rfl, hblk, hres, hbel⟩ := hrel
    by_cases hlt : k < 4
    · obtain ⟨c0, hc⟩ := hblk.some_ (i := k) (by rw [srow_size]; exact hlt)
      have hf := hblk.frozen k
      have hcv := conv1' wr (k : Int)
      have hkz : (strOfNums [(k : Int)]).size ≤ 1 := by rw [strOfNums_size]; simp
      obtain ⟨kb, hkb⟩ : ∃ kb, strOfNums [(k : Int)] = kb := ⟨_, rfl⟩
      have hso := ssum_of k a b
      have hs5 := size5 (k : Int) a b ha hb
      rw [hkb] at hcv hkz hso hs5
      have HS := Lib.hid hso
      have HZ := Lib.hid hs5
      clear hso hs5 hkb
      have hnw := hblk.lt
      obtain ⟨x, hx⟩ : ∃ x : Int, ((ssum k a.data.toList b.data.toList : Nat) : Int) = x := ⟨_, rfl⟩
      have x1 : 0 ≤ x := by omega
      have x2 : x < 4294967296 := by have := ssum_lt k a.data.toList b.data.toList; omega
      have HX := Lib.hid hx
      have HB := Lib.hid hblk
      have HR := Lib.hid hres
      clear hx hblk hres
      go_wp2_with fail
      refine (sumX _ _ x HZ.out (Lib.hid (by rw [HS.out]; exact HX.out))).mono ?_
      rintro e w' ⟨rfl, rfl⟩
      go_wp2_with fail
      go_roundw
      case rel => exact ⟨k + 1, by omega, by go_num, (((HB.out.set_ k _).eq_ (by rw [← HX.out]; exact srow_set k _ _ hlt)).alloc _), ((HR.out.far (by simp) _).alloc _), ((hbel.setCell (by simp) _).alloc (by simp; exact hbel.size) _)⟩
      case measure => simp [intOf]; omega
    · obtain rfl : k = 4 := by omega
      have l0 : wr.cell? ⟨w.heap.size + 1, 0, none⟩ = some (.int .u32 (ssum 0 a.data.toList b.data.toList : Nat)) := hblk.cell 0
      have l1 : wr.cell? ⟨w.heap.size + 1, 1, none⟩ = some (.int .u32 (ssum 1 a.data.toList b.data.toList : Nat)) := hblk.cell 1
      have l2 : wr.cell? ⟨w.heap.size + 1, 2, none⟩ = some (.int .u32 (ssum 2 a.data.toList b.data.toList : Nat)) := hblk.cell 2
      have l3 : wr.cell? ⟨w.heap.size + 1, 3, none⟩ = some (.int .u32 (ssum 3 a.data.toList b.data.toList : Nat)) := hblk.cell 3
      have r0 : wr.cell? ⟨w.heap.size, 0, none⟩ = some (.int .u32 0) := hres.cell 0
      have r1 : wr.cell? ⟨w.heap.size, 1, none⟩ = some (.int .u32 0) := hres.cell 1
      have r2 : wr.cell? ⟨w.heap.size, 2, none⟩ = some (.int .u32 0) := hres.cell 2
      have r3 : wr.cell? ⟨w.heap.size, 3, none⟩ = some (.int .u32 0) := hres.cell 3
      have f0 := hres.frozen 0
      have f1 := hres.frozen 1
      have f2 := hres.frozen 2
      have f3 := hres.frozen 3
      have HR := Lib.hid hres
      clear hblk hres
      go_wp2_with fail
      refine bodyPost_ret (v := .agg (srow 4 a.data.toList b.data.toList)) (by simp [results, Try.results14, go_sem, r0, r1, r2, r3, srow]) rfl ⟨rfl, ?_⟩
      exact (((hbel.setCell (Nat.le_refl _) _).setCell (Nat.le_refl _) _).setCell (Nat.le_refl _) _).setCell (Nat.le_refl _) _
end Go.Proofs.Yteajgkjiappkiaa
