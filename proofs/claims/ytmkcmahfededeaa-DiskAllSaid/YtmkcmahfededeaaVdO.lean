/- The contract of the law's own alive. -/
import Derived.Test.YtmkcmahfededeaaVdN
import Derived.Deep.RegionHeld3
namespace Go.Proofs.Ytmkcmahfededeaa
open Go.RowKit Go.Maps
/-- the bytes that alive writes -/
def aliveS : List UInt8 := 7 :: List.replicate 63 0
def aliveD : Vd.VD := (Vd.write (newVD 4) 1 aliveS).2
theorem alive_write : (Vd.write (newVD 4) 1 aliveS).1 = 0 := by decide +kernel
theorem alive_read : Vd.read aliveD 1 = (0, aliveS) := by decide +kernel
theorem alive_queue : aliveD.q.length = 1 := by decide +kernel
theorem alive_image : aliveD.secs.flatten = List.replicate 256 0 := by decide +kernel
theorem new_df {w w' : World} {n : Nat} (h : DiskAt w' (w.heap.size + 2) w.heap.size (w.heap.size + 1) (.slice none 0 0) (newVD n)) : DF w' (w.heap.size + 2) (newVD n) [w.heap.size + 2, w.heap.size, w.heap.size + 1] := ⟨_, _, _, rfl, h⟩
/-- a disk that lies wholly above B, and all below B is as it was -/
def DB (B : Nat) (w w' : World) (g : Nat) (d : Vd.VD) : Prop := B ≤ w.heap.size ∧ Below B w w' ∧ ∃ fp, DF w' g d fp ∧ ∀ b ∈ fp, B ≤ b
section
variable {B : Nat} {w w1 w2 : World} {g : Nat} {d d' : Vd.VD}
theorem DB.post {fp : List Nat} {v : Value} {e : Ending} (hB : B ≤ w.heap.size) (hb : Below B w w1) (hf : ∀ b ∈ fp, B ≤ b) (h : DPost v g d' fp w1 e w2) : e = .returned v ∧ DB B w w2 g d' := by
  obtain ⟨he, fp', hF, hO, hn⟩ := h
  have hs := hb.size
  refine ⟨he, hB, hb.trans (hO.to_below (by omega) hf), fp', hF, fun b hm => ?_⟩
  rcases hn b hm with h1 | h1
  · exact hf b h1
  · omega
theorem DB.below (h : DB B w w1 g d) (hb : Below w1.heap.size w1 w2) : DB B w w2 g d := by
  obtain ⟨hB, hb1, fp, hF, hf⟩ := h
  have := hb1.size
  exact ⟨hB, hb1.trans (hb.mono (by omega)), fp, hF.below hb, hf⟩
theorem DB.size (h : DB B w w1 g d) : w.heap.size ≤ w1.heap.size := h.2.1.size
theorem DB.toBelow (h : DB B w w1 g d) : Below B w w1 := h.2.1
theorem DB.new {n : Nat} (hB : B ≤ w.heap.size) (hb : Below B w w1) (hD : DiskAt w2 (w1.heap.size + 2) w1.heap.size (w1.heap.size + 1) (.slice none 0 0) (newVD n)) (hb2 : Below w1.heap.size w1 w2) : DB B w w2 (w1.heap.size + 2) (newVD n) := by
  have := hb.size
  exact ⟨hB, hb.trans (hb2.mono (by omega)), _, new_df hD, by simp; omega⟩
theorem new_db (n : Nat) (hB : B ≤ w.heap.size) (hb : Below B w w1) (h1 : 1 ≤ n) (h2 : n ≤ 65536) :
    Calls Try.prog 10 #[.int .i64 n] w1 fun e w2 => e = .returned (.tuple #[.pointer (some ⟨w1.heap.size + 2, 0, none⟩), .int .i64 0]) ∧ DB B w w2 (w1.heap.size + 2) (newVD n) := by
  refine (new_in n w1 h1 h2).mono ?_
  rintro e w2 ⟨rfl, hD, hb2⟩
  exact ⟨rfl, DB.new hB hb hD hb2⟩
theorem write_db (h : DB B w w1 g d) (a : Int) (s : ByteArray) (hm : s.size ≤ 9223372036854775807) (hw : d.writes < 1000000000) :
    Calls Try.prog 13 #[.pointer (some ⟨g, 0, none⟩), .int .i64 a, .string s] w1 fun e w2 => e = .returned (.int .i64 (Vd.write d a s.data.toList).1) ∧ DB B w w2 g (Vd.write d a s.data.toList).2 := by
  obtain ⟨hB, hb, fp, hF, hf⟩ := h
  exact (write_any hF a s hm hw).mono fun e w2 hp => DB.post hB hb hf hp
theorem sync_db (h : DB B w w1 g d) : Calls Try.prog 12 #[.pointer (some ⟨g, 0, none⟩)] w1 fun e w2 => e = .returned (.int .i64 (Vd.sync d).1) ∧ DB B w w2 g (Vd.sync d).2 := by
  obtain ⟨hB, hb, fp, hF, hf⟩ := h
  exact (sync_any hF).mono fun e w2 hp => DB.post hB hb hf hp
theorem crash_db (h : DB B w w1 g d) (keep torn : Int) : Calls Try.prog 14 #[.pointer (some ⟨g, 0, none⟩), .int .i64 keep, .int .i64 torn] w1 fun e w2 => e = .returned (.tuple #[]) ∧ DB B w w2 g (Vd.crash d keep torn) := by
  obtain ⟨hB, hb, fp, hF, hf⟩ := h
  exact (crash_any hF keep torn).mono fun e w2 hp => DB.post hB hb hf hp
theorem restore_df {fp : List Nat} (h : DF w g d fp) : Calls Try.prog 15 #[.pointer (some ⟨g, 0, none⟩)] w (DPost (.tuple #[]) g { d with on := true } fp w) := by
  obtain ⟨S, M, qv, rfl, h⟩ := h
  exact (restore_any h).mono fun e w' ⟨he, hD, hO⟩ => ⟨he, _, ⟨S, M, qv, rfl, hD⟩, hO.mono (by simp [foot]), fun _ h => .inl h⟩
theorem restore_db (h : DB B w w1 g d) : Calls Try.prog 15 #[.pointer (some ⟨g, 0, none⟩)] w1 fun e w2 => e = .returned (.tuple #[]) ∧ DB B w w2 g { d with on := true } := by
  obtain ⟨hB, hb, fp, hF, hf⟩ := h
  exact (restore_df hF).mono fun e w2 hp => DB.post hB hb hf hp
theorem room_df {fp : List Nat} (h : DF w g d fp) (n : Int) (h0 : n ≤ 9223372036854775807) : Calls Try.prog 18 #[.pointer (some ⟨g, 0, none⟩), .int .i64 n] w (DPost (.tuple #[]) g { d with room := max n (-1) } fp w) := by
  obtain ⟨S, M, qv, rfl, h⟩ := h
  exact (room_any h n h0).mono fun e w' ⟨he, hD, hO⟩ => ⟨he, _, ⟨S, M, qv, rfl, hD⟩, hO.mono (by simp [foot]), fun _ h => .inl h⟩
theorem room_db (h : DB B w w1 g d) (n : Int) (h0 : n ≤ 9223372036854775807) : Calls Try.prog 18 #[.pointer (some ⟨g, 0, none⟩), .int .i64 n] w1 fun e w2 => e = .returned (.tuple #[]) ∧ DB B w w2 g { d with room := max n (-1) } := by
  obtain ⟨hB, hb, fp, hF, hf⟩ := h
  exact (room_df hF n h0).mono fun e w2 hp => DB.post hB hb hf hp
theorem fuse_df {fp : List Nat} (h : DF w g d fp) (n keep torn : Int) (h0 : n ≤ 9223372036854775807) : Calls Try.prog 20 #[.pointer (some ⟨g, 0, none⟩), .int .i64 n, .int .i64 keep, .int .i64 torn] w (DPost (.tuple #[]) g (setFuse d n keep torn) fp w) := by
  obtain ⟨S, M, qv, rfl, h⟩ := h
  exact (fuse_any h n keep torn h0).mono fun e w' ⟨he, hD, hO⟩ => ⟨he, _, ⟨S, M, qv, rfl, hD⟩, hO.mono (by simp [foot]), fun _ h => .inl h⟩
theorem fuse_db (h : DB B w w1 g d) (n keep torn : Int) (h0 : n ≤ 9223372036854775807) : Calls Try.prog 20 #[.pointer (some ⟨g, 0, none⟩), .int .i64 n, .int .i64 keep, .int .i64 torn] w1 fun e w2 => e = .returned (.tuple #[]) ∧ DB B w w2 g (setFuse d n keep torn) := by
  obtain ⟨hB, hb, fp, hF, hf⟩ := h
  exact (fuse_df hF n keep torn h0).mono fun e w2 hp => DB.post hB hb hf hp
theorem read_db (h : DB B w w1 g d) (a : Int) : Calls Try.prog 16 #[.pointer (some ⟨g, 0, none⟩), .int .i64 a] w1 fun e w2 => e = .returned (rdV (Vd.read d a)) ∧ DB B w w2 g d := by
  have h' := h
  obtain ⟨hB, hb, fp, hF, hf⟩ := h
  exact (read_any hF a).mono fun e w2 hp => ⟨hp.1, h'.below hp.2⟩
theorem image_db (h : DB B w w1 g d) : Calls Try.prog 24 #[.pointer (some ⟨g, 0, none⟩)] w1 fun e w2 => e = .returned (.string ⟨d.secs.flatten.toArray⟩) ∧ DB B w w2 g d := by
  have h' := h
  obtain ⟨hB, hb, fp, hF, hf⟩ := h
  exact (image_any hF).mono fun e w2 hp => ⟨hp.1, h'.below hp.2⟩
theorem queue_db (h : DB B w w1 g d) : Calls Try.prog 17 #[.pointer (some ⟨g, 0, none⟩)] w1 fun e w2 => e = .returned (.int .i64 d.q.length) ∧ w1 = w2 := by
  obtain ⟨_, _, fp, ⟨S, M, qv, rfl, h⟩, _⟩ := h
  exact queue_any h
theorem writes_db (h : DB B w w1 g d) : Calls Try.prog 19 #[.pointer (some ⟨g, 0, none⟩)] w1 fun e w2 => e = .returned (.int .i64 d.writes) ∧ w1 = w2 := by
  obtain ⟨_, _, fp, ⟨S, M, qv, rfl, h⟩, _⟩ := h
  exact writes_any h
theorem on_db (h : DB B w w1 g d) : Calls Try.prog 21 #[.pointer (some ⟨g, 0, none⟩)] w1 fun e w2 => e = .returned (.bool d.on) ∧ w1 = w2 := by
  obtain ⟨_, _, fp, ⟨S, M, qv, rfl, h⟩, _⟩ := h
  exact on_any h
end
theorem run_index_at {P : Program} (t : TypeId) (s : ByteArray) (k : IntKind) (i : Nat) (h : P.underlying t = some .string) (hi : i < s.size) (W : World) : (Instr.index t (.string s) (.int k (i : Int))).run P W = .ok (.int .u8 (s[i].toNat : Int)) W := by
  have hh : 0 ≤ (i : Int) ∧ (i : Int) < (s.size : Int) := by omega
  rw [run_index_string W t _ k i h, dif_pos hh]
  rfl
theorem alive_str : ∃ r : ByteArray, r = ⟨aliveS.toArray⟩ ∧ r.size = 64 ∧ ∀ W : World, (Instr.index 9 (.string r) (.int .i64 0)).run Try.prog W = .ok (.int .u8 7) W :=
  ⟨_, rfl, by decide +kernel, fun W => run_index_at (P := Try.prog) 9 ⟨aliveS.toArray⟩ .i64 0 Try.underlying9 (by decide +kernel) W⟩
theorem alive_img : ∃ r : ByteArray, r = ⟨(List.replicate 256 (0 : UInt8)).toArray⟩ ∧ r.size = 256 ∧ ∀ W : World, (Instr.index 9 (.string r) (.int .i64 64)).run Try.prog W = .ok (.int .u8 0) W :=
  ⟨_, rfl, by decide +kernel, fun W => run_index_at (P := Try.prog) 9 ⟨(List.replicate 256 (0 : UInt8)).toArray⟩ .i64 64 Try.underlying9 (by decide +kernel) W⟩
set_option maxHeartbeats 1000000 in
theorem alive_any (w : World) : Calls Try.prog 9 #[] w fun e w' => e = .returned (.bool true) ∧ Below w.heap.size w w' := by
  obtain ⟨i0, hi0, hz0, hz1, hz2⟩ := info_parts u8_info
  have hmk := fun W => make_bytes' (P := Try.prog) 54 5 i0 Try.underlying54 hi0 hz0 hz1 hz2 .i64 .i64 64 64 64 64 rfl rfl (by omega) (by omega) W
  have e64 : List.replicate 64 (0 : UInt8) = z64 := rfl
  rw [e64] at hmk
  clear e64 hi0 hz0 hz1 hz2
  go_enter Try.func9, Try.ntmps9
  go_wp2_with fail
  refine (new_db 4 (Nat.le_refl _) (Below.refl _ _) (by omega) (by omega)).mono ?_
  rintro e w1 ⟨rfl, hF⟩
  have HF := Lib.hid hF
  have hs1 := hF.size
  clear hF
  have hset : (bvs z64).setIfInBounds 0 (.int .u8 7) = bvs aliveS := by
    have := bvs_set z64 0 7
    exact this
  have hB1 : Blk (w1.alloc (.cells ((bvs z64).setIfInBounds 0 (.int .u8 7)) 5)) w1.heap.size 5 (bvs aliveS) := by rw [hset]; exact Blk.new w1 _ _
  have hcv := string_of_blk (P := Try.prog) hB1 54 9 5 64 64 rfl Try.underlying54 Try.underlying5 Try.underlying9
  have hc0 : (w1.alloc (.cells (bvs z64) 5)).cell? ⟨w1.heap.size, 0, none⟩ = some (.int .u8 0) := (Blk.new w1 _ _).cell 0
  clear hset hB1
  go_wp2_with fail
  clear hmk hcv hc0
  have hF1 := HF.out.below ((Below.refl _ _).alloc (Nat.le_refl _) (.cells ((bvs z64).setIfInBounds 0 (.int .u8 7)) 5))
  obtain ⟨w2, hw2⟩ : ∃ w2, w2 = w1.alloc (.cells ((bvs z64).setIfInBounds 0 (.int .u8 7)) 5) := ⟨_, rfl⟩
  rw [← hw2] at hF1 ⊢
  clear hw2 HF
  have hwr := write_db hF1 1 ⟨aliveS.toArray⟩ (by decide +kernel) (by decide)
  have e1 : (Vd.write (newVD 4) 1 (⟨aliveS.toArray⟩ : ByteArray).data.toList) = (0, aliveD) := Prod.ext alive_write rfl
  rw [e1] at hwr
  clear e1 hF1
  refine hwr.mono ?_
  rintro e w3 ⟨rfl, hF3⟩
  have hrd := read_db hF3 1
  rw [alive_read] at hrd
  obtain ⟨r, hr, hr1, hr2⟩ := alive_str
  have hrd' := hrd
  unfold rdV at hrd'
  simp only [← hr] at hrd'
  clear hwr hF3 hrd
  go_wp2_with fail
  refine hrd'.mono ?_
  rintro e w4 ⟨rfl, hF4⟩
  have hq := queue_db hF4
  rw [alive_queue] at hq
  have hi1 := image_db hF4
  obtain ⟨im, hm, hm1, hm2⟩ := alive_img
  rw [alive_image, ← hm] at hi1
  have Hm := Lib.hid hm
  clear hrd' hr hm
  have Hm2 := Lib.hid hm2
  clear hm2
  go_wp2_with fail
  refine hq.mono ?_
  rintro e w5 ⟨rfl, rfl⟩
  go_wp2_with fail
  refine hi1.mono ?_
  rintro e w5 ⟨rfl, hF5⟩
  have hi2 := image_db hF5
  rw [alive_image, ← Hm.out] at hi2
  clear hi1
  go_wp2_with fail
  refine hi2.mono ?_
  rintro e w6 ⟨rfl, hF6⟩
  have hm2 := Hm2.out
  go_wp2_with fail
  go_ret
  exact ⟨rfl, hF6.toBelow⟩
end Go.Proofs.Ytmkcmahfededeaa
