/- The walk of the law DiskSynced: the words, and the calls. -/
import Derived.Test.YtmkcmahfededeaaVdS0
import Derived.Lib.Strings
import Derived.Laws.Concat
import Derived.Deep.RegionHeld3
namespace Go.Proofs.Ytmkcmahfededeaa
open Go.RowKit Go.Maps
/-- texts as cells -/
def strs (l : List (List UInt8)) : Array Value := (l.map fun x => Value.string ⟨x.toArray⟩).toArray
theorem strs_at (l : List (List UInt8)) (k : Nat) (h : k < l.length) : (strs l)[k]? = some (.string ⟨(l.getD k []).toArray⟩) := by simp [strs, h]
theorem strs_set (l : List (List UInt8)) (k : Nat) (x : List UInt8) : (strs l).setIfInBounds k (.string ⟨x.toArray⟩) = strs (l.set k x) := by simp [strs, List.map_set]
/-- the disk, and the rows that are wanted -/
structure SY (B : Nat) (w : World) (H g : Nat) (d : Vd.VD) (L : List (List UInt8)) (w1 : World) : Prop where
  hB : B ≤ w.heap.size
  below : Below B w w1
  want : Blk w1 H 28 (strs L)
  HB : B ≤ H
  disk : ∃ fp, DF w1 g d fp ∧ ∀ b ∈ fp, B ≤ b ∧ b ≠ H
section
variable {B : Nat} {w w1 w2 : World} {H g : Nat} {d d' : Vd.VD} {L : List (List UInt8)}
theorem SY.later (h : SY B w H g d L w1) (hb : Below w1.heap.size w1 w2) : SY B w H g d L w2 := by
  obtain ⟨hB, hb1, hw, hH, fp, hF, hf⟩ := h
  have := hb1.size
  exact ⟨hB, hb1.trans (hb.mono (by omega)), hw.below hb hw.lt, hH, fp, hF.below hb, hf⟩
theorem SY.post {v : Value} {e : Ending} {fp : List Nat} (hB : B ≤ w.heap.size) (hb : Below B w w1) (hw : Blk w1 H 28 (strs L)) (hH : B ≤ H) (hf : ∀ b ∈ fp, B ≤ b ∧ b ≠ H) (h : DPost v g d' fp w1 e w2) : e = .returned v ∧ SY B w H g d' L w2 := by
  obtain ⟨he, fp', hF, hO, hn⟩ := h
  have hs := hb.size
  refine ⟨he, hB, hb.trans (hO.to_below (by omega) (fun b hm => (hf b hm).1)), hw.only hO (fun hm => (hf H hm).2 rfl), hH, fp', hF, fun b hm => ?_⟩
  rcases hn b hm with h1 | h1
  · exact hf b h1
  · have := hw.lt
    exact ⟨by omega, by omega⟩
theorem SY.store (h : SY B w H g d L w1) (k : Nat) (x : List UInt8) : SY B w H g d (L.set k x) (w1.setCell ⟨H, k, none⟩ (.string ⟨x.toArray⟩)) := by
  obtain ⟨hB, hb1, hw, hH, fp, hF, hf⟩ := h
  have hO : Only [H] w1 (w1.setCell ⟨H, k, none⟩ (.string ⟨x.toArray⟩)) := (Only.refl _ _).setCell (.inl (by simp)) _
  have := hb1.size
  exact ⟨hB, hb1.setCell hH _, (hw.set_ k _).eq_ (strs_set L k x), hH, fp, hF.only hO (fun b hm => by simpa using (hf b hm).2), hf⟩
theorem write_sy (h : SY B w H g d L w1) (a : Int) (s : ByteArray) (hm : s.size ≤ 9223372036854775807) (hw : d.writes < 1000000000) (hr : Vd.write d a s.data.toList = (0, d')) :
    Calls Try.prog 13 #[.pointer (some ⟨g, 0, none⟩), .int .i64 a, .string s] w1 fun e w2 => e = .returned (.int .i64 0) ∧ SY B w H g d' L w2 := by
  obtain ⟨hB, hb, hwa, hH, fp, hF, hf⟩ := h
  have := write_any hF a s hm hw
  rw [hr] at this
  exact this.mono fun e w2 hp => SY.post hB hb hwa hH hf hp
theorem sync_sy (h : SY B w H g d L w1) (hr : Vd.sync d = (0, d')) : Calls Try.prog 12 #[.pointer (some ⟨g, 0, none⟩)] w1 fun e w2 => e = .returned (.int .i64 0) ∧ SY B w H g d' L w2 := by
  obtain ⟨hB, hb, hwa, hH, fp, hF, hf⟩ := h
  have := sync_any hF
  rw [hr] at this
  exact this.mono fun e w2 hp => SY.post hB hb hwa hH hf hp
theorem crash_sy (h : SY B w H g d L w1) (keep torn : Int) : Calls Try.prog 14 #[.pointer (some ⟨g, 0, none⟩), .int .i64 keep, .int .i64 torn] w1 fun e w2 => e = .returned (.tuple #[]) ∧ SY B w H g (Vd.crash d keep torn) L w2 := by
  obtain ⟨hB, hb, hwa, hH, fp, hF, hf⟩ := h
  exact (crash_any hF keep torn).mono fun e w2 hp => SY.post hB hb hwa hH hf hp
theorem restore_sy (h : SY B w H g d L w1) : Calls Try.prog 15 #[.pointer (some ⟨g, 0, none⟩)] w1 fun e w2 => e = .returned (.tuple #[]) ∧ SY B w H g { d with on := true } L w2 := by
  obtain ⟨hB, hb, hwa, hH, fp, hF, hf⟩ := h
  exact (restore_df hF).mono fun e w2 hp => SY.post hB hb hwa hH hf hp
theorem read_sy (h : SY B w H g d L w1) (a : Int) : Calls Try.prog 16 #[.pointer (some ⟨g, 0, none⟩), .int .i64 a] w1 fun e w2 => e = .returned (rdV (Vd.read d a)) ∧ SY B w H g d L w2 := by
  have h' := h
  obtain ⟨hB, hb, hwa, hH, fp, hF, hf⟩ := h
  exact (read_any hF a).mono fun e w2 hp => ⟨hp.1, h'.later hp.2⟩
theorem queue_sy (h : SY B w H g d L w1) : Calls Try.prog 17 #[.pointer (some ⟨g, 0, none⟩)] w1 fun e w2 => e = .returned (.int .i64 d.q.length) ∧ w1 = w2 := by
  obtain ⟨_, _, _, _, fp, ⟨S, M, qv, rfl, h⟩, _⟩ := h
  exact queue_any h
end
theorem and7 (z : Int) : bits .and .i64 z 7 = z % 8 := by
  have h7 : (BitVec.ofInt 64 7).toNat = 7 := by decide
  show IntKind.i64.wrap ((BitVec.ofInt 64 z &&& BitVec.ofInt 64 7).toNat : Int) = _
  rw [BitVec.toNat_and, h7, BitVec.toNat_ofInt, show (7 : Nat) = 2 ^ 3 - 1 from rfl, Nat.and_two_pow_sub_one_eq_mod, IntKind.wrap_i64]
  omega
/-- the row as a letter -/
theorem row_var (v : Int) (r : ByteArray) (w : World) (h : Hid ((⟨(rowL v).toArray⟩ : ByteArray) = r)) : Calls Try.prog 11 #[.int .i64 v] w fun e w' => e = .returned (.string r) ∧ Below w.heap.size w w' := h.out ▸ row_any v w
/-- a list's ints as an argument -/
def IntsAt (w : World) (A : Option Addr) (n : Nat) (zs : List Int) : Prop := zs.length = n ∧ ∀ k, k < n → ∃ ad, A = some ad ∧ ad.block < w.heap.size ∧ w.cell? (ad.add k) = some (.int .i64 (zs.getD k 0))
/-- the place that a number names -/
def plc (zs : List Int) (k : Nat) : Nat := (zs.getD k 0 % 8).toNat
theorem plc_lt (zs : List Int) (k : Nat) : plc zs k < 8 := by unfold plc; omega
theorem plc_and (zs : List Int) (k : Nat) : bits .and .i64 (zs.getD k 0) 7 = (plc zs k : Int) := by rw [and7]; unfold plc; omega
def rep8 (i : Nat) : List (List UInt8) := List.replicate i z64 ++ List.replicate (8 - i) []
theorem rep8_length (i : Nat) (h : i ≤ 8) : (rep8 i).length = 8 := by simp [rep8]; omega
theorem rep8_step (i : Nat) (h : i < 8) : (rep8 i).set i z64 = rep8 (i + 1) := by
  unfold rep8
  rw [List.set_append_right _ _ (by simp), List.length_replicate, Nat.sub_self, show 8 - i = (8 - (i + 1)) + 1 from by omega, List.replicate_succ, List.set_cons_zero, List.replicate_succ', List.append_assoc, List.singleton_append]
theorem rep8_all : rep8 8 = z8 := by decide +kernel
theorem rowL_zero : rowL 0 = z64 := by decide +kernel
theorem run_alloc_want (w : World) : (Instr.alloc 28 true (.tuple #[])).run Try.prog w = .ok (.pointer (some ⟨w.heap.size, 0, none⟩)) (w.alloc (.cells (strs (rep8 0)) 28)) := by kernel_rfl
end Go.Proofs.Ytmkcmahfededeaa
