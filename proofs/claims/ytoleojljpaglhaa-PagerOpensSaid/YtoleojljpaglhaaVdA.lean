/- The disk in memory, and the contract of vdisk.New. -/
import Derived.Test.YtoleojljpaglhaaVdM
import Derived.ProofKit
import Derived.Lib.Hide
import Derived.LoopTactic
import Derived.Outline
namespace Go.Proofs.Ytoleojljpaglhaa
open Go.RowKit Go.Maps
set_option maxRecDepth 20000
theorem sec_info : (Try.prog.info? 89).map (fun i => (i.zero, i.size, i.bytes)) = some (some (.agg (Array.replicate 64 (.int .u8 0))), 64, 64) := by kernel_rfl
theorem run_make_rowN {P : Program} (t e : TypeId) (i : TypeInfo) (z : Value) (ht : P.underlying t = some (.slice e)) (hi : P.info? e = some i) (hz : i.zero = some z)
    (kl kc : IntKind) (n c : Nat) (hnc : n ≤ c) (hbytes : i.bytes * c ≤ 281474976710656) (h63 : c ≤ 9223372036854775807) (w : World) :
    (Instr.makeSlice t (.int kl (n : Int)) (.int kc (c : Int))).run P w = .ok (.slice (some ⟨w.heap.size, 0, none⟩) n c) (w.alloc (.cells (madeCells z.cells (c * i.size)) e)) := by
  have hb : (i.bytes : Int) * (c : Int) ≤ 281474976710656 := by
    have h : ((i.bytes * c : Nat) : Int) ≤ 281474976710656 := by omega
    rwa [Int.natCast_mul] at h
  have hr := run_make (P := P) w t e i z ht hi hz kl kc n c (by omega) (by omega) hb (by omega)
  simp only [Int.toNat_natCast] at hr
  exact hr
theorem made64 (n : Nat) : madeCells (Value.agg (Array.replicate 64 (.int .u8 0))).cells (n * 64) = bvs (List.replicate (n * 64) 0) := by
  apply Array.ext_getElem?
  intro i
  by_cases h : i < n * 64
  · have : i % 64 < 64 := Nat.mod_lt _ (by omega)
    simp [bvs, madeCells, h, Value.cells, this]
  · simp [bvs, madeCells, h]
/-- make([]sector, n) -/
theorem make_secs (n : Nat) (h : n ≤ 65536) (w : World) : (Instr.makeSlice 65 (.int .i64 (n : Int)) (.int .i64 (n : Int))).run Try.prog w = .ok (.slice (some ⟨w.heap.size, 0, none⟩) n n) (w.alloc (.cells (bvs (List.replicate (n * 64) 0)) 89)) := by
  obtain ⟨i0, hi0, hz0, hz1, hz2⟩ := info_parts sec_info
  have := run_make_rowN (P := Try.prog) 65 89 i0 _ Try.underlying65 hi0 hz0 .i64 .i64 n n (Nat.le_refl _) (by rw [hz2]; omega) (by omega) w
  rwa [hz1, made64] at this
/-- a fuse's four cells -/
def fset : Option (Int × Int × Int) → Bool
  | none => false
  | some _ => true
def fn : Option (Int × Int × Int) → Int
  | none => 0
  | some x => x.1
def fkeep : Option (Int × Int × Int) → Int
  | none => 0
  | some x => x.2.1
def ftorn : Option (Int × Int × Int) → Int
  | none => 0
  | some x => x.2.2
/-- a disk's ten cells -/
def dcells (S M : Nat) (qv : Value) (d : Vd.VD) : Array Value :=
  #[.slice (some ⟨S, 0, none⟩) d.secs.length d.sc, qv, .map (some M), .bool d.on, .int .i64 d.room, .bool (fset d.fuse), .int .i64 (fn d.fuse), .int .i64 (fkeep d.fuse), .int .i64 (ftorn d.fuse), .int .i64 d.writes]
/-- the queue's cells: 65 a write -/
def qcells (q : List (Nat × List UInt8)) : List Value := q.flatMap fun x => .int .i64 (x.1 : Int) :: bl x.2
/-- where the last write of a sector lies -/
def lastI (q : List (Nat × List UInt8)) (k : Int) : Option Int := if 0 ≤ k then (Vd.lastAt q k.toNat).map fun i => (i : Int) else none
/-- a disk in memory -/
structure DiskAt (w : World) (g S M : Nat) (qv : Value) (d : Vd.VD) : Prop where
  ok : d.ok
  secs1 : d.secs.length ≤ 65536
  self : Blk w g 71 (dcells S M qv d)
  secsG : Blk w S 89 (bl d.secs.flatten ++ d.sr).toArray ∧ d.secs.length ≤ d.sc ∧ d.sc ≤ maxLen ∧ d.secs.length * 64 + d.sr.length = d.sc * 64
  queue : w.ownsRow 0 91 65 qv d.q.length (qcells d.q)
  last : MapIs w M d.q.length (lastI d.q)
theorem DiskAt.secs {w : World} {g S M : Nat} {qv : Value} {d : Vd.VD} (h : DiskAt w g S M qv d) : Blk w S 89 (bl d.secs.flatten ++ d.sr).toArray := h.secsG.1
/-- the blocks of a disk -/
def foot (g S M : Nat) (qv : Value) : List Nat := g :: S :: M :: qv.ownBlock.toList
/-- a new disk -/
def newVD (n : Nat) : Vd.VD := { secs := List.replicate n (List.replicate 64 0), q := [], on := true, room := -1, fuse := none, writes := 0, sc := n, sr := [] }
theorem flat_new (n : Nat) : (List.replicate n (List.replicate 64 (0 : UInt8))).flatten = List.replicate (n * 64) 0 := by
  rw [List.flatten_replicate_replicate]
theorem newVD_ok (n : Nat) (h : 1 ≤ n) : (newVD n).ok := ⟨fun s hs => by rw [(List.mem_replicate.1 hs).2]; simp, by simpa [newVD] using h, (fun x hx => by cases hx), ⟨by simp [newVD], by simp [newVD]⟩, (fun _ _ _ e => by cases e), by simp [newVD]⟩
set_option maxHeartbeats 1000000 in
theorem new_in (n : Nat) (w : World) (h1 : 1 ≤ n) (h2 : n ≤ 65536) :
    Calls Try.prog 8 #[.int .i64 n] w fun e w' => e = .returned (.tuple #[.pointer (some ⟨w.heap.size + 2, 0, none⟩), .int .i64 0]) ∧ DiskAt w' (w.heap.size + 2) w.heap.size (w.heap.size + 1) (.slice none 0 0) (newVD n) ∧ Below w.heap.size w w' := by
  have hmk := make_secs n h2
  have hmm := @run_makeMap Try.prog
  go_enter Try.func8, Try.ntmps8
  go_wp2_with fail
  go_ret2
  refine ⟨rfl, ⟨newVD_ok n h1, by simpa [newVD] using h2, ?_, ⟨?_, by simp [newVD], by simp [newVD, maxLen]; omega, by simp [newVD]⟩, ⟨rfl, .inl ⟨rfl, rfl⟩⟩, ?_⟩, (((Below.refl _ _).alloc (Nat.le_refl _) _).alloc (by simp) _).alloc (by simp; omega) _⟩
  · have e : dcells w.heap.size (w.heap.size + 1) (.slice none 0 0) (newVD n) = #[.slice (some ⟨w.heap.size, 0, none⟩) n n, .slice none 0 0, .map (some (w.heap.size + 1)), .bool true, .int .i64 (-1), .bool false, .int .i64 0, .int .i64 0, .int .i64 0, .int .i64 0] := by
      simp [dcells, newVD, fset, fn, fkeep, ftorn]
    rw [e]
    have := Blk.new ((w.alloc (.cells (bvs (List.replicate (n * 64) 0)) 89)).alloc (.map #[] 0)) 71 #[.slice (some ⟨w.heap.size, 0, none⟩) n n, .slice none 0 0, .map (some (w.heap.size + 1)), .bool true, .int .i64 (-1), .bool false, .int .i64 0, .int .i64 0, .int .i64 0, .int .i64 0]
    simpa using this
  · show Blk _ _ _ (bl (List.replicate n (List.replicate 64 0)).flatten ++ []).toArray
    rw [flat_new, List.append_nil]
    exact ((Blk.new w _ _).alloc _).alloc _
  · have h := (MapIs.made (w.alloc (.cells (bvs (List.replicate (n * 64) 0)) 89)))
    have h2 := h.only (Only.refl [] _ |>.alloc (.cells #[.slice (some ⟨w.heap.size, 0, none⟩) n n, .slice none 0 0, .map (some (w.heap.size + 1)), .bool true, .int .i64 (-1), .bool false, .int .i64 0, .int .i64 0, .int .i64 0, .int .i64 0] 71)) (by simp)
    have e : (fun _ => none) = lastI [] := by
      funext k
      unfold lastI Vd.lastAt
      simp
    rw [e] at h2
    have e2 : (w.alloc (.cells (bvs (List.replicate (n * 64) 0)) 89)).heap.size = w.heap.size + 1 := by simp
    rw [e2] at h2
    exact h2
end Go.Proofs.Ytoleojljpaglhaa
