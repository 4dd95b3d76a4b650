/- The disk in memory, and the contract of vdisk.New. -/
import Derived.Test.YtoleojljpaglhaaGreatVdM
import Derived.ProofKit
import Derived.Lib.Hide
import Derived.LoopTactic
import Derived.Outline
import Derived.BigQuiet
namespace Go.Proofs.YtoleojljpaglhaaGreat
open Go.RowKit Go.Maps
set_option maxRecDepth 20000
theorem sec_info : (Tryz.prog.info? 155).map (fun i => (i.zero, i.size, i.bytes)) = some (some (.agg (Array.replicate 64 (.int .u8 0))), 64, 64) := by kernel_rfl
theorem run_make_rowN {P : Program} (t e : TypeId) (i : TypeInfo) (z : Value) (ht : P.underlying t = some (.slice e)) (hi : P.info? e = some i) (hz : i.zero = some z)
    (kl kc : IntKind) (n c : Nat) (hnc : n ≤ c) (hbytes : i.bytes * c ≤ 281474976710656) (h63 : c ≤ 9223372036854775807) (w : World) :
    (Instr.makeSlice t (.int kl (n : Int)) (.int kc (c : Int))).run P w = .ok (.slice (some ⟨w.heap.size, 0, none⟩) n c) (w.alloc (.cells (madeCells z.cells (c * i.size)) e)) := by
  have hb : (i.bytes : Int) * (c : Int) ≤ 281474976710656 := by
    have h : ((i.bytes * c : Nat) : Int) ≤ 281474976710656 := by omega
    rwa [Int.natCast_mul] at h
  have hr := run_make (P := P) w t e i z ht hi hz kl kc n c (by omega) (by omega) hb (by omega)
  simp only [Int.toNat_natCast] at hr
  exact hr
theorem made64 (n : Nat) : madeCells (Value.agg (Array.replicate 64 (.int .u8 0))).cells (n * 64) = bvs (List.replicate (n * 64) 0) := by
  apply Array.ext_getElem?
  intro i
  by_cases h : i < n * 64
  · have : i % 64 < 64 := Nat.mod_lt _ (by omega)
    simp [bvs, madeCells, h, Value.cells, this]
  · simp [bvs, madeCells, h]
/-- make([]sector, n) -/
theorem make_secs (n : Nat) (h : n ≤ 65536) (w : World) : (Instr.makeSlice 63 (.int .i64 (n : Int)) (.int .i64 (n : Int))).run Tryz.prog w = .ok (.slice (some ⟨w.heap.size, 0, none⟩) n n) (w.alloc (.cells (bvs (List.replicate (n * 64) 0)) 155)) := by
  obtain ⟨i0, hi0, hz0, hz1, hz2⟩ := info_parts sec_info
  have := run_make_rowN (P := Tryz.prog) 63 155 i0 _ Tryz.underlying63 hi0 hz0 .i64 .i64 n n (Nat.le_refl _) (by rw [hz2]; omega) (by omega) w
  rwa [hz1, made64] at this
/-- a fuse's four cells -/
def fset : Option (Int × Int × Int) → Bool
  | none => false
  | some _ => true
def fn : Option (Int × Int × Int) → Int
  | none => 0
  | some x => x.1
def fkeep : Option (Int × Int × Int) → Int
  | none => 0
  | some x => x.2.1
def ftorn : Option (Int × Int × Int) → Int
  | none => 0
  | some x => x.2.2
/-- a disk's ten cells -/
def dcells (S M : Nat) (qv : Value) (d : Vd.VD) : Array Value :=
  #[.slice (some ⟨S, 0, none⟩) d.secs.length d.sc, qv, .map (some M), .bool d.on, .int .i64 d.room, .bool (fset d.fuse), .int .i64 (fn d.fuse), .int .i64 (fkeep d.fuse), .int .i64 (ftorn d.fuse), .int .i64 d.writes]
/-- the queue's cells: 65 a write -/
def qcells (q : List (Nat × List UInt8)) : List Value := q.flatMap fun x => .int .i64 (x.1 : Int) :: bl x.2
/-- where the last write of a sector lies -/
def lastI (q : List (Nat × List UInt8)) (k : Int) : Option Int := if 0 ≤ k then (Vd.lastAt q k.toNat).map fun i => (i : Int) else none
/-- a disk in memory -/
structure DiskAt (w : World) (g S M : Nat) (qv : Value) (d : Vd.VD) : Prop where
  ok : d.ok
  secs1 : d.secs.length ≤ 65536
  self : Blk w g 69 (dcells S M qv d)
  secsG : Blk w S 155 (bl d.secs.flatten ++ d.sr).toArray ∧ d.secs.length ≤ d.sc ∧ d.sc ≤ maxLen ∧ d.secs.length * 64 + d.sr.length = d.sc * 64
  queue : w.ownsRow 0 157 65 qv d.q.length (qcells d.q)
  last : MapIs w M d.q.length (lastI d.q)
theorem DiskAt.secs {w : World} {g S M : Nat} {qv : Value} {d : Vd.VD} (h : DiskAt w g S M qv d) : Blk w S 155 (bl d.secs.flatten ++ d.sr).toArray := h.secsG.1
/-- the blocks of a disk -/
def foot (g S M : Nat) (qv : Value) : List Nat := g :: S :: M :: qv.ownBlock.toList
/-- a new disk -/
def newVD (n : Nat) : Vd.VD := { secs := List.replicate n (List.replicate 64 0), q := [], on := true, room := -1, fuse := none, writes := 0, sc := n, sr := [] }
theorem flat_new (n : Nat) : (List.replicate n (List.replicate 64 (0 : UInt8))).flatten = List.replicate (n * 64) 0 := by
  rw [List.flatten_replicate_replicate]
theorem newVD_ok (n : Nat) (h : 1 ≤ n) : (newVD n).ok := ⟨fun s hs => by rw [(List.mem_replicate.1 hs).2]; simp, by simpa [newVD] using h, (fun x hx => by cases hx), ⟨by simp [newVD], by simp [newVD]⟩, (fun _ _ _ e => by cases e), by simp [newVD]⟩
set_option maxHeartbeats 1000000 in
theorem new_in (n : Nat) (w : World) (h1 : 1 ≤ n) (h2 : n ≤ 65536) :
    Calls Tryz.prog 7 #[.int .i64 n] w fun e w' => e = .returned (.tuple #[.pointer (some ⟨w.heap.size + 2, 0, none⟩), .int .i64 0]) ∧ DiskAt w' (w.heap.size + 2) w.heap.size (w.heap.size + 1) (.slice none 0 0) (newVD n) ∧ Below w.heap.size w w' := by
  have hmk := make_secs n h2
  have hmm := @run_makeMap Tryz.prog
  go_enter Tryz.func7, Tryz.ntmps7
  go_wp2_with fail
  go_ret2
  refine ⟨rfl, ⟨newVD_ok n h1, by simpa [newVD] using h2, ?_, ⟨?_, by simp [newVD], by simp [newVD, maxLen]; omega, by simp [newVD]⟩, ⟨rfl, .inl ⟨rfl, rfl⟩⟩, ?_⟩, (((Below.refl _ _).alloc (Nat.le_refl _) _).alloc (by simp) _).alloc (by simp; omega) _⟩
  · have e : dcells w.heap.size (w.heap.size + 1) (.slice none 0 0) (newVD n) = #[.slice (some ⟨w.heap.size, 0, none⟩) n n, .slice none 0 0, .map (some (w.heap.size + 1)), .bool true, .int .i64 (-1), .bool false, .int .i64 0, .int .i64 0, .int .i64 0, .int .i64 0] := by
      simp [dcells, newVD, fset, fn, fkeep, ftorn]
    rw [e]
    have := Blk.new ((w.alloc (.cells (bvs (List.replicate (n * 64) 0)) 155)).alloc (.map #[] 0)) 69 #[.slice (some ⟨w.heap.size, 0, none⟩) n n, .slice none 0 0, .map (some (w.heap.size + 1)), .bool true, .int .i64 (-1), .bool false, .int .i64 0, .int .i64 0, .int .i64 0, .int .i64 0]
    simpa using this
  · show Blk _ _ _ (bl (List.replicate n (List.replicate 64 0)).flatten ++ []).toArray
    rw [flat_new, List.append_nil]
    exact ((Blk.new w _ _).alloc _).alloc _
  · have h := (MapIs.made (w.alloc (.cells (bvs (List.replicate (n * 64) 0)) 155)))
    have h2 := h.only (Only.refl [] _ |>.alloc (.cells #[.slice (some ⟨w.heap.size, 0, none⟩) n n, .slice none 0 0, .map (some (w.heap.size + 1)), .bool true, .int .i64 (-1), .bool false, .int .i64 0, .int .i64 0, .int .i64 0, .int .i64 0] 69)) (by simp)
    have e : (fun _ => none) = lastI [] := by
      funext k
      unfold lastI Vd.lastAt
      simp
    rw [e] at h2
    have e2 : (w.alloc (.cells (bvs (List.replicate (n * 64) 0)) 155)).heap.size = w.heap.size + 1 := by simp
    rw [e2] at h2
    exact h2
end Go.Proofs.YtoleojljpaglhaaGreat
/- The contracts of the disk's small calls. -/
namespace Go.Proofs.YtoleojljpaglhaaGreat
open Go.RowKit Go.Maps
/-- the ten cells -/
structure Cells10 (w : World) (g S M : Nat) (qv : Value) (d : Vd.VD) : Prop where
  c0 : w.cell? ⟨g, 0, none⟩ = some (.slice (some ⟨S, 0, none⟩) d.secs.length d.sc)
  c1 : w.cell? ⟨g, 1, none⟩ = some qv
  c2 : w.cell? ⟨g, 2, none⟩ = some (.map (some M))
  c3 : w.cell? ⟨g, 3, none⟩ = some (.bool d.on)
  c4 : w.cell? ⟨g, 4, none⟩ = some (.int .i64 d.room)
  c5 : w.cell? ⟨g, 5, none⟩ = some (.bool (fset d.fuse))
  c6 : w.cell? ⟨g, 6, none⟩ = some (.int .i64 (fn d.fuse))
  c7 : w.cell? ⟨g, 7, none⟩ = some (.int .i64 (fkeep d.fuse))
  c8 : w.cell? ⟨g, 8, none⟩ = some (.int .i64 (ftorn d.fuse))
  c9 : w.cell? ⟨g, 9, none⟩ = some (.int .i64 d.writes)
theorem DiskAt.cells {w : World} {g S M : Nat} {qv : Value} {d : Vd.VD} (h : DiskAt w g S M qv d) : Cells10 w g S M qv d :=
  ⟨h.self.cell 0, h.self.cell 1, h.self.cell 2, h.self.cell 3, h.self.cell 4, h.self.cell 5, h.self.cell 6, h.self.cell 7, h.self.cell 8, h.self.cell 9⟩
set_option maxHeartbeats 400000 in
theorem on_any {w : World} {g S M : Nat} {qv : Value} {d : Vd.VD} (h : DiskAt w g S M qv d) :
    Calls Tryz.prog 86 #[.pointer (some ⟨g, 0, none⟩)] w fun e w' => e = .returned (.bool d.on) ∧ w = w' := by
  have c3 := h.cells.c3
  clear h
  go_enter Tryz.func86, Tryz.ntmps86
  go_wp2_with fail
  go_ret
  exact ⟨rfl, rfl⟩
set_option maxHeartbeats 400000 in
theorem on_nil (w : World) : Calls Tryz.prog 86 #[.pointer none] w fun e w' => e = .returned (.bool false) ∧ w = w' := by
  go_enter Tryz.func86, Tryz.ntmps86
  go_wp2_with fail
  go_ret
  exact ⟨rfl, rfl⟩
set_option maxHeartbeats 400000 in
theorem sectors_any {w : World} {g S M : Nat} {qv : Value} {d : Vd.VD} (h : DiskAt w g S M qv d) :
    Calls Tryz.prog 21 #[.pointer (some ⟨g, 0, none⟩)] w fun e w' => e = .returned (.int .i64 d.secs.length) ∧ w = w' := by
  have c0 := h.cells.c0
  clear h
  go_enter Tryz.func21, Tryz.ntmps21
  go_wp2_with fail
  go_ret
  exact ⟨rfl, rfl⟩
end Go.Proofs.YtoleojljpaglhaaGreat
/- The contracts of the disk's Queue, Room, Fuse, Restore and asked. -/
namespace Go.Proofs.YtoleojljpaglhaaGreat
open Go.RowKit Go.Maps
section
variable {w w' : World} {g S M : Nat} {qv : Value} {d : Vd.VD}
theorem Blk.ne_ {g g' : Nat} {t t' : TypeId} {cs cs' : Array Value} (h : Blk w g t cs) (h' : Blk w g' t' cs') (hne : t ≠ t') : g ≠ g' := by
  rintro rfl
  unfold Blk at h h'
  rw [h] at h'
  injection h' with h'
  injection h' with _ ht
  exact hne ht
theorem MapIs.ne_blk {n : Nat} {f : Int → Option Int} {t : TypeId} {cs : Array Value} (h : MapIs w M n f) (h' : Blk w g t cs) : M ≠ g := by
  rintro rfl
  obtain ⟨D, ⟨es, clock, hb, _⟩, _⟩ := h
  unfold Blk at h'
  rw [hb] at h'
  injection h' with h'
  cases h'
theorem own_ne_blk {base : Nat} {e t : TypeId} {size n : Nat} {v : Value} {xs : List Value} {cs : Array Value} (h : w.ownsRow base e size v n xs) (hg : Blk w g t cs) (hne : e ≠ t) : v.ownBlock ≠ some g := by
  rcases h.2 with ⟨rfl, _⟩ | ⟨g', cap, cur, rfl, _, hh, _⟩
  · simp [Value.ownBlock]
  · intro he
    have : g' = g := by simpa [Value.ownBlock] using he
    subst this
    exact Blk.ne_ (t := e) hh hg hne rfl
theorem own_ne_map {base : Nat} {e : TypeId} {size n m : Nat} {v : Value} {xs : List Value} {f : Int → Option Int} (h : w.ownsRow base e size v n xs) (hm : MapIs w M m f) : v.ownBlock ≠ some M := by
  rcases h.2 with ⟨rfl, _⟩ | ⟨g', cap, cur, rfl, _, hh, _⟩
  · simp [Value.ownBlock]
  · intro he
    have : g' = M := by simpa [Value.ownBlock] using he
    subst this
    exact hm.ne_blk (t := e) hh rfl
theorem DiskAt.gS (h : DiskAt w g S M qv d) : g ≠ S := h.self.ne_ h.secs (by decide)
theorem DiskAt.Mg (h : DiskAt w g S M qv d) : M ≠ g := h.last.ne_blk h.self
theorem DiskAt.MS (h : DiskAt w g S M qv d) : M ≠ S := h.last.ne_blk h.secs
theorem DiskAt.qg (h : DiskAt w g S M qv d) : qv.ownBlock ≠ some g := own_ne_blk h.queue h.self (by decide)
theorem DiskAt.qS (h : DiskAt w g S M qv d) : qv.ownBlock ≠ some S := own_ne_blk h.queue h.secs (by decide)
theorem DiskAt.qM (h : DiskAt w g S M qv d) : qv.ownBlock ≠ some M := own_ne_map h.queue h.last
/-- whatever leaves the disk's blocks alone leaves the disk -/
theorem ownsRow_only {fp : List Nat} {base : Nat} {e : TypeId} {size n : Nat} {v : Value} {xs : List Value} (h : w.ownsRow base e size v n xs) (ho : Only fp w w') (hn : ∀ k, v.ownBlock = some k → k ∉ fp) : w'.ownsRow base e size v n xs := by
  refine ⟨h.1, ?_⟩
  rcases h.2 with h1 | ⟨g', cap, cur, rfl, hb, hh, r⟩
  · exact .inl h1
  · have hlt : g' < w.heap.size := (Array.getElem?_eq_some_iff.1 hh).1
    exact .inr ⟨g', cap, cur, rfl, hb, (ho.block g' hlt (hn g' rfl)).trans hh, r⟩
theorem DiskAt.only {fp : List Nat} (h : DiskAt w g S M qv d) (ho : Only fp w w') (hn : ∀ k ∈ foot g S M qv, k ∉ fp) : DiskAt w' g S M qv d :=
  ⟨h.ok, h.secs1, h.self.only ho (hn g (by simp [foot])), ⟨h.secs.only ho (hn S (by simp [foot])), h.secsG.2⟩, ownsRow_only h.queue ho (fun k hk => hn k (by simp [foot, hk])), h.last.only ho (hn M (by simp [foot]))⟩
/-- a field of the disk is written -/
theorem DiskAt.store (h : DiskAt w g S M qv d) (j : Nat) (u : Value) (d' : Vd.VD) (hok : d'.ok) (hs : d'.secs = d.secs) (hq : d'.q = d.q) (he : (dcells S M qv d).setIfInBounds j u = dcells S M qv d') (hgh : d'.sc = d.sc ∧ d'.sr = d.sr := by exact ⟨rfl, rfl⟩) :
    DiskAt (w.setCell ⟨g, j, none⟩ u) g S M qv d' := by
  have ho : Only [g] w (w.setCell ⟨g, j, none⟩ u) := (Only.refl [g] w).setCell (.inl (by simp)) u
  refine ⟨hok, by rw [hs]; exact h.secs1, (h.self.set_ j u).eq_ he, ?_, ?_, ?_⟩
  · rw [hs, hgh.1, hgh.2]; exact ⟨h.secs.only ho (by simpa using h.gS.symm), h.secsG.2⟩
  · rw [hq]; exact ownsRow_only h.queue ho (fun k hk => by
      simp only [List.mem_singleton]
      rintro rfl
      exact h.qg hk)
  · rw [hq]; exact h.last.only ho (by simpa using h.Mg)
/-- the disk's own cells are written -/
theorem DiskAt.self' (h : DiskAt w g S M qv d) (d' : Vd.VD) (hok : d'.ok) (hs : d'.secs = d.secs) (hq : d'.q = d.q) (ho : Only [g] w w') (hb : Blk w' g 69 (dcells S M qv d')) (hgh : d'.sc = d.sc ∧ d'.sr = d.sr := by exact ⟨rfl, rfl⟩) : DiskAt w' g S M qv d' := by
  refine ⟨hok, by rw [hs]; exact h.secs1, hb, ?_, ?_, ?_⟩
  · rw [hs, hgh.1, hgh.2]; exact ⟨h.secs.only ho (by simpa using h.gS.symm), h.secsG.2⟩
  · rw [hq]; exact ownsRow_only h.queue ho (fun k hk => by
      simp only [List.mem_singleton]
      rintro rfl
      exact h.qg hk)
  · rw [hq]; exact h.last.only ho (by simpa using h.Mg)
theorem Only.own (h : Only [g] w w') (j : Nat) (u : Value) : Only [g] w (w'.setCell ⟨g, j, none⟩ u) := h.setCell (.inl (by simp)) u
end
end Go.Proofs.YtoleojljpaglhaaGreat
