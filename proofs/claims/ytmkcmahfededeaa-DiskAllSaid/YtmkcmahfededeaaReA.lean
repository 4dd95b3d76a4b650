/- The reference's disk in memory, and the contracts of its small calls. -/
import Derived.Test.YtmkcmahfededeaaVdO
import Derived.Laws.OwnMore
namespace Go.Proofs.Ytmkcmahfededeaa
open Go.RowKit Go.Maps
def rfn : Option (Int × Int × Int) → Int
  | none => -1
  | some x => x.1
/-- the reference's eight cells -/
def rcells (bv qv : Value) (kp tn : Int) (d : Vd.VD) : Array Value := #[bv, qv, .bool (!d.on), .int .i64 (rfn d.fuse), .int .i64 kp, .int .i64 tn, .int .i64 d.room, .int .i64 d.writes]
def rqcells (q : List (Nat × List UInt8)) : List Value := q.flatMap fun x => [.int .i64 (x.1 : Int), .string ⟨x.2.toArray⟩]
structure RefAt (w : World) (r : Nat) (bv qv : Value) (kp tn : Int) (d : Vd.VD) : Prop where
  ok : d.ok
  secs1 : d.secs.length ≤ 65536
  self : Blk w r 75 (rcells bv qv kp tn d)
  bytes : w.ownsRow 0 5 1 bv (d.secs.length * 64) (bl d.secs.flatten)
  queue : w.ownsRow 0 77 2 qv d.q.length (rqcells d.q)
  fz : ∀ n k t, d.fuse = some (n, k, t) → k = kp ∧ t = tn
def rfoot (r : Nat) (bv qv : Value) : List Nat := r :: (bv.ownBlock.toList ++ qv.ownBlock.toList)
def RF (w : World) (r : Nat) (d : Vd.VD) (fp : List Nat) : Prop := ∃ bv qv kp tn, fp = rfoot r bv qv ∧ RefAt w r bv qv kp tn d
def RPost (v : Value) (r : Nat) (d : Vd.VD) (fp : List Nat) (w : World) (e : Ending) (w' : World) : Prop := e = .returned v ∧ ∃ fp', RF w' r d fp' ∧ Fr fp w w' fp'
theorem own_ne_own {w : World} {b1 b2 : Nat} {e1 e2 : TypeId} {s1 s2 n1 n2 : Nat} {v1 v2 : Value} {x1 x2 : List Value} (h : w.ownsRow b1 e1 s1 v1 n1 x1) (k : w.ownsRow b2 e2 s2 v2 n2 x2) (hne : e1 ≠ e2) (g : Nat) (hg : v1.ownBlock = some g) : v2.ownBlock ≠ some g := by
  rcases h.2 with ⟨rfl, _⟩ | ⟨g', cap, cur, rfl, _, hh, _⟩
  · simp [Value.ownBlock] at hg
  · have : g' = g := by simpa [Value.ownBlock] using hg
    subst this
    exact own_ne_blk k (t := e1) hh hne.symm
section
variable {w w' : World} {r : Nat} {bv qv : Value} {kp tn : Int} {d : Vd.VD} {fp : List Nat}
theorem RefAt.bR (h : RefAt w r bv qv kp tn d) : bv.ownBlock ≠ some r := own_ne_blk h.bytes h.self (by decide)
theorem RefAt.qR (h : RefAt w r bv qv kp tn d) : qv.ownBlock ≠ some r := own_ne_blk h.queue h.self (by decide)
theorem RefAt.bq (h : RefAt w r bv qv kp tn d) (g : Nat) (hg : bv.ownBlock = some g) : qv.ownBlock ≠ some g := own_ne_own h.bytes h.queue (by decide) g hg
theorem RefAt.only {fq : List Nat} (h : RefAt w r bv qv kp tn d) (ho : Only fq w w') (hn : ∀ k ∈ rfoot r bv qv, k ∉ fq) : RefAt w' r bv qv kp tn d :=
  ⟨h.ok, h.secs1, h.self.only ho (hn r (by simp [rfoot])), ownsRow_only h.bytes ho (fun k hk => hn k (by simp [rfoot, hk])), ownsRow_only h.queue ho (fun k hk => hn k (by simp [rfoot, hk])), h.fz⟩
theorem RF.only {fq : List Nat} (h : RF w r d fp) (ho : Only fq w w') (hn : ∀ k ∈ fp, k ∉ fq) : RF w' r d fp := by
  obtain ⟨bv, qv, kp, tn, rfl, h⟩ := h
  exact ⟨bv, qv, kp, tn, rfl, h.only ho hn⟩
theorem RF.lt (h : RF w r d fp) : ∀ b ∈ fp, b < w.heap.size := by
  obtain ⟨bv, qv, kp, tn, rfl, h⟩ := h
  intro b hb
  simp only [rfoot, List.mem_cons, List.mem_append, Option.mem_toList] at hb
  rcases hb with rfl | hb | hb
  · exact h.self.lt
  · exact ownBlock_lt h.bytes hb
  · exact ownBlock_lt h.queue hb
theorem RF.below (h : RF w r d fp) (hb : Below w.heap.size w w') : RF w' r d fp := h.only ((Only.refl [] w).below hb) (by simp)
/-- own cells alone are written -/
theorem RefAt.self' (h : RefAt w r bv qv kp tn d) (kp' tn' : Int) (d' : Vd.VD) (hok : d'.ok) (hs : d'.secs = d.secs) (hq : d'.q = d.q) (hz : ∀ n k t, d'.fuse = some (n, k, t) → k = kp' ∧ t = tn') (ho : Only [r] w w') (hb : Blk w' r 75 (rcells bv qv kp' tn' d')) : RefAt w' r bv qv kp' tn' d' := by
  refine ⟨hok, by rw [hs]; exact h.secs1, hb, ?_, ?_, hz⟩
  · rw [hs]; exact ownsRow_only h.bytes ho (fun k hk => by simp only [List.mem_singleton]; rintro rfl; exact h.bR hk)
  · rw [hq]; exact ownsRow_only h.queue ho (fun k hk => by simp only [List.mem_singleton]; rintro rfl; exact h.qR hk)
/-- the bytes' slice -/
theorem RefAt.bform (h : RefAt w r bv qv kp tn d) : ∃ g cap, bv = .slice (some ⟨g, 0, none⟩) (d.secs.length * 64) cap ∧ d.secs.length * 64 ≤ cap ∧ g < w.heap.size := by
  have h0 := h.ok.secs0
  rcases h.bytes.2 with ⟨_, h1⟩ | ⟨g, cap, cur, hv, _, hg, hnc, _⟩
  · omega
  · exact ⟨g, cap, hv, hnc, (Array.getElem?_eq_some_iff.1 hg).1⟩
theorem RefAt.qform (h : RefAt w r bv qv kp tn d) : ∃ p cap, qv = .slice p d.q.length cap ∧ d.q.length ≤ cap := by
  rcases h.queue.2 with ⟨rfl, h0⟩ | ⟨g', cap, cur, rfl, _, _, hnc, _⟩
  · exact ⟨none, 0, by rw [h0], by omega⟩
  · exact ⟨some ⟨g', 0, none⟩, cap, rfl, hnc⟩
theorem RefAt.qmax (h : RefAt w r bv qv kp tn d) : d.q.length ≤ maxLen := by
  rcases h.queue.2 with ⟨rfl, h0⟩ | ⟨g', cap, cur, rfl, _, _, hnc, hm, _⟩
  · rw [h0]; exact Nat.zero_le _
  · omega
/-- what the reference's New leaves -/
def RNew (n : Nat) (w : World) (e : Ending) (w' : World) : Prop := ∃ r fp, e = .returned (.tuple #[.pointer (some ⟨r, 0, none⟩), .bool true]) ∧ RF w' r (newVD n) fp ∧ (∀ b ∈ fp, w.heap.size ≤ b) ∧ Below w.heap.size w w'
set_option maxHeartbeats 1000000 in
theorem refNew (n : Nat) (w : World) (h1 : 1 ≤ n) (h2 : n ≤ 65536) :
    Calls Try.prog 29 #[.int .i64 n] w (RNew n w) := by
  obtain ⟨i0, hi0, hz0, hz1, hz2⟩ := info_parts u8_info
  have hmk := fun W => make_bytes' (P := Try.prog) 54 5 i0 Try.underlying54 hi0 hz0 hz1 hz2 .i64 .i64 ((n : Int) * 64) ((n : Int) * 64) (n * 64) (n * 64) (by omega) (by omega) (by omega) (by omega) W
  clear hi0 hz0 hz1 hz2
  have d1 : ¬ (n : Int) < 1 := by omega
  have d2 : ¬ (65536 : Int) < (n : Int) := by omega
  go_enter Try.func29, Try.ntmps29
  go_wp2_with fail
  go_ret2
  refine ⟨_, _, rfl, ⟨.slice (some ⟨w.heap.size, 0, none⟩) (n * 64) (n * 64), .slice none 0 0, 0, 0, rfl, newVD_ok n h1, by simpa [newVD] using h2, ?_, ?_, ⟨rfl, .inl ⟨rfl, rfl⟩⟩, (fun _ _ _ e => by cases e)⟩, ?_, ((Below.refl _ _).alloc (Nat.le_refl _) _).alloc (by simp) _⟩
  · have e : rcells (.slice (some ⟨w.heap.size, 0, none⟩) (n * 64) (n * 64)) (.slice none 0 0) 0 0 (newVD n) = #[.slice (some ⟨w.heap.size, 0, none⟩) (n * 64) (n * 64), .slice none 0 0, .bool false, .int .i64 (-1), .int .i64 0, .int .i64 0, .int .i64 (-1), .int .i64 0] := by
      simp [rcells, newVD, rfn]
    rw [e]
    have := Blk.new (w.alloc (.cells (bvs (List.replicate (n * 64) 0)) 5)) 75 #[.slice (some ⟨w.heap.size, 0, none⟩) (n * 64) (n * 64), .slice none 0 0, .bool false, .int .i64 (-1), .int .i64 0, .int .i64 0, .int .i64 (-1), .int .i64 0]
    simpa using this
  · show World.ownsRow _ 0 5 1 (.slice (some ⟨w.heap.size, 0, none⟩) (n * 64) (n * 64)) ((List.replicate n (List.replicate 64 (0 : UInt8))).length * 64) (bl (List.replicate n (List.replicate 64 (0 : UInt8))).flatten)
    rw [flat_new, List.length_replicate]
    refine World.ownsRow.alloc ⟨by simp [bl], .inr ⟨w.heap.size, n * 64, _, rfl, Nat.zero_le _, Blk.new _ _ _, Nat.le_refl _, by unfold maxLen; omega, by simp [bvs], ?_⟩⟩ _
    simp [bvs, bl]
  · intro b hb
    simp [rfoot, Value.ownBlock] at hb
    omega
set_option maxHeartbeats 400000 in
theorem refSectors (h : RF w r d fp) : Calls Try.prog 41 #[.pointer (some ⟨r, 0, none⟩)] w fun e w' => e = .returned (.int .i64 d.secs.length) ∧ w = w' := by
  obtain ⟨bv, qv, kp, tn, rfl, h⟩ := h
  obtain ⟨g, cap, rfl, hcap, _⟩ := h.bform
  have c0 : w.cell? ⟨r, 0, none⟩ = some (.slice (some ⟨g, 0, none⟩) (d.secs.length * 64) cap) := h.self.cell 0
  have hs := h.secs1
  obtain ⟨n, hn⟩ : ∃ n, d.secs.length = n := ⟨_, rfl⟩
  rw [hn] at c0 hs ⊢
  clear h hn
  have e1 : (((n * 64 : Nat) : Int)).tdiv 64 = (n : Int) := by rw [Int.tdiv_eq_ediv_of_nonneg (by omega)]; omega
  have e2 : ((n : Int) * 64).tdiv 64 = (n : Int) := by rw [Int.tdiv_eq_ediv_of_nonneg (by omega)]; omega
  have e3 : ((n : Int) * 64) / 64 = (n : Int) := by omega
  go_enter Try.func41, Try.ntmps41
  go_wp2_with fail
  go_ret
  exact ⟨rfl, rfl⟩
set_option maxHeartbeats 400000 in
theorem refRoom (h : RF w r d fp) (n : Int) (h0 : n ≤ 9223372036854775807) : Calls Try.prog 39 #[.pointer (some ⟨r, 0, none⟩), .int .i64 n] w (RPost (.tuple #[]) r { d with room := max n (-1) } fp w) := by
  obtain ⟨bv, qv, kp, tn, rfl, h⟩ := h
  have c6 : w.cell? ⟨r, 6, none⟩ = some (.int .i64 d.room) := h.self.cell 6
  have f6 := h.self.frozen 6
  have HD := Lib.hid h
  clear h
  by_cases hn : n < 0
  · go_enter Try.func39, Try.ntmps39
    go_wp2_with fail
    go_end0
    have ho : Only [r] w ((w.setCell ⟨r, 6, none⟩ (.int .i64 n)).setCell ⟨r, 6, none⟩ (.int .i64 (-1))) := ((Only.refl _ _).own 6 _).own 6 _
    refine ⟨rfl, _, ⟨bv, qv, kp, tn, rfl, HD.out.self' kp tn _ (VD_room HD.out.ok n h0) rfl rfl HD.out.fz ho (((HD.out.self.set_ 6 _).set_ 6 _).eq_ ?_)⟩, ho.mono (by simp [rfoot]), fun _ h => .inl h⟩
    simp [rcells]
    omega
  · go_enter Try.func39, Try.ntmps39
    go_wp2_with fail
    go_end0
    have ho : Only [r] w (w.setCell ⟨r, 6, none⟩ (.int .i64 n)) := (Only.refl _ _).own 6 _
    refine ⟨rfl, _, ⟨bv, qv, kp, tn, rfl, HD.out.self' kp tn _ (VD_room HD.out.ok n h0) rfl rfl HD.out.fz ho ((HD.out.self.set_ 6 _).eq_ ?_)⟩, ho.mono (by simp [rfoot]), fun _ h => .inl h⟩
    simp [rcells]
    omega
end
end Go.Proofs.Ytmkcmahfededeaa
