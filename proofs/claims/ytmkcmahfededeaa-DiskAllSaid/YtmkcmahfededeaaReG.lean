/- The contract of the reference's Twin. -/
import Derived.Test.YtmkcmahfededeaaReF
import Derived.Test.YtmkcmahfededeaaVdX
namespace Go.Proofs.Ytmkcmahfededeaa
open Go.RowKit Go.Maps
theorem rd_size : (Try.prog.info? 75).map (·.size) = some 8 := by kernel_rfl
theorem run_alloc_rd (w : World) : (Instr.alloc 75 true (.tuple #[])).run Try.prog w = .ok (.pointer (some ⟨w.heap.size, 0, none⟩)) (w.alloc (.cells #[.slice none 0 0, .slice none 0 0, .bool false, .int .i64 0, .int .i64 0, .int .i64 0, .int .i64 0, .int .i64 0] 75)) := by kernel_rfl
theorem own_base {w : World} {b b' : Nat} {e : TypeId} {size n : Nat} {v : Value} {xs : List Value} (h : w.ownsRow b e size v n xs) (hb : b' ≤ b) : w.ownsRow b' e size v n xs := by
  refine ⟨h.1, ?_⟩
  rcases h.2 with h1 | ⟨g, cap, cur, rfl, hg, r⟩
  · exact .inl h1
  · exact .inr ⟨g, cap, cur, rfl, Nat.le_trans hb hg, r⟩
section
variable {w w' : World} {r : Nat} {bv qv : Value} {kp tn : Int} {d : Vd.VD} {fp : List Nat}
/-- what a twin is -/
def RTwin (d : Vd.VD) (w : World) (e : Ending) (w' : World) : Prop := ∃ r fp, e = .returned (.pointer (some ⟨r, 0, none⟩)) ∧ RF w' r d fp ∧ (∀ b ∈ fp, w.heap.size ≤ b) ∧ Below w.heap.size w w'
/-- the copy of the queue: nil where there is none -/
theorem rq_one : ∀ q : List (Nat × List UInt8), ∀ u ∈ rqcells q, u.oneCell' = true
  | [], u, hu => by simp [rqcells] at hu
  | x :: q, u, hu => by
    have e : rqcells (x :: q) = rwc x ++ rqcells q := by simp [rqcells, rwc]
    rw [e, List.mem_append] at hu
    rcases hu with hu | hu
    · simp [rwc] at hu
      rcases hu with rfl | rfl <;> rfl
    · exact rq_one q u hu
theorem rqcells_length (q : List (Nat × List UInt8)) : (rqcells q).length = q.length * 2 := by
  induction q with
  | nil => rfl
  | cons x q ih =>
    have e : rqcells (x :: q) = rwc x ++ rqcells q := by simp [rqcells, rwc]
    rw [e, List.length_append, ih, List.length_cons]
    simp [rwc]
    omega
/-- the end of a twin -/
theorem rtwin_end {W1 V3 w4 W5 : World} {cs : Array Value} {b1 q1 : Value} (h : RefAt w r bv qv kp tn d) (hcs : rcells bv qv kp tn d = cs) (hW1 : W1 = w.alloc (.cells cs 75))
    (g3 : W1.grownBy V3 none) (o3 : V3.ownsRow (w.heap.size + 1) 5 1 b1 (d.secs.length * 64) (bl d.secs.flatten))
    (g4 : (V3.setCell ⟨w.heap.size, 0, none⟩ b1).grownBy w4 none) (o4 : w4.ownsRow (w.heap.size + 1) 77 2 q1 d.q.length (rqcells d.q)) (hW5 : W5 = w4.setCell ⟨w.heap.size, 1, none⟩ q1) :
    ∃ fp, RF W5 w.heap.size d fp ∧ (∀ b ∈ fp, w.heap.size ≤ b) ∧ Below w.heap.size w W5 := by
  subst hW1 hW5
  have B1 := Blk.new w 75 cs
  have O1 : Only [w.heap.size] w (w.alloc (.cells cs 75)) := (Only.refl _ _).alloc _
  have O3 := O1.grown g3 (by simp)
  have O3' := O3.setCell (p := ⟨w.heap.size, 0, none⟩) (.inl (by simp)) b1
  have O4 := O3'.grown g4 (by simp)
  have O5 := O4.setCell (p := ⟨w.heap.size, 1, none⟩) (.inl (by simp)) q1
  have B3 := (B1.grown g3 (by simp)).set_ 0 b1
  have B4 := (B3.grown g4 (by simp)).set_ 1 q1
  have hb1 : ∀ k, b1.ownBlock = some k → w.heap.size + 1 ≤ k := fun k hk => (o3.lt k hk).1
  have hq1 : ∀ k, q1.ownBlock = some k → w.heap.size + 1 ≤ k := fun k hk => (o4.lt k hk).1
  have ob : (w4.setCell ⟨w.heap.size, 1, none⟩ q1).ownsRow (w.heap.size + 1) 5 1 b1 (d.secs.length * 64) (bl d.secs.flatten) := by
    have o : Only [w.heap.size] V3 (w4.setCell ⟨w.heap.size, 1, none⟩ q1) := (((Only.refl [w.heap.size] V3).setCell (p := ⟨w.heap.size, 0, none⟩) (.inl (by simp)) b1).grown g4 (by simp)).setCell (p := ⟨w.heap.size, 1, none⟩) (.inl (by simp)) q1
    exact ownsRow_only o3 o (fun k hk => by have := hb1 k hk; simp; omega)
  have oq : (w4.setCell ⟨w.heap.size, 1, none⟩ q1).ownsRow (w.heap.size + 1) 77 2 q1 d.q.length (rqcells d.q) := ownsRow_only o4 ((Only.refl [w.heap.size] _).setCell (p := ⟨w.heap.size, 1, none⟩) (.inl (by simp)) q1) (fun k hk => by have := hq1 k hk; simp; omega)
  refine ⟨rfoot w.heap.size b1 q1, ⟨b1, q1, kp, tn, rfl, h.ok, h.secs1, B4.eq_ ?_, own_base ob (Nat.zero_le _), own_base oq (Nat.zero_le _), h.fz⟩, ?_, O5.to_below (Nat.le_refl _) (by simp)⟩
  · rw [← hcs]
    simp [rcells]
  · intro b hb
    simp only [rfoot, List.mem_cons, List.mem_append, Option.mem_toList] at hb
    rcases hb with rfl | hb | hb
    · exact Nat.le_refl _
    · have := hb1 b hb; omega
    · have := hq1 b hb; omega
set_option maxHeartbeats 1000000 in
theorem refTwin (h : RF w r d fp) (hq : d.q.length < 1000000000) : Calls Try.prog 30 #[.pointer (some ⟨r, 0, none⟩)] w (RTwin d w) := by
  obtain ⟨bv, qv, kp, tn, rfl, h⟩ := h
  have hs1 := h.secs1
  have hs0 := h.ok.secs0
  obtain ⟨gb, cb, rfl, hcb, hgb⟩ := h.bform
  obtain ⟨p, cap, rfl, hcap⟩ := h.qform
  obtain ⟨cs, hcs⟩ : ∃ cs, rcells (.slice (some ⟨gb, 0, none⟩) (d.secs.length * 64) cb) (.slice p d.q.length cap) kp tn d = cs := ⟨_, rfl⟩
  have hself := h.self
  rw [hcs] at hself
  have hsz : cs.size = 8 := by rw [← hcs]; rfl
  have hone : cs.all (·.oneCell') = true := by rw [← hcs]; simp [rcells, Value.oneCell']
  have hrg : w.rangeAt r 0 cs.toList := fun j v hv => by
    rw [Nat.zero_add, hself.cell j]
    simpa using hv
  have hlen : cs.toList.length = 8 := by simpa using hsz
  obtain ⟨i0, hi0, hz0, hz1, hz2⟩ := info_parts u8_info
  obtain ⟨i1, hi1, hy0, hy1, hy2⟩ := info_parts rw_info
  have hrl := hself.lt
  have m0 : (w.alloc (.cells cs 75)).cell? ⟨r, 0, none⟩ = some (.slice (some ⟨gb, 0, none⟩) (d.secs.length * 64) cb) := by rw [(hself.alloc _).cell 0, ← hcs]; rfl
  have hB1 := Blk.new w 75 cs
  have hnewb : (w.alloc (.cells cs 75)).ownsRow (w.heap.size + 1) 5 1 (.slice none 0 0) 0 [] := ⟨rfl, .inl ⟨rfl, rfl⟩⟩
  have hnewq : ∀ W : World, W.ownsRow (w.heap.size + 1) 77 2 (.slice none 0 0) 0 [] := fun W => ⟨rfl, .inl ⟨rfl, rfl⟩⟩
  have hsb := (h.bytes.alloc (.cells cs 75))
  have hsq := (h.queue.alloc (.cells cs 75))
  have hqne : ∀ k, (Value.slice p d.q.length cap).ownBlock = some k → k ≠ w.heap.size := fun k hk => by
    have := ownBlock_lt h.queue hk
    omega
  have HSz := Lib.hid hsz
  have HOne := Lib.hid hone
  have HRg := Lib.hid hrg
  have HLen := Lib.hid hlen
  have Hi0 := Lib.hid hi0
  have Hz0 := Lib.hid hz0
  have Hz1 := Lib.hid hz1
  have Hz2 := Lib.hid hz2
  have Hi1 := Lib.hid hi1
  have Hy0 := Lib.hid hy0
  have Hy1 := Lib.hid hy1
  have Hy2 := Lib.hid hy2
  have HSelf := Lib.hid hself
  have HB1 := Lib.hid hB1
  have HNewb := Lib.hid hnewb
  have HNewq := Lib.hid hnewq
  have HSb := Lib.hid hsb
  have HSq := Lib.hid hsq
  have HQne := Lib.hid hqne
  have HR := Lib.hid h
  have HCs := Lib.hid hcs
  clear hsz hone hrg hlen hi0 hz0 hz1 hz2 hi1 hy0 hy1 hy2 hself hB1 hnewb hnewq hsb hsq hqne h hcs
  go_enter Try.func30, Try.ntmps30
  go_wp2_with (first
    | (refine wpList_load_mid rfl 75 (.tmp 5) rfl r 0 rfl cs.toList _ HRg.out (Try.underlying75) rfl (by rw [HLen.out]; exact rd_size) ?_)
    | (refine wpList_alloc_store rfl rfl 75 (.tmp 3) (.tmp 6) rfl rfl _ cs (run_alloc_rd _) rfl rfl (by rw [HSz.out]; rfl) (by rw [HSz.out]; exact rd_size) HOne.out ?_)
    | (refine wpList_append_copy (by rfl) (.const (.slice none 0 0)) (.tmp 10) 54 (by rfl) (w.heap.size + 1) 5 i0 _ 1 1 Try.underlying54 Hi0.out Hz0.out Hz1.out Hz2.out rfl (by omega) (.slice none 0 0) (by rfl) HNewb.out 0 (.slice (some ⟨gb, 0, none⟩) (d.secs.length * 64) cb) (d.secs.length * 64) (bl d.secs.flatten) (by rfl) HSb.out (bl_one _) (by unfold maxLen; omega) (by omega) (by simp) ?_; intro p1 c1 w3 hown3 hgrow3 hat3; have hE3 := HB1.out.grown hgrow3 (by simp [Value.ownBlock]); have hr3 := (HSelf.out.alloc (.cells cs 75)).grown hgrow3 (by simp [Value.ownBlock]); have e0 : w3.cell? ⟨w.heap.size, 0, none⟩ = some (.slice (some ⟨gb, 0, none⟩) (d.secs.length * 64) cb) := by { rw [hE3.cell 0, ← HCs.out]; rfl }; have e1 : w3.cell? ⟨w.heap.size, 1, none⟩ = some (.slice p d.q.length cap) := by { rw [hE3.cell 1, ← HCs.out]; rfl }; have e2 : w3.cell? ⟨r, 1, none⟩ = some (.slice p d.q.length cap) := by { rw [hr3.cell 1, ← HCs.out]; rfl }; have f0 := hE3.frozen 0; have f1 := hE3.frozen 1; have HE3 := Lib.hid hE3; have HO3 := Lib.hid hown3; have HG3 := Lib.hid hgrow3; have hs3 : w.heap.size + 1 ≤ w3.heap.size := by { have := hgrow3.size; simpa using this }; clear hE3 hr3 hown3 hgrow3 hat3)
    | (refine wpList_append_copy (by rfl) (.const (.slice none 0 0)) (.tmp 16) 73 (by rfl) (w.heap.size + 1) 77 i1 _ 2 24 Try.underlying73 Hi1.out Hy0.out Hy1.out Hy2.out rfl (by omega) (.slice none 0 0) (by rfl) (HNewq.out _) 0 (.slice p d.q.length cap) d.q.length (rqcells d.q) (by rfl) (ownsRow_only HSq.out (((Only.refl [w.heap.size] _).grown HG3.out (by simp [Value.ownBlock])).setCell (p := ⟨w.heap.size, 0, none⟩) (.inl (by simp)) _) (fun k hk => by simpa using HQne.out k hk)) (rq_one _) (by unfold maxLen; omega) (by omega) (by simp [World.setCell]; omega) ?_; intro p2 c2 w4 hown4 hgrow4 hat4; have hE4 := (HE3.out.set_ 0 (.slice p1 (d.secs.length * 64) c1)).grown hgrow4 (by simp [Value.ownBlock]); have x1 : w4.cell? ⟨w.heap.size, 1, none⟩ = some (.slice p d.q.length cap) := by { rw [hE4.cell 1, ← HCs.out]; rfl }; have y1 := hE4.frozen 1; have HO4 := Lib.hid hown4; have HG4 := Lib.hid hgrow4; clear hE4 hown4 hgrow4 hat4))
  go_ret
  obtain ⟨fp, h1, h2, h3⟩ := rtwin_end HR.out HCs.out rfl HG3.out HO3.out HG4.out HO4.out rfl
  exact ⟨w.heap.size, fp, rfl, h1, h2, h3⟩
end
end Go.Proofs.Ytmkcmahfededeaa
