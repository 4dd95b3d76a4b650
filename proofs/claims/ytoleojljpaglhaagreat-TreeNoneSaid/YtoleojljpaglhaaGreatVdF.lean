/- The contract of the disk's kept. -/
import Derived.Test.YtoleojljpaglhaaGreatVdE
namespace Go.Proofs.YtoleojljpaglhaaGreat
open Go.RowKit Go.Maps
set_option maxRecDepth 20000
section
variable {w : World} {g S M : Nat} {qv : Value} {d : Vd.VD}
/-- what holds at the head of the loop -/
def KeptRel (w : World) (S : Nat) (d : Vd.VD) (n : Nat) (i : Value) (wr : World) : Prop :=
  ∃ k : Nat, k ≤ n ∧ i = .int .i64 k ∧ Blk wr S 155 (bl (Vd.lay d.secs (d.q.take k)).flatten ++ d.sr).toArray ∧ Only [S] w wr
/-- the disk behind kept -/
def keptVD (d : Vd.VD) (n : Nat) : Vd.VD := { d with secs := Vd.lay d.secs (d.q.take n), q := [] }
set_option maxHeartbeats 1000000 in
theorem kept_any (h : DiskAt w g S M qv d) (n : Nat) (hn : n ≤ d.q.length) :
    Calls Tryz.prog 102 #[.pointer (some ⟨g, 0, none⟩), .int .i64 n] w fun e w' => e = .returned (.tuple #[]) ∧ (∃ M', w.heap.size ≤ M' ∧ DiskAt w' g S M' (.slice none 0 0) (keptVD d n)) ∧ Only [g, S] w w' := by
  obtain ⟨p, cap, rfl⟩ := h.qform
  have hcap : d.q.length ≤ cap := by
    rcases h.queue.2 with ⟨e, h0⟩ | ⟨g', cap', cur, e, _, _, hnc, _⟩
    · rw [h0]; exact Nat.zero_le _
    · injection e with _ _ e; omega
  have hm : d.q.length ≤ maxLen := by
    rcases h.queue.2 with ⟨e, h0⟩ | ⟨g', cap', cur, e, _, _, hnc, hm, _⟩
    · rw [h0]; exact Nat.zero_le _
    · omega
  unfold maxLen at hm
  obtain ⟨c0, c1, c2, c3, c4, c5, c6, c7, c8, c9⟩ := h.cells
  have HD := Lib.hid h
  clear h
  go_enter Tryz.func102, Tryz.ntmps102
  go_wp2_with fail
  go_loopw [13, 5] (fun i _ wr => KeptRel w S d n i wr) (fun i _ _ => n - (intOf i).toNat)
  case atStart => exact ⟨0, Nat.zero_le _, rfl, by simpa [Vd.lay] using HD.out.secs, Only.refl _ _⟩
  case round =>
    obtain ⟨k, hk, rfl, hB, hO⟩ := hrel
    by_cases hlt : k < n
    · have hkq : k < d.q.length := by omega
      obtain ⟨x, hx⟩ : ∃ x, x = d.q[k] := ⟨_, rfl⟩
      have hx1 := (HD.out.ok.q x (by rw [hx]; exact List.getElem_mem hkq)).1
      have hx2 := (HD.out.ok.q x (by rw [hx]; exact List.getElem_mem hkq)).2
      obtain ⟨qb, cap', hv, _, hqb⟩ := HD.out.queue.form (by omega)
      obtain ⟨rfl, rfl⟩ : p = some ⟨qb, 0, none⟩ ∧ cap = cap' := by injection hv with e1 _ e2; exact ⟨e1, e2⟩
      have hqO : wr.ownsRow 0 157 65 (.slice (some ⟨qb, 0, none⟩) d.q.length cap) d.q.length (qcells d.q) := ownsRow_only HD.out.queue hO (fun j hj => by
        simp only [List.mem_singleton]
        rintro rfl
        exact HD.out.qS hj)
      have hrange : wr.rangeAt qb (k * 65) (wcells x) := fun j v hv => by
        rw [hx] at hv
        have := hqO.cells (g := qb) rfl (k * 65 + j) v (qcells_at d.q (fun y hy => (HD.out.ok.q y hy).2) k hkq j v hv)
        rwa [Addr.add_mid, Nat.zero_add] at this
      have HX := Lib.hid hx
      clear hx
      have hwl : (wcells x).length = 65 := wcells_length x hx2
      have hws : (wcells x).toArray.size = 65 := by simpa using hwl
      have hone : (wcells x).toArray.all (·.oneCell') = true := all_oneCell_toArray (fun v hv => by
        rcases List.mem_cons.1 hv with rfl | hv
        · rfl
        · exact bl_one _ v hv)
      have HW := Lib.hid hwl
      have HWS := Lib.hid hws
      have HONE := Lib.hid hone
      have HR := Lib.hid hrange
      clear hwl hws hone hrange
      go_wp2_with (first
        | (refine wpList_load_mid rfl 157 (.tmp 15) rfl qb (k * 65) rfl (wcells x) _ HR.out (Tryz.underlying157) rfl (by rw [HW.out]; exact wr_size) ?_)
        | (refine wpList_alloc_store rfl rfl 157 (.tmp 5) (.tmp 16) rfl rfl _ (wcells x).toArray (run_alloc_wr _) rfl rfl (by rw [HWS.out]; rfl) (by rw [HWS.out]; exact wr_size) HONE.out ?_))
      simp only [Act.put, List.setIfInBounds_toArray, List.set_cons_succ, List.set_cons_zero]
      obtain ⟨xa, xd⟩ := x
      have hB1 := Blk.new wr 157 (wcells (xa, xd)).toArray
      have n0 : (wr.alloc (.cells (wcells (xa, xd)).toArray 157)).cell? ⟨g, 0, none⟩ = some (.slice (some ⟨S, 0, none⟩) d.secs.length d.sc) := by
        have := ((HD.out.self.only hO (by simpa using HD.out.gS)).alloc (.cells (wcells (xa, xd)).toArray 157)).cell 0
        exact this
      have n1 : (wr.alloc (.cells (wcells (xa, xd)).toArray 157)).cell? ⟨wr.heap.size, 0, none⟩ = some (.int .i64 (xa : Int)) := hB1.cell 0
      have n2 : (wr.alloc (.cells (wcells (xa, xd)).toArray 157)).rangeAt wr.heap.size 1 (bl xd) := fun j v hv => by
        rw [hB1.cell, Nat.add_comm]
        simpa [wcells] using hv
      have n3 : (wr.alloc (.cells (wcells (xa, xd)).toArray 157)).there S (xa * 64) 64 := by
        refine World.there_alloc (fun j hj => ⟨?_, hB.frozen _⟩) _
        have hfl : (Vd.lay d.secs (d.q.take k)).flatten.length = d.secs.length * 64 := flat_lay _ _ HD.out.ok.secs (fun x hx => (HD.out.ok.q x (List.mem_of_mem_take hx)).2)
        rw [hB.cell, List.getElem?_toArray, List.getElem?_append_left (by rw [bl_length, hfl]; simp only at hx1; omega), bl_at _ _ (by rw [hfl]; simp only at hx1; omega)]
        rfl
      have i0 : (0 : Int) ≤ (xa : Int) := by omega
      have i1 : (xa : Int) < (d.secs.length : Int) := by simp only at hx1; omega
      have hu := Tryz.underlying155
      have hi : (Tryz.prog.info? 155).map (·.size) = some (bl xd).length := by rw [bl_length, hx2]; exact sec_size
      have hl64 : (bl xd).length = 64 := by rw [bl_length, hx2]
      have hone1 := bl_one xd
      have hgS := HD.out.gS
      have hHS : wr.heap.size ≠ S := by have := hB.lt; omega
      go_region_held3 (fun w' => w'.cell? ⟨g, 0, none⟩ = some (.slice (some ⟨S, 0, none⟩) d.secs.length d.sc) ∧ w'.cell? ⟨wr.heap.size, 0, none⟩ = some (.int .i64 (xa : Int)) ∧ w'.rangeAt wr.heap.size 1 (bl xd) ∧ w'.there S (xa * 64) 64) (first | go_keep_ranges | (go_split_ands; simp only [World.rangeAt_drew, World.there_drew, World.cell?_drew] at *; exact ⟨(World.cell?_setCells_out _ _ _ _ _ (fun e => absurd e hgS)).trans (by assumption), (World.cell?_setCells_out _ _ _ _ _ (fun e => absurd e hHS)).trans (by assumption), World.rangeAt_setCells_apart (by assumption) _ _ _ (.inl hHS), World.there_setCells (by assumption) _ _ _⟩)) (fail)
      have HE := HX.out
      have hrel : KeptRel w S d n (.int .i64 ((k : Int) + 1)) ((wr.alloc (.cells (wcells (xa, xd)).toArray 157)).drew.setCells S (xa * 64) (bl xd)) := by
        refine ⟨k + 1, hlt, by go_num, ?_, ?_⟩
        · rw [lay_take _ _ _ hkq, ← HE]
          exact (((hB.alloc _).drew).sectorR (lay_64 _ _ HD.out.ok.secs (fun x hx => (HD.out.ok.q x (List.mem_of_mem_take hx)).2)) (by rw [Vd.lay_length]; exact hx1) hx2)
        · exact only_setCells (.inl (by simp)) _ _ _ (hO.alloc _).drew
      have HRel := Lib.hid hrel
      clear hrel HE
      go_wp2_with fail
      go_roundw
      case rel => exact HRel.out
      case measure => simp [intOf]; omega
    · obtain rfl : k = n := by omega
      have hS1 := HD.out.self.only hO (by simpa using HD.out.gS)
      have k1 := hS1.cell 1
      have k2 := hS1.cell 2
      have f1 := hS1.frozen 1
      have f2 := hS1.frozen 2
      have k1' : wr.cell? ⟨g, 1, none⟩ = some (.slice p d.q.length cap) := k1
      have k2' : wr.cell? ⟨g, 2, none⟩ = some (.map (some M)) := k2
      clear k1 k2
      have hglt : g < wr.heap.size := hS1.lt
      have hmm := @run_makeMap Tryz.prog
      have HB := Lib.hid hB
      have HS1 := Lib.hid hS1
      have HO := Lib.hid hO
      clear hB hS1 hO
      go_wp2_with fail
      go_end0
      refine ⟨rfl, ⟨wr.heap.size, HO.out.size, ?_⟩, ?_⟩
      · have hS2 := (((HS1.out.set_ 1 (.slice none 0 0)).set_ 2 (.map (some wr.heap.size))).alloc (.map #[] 0))
        have hOg : Only [g] wr ((wr.setCell ⟨g, 1, none⟩ (.slice none 0 0)).setCell ⟨g, 2, none⟩ (.map (some wr.heap.size))) := ((Only.refl _ _).own 1 _).own 2 _
        refine ⟨?_, ?_, hS2.eq_ ?_, ?_, ⟨rfl, .inl ⟨rfl, rfl⟩⟩, ?_⟩
        · have hok := HD.out.ok
          refine ⟨lay_64 _ _ hok.secs (fun x hx => (hok.q x (List.mem_of_mem_take hx)).2), ?_, (fun x hx => by cases hx), hok.room, hok.fuse, ?_⟩
          · show 1 ≤ (Vd.lay _ _).length
            rw [Vd.lay_length]; exact hok.secs0
          · have := hok.writes
            show ((0 : Nat) : Int) ≤ d.writes
            omega
        · show (Vd.lay _ _).length ≤ _
          rw [Vd.lay_length]; exact HD.out.secs1
        · unfold dcells keptVD
          simp [Vd.lay_length]
        · refine ⟨(HB.out.only hOg (by simpa using HD.out.gS.symm)).alloc _, ?_⟩
          show (Vd.lay _ _).length ≤ _ ∧ _ ∧ (Vd.lay _ _).length * 64 + _ = _
          rw [Vd.lay_length]
          exact HD.out.secsG.2
        · have := MapIs.made ((wr.setCell ⟨g, 1, none⟩ (.slice none 0 0)).setCell ⟨g, 2, none⟩ (.map (some wr.heap.size)))
          have e : (fun _ => none) = lastI [] := by
            funext k
            unfold lastI Vd.lastAt
            simp
          rw [e] at this
          have e2 : ((wr.setCell ⟨g, 1, none⟩ (.slice none 0 0)).setCell ⟨g, 2, none⟩ (.map (some wr.heap.size))).heap.size = wr.heap.size := by simp [World.setCell]
          rw [e2] at this
          exact this
      · have h1 : Only [g, S] w wr := ⟨HO.out.os, HO.out.tape, HO.out.output, HO.out.size, fun k hk hn => HO.out.block k hk (by simp at hn ⊢; exact hn.2)⟩
        exact ((h1.setCell (p := ⟨g, 1, none⟩) (.inl (by simp)) _).setCell (p := ⟨g, 2, none⟩) (.inl (by simp)) _).alloc _
end
end Go.Proofs.YtoleojljpaglhaaGreat
