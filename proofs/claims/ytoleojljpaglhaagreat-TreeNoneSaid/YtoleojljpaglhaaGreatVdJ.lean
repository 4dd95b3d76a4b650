/- The contract of the disk's Write, where it is taken. -/
import Derived.Test.YtoleojljpaglhaaGreatVdJ0
import Derived.Great.BuildSlice
import Derived.Deep.RegionLaw
namespace Go.Proofs.YtoleojljpaglhaaGreat
open Go.RowKit Go.Maps
set_option maxRecDepth 20000
/-- a write's 65 cells in a block of its own -/
def WrAt (w : World) (b : Nat) : Prop := ∀ j, j < 65 → (w.cell? ⟨b, j, none⟩).isSome = true
def wrOf (w : World) (b : Nat) : List Value := (List.range 65).map fun j => (w.cell? ⟨b, j, none⟩).getD (.int .u8 0)
theorem run_load_wr {w : World} (b : Nat) (h : WrAt w b) : (Instr.loadAt 157 (.pointer (some ⟨b, 0, none⟩))).run Tryz.prog w = .ok (.agg (wrOf w b).toArray) w := by
  refine run_loadAt_mid w b 0 157 (wrOf w b) _ ?_ Tryz.underlying157 rfl ?_
  · intro j v hv
    rw [Nat.zero_add]
    unfold wrOf at hv
    have hj : j < 65 := by
      rcases Nat.lt_or_ge j 65 with h1 | h1
      · exact h1
      · rw [List.getElem?_eq_none (by simpa using h1)] at hv; cases hv
    have := h j hj
    cases hc : w.cell? ⟨b, j, none⟩ with
    | none => rw [hc] at this; cases this
    | some u =>
      simp [hj, hc] at hv
      rw [hv]
  · rw [show (wrOf w b).length = 65 by simp [wrOf]]; exact wr_size
theorem Blk.wr {w : World} {b : Nat} {t : TypeId} {cs : List Value} (h : Blk w b t cs.toArray) (hc : cs.length = 65) : WrAt w b ∧ wrOf w b = cs := by
  have hcell : ∀ j, w.cell? ⟨b, j, none⟩ = cs[j]? := fun j => by rw [h.cell j]; simp
  refine ⟨fun j hj => by rw [hcell, List.getElem?_eq_getElem (by omega)]; rfl, ?_⟩
  apply List.ext_getElem (by simp [wrOf, hc])
  intro j h1 h2
  simp [wrOf, hcell, h2]
theorem wr_far {w w' : World} {b : Nat} {cs : List Value} (h : ∀ j, w'.cell? ⟨b, j, none⟩ = w.cell? ⟨b, j, none⟩) (k : WrAt w b ∧ wrOf w b = cs) : WrAt w' b ∧ wrOf w' b = cs := by
  refine ⟨fun j hj => by rw [h]; exact k.1 j hj, ?_⟩
  rw [← k.2]
  unfold wrOf
  simp only [h]
theorem wr_drew {w : World} {b : Nat} {cs : List Value} (k : WrAt w b ∧ wrOf w b = cs) : WrAt w.drew b ∧ wrOf w.drew b = cs := wr_far (fun _ => rfl) k
theorem wr_far' {w w' : World} {b : Nat} {cs : List Value} (h : ∀ j, (w.cell? ⟨b, j, none⟩).isSome = true → w'.cell? ⟨b, j, none⟩ = w.cell? ⟨b, j, none⟩) (k : WrAt w b ∧ wrOf w b = cs) : WrAt w' b ∧ wrOf w' b = cs := by
  refine ⟨fun j hj => by rw [h j (k.1 j hj)]; exact k.1 j hj, ?_⟩
  rw [← k.2]
  apply List.ext_getElem (by simp [wrOf])
  intro j h1 h2
  have hj : j < 65 := by simpa [wrOf] using h1
  simp [wrOf, h j (k.1 j hj)]
theorem wr_alloc {w : World} {b : Nat} {cs : List Value} (k : WrAt w b ∧ wrOf w b = cs) (o : Obj) : WrAt (w.alloc o) b ∧ wrOf (w.alloc o) b = cs := wr_far' (fun _ h => World.cell?_alloc_some _ _ _ h) k
theorem wr_set {w : World} {b g j : Nat} {cs : List Value} (k : WrAt w b ∧ wrOf w b = cs) (v : Value) (h : g ≠ b) : WrAt (w.setCell ⟨g, j, none⟩ v) b ∧ wrOf (w.setCell ⟨g, j, none⟩ v) b = cs := wr_far (fun _ => World.cell?_setCell_far _ _ _ _ h) k
theorem wr_grown {w w' : World} {b : Nat} {row : Option Nat} {cs : List Value} (k : WrAt w b ∧ wrOf w b = cs) (hg : w.grownBy w' row) (h : some b ≠ row) : WrAt w' b ∧ wrOf w' b = cs := wr_far (fun j => hg.cell_far ⟨b, j, none⟩ (World.block_lt_of_cell? _ ⟨b, 0, none⟩ (Option.some_get (k.1 0 (by omega))).symm) h) k
/-- the same, of a pointer -/
def PtrWr (w : World) (v : Value) : Prop := ∃ b, v = .pointer (some ⟨b, 0, none⟩) ∧ WrAt w b
def ptrWr (w : World) (v : Value) : List Value := match v with
  | .pointer (some ad) => wrOf w ad.block
  | _ => []
theorem run_load_ptr {w : World} (v : Value) (h : PtrWr w v) : (Instr.loadAt 157 v).run Tryz.prog w = .ok (.agg (ptrWr w v).toArray) w := by
  obtain ⟨b, rfl, h⟩ := h
  exact run_load_wr b h
/-- what the region keeps -/
def WrS (b : Nat) (cs : List Value) (w : World) : Prop := PtrWr w (.pointer (some ⟨b, 0, none⟩)) ∧ ptrWr w (.pointer (some ⟨b, 0, none⟩)) = cs
theorem wrS {w : World} {b : Nat} {cs : List Value} (h : WrAt w b ∧ wrOf w b = cs) : PtrWr w (.pointer (some ⟨b, 0, none⟩)) ∧ ptrWr w (.pointer (some ⟨b, 0, none⟩)) = cs := ⟨⟨b, rfl, h.1⟩, h.2⟩
theorem wrS' {w : World} {b : Nat} {cs : List Value} (h : PtrWr w (.pointer (some ⟨b, 0, none⟩)) ∧ ptrWr w (.pointer (some ⟨b, 0, none⟩)) = cs) : WrAt w b ∧ wrOf w b = cs := by
  obtain ⟨⟨b', e, h1⟩, h2⟩ := h
  injection e with e
  injection e with e
  injection e with e
  subst e
  exact ⟨h1, h2⟩
/-- as many cells as a write has -/
def Len65 (cs : List Value) : Prop := cs.length = 65
theorem run_build_wr' {w : World} (cs : List Value) (h : Len65 cs) : (Instr.buildSlice 65 1 #[(0, .agg cs.toArray)]).run Tryz.prog w = .ok (.slice (some ⟨w.heap.size, 0, none⟩) 1 1) (w.alloc (.cells cs.toArray 157)) := by
  obtain ⟨i0, hi0, hz0, hz1, hz2⟩ := info_parts wr_info
  have hf := Great.fill_whole (s := 65) (by omega) [.agg cs.toArray] ((Array.range (1 * 65)).map ((Value.agg (#[.int .i64 0] ++ Array.replicate 64 (.int .u8 0))).cells[· % (Value.agg (#[.int .i64 0] ++ Array.replicate 64 (.int .u8 0))).cells.size]!)) (fun v hv => by
    rw [List.mem_singleton.1 hv]; unfold Len65 at h; simpa [Value.cells] using h) (by simp)
  refine run_buildSlice w 65 157 1 _ cs.toArray i0 _ Tryz.underlying65 hi0 hz0 (by rw [hz1]; omega) (by rw [hz1]; omega) ?_
  rw [hz1]
  simpa [Value.cells] using hf
/-- one part, which has a write's cells -/
def PartOk (ps : Array (Nat × Value)) : Prop := ∃ cs, Len65 cs ∧ ps = #[(0, .agg cs.toArray)]
def partOf (ps : Array (Nat × Value)) : Array Value := (ps.getD 0 (0, undef)).2.cells
theorem run_build_wr {w : World} (ps : Array (Nat × Value)) (h : PartOk ps) : (Instr.buildSlice 65 1 ps).run Tryz.prog w = .ok (.slice (some ⟨w.heap.size, 0, none⟩) 1 1) (w.alloc (.cells (partOf ps) 157)) := by
  obtain ⟨cs, h65, rfl⟩ := h
  exact run_build_wr' cs h65
theorem exec_load_ptr {w : World} (ρ : Operand → Value) (dst : Option Tmp) (x : Operand) (ty : TypeId) (pos : String) (af : Array Edge) (gd : Option (Nat × Bool)) (h : PtrWr w (ρ x)) :
    (execOp ρ (Oper.mk dst (.load 157 x) ty pos af gd)).run Tryz.prog w = .ok (.value (.agg (ptrWr w (ρ x)).toArray)) w := by
  unfold execOp
  simp only [Sem.run_bind, Sem.run_pure, run_load_ptr _ h, Result.andThen_ok]
theorem wp_load_ptr {w : World} {a : Act} {K : Act → World → Prop} {Q : Exit → Act → World → Prop} (dst : Option Tmp) (x : Operand) (ty : TypeId) (pos : String) (af : Array Edge) (gd : Option (Nat × Bool)) (h : PtrWr w (a.eval x)) :
    Oper.wp Tryz.prog (Oper.mk dst (.load 157 x) ty pos af gd) a w K Q = K (a.put dst (.agg (ptrWr w (a.eval x)).toArray)) w := by
  unfold Oper.wp
  rw [exec_load_ptr _ _ _ _ _ _ _ h]
  rfl
theorem wp_build_ps {w : World} {a : Act} {K : Act → World → Prop} {Q : Exit → Act → World → Prop} (dst : Option Tmp) (ps : Array (Nat × Operand)) (ty : TypeId) (pos : String) (af : Array Edge) (gd : Option (Nat × Bool)) (h : PartOk (ps.map fun (i, x) => (i, a.eval x))) :
    Oper.wp Tryz.prog (Oper.mk dst (.buildSlice 65 1 ps) ty pos af gd) a w K Q = K (a.put dst (.slice (some ⟨w.heap.size, 0, none⟩) 1 1)) (w.alloc (.cells (partOf (ps.map fun (i, x) => (i, a.eval x))) 157)) := by
  unfold Oper.wp execOp
  simp only [Sem.run_bind, Sem.run_pure, run_build_wr _ h, Result.andThen_ok]
  rfl
section
variable {w : World} {g : Nat} {d : Vd.VD} {fp : List Nat}
attribute [local go_sem ↓] exec_load_ptr wp_load_ptr wp_build_ps
set_option maxHeartbeats 1000000 in
theorem write_ok (h : DF w g d fp) (a : Nat) (s : ByteArray) (h0 : Vd.asked d a = 0) (hs : s.size = 64) (hr : d.room ≠ 0) (hb : (Vd.burns d).1 = false) (hw : d.writes < 1000000000) :
    Calls Tryz.prog 74 #[.pointer (some ⟨g, 0, none⟩), .int .i64 a, .string s] w (DPost (.int .i64 0) g (Vd.write d a s.data.toList).2 fp w) := by
  have ha := asked_df h a
  have hbu := burns_any h
  rw [h0] at ha
  rw [hb] at hbu
  have H0 := Lib.hid h0
  have HB := Lib.hid hb
  clear h0 hb
  obtain ⟨S, M, qv, rfl, h⟩ := h
  have c4 := h.cells.c4
  obtain ⟨rm, hrm⟩ : ∃ rm, d.room = rm := ⟨_, rfl⟩
  rw [hrm] at c4 hr
  have r1 : (rm == 0) = false := by simpa using hr
  have Hrm := Lib.hid hrm
  clear h hrm
  go_enter Tryz.func74, Tryz.ntmps74
  go_wp2_with fail
  refine ha.mono ?_
  rintro e w1 ⟨rfl, rfl⟩
  go_wp2_with fail
  refine hbu.mono ?_
  rintro e w1 ⟨rfl, fp1, ⟨S1, M1, qv1, rfl, hD1⟩, hFr1⟩
  have e1 : (Vd.burns d).2.room = rm := by rw [← Hrm.out]; exact burns_room d HB.out
  have k4 := hD1.cells.c4
  rw [e1] at k4
  have f4 := hD1.self.frozen 4
  have hglt : g < w1.heap.size := hD1.self.lt
  have HD1 := Lib.hid hD1
  have E1 := Lib.hid e1
  clear hD1 e1
  have hok1 := HD1.out.ok
  have hroom := hok1.room
  rw [E1.out] at hroom
  have HOK := Lib.hid hok1
  clear hok1
  obtain ⟨hro1, hro2⟩ := hroom
  obtain ⟨d2, hd2⟩ : ∃ d2 : Vd.VD, d2 = { (Vd.burns d).2 with room := if 0 < rm then rm - 1 else rm } := ⟨_, rfl⟩
  have hok2 : d2.ok := by
    rw [hd2]
    refine ⟨HOK.out.secs, HOK.out.secs0, HOK.out.q, ?_, HOK.out.fuse, HOK.out.writes⟩
    simp only
    split <;> omega
  have hv : (Vd.write d a s.data.toList).2 = { d2 with q := d2.q ++ [(a, s.data.toList)], writes := d2.writes + 1 } := by
    unfold Vd.write
    rw [if_neg (by rw [H0.out]; simp), if_neg (by simp [hs]), if_neg (by rw [Hrm.out]; exact hr), if_neg (by rw [HB.out]; simp), hd2]
    simp [E1.out]
  have HV := Lib.hid hv
  have HD2 := Lib.hid hd2
  have HOK2 := Lib.hid hok2
  clear hv hd2 hok2
  have hz : (wcells (a, z64)).toArray.size = 65 := by simp [wcells, bl_length, z64_length]
  have hz1 : (wcells (a, z64)).toArray.all (·.oneCell') = true := all_oneCell_toArray (fun v hv => by
    rcases List.mem_cons.1 hv with rfl | hv
    · rfl
    · exact bl_one _ v hv)
  have hz2 : 1 + s.size ≤ (wcells (a, z64)).toArray.size := by rw [hz, hs]; omega
  have hnew : ((wcells (a, z64)).toArray.toList.take 1 ++ Lib.byteCells s.data.toList ++ (wcells (a, z64)).toArray.toList.drop (1 + s.size)).toArray = (wcells (a, s.data.toList)).toArray := by
    have e : (wcells (a, z64)).toArray.toList.drop (1 + s.size) = [] := List.drop_eq_nil_of_le (by rw [hs]; simp [wcells, bl_length, z64_length])
    rw [e, List.append_nil]
    rfl
  have hs64 : s.size ≤ 64 := by omega
  have HZ := Lib.hid hz
  have HZ1 := Lib.hid hz1
  have HZ2 := Lib.hid hz2
  have HNew := Lib.hid hnew
  have HS := Lib.hid hs64
  have HSZ := Lib.hid hs
  clear hz hz1 hz2 hnew hs64
  by_cases hp : 0 < rm
  all_goals first
    | (
      have hp' : decide (0 < rm) = true := decide_eq_true hp
      go_wp2_with (first
          | (refine wpList_build_wr rfl (.tmp 41) rfl a rfl ?_)
          | (refine wpList_alloc_store rfl rfl 157 (.tmp 8) (.tmp 42) rfl rfl _ _ (run_alloc_wr _) rfl rfl (by rw [HZ.out]; rfl) (by rw [HZ.out]; exact wr_size) HZ1.out ?_)
          | (refine wpList_copy_str rfl (.tmp 44) (.tmp 45) 121 9 rfl 5 Tryz.underlying121 (by kernel_rfl) w1.heap.size (by simp [World.setCell]) 1 64 64 s rfl rfl _ _ _ HS.out HZ2.out HNew.out ?_))
      obtain ⟨W, hW⟩ : ∃ W, W = w1.setCell ⟨g, 4, none⟩ (.int .i64 (rm - 1)) := ⟨_, rfl⟩
      have hOW : Only [g] w1 W := by rw [hW]; exact (Only.refl _ _).own 4 _
      have hDW : DiskAt W g S1 M1 qv1 d2 := by
        rw [hW]
        refine HD1.out.store 4 _ d2 HOK2.out (by rw [HD2.out]) (by rw [HD2.out]) ?_ (by rw [HD2.out]; exact ⟨rfl, rfl⟩)
        rw [HD2.out, if_pos (by omega)]
        rfl
      simp only [Act.put, List.setIfInBounds_toArray, List.set_cons_succ, List.set_cons_zero]
      have hWs : W.heap.size = w1.heap.size := by rw [hW]; simp [World.setCell]
      obtain ⟨V, hV⟩ : ∃ V, V = (w1.setCell ⟨g, 4, none⟩ (.int .i64 (rm - 1))).alloc (.cells (wcells (a, s.data.toList)).toArray 157) := ⟨_, rfl⟩
      rw [← hV]
      rw [← hW] at hV)
    | (
      have hp' : decide (0 < rm) = false := decide_eq_false hp
      go_wp2_with (first
          | (refine wpList_build_wr rfl (.tmp 41) rfl a rfl ?_)
          | (refine wpList_alloc_store rfl rfl 157 (.tmp 8) (.tmp 42) rfl rfl _ _ (run_alloc_wr _) rfl rfl (by rw [HZ.out]; rfl) (by rw [HZ.out]; exact wr_size) HZ1.out ?_)
          | (refine wpList_copy_str rfl (.tmp 44) (.tmp 45) 121 9 rfl 5 Tryz.underlying121 (by kernel_rfl) w1.heap.size (by simp) 1 64 64 s rfl rfl _ _ _ HS.out HZ2.out HNew.out ?_))
      obtain ⟨W, hW⟩ : ∃ W, W = w1 := ⟨_, rfl⟩
      have hOW : Only [g] w1 W := by rw [hW]; exact Only.refl _ _
      have hDW : DiskAt W g S1 M1 qv1 d2 := by
        rw [hW]
        refine HD1.out.self' d2 HOK2.out (by rw [HD2.out]) (by rw [HD2.out]) (Only.refl _ _) (HD1.out.self.eq_ ?_) (by rw [HD2.out]; exact ⟨rfl, rfl⟩)
        rw [HD2.out, if_neg (by omega), ← E1.out]
      simp only [Act.put, List.setIfInBounds_toArray, List.set_cons_succ, List.set_cons_zero]
      have hWs : W.heap.size = w1.heap.size := by rw [hW]
      obtain ⟨V, hV⟩ : ∃ V, V = w1.alloc (.cells (wcells (a, s.data.toList)).toArray 157) := ⟨_, rfl⟩
      rw [← hV]
      rw [← hW] at hV)
  all_goals
    have hDV : DiskAt V g S1 M1 qv1 d2 := by rw [hV]; exact hDW.only ((Only.refl [] _).alloc _) (by simp)
    have hBV : Blk V w1.heap.size 157 (wcells (a, s.data.toList)).toArray := by rw [hV, ← hWs]; exact Blk.new _ _ _
    have hOV : Only [g] w1 V := by rw [hV]; exact hOW.alloc _
    have hVs : w1.heap.size < V.heap.size := by rw [hV]; simp [hWs]
    clear hV hWs hDW hOW hW
    obtain ⟨p, cap, hqv⟩ := hDV.qform
    subst hqv
    have hml : d2.q.length < 1000000000 := by
      have h1 := hDV.ok.writes
      rw [HD2.out] at h1 ⊢
      have h2 := (burns_no d HB.out).2.2.2.2
      simp only at h1 ⊢
      omega
    have haw : (Lit.int .i64 (a : Int)).wf = true := by
      have h1 := asked_zero H0.out
      have h2 := HD1.out.secs1
      have h3 := (burns_no d HB.out).1
      rw [h3] at h2
      exact wf64 (by omega) (by omega)
    have hlt2 : a < d2.secs.length := by
      have h1 := asked_zero H0.out
      have h3 := (burns_no d HB.out).1
      rw [HD2.out]
      simp only
      rw [h3]
      omega
    have HLT := Lib.hid hlt2
    have hwr : 0 ≤ d2.writes ∧ d2.writes < 1000000000 := by
      have h1 := hDV.ok.writes
      have h2 := (burns_no d HB.out).2.2.2.2
      rw [HD2.out] at h1 ⊢
      simp only at h1 ⊢
      omega
    have HWR := Lib.hid hwr
    clear hlt2 hwr
    obtain ⟨w2, hrun, hM2, hG2⟩ := (hDV.last.only (Only.refl [] V).drew (by simp)).update (by unfold maxLen; omega) (a : Int) (d2.q.length : Int) haw (wf64 (by omega) (by omega))
    have c1 : V.cell? ⟨g, 1, none⟩ = some (.slice p d2.q.length cap) := hDV.cells.c1
    have c2 : V.cell? ⟨g, 2, none⟩ = some (.map (some M1)) := hDV.cells.c2
    have hgV : g < V.drew.heap.size := hDV.self.lt
    have hgM : some g ≠ some M1 := by simpa using hDV.Mg.symm
    have k1 : w2.cell? ⟨g, 1, none⟩ = some (.slice p d2.q.length cap) := (hG2.cell_far ⟨g, 1, none⟩ hgV hgM).trans c1
    have k2 : w2.cell? ⟨g, 2, none⟩ = some (.map (some M1)) := (hG2.cell_far ⟨g, 2, none⟩ hgV hgM).trans c2
    have HM2 := Lib.hid hM2
    have HG2 := Lib.hid hG2
    have HDV := Lib.hid hDV
    have HBV := Lib.hid hBV
    have HOV := Lib.hid hOV
    have HaW := Lib.hid haw
    clear hM2 hG2 hDV hBV hOV haw
    go_region_held3 (fun w' => w'.cell? ⟨g, 1, none⟩ = some (.slice p d2.q.length cap) ∧ w'.cell? ⟨g, 2, none⟩ = some (.map (some M1))) (first | exact ⟨k1, k2⟩ | go_keep) (fail)
    clear c1 c2 k2
    go_wp2_with fail
    have hlw : (wcells (a, s.data.toList)).length = 65 := wcells_length _ (by simpa using HSZ.out)
    have hB2 : Blk w2 w1.heap.size 157 (wcells (a, s.data.toList)).toArray := (HG2.out.block _ hVs (by
      have h1 := HDV.out.last.lt
      have h2 := HD1.out.last.lt
      simp only [ne_eq, Option.some.injEq]
      omega)).trans HBV.out
    have hw65 := hB2.wr hlw
    have h65 : PartOk #[(0, .agg (wcells (a, s.data.toList)).toArray)] := ⟨_, hlw, rfl⟩
    have h65' : partOf #[(0, .agg (wcells (a, s.data.toList)).toArray)] = (wcells (a, s.data.toList)).toArray := rfl
    have f1 : w2.frozen? ⟨g, 1, none⟩ = false := (HG2.out.frozen_far ⟨g, 1, none⟩ hgV hgM).trans (HDV.out.self.frozen 1)
    have hq2 : w2.ownsRow 0 157 65 (.slice p d2.q.length cap) d2.q.length (qcells d2.q) := ownsRow_only HDV.out.queue ((Only.refl [M1] _).drew.grown HG2.out (fun b e => .inl (by injection e with e; simp [e]))) (fun k hk => by
      simp only [List.mem_singleton]
      rintro rfl
      exact HDV.out.qM hk)
    have hg2 : g < w2.heap.size := Nat.lt_of_lt_of_le hgV HG2.out.size
    have hgne : g ≠ w1.heap.size := by omega
    have hqne : some w1.heap.size ≠ (Value.slice p d2.q.length cap).ownBlock := fun e => by
      have := ownBlock_lt HD1.out.queue e.symm
      omega
    have hqg : some g ≠ (Value.slice p d2.q.length cap).ownBlock := fun e => HDV.out.qg e.symm
    have hq3 : (w2.drew.alloc (.cells (wcells (a, s.data.toList)).toArray 157)).ownsRow 0 157 65 (.slice p d2.q.length cap) d2.q.length (qcells d2.q) := ownsRow_only hq2 ((Only.refl [] _).drew.alloc _) (by simp)
    have hnews := World.news_of_block (Blk.new w2.drew 157 (wcells (a, s.data.toList)).toArray)
    have hone : ∀ u ∈ wcells (a, s.data.toList), u.oneCell' = true := fun v hv => by
      rcases List.mem_cons.1 hv with rfl | hv
      · rfl
      · exact bl_one _ v hv
    obtain ⟨i0, hi0, hz0, hz1, hz2⟩ := info_parts wr_info
    have Hi0 := Lib.hid hi0
    have Hz0 := Lib.hid hz0
    have Hz1 := Lib.hid hz1
    have Hz2 := Lib.hid hz2
    have HQ2 := Lib.hid hq3
    have HB2 := Lib.hid hB2
    have HLW := Lib.hid hlw
    have HW65 := Lib.hid hw65
    have HNews := Lib.hid hnews
    have HOne := Lib.hid hone
    clear hq2 hq3 hB2 hlw hw65 hnews hone hi0 hz0 hz1 hz2
    have hp1 := (wrS (wr_drew HW65.out)).1
    have hp2 := (wrS (wr_drew HW65.out)).2
    go_region_law (refine step_append_lies _ (by rfl) (.tmp 61) (.tmp 63) 65 (by rfl) 0 157 i0 _ 65 72 Tryz.underlying65 Hi0.out Hz0.out Hz1.out Hz2.out (by rfl) (by omega) (.slice p d2.q.length cap) d2.q.length (qcells d2.q) (by rfl) HQ2.out ⟨w2.heap.size, 0, none⟩ 1 1 (wcells (a, s.data.toList)) (by rfl) (by rw [HLW.out]) HNews.out HOne.out (by omega) (by unfold maxLen; omega) (by omega) (Nat.zero_le _) _ rfl ?_; intro gq capq w3 hown hgrow hat hlt; have k3 := (hgrow.cell_far ⟨g, 1, none⟩ (by show g < _; simp; omega) hqg); have k4 := (hgrow.frozen_far ⟨g, 1, none⟩ (by show g < _; simp; omega) hqg))
    all_goals
      have hself3 : Blk w3 g 69 (dcells S1 M1 (.slice p d2.q.length cap) d2) := ((HDV.out.self.only ((((Only.refl [M1] V).drew.grown HG2.out (fun b e => .inl (by injection e with e; simp [e]))).drew).alloc (.cells (wcells (a, s.data.toList)).toArray 157)) (by simpa using HDV.out.Mg.symm)).only ((Only.refl (Value.slice p d2.q.length cap).ownBlock.toList _).grown hgrow (fun b e => .inl (by simp [e]))) (by simpa using fun e => hqg e.symm))
      have k9 : w3.cell? ⟨g, 9, none⟩ = some (.int .i64 d2.writes) := hself3.cell 9
      have f9 : w3.frozen? ⟨g, 9, none⟩ = false := hself3.frozen 9
      clear hself3
      have hend := write_end HDV.out a s.data.toList HLT.out (by simpa using HSZ.out) HG2.out HM2.out _ gq capq hgrow hown hat w1.heap.size (by omega)
      have HEnd := Lib.hid hend
      clear hend hown hgrow hat k3 k4 k1 hp1 hp2 h65 h65'
      obtain ⟨dw, hdw⟩ : ∃ dw, d2.writes = dw := ⟨_, rfl⟩
      have hdw1 := HWR.out
      rw [hdw] at k9 hdw1
      have Hdw := Lib.hid hdw
      clear hdw
      obtain ⟨hdw2, hdw3⟩ := hdw1
      go_wp2_with fail
      go_ret
      have hE := HEnd.out
      rw [Hdw.out] at hE
      rw [HV.out, Hdw.out]
      refine ⟨rfl, _, hE.1, hFr1.trans ⟨((HOV.out).mono (by simp [foot])).trans hE.2.1 (fun b hb => .inl hb), hE.2.2⟩⟩
end
end Go.Proofs.YtoleojljpaglhaaGreat
