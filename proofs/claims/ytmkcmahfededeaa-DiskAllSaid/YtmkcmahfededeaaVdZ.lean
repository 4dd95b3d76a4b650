/- The contract of the disk's Twin. -/
import Derived.Test.YtmkcmahfededeaaVdY
import Derived.Deep.RegionHeld3
import Derived.Deep.DrawnRows
namespace Go.Proofs.Ytmkcmahfededeaa
open Go.RowKit Go.Maps
attribute [local go_sem ↓] Go.wp_at_zero Go.wp_at_succ
theorem dk_size : (Try.prog.info? 50).map (·.size) = some 10 := by kernel_rfl
theorem run_alloc_dk (w : World) : (Instr.alloc 50 true (.tuple #[])).run Try.prog w = .ok (.pointer (some ⟨w.heap.size, 0, none⟩)) (w.alloc (.cells #[.slice none 0 0, .slice none 0 0, .map none, .bool false, .int .i64 0, .bool false, .int .i64 0, .int .i64 0, .int .i64 0, .int .i64 0] 50)) := by kernel_rfl
/-- a variable of many cells is made, another is set, and the first is written whole -/
theorem wpList_alloc_set_store {P : Program} {ops : Array Oper} {rest : List Oper} {o1 o2 o3 : Oper} {a : Act} {w : World} {Q : Exit → Act → World → Prop} (hg1 : o1.guard = none) (hg2 : o2.guard = none) (hg3 : o3.guard = none) (ty : TypeId) (x y z : Operand)
    (h1 : o1.op = .alloc ty) (h2 : o2.op = .assign z) (h3 : o3.op = .store ty x y) (zs cells : Array Value)
    (hrun : (Instr.alloc ty true (.tuple #[])).run P w = .ok (.pointer (some ⟨w.heap.size, 0, none⟩)) (w.alloc (.cells zs ty))) (vz : Value)
    (hv : (a.put o1.dst (.pointer (some ⟨w.heap.size, 0, none⟩))).eval z = vz)
    (hx : ((a.put o1.dst (.pointer (some ⟨w.heap.size, 0, none⟩))).put o2.dst vz).eval x = .pointer (some ⟨w.heap.size, 0, none⟩))
    (hy : ((a.put o1.dst (.pointer (some ⟨w.heap.size, 0, none⟩))).put o2.dst vz).eval y = .agg cells) (hz : zs.size = cells.size)
    (hi : (P.info? ty).map (·.size) = some cells.size) (hone : cells.all (·.oneCell') = true)
    (h : wpList P ops Q rest (((a.put o1.dst (.pointer (some ⟨w.heap.size, 0, none⟩))).put o2.dst vz).put o3.dst undef) (w.alloc (.cells cells ty))) : wpList P ops Q (o1 :: o2 :: o3 :: rest) a w := by
  refine wpList_plain hg1 fun K hK => ?_
  unfold Oper.wp execOp
  simp only [h1, Sem.run_bind, Sem.run_pure, hrun, Result.andThen_ok]
  refine hK _ _ ?_
  refine wpList_plain hg2 fun K2 hK2 => ?_
  unfold Oper.wp execOp
  simp only [h2, Sem.run_bind, Sem.run_pure, Result.andThen_ok, hv]
  refine hK2 _ _ ?_
  refine wpList_store_mid hg3 ty x y h3 w.heap.size 0 cells hx hy (fun j hj => ?_) hi hone ?_
  · have hb := Blk.new w ty zs
    rw [Nat.zero_add]
    refine ⟨?_, hb.frozen j⟩
    rw [hb.cell j, Array.getElem?_eq_getElem (by omega)]
    rfl
  · have := alloc_setCells ty cells.toList 0 w [] zs.toList rfl (by simpa using hz)
    simp only [List.nil_append, Array.toArray_toList] at this
    rw [this]
    exact h
theorem cell_farZ {w : World} {g b j i : Nat} {u v : Value} (h : g ≠ b) (k : w.cell? ⟨b, i, none⟩ = some u) : (w.setCell ⟨g, j, none⟩ v).cell? ⟨b, i, none⟩ = some u := (World.cell?_setCell_far _ _ _ _ h).trans k
theorem own_base' {w : World} {b b' : Nat} {e : TypeId} {size n : Nat} {v : Value} {xs : List Value} (h : w.ownsRow b e size v n xs) (hb : b' ≤ b) : w.ownsRow b' e size v n xs := by
  refine ⟨h.1, ?_⟩
  rcases h.2 with h1 | ⟨g, cap, cur, rfl, hg, r⟩
  · exact .inl h1
  · exact .inr ⟨g, cap, cur, rfl, Nat.le_trans hb hg, r⟩
theorem q_one (q : List (Nat × List UInt8)) : ∀ u ∈ qcells q, u.oneCell' = true := by
  intro u hu
  unfold qcells at hu
  obtain ⟨x, _, hx⟩ := List.mem_flatMap.1 hu
  rcases List.mem_cons.1 hx with rfl | hx
  · rfl
  · exact bl_one _ u hx
section
variable {w w' : World} {g S M : Nat} {qv : Value} {d : Vd.VD} {fp : List Nat}
/-- the sectors as a row of one's own -/
theorem DiskAt.srow (h : DiskAt w g S M qv d) : w.ownsRow 0 57 64 (.slice (some ⟨S, 0, none⟩) d.secs.length d.sc) d.secs.length (bl d.secs.flatten) := by
  have hl : (bl d.secs.flatten).length = d.secs.length * 64 := by rw [bl_length, flat_length _ h.ok.secs]
  obtain ⟨hb, h1, h2, h3⟩ := h.secsG
  refine ⟨hl, .inr ⟨S, d.sc, _, rfl, Nat.zero_le _, hb, h1, h2, ?_, ?_⟩⟩
  · rw [List.size_toArray, List.length_append, hl, h3]
  · rw [← hl]; simp
/-- a twin: alike but for what lies behind the sectors -/
def DTwin (d : Vd.VD) (w : World) (e : Ending) (w' : World) : Prop := ∃ g sc sr fp, e = .returned (.pointer (some ⟨g, 0, none⟩)) ∧ DF w' g { d with sc := sc, sr := sr } fp ∧ (∀ b ∈ fp, w.heap.size ≤ b) ∧ Below w.heap.size w w'
/-- what holds at the head of the twin's loop -/
def TwRel (w : World) (d : Vd.VD) (sv qv : Value) (M : Nat) (cs : Array Value) (i : Value) (wr : World) : Prop :=
  ∃ k : Nat, k ≤ d.q.length ∧ i = .int .i64 k ∧ MapIs wr M k (lastI (d.q.take k)) ∧ Blk wr w.heap.size 50 cs ∧ wr.ownsRow (w.heap.size + 1) 57 64 sv d.secs.length (bl d.secs.flatten) ∧
    wr.ownsRow (w.heap.size + 1) 59 65 qv d.q.length (qcells d.q) ∧ Below w.heap.size w wr
/-- the end of a twin -/
theorem twin_end {wr : World} {M2 p1c c2 : Nat} {p1 p2 : Option Addr} {cs cs5 cs6 : Array Value} (h : DiskAt w g S M qv d) (hcs : dcells S M qv d = cs) (hcs5 : (cs.setIfInBounds 0 (.slice p1 d.secs.length p1c)).setIfInBounds 1 (.slice p2 d.q.length c2) = cs5) (hcs6 : cs5.setIfInBounds 2 (.map (some M2)) = cs6)
    (hMap : MapIs wr M2 d.q.length (lastI (d.q.take d.q.length))) (hE : Blk wr w.heap.size 50 cs6) (hso : wr.ownsRow (w.heap.size + 1) 57 64 (.slice p1 d.secs.length p1c) d.secs.length (bl d.secs.flatten))
    (hqo : wr.ownsRow (w.heap.size + 1) 59 65 (.slice p2 d.q.length c2) d.q.length (qcells d.q)) (hb : Below w.heap.size w wr) (hM2 : w.heap.size ≤ M2) : DTwin d w (.returned (.pointer (some ⟨w.heap.size, 0, none⟩))) wr := by
  have h0 := h.ok.secs0
  have hl : (bl d.secs.flatten).length = d.secs.length * 64 := by rw [bl_length, flat_length _ h.ok.secs]
  rcases hso.2 with ⟨_, h1⟩ | ⟨S2, cap2, cur, hv, hS2, hcur, hn1, hn2, hn3, hn4⟩
  · omega
  · obtain ⟨rfl, rfl⟩ : p1 = some ⟨S2, 0, none⟩ ∧ p1c = cap2 := by injection hv with e1 _ e2; exact ⟨e1, e2⟩
    have hq1 : ∀ k, (Value.slice p2 d.q.length c2).ownBlock = some k → w.heap.size + 1 ≤ k := fun k hk => (hqo.lt k hk).1
    refine ⟨w.heap.size, p1c, cur.toList.drop (d.secs.length * 64), foot w.heap.size S2 M2 (.slice p2 d.q.length c2), rfl, ⟨S2, M2, .slice p2 d.q.length c2, rfl, ⟨h.ok.secs, h.ok.secs0, h.ok.q, h.ok.room, h.ok.fuse, h.ok.writes⟩, h.secs1, hE.eq_ ?_, ⟨?_, hn1, hn2, ?_⟩, own_base' hqo (Nat.zero_le _), ?_⟩, ?_, hb⟩
    · rw [← hcs6, ← hcs5, ← hcs]
      simp [dcells]
    · have e : bl d.secs.flatten ++ cur.toList.drop (d.secs.length * 64) = cur.toList := by rw [← hn4, List.take_append_drop]
      show Blk wr S2 _ (bl d.secs.flatten ++ cur.toList.drop (d.secs.length * 64)).toArray
      rw [e]
      exact hcur
    · have hcl : cur.toList.length = p1c * 64 := by rw [Array.length_toList]; exact hn3
      show d.secs.length * 64 + (cur.toList.drop (d.secs.length * 64)).length = p1c * 64
      rw [List.length_drop, hcl]
      omega
    · rw [List.take_length] at hMap
      exact hMap
    · intro b hb
      simp only [foot, List.mem_cons, Option.mem_toList] at hb
      rcases hb with rfl | rfl | rfl | hb
      · exact Nat.le_refl _
      · omega
      · exact hM2
      · have := hq1 b hb; omega
set_option maxHeartbeats 2000000 in
theorem twin_any (h : DF w g d fp) (hql : d.q.length < 1000000000) : Calls Try.prog 25 #[.pointer (some ⟨g, 0, none⟩)] w (DTwin d w) := by
  obtain ⟨S, M, qv, rfl, h⟩ := h
  obtain ⟨p, cap, rfl⟩ := h.qform
  have hs1 := h.secs1
  obtain ⟨cs, hcs⟩ : ∃ cs, dcells S M (.slice p d.q.length cap) d = cs := ⟨_, rfl⟩
  have hself := h.self
  rw [hcs] at hself
  have hsz : cs.size = 10 := by rw [← hcs]; rfl
  have hone : cs.all (·.oneCell') = true := by rw [← hcs]; simp [dcells, Value.oneCell']
  have hrg : w.rangeAt g 0 cs.toList := fun j v hv => by
    rw [Nat.zero_add, hself.cell j]
    simpa using hv
  have hlen : cs.toList.length = 10 := by simpa using hsz
  have hgl := hself.lt
  have hS1 := hself.alloc (.cells cs 50)
  have hE1 := Blk.new w 50 cs
  have m0 : (w.alloc (.cells cs 50)).cell? ⟨g, 0, none⟩ = some (.slice (some ⟨S, 0, none⟩) d.secs.length d.sc) := by rw [hS1.cell 0, ← hcs]; rfl
  have m1 : (w.alloc (.cells cs 50)).cell? ⟨g, 1, none⟩ = some (.slice p d.q.length cap) := by rw [hS1.cell 1, ← hcs]; rfl
  have hsrow := (h.srow.alloc (.cells cs 50)).drew
  have hqrow := (h.queue.alloc (.cells cs 50)).drew
  have HSz := Lib.hid hsz
  have HOne := Lib.hid hone
  have HRg := Lib.hid hrg
  have HLen := Lib.hid hlen
  have HE1 := Lib.hid hE1
  have HSrow := Lib.hid hsrow
  have HQrow := Lib.hid hqrow
  have HD := Lib.hid h
  have HCs := Lib.hid hcs
  have hmm := @run_makeMap Try.prog
  clear hsz hone hrg hlen hE1 hS1 hsrow hqrow h hcs hself
  go_enter Try.func25, Try.ntmps25
  go_wp2_with (first
    | (refine wpList_load_mid rfl 50 (.tmp 9) rfl g 0 rfl cs.toList _ HRg.out (Try.underlying50) rfl (by rw [HLen.out]; exact dk_size) ?_)
    | (refine wpList_alloc_store rfl rfl 50 (.tmp 3) (.tmp 10) rfl rfl _ cs (run_alloc_dk _) rfl rfl (by rw [HSz.out]; rfl) (by rw [HSz.out]; exact dk_size) HOne.out ?_))
  obtain ⟨W1, hW1⟩ : ∃ W1, W1 = w.alloc (.cells cs 50) := ⟨_, rfl⟩
  have hW1s : W1.heap.size = w.heap.size + 1 := by rw [hW1]; simp
  have hbW1 : Below w.heap.size w W1 := by rw [hW1]; exact (Below.refl _ _).alloc (Nat.le_refl _) _
  rw [← hW1] at m0 m1 HE1 HSrow HQrow ⊢
  clear hW1 HRg
  have HbW1 := Lib.hid hbW1
  have HW1s := Lib.hid hW1s
  have hglW : g < W1.heap.size := by omega
  have hEW : w.heap.size < W1.heap.size := by omega
  have hEg : w.heap.size ≠ g := by omega
  clear hbW1 hW1s
  simp only [Act.put, List.setIfInBounds_toArray, List.set_cons_succ, List.set_cons_zero]
  go_region_held3 (fun w' => w'.cell? ⟨g, 0, none⟩ = some (.slice (some ⟨S, 0, none⟩) d.secs.length d.sc) ∧ w'.cell? ⟨g, 1, none⟩ = some (.slice p d.q.length cap)) (first | exact ⟨m0, m1⟩ | exact ⟨k0, k1⟩ | exact ⟨l0, l1⟩ | exact ⟨cell_farZ hEg l0, cell_farZ hEg l1⟩ | exact ⟨cell_farZ hEg (cell_farZ hEg l0), cell_farZ hEg (cell_farZ hEg l1)⟩ | go_keep) ((first | ((with_reducible refine (cloneSecs HSrow.out (bl_one _) (by omega)).mono ?_); rintro e w3 ⟨p1, c1, rfl, hown3, hb3⟩; have k0 : w3.cell? ⟨g, 0, none⟩ = some (.slice (some ⟨S, 0, none⟩) d.secs.length d.sc) := (hb3.cell (p := ⟨g, 0, none⟩) (show g < W1.heap.size from hglW)).trans m0; have k1 : w3.cell? ⟨g, 1, none⟩ = some (.slice p d.q.length cap) := (hb3.cell (p := ⟨g, 1, none⟩) (show g < W1.heap.size from hglW)).trans m1; have HO3 := Lib.hid hown3; have Hb3 := Lib.hid hb3; clear hown3 hb3) | ((with_reducible refine (cloneQ (ownsRow_only HQrow.out ((Only.refl [] _).below Hb3.out) (by simp)) (q_one _) (by omega)).mono ?_); rintro e w4 ⟨p2, c2, rfl, hown4, hb4⟩; have hs3 : W1.heap.size ≤ w3.heap.size := Hb3.out.size; have l0 : w4.cell? ⟨g, 0, none⟩ = some (.slice (some ⟨S, 0, none⟩) d.secs.length d.sc) := (hb4.cell (p := ⟨g, 0, none⟩) (show g < w3.heap.size by omega)).trans k0; have l1 : w4.cell? ⟨g, 1, none⟩ = some (.slice p d.q.length cap) := (hb4.cell (p := ⟨g, 1, none⟩) (show g < w3.heap.size by omega)).trans k1; have hE4 : Blk w4 w.heap.size 50 cs := (HE1.out.drew.below Hb3.out (show w.heap.size < W1.heap.size from hEW)).below hb4 (show w.heap.size < w3.heap.size by omega); have x0 : w4.cell? ⟨w.heap.size, 0, none⟩ = some (.slice (some ⟨S, 0, none⟩) d.secs.length d.sc) := by { rw [hE4.cell 0, ← HCs.out]; rfl }; have x1 : w4.cell? ⟨w.heap.size, 1, none⟩ = some (.slice p d.q.length cap) := by { rw [hE4.cell 1, ← HCs.out]; rfl }; have y0 := hE4.frozen 0; have y1 := hE4.frozen 1; have HE4 := Lib.hid hE4; have HO4 := Lib.hid hown4; have Hb4 := Lib.hid hb4; clear hE4 hown4 hb4)))
  all_goals
    have hs4 : w3.heap.size ≤ w4.heap.size := Hb4.out.size
    have hO5 : Only [w.heap.size] w4 ((w4.setCell ⟨w.heap.size, 0, none⟩ (.slice p1 d.secs.length c1)).setCell ⟨w.heap.size, 1, none⟩ (.slice p2 d.q.length c2)) := ((Only.refl _ _).setCell (p := ⟨w.heap.size, 0, none⟩) (.inl (by simp)) _).setCell (p := ⟨w.heap.size, 1, none⟩) (.inl (by simp)) _
    have hE5 := (HE4.out.set_ 0 (.slice p1 d.secs.length c1)).set_ 1 (.slice p2 d.q.length c2)
    have hso : w4.ownsRow (w.heap.size + 1) 57 64 (.slice p1 d.secs.length c1) d.secs.length (bl d.secs.flatten) := ownsRow_only (own_base' HO3.out (show w.heap.size + 1 ≤ W1.heap.size by omega)) ((Only.refl [] _).below Hb4.out) (by simp)
    have hso5 := ownsRow_only hso hO5 (fun k hk => by have := (hso.lt k hk).1; simp; omega)
    have hqo : w4.ownsRow (w.heap.size + 1) 59 65 (.slice p2 d.q.length c2) d.q.length (qcells d.q) := own_base' HO4.out (by omega)
    have hqo5 := ownsRow_only hqo hO5 (fun k hk => by have := (hqo.lt k hk).1; simp; omega)
    have hb5 : Below w.heap.size w ((w4.setCell ⟨w.heap.size, 0, none⟩ (.slice p1 d.secs.length c1)).setCell ⟨w.heap.size, 1, none⟩ (.slice p2 d.q.length c2)) := (((HbW1.out.drew).trans (Hb3.out.mono (show w.heap.size ≤ W1.heap.size by omega))).trans (Hb4.out.mono (by omega))).trans (hO5.to_below (by omega) (by simp))
    obtain ⟨W5, hW5⟩ : ∃ W5, W5 = (w4.setCell ⟨w.heap.size, 0, none⟩ (.slice p1 d.secs.length c1)).setCell ⟨w.heap.size, 1, none⟩ (.slice p2 d.q.length c2) := ⟨_, rfl⟩
    have hs5 : w.heap.size < W5.heap.size := by rw [hW5]; simp [World.setCell]; omega
    rw [← hW5] at hE5 hso5 hqo5 hb5 ⊢
    obtain ⟨cs5, hcs5⟩ : ∃ cs5, (cs.setIfInBounds 0 (.slice p1 d.secs.length c1)).setIfInBounds 1 (.slice p2 d.q.length c2) = cs5 := ⟨_, rfl⟩
    rw [hcs5] at hE5
    have z1 : W5.cell? ⟨w.heap.size, 1, none⟩ = some (.slice p2 d.q.length c2) := by rw [hE5.cell 1, ← hcs5, ← HCs.out]; simp [dcells]
    have z2 : W5.cell? ⟨w.heap.size, 2, none⟩ = some (.map (some M)) := by rw [hE5.cell 2, ← hcs5, ← HCs.out]; simp [dcells]
    have y2 := hE5.frozen 2
    have HE5 := Lib.hid hE5
    have HS5 := Lib.hid hso5
    have HQ5 := Lib.hid hqo5
    have Hb5 := Lib.hid hb5
    have HC5 := Lib.hid hcs5
    clear hW5 hO5 hso hqo hE5 hso5 hqo5 hb5 hcs5 HE4 HO3 HO4 Hb3 Hb4 HSrow HQrow HE1 HbW1 HW1s m0 m1 k0 k1 l0 l1 x0 x1 y0 y1 hs3 hs4
    go_wp2_with fail
    clear hmm
    have hst : TwRel w d (.slice p1 d.secs.length c1) (.slice p2 d.q.length c2) W5.heap.size (cs5.setIfInBounds 2 (.map (some W5.heap.size))) (.int .i64 0) ((W5.setCell ⟨w.heap.size, 2, none⟩ (.map (some W5.heap.size))).alloc (.map #[] 0)) := by
      have hOa : Only [w.heap.size] W5 ((W5.setCell ⟨w.heap.size, 2, none⟩ (.map (some W5.heap.size))).alloc (.map #[] 0)) := ((Only.refl _ _).setCell (p := ⟨w.heap.size, 2, none⟩) (.inl (by simp)) _).alloc _
      refine ⟨0, Nat.zero_le _, rfl, ?_, (HE5.out.set_ 2 _).alloc _, ownsRow_only HS5.out hOa (fun k hk => by have := (HS5.out.lt k hk).1; simp; omega), ownsRow_only HQ5.out hOa (fun k hk => by have := (HQ5.out.lt k hk).1; simp; omega), Hb5.out.trans (hOa.to_below (by omega) (by simp))⟩
      have := MapIs.made (W5.setCell ⟨w.heap.size, 2, none⟩ (.map (some W5.heap.size)))
      have e : (fun _ => none) = lastI (d.q.take 0) := by
        funext k
        unfold lastI Vd.lastAt
        simp
      rw [e] at this
      have e2 : (W5.setCell ⟨w.heap.size, 2, none⟩ (.map (some W5.heap.size))).heap.size = W5.heap.size := by simp [World.setCell]
      rw [e2] at this
      exact this
    have HSt := Lib.hid hst
    clear hst z1 z2 y2
    obtain ⟨M2, hM2⟩ : ∃ M2, M2 = W5.heap.size := ⟨_, rfl⟩
    obtain ⟨cs6, hcs6⟩ : ∃ cs6, cs5.setIfInBounds 2 (.map (some M2)) = cs6 := ⟨_, rfl⟩
    have hst := HSt.out
    rw [← hM2, hcs6] at hst
    have HSt2 := Lib.hid hst
    have HM2 := Lib.hid hM2
    have HC6 := Lib.hid hcs6
    clear HSt hst hcs6 HE5 HS5 HQ5 Hb5
    rw [← hM2]
    clear hM2
    go_loopw [28, 5, 4] (fun i _ _ wr => TwRel w d (.slice p1 d.secs.length c1) (.slice p2 d.q.length c2) M2 cs6 i wr) (fun i _ _ _ => d.q.length - (intOf i).toNat)
    case atStart => exact HSt2.out
    case round =>
      obtain ⟨k, hk, rfl, hMap, hE, hso, hqo, hb⟩ := hrel
      by_cases hlt : k < d.q.length
      · obtain ⟨qb, cap2, hv, hqb1, hqb2⟩ := hqo.form (by omega)
        obtain ⟨rfl, rfl⟩ : p2 = some ⟨qb, 0, none⟩ ∧ c2 = cap2 := by injection hv with e1 _ e2; exact ⟨e1, e2⟩
        clear hv
        obtain ⟨x, hx⟩ : ∃ x, x = d.q[k] := ⟨_, rfl⟩
        have hx2 := (HD.out.ok.q x (by rw [hx]; exact List.getElem_mem hlt)).2
        have hx1 := (HD.out.ok.q x (by rw [hx]; exact List.getElem_mem hlt)).1
        have hrange : wr.rangeAt qb (k * 65) (wcells x) := fun j v hv => by
          rw [hx] at hv
          have := hqo.cells (g := qb) rfl (k * 65 + j) v (qcells_at d.q (fun y hy => (HD.out.ok.q y hy).2) k hlt j v hv)
          rwa [Addr.add_mid, Nat.zero_add] at this
        have hwl : (wcells x).length = 65 := wcells_length x hx2
        have hws : (wcells x).toArray.size = 65 := by simpa using hwl
        have hone : (wcells x).toArray.all (·.oneCell') = true := all_oneCell_toArray (fun v hv => by
          rcases List.mem_cons.1 hv with rfl | hv
          · rfl
          · exact bl_one _ v hv)
        have hxw : (Lit.int .i64 (x.1 : Int)).wf = true := wf64 (by omega) (by omega)
        have hOA : Only [] wr (wr.alloc (.cells (wcells x).toArray 59)) := (Only.refl _ _).alloc _
        obtain ⟨w2, hrun, hM3, hG3⟩ := (hMap.only hOA (by simp)).update (by unfold maxLen; omega) (x.1 : Int) (k : Int) hxw (wf64 (by omega) (by omega))
        have hME : M2 ≠ w.heap.size := hMap.ne_blk hE
        have hn2 : (wr.alloc (.cells (wcells x).toArray 59)).cell? ⟨w.heap.size, 2, none⟩ = some (.map (some M2)) := by
          rw [(hE.alloc _).cell 2, ← HC6.out, ← HC5.out, ← HCs.out]
          simp [dcells]
        have hn0 : (wr.alloc (.cells (wcells x).toArray 59)).cell? ⟨wr.heap.size, 0, none⟩ = some (.int .i64 (x.1 : Int)) := (Blk.new wr _ _).cell 0
        have hrel : TwRel w d (.slice p1 d.secs.length c1) (.slice (some ⟨qb, 0, none⟩) d.q.length c2) M2 cs6 (.int .i64 ((k : Int) + 1)) w2 := by
          have hOM : Only [M2] wr w2 := (((Only.refl [M2] wr).alloc _)).grown hG3 (fun b e => .inl (by injection e with e; simp [e]))
          have hB := hb.size
          refine ⟨k + 1, hlt, by go_num, ?_, hE.only hOM (by simpa using hME.symm), ownsRow_only hso hOM (fun j hj => by
            simp only [List.mem_singleton]
            rintro rfl
            exact own_ne_map hso hMap hj), ownsRow_only hqo hOM (fun j hj => by
            simp only [List.mem_singleton]
            rintro rfl
            exact own_ne_map hqo hMap hj), hb.trans (hOM.to_below hB (by simp; have := HM2.out; omega))⟩
          rw [List.take_succ_eq_append_getElem hlt, ← hx]
          obtain ⟨xa, xd⟩ := x
          rw [lastI_snoc, List.length_take, show min k d.q.length = k from by omega]
          exact hM3
        have i0 : (0 : Int) ≤ (k : Int) := by omega
        have i1 : (k : Int) < (d.q.length : Int) := by omega
        have HRel := Lib.hid hrel
        have HWL := Lib.hid hwl
        have HWS := Lib.hid hws
        have HOne := Lib.hid hone
        have HRg := Lib.hid hrange
        clear hrel hwl hws hone hrange hMap hE hso hqo hb hM3 hG3 hOA hx hxw
        go_wp2_with (first
          | (refine wpList_load_mid rfl 59 (.tmp 31) rfl qb (k * 65) rfl (wcells x) _ HRg.out (Try.underlying59) rfl (by rw [HWL.out]; exact wr_size) ?_)
          | (refine wpList_alloc_set_store rfl rfl rfl 59 (.tmp 5) (.tmp 32) (.tmp 30) rfl rfl rfl _ (wcells x).toArray (run_alloc_wr _) (.int .i64 (k : Int)) rfl rfl rfl (by rw [HWS.out]; rfl) (by rw [HWS.out]; exact wr_size) HOne.out ?_))
        go_roundw
        case rel => exact HRel.out
        case measure => simp [intOf]; omega
      · obtain rfl : k = d.q.length := by omega
        have HMap := Lib.hid hMap
        have HE := Lib.hid hE
        have HSo := Lib.hid hso
        have HQo := Lib.hid hqo
        have Hb := Lib.hid hb
        clear hMap hE hso hqo hb
        go_wp2_with fail
        go_ret
        exact twin_end HD.out HCs.out HC5.out HC6.out HMap.out HE.out HSo.out HQo.out Hb.out (by have := HM2.out; omega)
end
end Go.Proofs.Ytmkcmahfededeaa
