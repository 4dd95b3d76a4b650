/- The contract of the disk's Read. -/
import Derived.Test.YtoleojljpaglhaaGreatVdK
namespace Go.Proofs.YtoleojljpaglhaaGreat
open Go.RowKit Go.Maps
set_option maxRecDepth 20000
theorem lastAt_look (secs : List (List UInt8)) (q : List (Nat × List UInt8)) (a : Nat) (ha : a < secs.length) : ∀ k, k ≤ q.length →
    (Vd.lastAt (q.take k) a = none ∧ (Vd.lay secs (q.take k)).getD a [] = secs.getD a []) ∨ ∃ i, ∃ h : i < q.length, i < k ∧ Vd.lastAt (q.take k) a = some i ∧ q[i].1 = a ∧ (Vd.lay secs (q.take k)).getD a [] = q[i].2
  | 0, _ => .inl ⟨by simp [Vd.lastAt], by simp [Vd.lay]⟩
  | k + 1, hk => by
    have ih := lastAt_look secs q a ha k (by omega)
    have hl : (Vd.lay secs (q.take k)).length = secs.length := Vd.lay_length _ _
    rw [List.take_succ_eq_append_getElem (by omega), Vd.lay_snoc, lastAt_snoc]
    by_cases e : (q[k]'(by omega)).1 = a
    · right
      refine ⟨k, by omega, by omega, ?_, e, ?_⟩
      · rw [if_pos e]; simp; omega
      · rw [e, List.getD_eq_getElem?_getD, List.getElem?_set_self (by omega)]; rfl
    · rw [if_neg e]
      have e2 : ((Vd.lay secs (q.take k)).set (q[k]'(by omega)).1 (q[k]'(by omega)).2).getD a [] = (Vd.lay secs (q.take k)).getD a [] := by
        rw [List.getD_eq_getElem?_getD, List.getD_eq_getElem?_getD, List.getElem?_set_ne e]
      rw [e2]
      rcases ih with ih | ⟨i, hi, h1, h2⟩
      · exact .inl ih
      · exact .inr ⟨i, hi, by omega, h2⟩
/-- what a read finds -/
theorem look_cases (d : Vd.VD) (a : Nat) (ha : a < d.secs.length) : (Vd.lastAt d.q a = none ∧ Vd.look d a = d.secs.getD a []) ∨ ∃ i, ∃ h : i < d.q.length, Vd.lastAt d.q a = some i ∧ Vd.look d a = d.q[i].2 := by
  have := lastAt_look d.secs d.q a ha d.q.length (Nat.le_refl _)
  rw [List.take_length] at this
  rcases this with h | ⟨i, hi, _, h1, _, h2⟩
  · exact .inl h
  · exact .inr ⟨i, hi, h1, h2⟩
theorem flat_at : ∀ (l : List (List UInt8)) (k j : Nat), (∀ s ∈ l, s.length = 64) → k < l.length → j < 64 → l.flatten[k * 64 + j]? = (l.getD k [])[j]?
  | [], k, _, _, hk, _ => by simp at hk
  | x :: l, 0, j, hl, _, hj => by
    have hx : x.length = 64 := hl x (by simp)
    simp only [List.flatten_cons, Nat.zero_mul, Nat.zero_add, List.getD_cons_zero]
    rw [List.getElem?_append_left (by omega)]
  | x :: l, k + 1, j, hl, hk, hj => by
    have hx : x.length = 64 := hl x (by simp)
    have ih := flat_at l k j (fun y hy => hl y (by simp [hy])) (by simpa using hk) hj
    simp only [List.flatten_cons, List.getD_cons_succ]
    rw [List.getElem?_append_right (by omega), hx, show (k + 1) * 64 + j - 64 = k * 64 + j from by omega, ih]
theorem Blk.sec_range {w : World} {S : Nat} {t : TypeId} {l : List (List UInt8)} {sr : List Value} (h : Blk w S t (bl l.flatten ++ sr).toArray) (hl : ∀ s ∈ l, s.length = 64) {k : Nat} (hk : k < l.length) : w.rangeAt S (k * 64) (bl (l.getD k [])) := fun j v hv => by
  have hg : (l.getD k []).length = 64 := by
    rw [List.getD_eq_getElem?_getD, List.getElem?_eq_getElem hk]
    exact hl _ (List.getElem_mem hk)
  have hj : j < 64 := by
    rcases Nat.lt_or_ge j 64 with h1 | h1
    · exact h1
    · rw [List.getElem?_eq_none (by rw [bl_length]; omega)] at hv; cases hv
  rw [h.cell, List.getElem?_toArray, List.getElem?_append_left (by rw [bl_length, flat_length l hl]; omega)]
  unfold bl
  rw [List.getElem?_map, flat_at l k j hl hk hj]
  simpa [bl] using hv
/-- a store of a known run -/
theorem wpList_store_run {P : Program} {ops : Array Oper} {rest : List Oper} {o : Oper} {a : Act} {W W' : World} {Q : Exit → Act → World → Prop} (hgd : o.guard = none) (ty : TypeId) (x y : Operand) (ho : o.op = .store ty x y) (vx vy : Value)
    (hx : a.eval x = vx) (hy : a.eval y = vy) (hrun : (Instr.storeAt ty vx vy).run P W = .ok () W') (h : wpList P ops Q rest (a.put o.dst undef) W') : wpList P ops Q (o :: rest) a W := by
  refine wpList_plain hgd fun K hK => ?_
  unfold Oper.wp execOp
  simp only [ho, hx, hy, Sem.run_bind, Sem.run_pure, hrun, Result.andThen_ok]
  exact hK _ _ h
section
variable {w : World} {g : Nat} {d : Vd.VD} {fp : List Nat}
/-- what a read returns -/
def rdV (r : Int × List UInt8) : Value := .tuple #[.string ⟨r.2.toArray⟩, .int .i64 r.1]
set_option maxHeartbeats 400000 in
theorem read_no (h : DF w g d fp) (a : Int) (h0 : Vd.asked d a ≠ 0) :
    Calls Tryz.prog 65 #[.pointer (some ⟨g, 0, none⟩), .int .i64 a] w fun e w' => e = .returned (rdV (Vd.asked d a, [])) ∧ Below w.heap.size w w' := by
  have ha := asked_df h a
  obtain ⟨r, hr⟩ : ∃ r, Vd.asked d a = r := ⟨_, rfl⟩
  rw [hr] at ha h0 ⊢
  clear hr h
  have h1 : (r == 0) = false := by simpa using h0
  have h2 : (r != 0) = true := by simpa using h0
  go_enter Tryz.func65, Tryz.ntmps65
  go_wp2_with fail
  refine ha.mono ?_
  rintro e w1 ⟨rfl, rfl⟩
  go_wp2_with fail
  go_ret2
  exact ⟨rfl, Below.refl _ _⟩
set_option maxHeartbeats 1000000 in
theorem read_ok (h : DF w g d fp) (a : Nat) (h0 : Vd.asked d a = 0) :
    Calls Tryz.prog 65 #[.pointer (some ⟨g, 0, none⟩), .int .i64 a] w fun e w' => e = .returned (rdV (0, Vd.look d a)) ∧ Below w.heap.size w w' := by
  have ha := asked_df h a
  have hz := asked_zero h0
  rw [h0] at ha
  clear h0
  obtain ⟨S, M, qv, rfl, h⟩ := h
  have hlt : a < d.secs.length := by omega
  have hlook := look_cases d a hlt
  have hg64 : (d.secs.getD a []).length = 64 := by
    rw [List.getD_eq_getElem?_getD, List.getElem?_eq_getElem hlt]
    exact h.ok.secs _ (List.getElem_mem hlt)
  have hr := h.secs.sec_range h.ok.secs hlt
  obtain ⟨s, hs⟩ : ∃ s, d.secs.getD a [] = s := ⟨_, rfl⟩
  rw [hs] at hg64 hr hlook
  have i0 : (0 : Int) ≤ (a : Int) := by omega
  have i1 : (a : Int) < (d.secs.length : Int) := by omega
  have hs1 := h.secs1
  have hbl : (bl s).length = 64 := by rw [bl_length, hg64]
  have hbs : (bl s).toArray.size = 64 := by simpa using hbl
  have hone : (bl s).toArray.all (·.oneCell') = true := all_oneCell_toArray (bl_one s)
  have haw : (Lit.int .i64 (a : Int)).wf = true := wf64 (by omega) (by omega)
  have hm := (h.last.only ((Only.refl [] w).alloc (.cells (bl s).toArray 155)) (by simp)).lookup (a : Int) haw
  have hB := Blk.new w 155 (bl s).toArray
  have c0 := h.cells.c0
  have c1 := ((h.self.alloc (.cells (bl s).toArray 155))).cell 1
  have c2 := ((h.self.alloc (.cells (bl s).toArray 155))).cell 2
  have c1' : (w.alloc (.cells (bl s).toArray 155)).cell? ⟨g, 1, none⟩ = some qv := c1
  have c2' : (w.alloc (.cells (bl s).toArray 155)).cell? ⟨g, 2, none⟩ = some (.map (some M)) := c2
  have hgl := h.self.lt
  clear hs haw c1 c2
  have HD := Lib.hid h
  have HBL := Lib.hid hbl
  have HBS := Lib.hid hbs
  have HONE := Lib.hid hone
  have HR := Lib.hid hr
  have HB := Lib.hid hB
  clear h hbl hbs hone hr hB
  rcases hlook with ⟨e1, e2⟩ | ⟨i, hi, e1, e2⟩
  · have e3 : lastI d.q (a : Int) = none := by unfold lastI; rw [if_pos (by omega), Int.toNat_natCast, e1]; rfl
    rw [e3] at hm
    rw [e2]
    clear e1 e2 e3
    have hstr := string_of_blk (P := Tryz.prog) HB.out 121 9 5 64 64 hg64.symm Tryz.underlying121 Tryz.underlying5 Tryz.underlying9
    clear hg64
    go_enter Tryz.func65, Tryz.ntmps65
    go_wp2_with fail
    refine ha.mono ?_
    rintro e w1 ⟨rfl, rfl⟩
    go_wp2_with (first
        | (refine wpList_load_mid rfl 155 (.tmp 21) rfl S (a * 64) rfl (bl s) _ HR.out (Tryz.underlying155) rfl (by rw [HBL.out]; exact sec_size) ?_)
        | (refine wpList_alloc_store rfl rfl 155 (.tmp 7) (.tmp 22) rfl rfl _ (bl s).toArray (run_alloc_sec _) rfl rfl (by rw [HBS.out]; rfl) (by rw [HBS.out]; exact sec_size) HONE.out ?_))
    go_ret2
    exact ⟨rfl, (Below.refl _ _).alloc (Nat.le_refl _) _⟩
  · have e3 : lastI d.q (a : Int) = some (i : Int) := by unfold lastI; rw [if_pos (by omega), Int.toNat_natCast, e1]; rfl
    rw [e3] at hm
    rw [e2]
    clear e1 e2 e3
    obtain ⟨p, cap, rfl⟩ := HD.out.qform
    obtain ⟨qb, cap', hv, _, hqb⟩ := HD.out.queue.form (by omega)
    obtain ⟨rfl, rfl⟩ : p = some ⟨qb, 0, none⟩ ∧ cap = cap' := by injection hv with e1 _ e2; exact ⟨e1, e2⟩
    clear hv
    obtain ⟨x, hx⟩ : ∃ x, x = d.q[i] := ⟨_, rfl⟩
    have hx2 := (HD.out.ok.q x (by rw [hx]; exact List.getElem_mem hi)).2
    have hr2 : (w.alloc (.cells (bl s).toArray 155)).rangeAt qb (i * 65 + 1) (bl x.2) := World.rangeAt_alloc (fun j v hv => by
      have := HD.out.queue.cells (g := qb) rfl (i * 65 + (1 + j)) v (qcells_at d.q (fun y hy => (HD.out.ok.q y hy).2) i hi (1 + j) v (by rw [← hx]; simpa [wcells, Nat.add_comm] using hv))
      rwa [Addr.add_mid, Nat.zero_add, ← Nat.add_assoc] at this) _
    rw [← hx]
    clear hx
    obtain ⟨xa, xd⟩ := x
    simp only at hx2 hr2 ⊢
    have hbl2 : (bl xd).length = 64 := by rw [bl_length, hx2]
    have hbs2 : (bl xd).toArray.size = 64 := by simpa using hbl2
    have hone2 : (bl xd).toArray.all (·.oneCell') = true := all_oneCell_toArray (bl_one xd)
    have hst := run_storeAt_new (P := Tryz.prog) w 155 (bl s).toArray (bl xd).toArray (by rw [hbs2]; exact sec_size) (by rw [hbs2, HBS.out]) hone2
    have hstr := string_of_blk (P := Tryz.prog) (Blk.new w 155 (bvs xd)) 121 9 5 64 64 hx2.symm Tryz.underlying121 Tryz.underlying5 Tryz.underlying9
    have hstr' : (convert 121 9 (.slice (some ⟨w.heap.size, 0, none⟩) 64 64)).run Tryz.prog (w.alloc (.cells (bl xd).toArray 155)) = .ok (.string ⟨xd.toArray⟩) (w.alloc (.cells (bl xd).toArray 155)) := hstr
    have j0 : (0 : Int) ≤ (i : Int) := by omega
    have j1 : (i : Int) < (d.q.length : Int) := by omega
    have HR2 := Lib.hid hr2
    have HST := Lib.hid hst
    have HBL2 := Lib.hid hbl2
    clear hg64 hx2 hbl2 hbs2 hone2 hstr hr2 hst
    go_enter Tryz.func65, Tryz.ntmps65
    go_wp2_with fail
    refine ha.mono ?_
    rintro e w1 ⟨rfl, rfl⟩
    go_wp2_with (first
        | (refine wpList_load_mid rfl 155 (.tmp 21) rfl S (a * 64) rfl (bl s) _ HR.out (Tryz.underlying155) rfl (by rw [HBL.out]; exact sec_size) ?_)
        | (refine wpList_load_mid rfl 155 (.tmp 39) rfl qb (i * 65 + 1) rfl (bl xd) _ HR2.out (Tryz.underlying155) rfl (by rw [HBL2.out]; exact sec_size) ?_)
        | (refine wpList_store_run rfl 155 (.tmp 7) (.tmp 40) rfl _ _ rfl rfl HST.out ?_)
        | (refine wpList_alloc_store rfl rfl 155 (.tmp 7) (.tmp 22) rfl rfl _ (bl s).toArray (run_alloc_sec _) rfl rfl (by rw [HBS.out]; rfl) (by rw [HBS.out]; exact sec_size) HONE.out ?_))
    go_ret2
    exact ⟨rfl, (Below.refl _ _).alloc (Nat.le_refl _) _⟩
theorem read_any (h : DF w g d fp) (a : Int) :
    Calls Tryz.prog 65 #[.pointer (some ⟨g, 0, none⟩), .int .i64 a] w fun e w' => e = .returned (rdV (Vd.read d a)) ∧ Below w.heap.size w w' := by
  by_cases h0 : Vd.asked d a = 0
  · have hz := asked_zero h0
    obtain ⟨k, rfl⟩ : ∃ k : Nat, a = k := ⟨a.toNat, by omega⟩
    have e : Vd.read d k = (0, Vd.look d k) := by unfold Vd.read; rw [if_neg (by simpa using h0), Int.toNat_natCast]
    rw [e]; exact read_ok h k h0
  · have e : Vd.read d a = (Vd.asked d a, []) := by unfold Vd.read; rw [if_pos h0]
    rw [e]; exact read_no h a h0
end
end Go.Proofs.YtoleojljpaglhaaGreat
