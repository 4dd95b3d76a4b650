/- The contract of the disk's kept. -/
import Derived.Test.YtoleojljpaglhaaGreatVdD
import Derived.Deep.RegionHeld3
import Derived.Deep.MidRow
import Derived.RegionTactic
import Derived.Laws.NewBlocks
import Derived.Deep.AppendLies
namespace Go.Proofs.YtoleojljpaglhaaGreat
open Go.RowKit Go.Maps
set_option maxRecDepth 20000
/-- the cells of one write -/
def wcells (x : Nat × List UInt8) : List Value := .int .i64 (x.1 : Int) :: bl x.2
theorem wr_info : (Tryz.prog.info? 157).map (fun i => (i.zero, i.size, i.bytes)) = some (some (.agg (#[.int .i64 0] ++ Array.replicate 64 (.int .u8 0))), 65, 72) := by kernel_rfl
theorem wr_size : (Tryz.prog.info? 157).map (·.size) = some 65 := by kernel_rfl
theorem sec_size : (Tryz.prog.info? 155).map (·.size) = some 64 := by kernel_rfl
theorem wcells_length (x : Nat × List UInt8) (h : x.2.length = 64) : (wcells x).length = 65 := by simp [wcells, bl_length, h]
/-- the k-th write's cells -/
theorem qcells_at (q : List (Nat × List UInt8)) (hq : ∀ x ∈ q, x.2.length = 64) (k : Nat) (h : k < q.length) (j : Nat) (v : Value) (hv : (wcells q[k])[j]? = some v) : (qcells q)[k * 65 + j]? = some v := by
  induction q generalizing k with
  | nil => simp at h
  | cons x q ih =>
    have hx : (wcells x).length = 65 := wcells_length x (hq x (by simp))
    have e : qcells (x :: q) = wcells x ++ qcells q := by simp [qcells, wcells]
    rw [e]
    match k with
    | 0 =>
      have hj : j < (wcells x).length := by
        rcases Nat.lt_or_ge j (wcells x).length with h1 | h1
        · exact h1
        · rw [List.getElem?_eq_none (by simpa using h1)] at hv; cases hv
      rw [List.getElem?_append_left (by omega)]
      simpa using hv
    | k + 1 =>
      rw [List.getElem?_append_right (by omega), hx]
      have := ih (fun y hy => hq y (by simp [hy])) k (by simpa using h) (by simpa using hv)
      rw [show (k + 1) * 65 + j - 65 = k * 65 + j from by omega]
      exact this
theorem qcells_length (q : List (Nat × List UInt8)) (hq : ∀ x ∈ q, x.2.length = 64) : (qcells q).length = q.length * 65 := by
  induction q with
  | nil => rfl
  | cons x q ih =>
    have e : qcells (x :: q) = wcells x ++ qcells q := by simp [qcells, wcells]
    rw [e, List.length_append, wcells_length x (hq x (by simp)), ih (fun y hy => hq y (by simp [hy])), List.length_cons]
    omega
/-- a sector stored in the midst of the sectors' block -/
theorem flat_set : ∀ (l : List (List UInt8)) (_ : ∀ s ∈ l, s.length = 64) (k : Nat) (s : List UInt8) (_ : k < l.length) (_ : s.length = 64),
    (l.set k s).flatten = l.flatten.take (k * 64) ++ (s ++ l.flatten.drop (k * 64 + 64))
  | [], _, k, _, hk, _ => by simp at hk
  | x :: l, hl, 0, s, _, hs => by
    have hx : x.length = 64 := hl x (by simp)
    simp [hx]
  | x :: l, hl, k + 1, s, hk, hs => by
    have hx : x.length = 64 := hl x (by simp)
    have ih := flat_set l (fun y hy => hl y (by simp [hy])) k s (by simpa using hk) hs
    have e1 : (x ++ l.flatten).take ((k + 1) * 64) = x ++ l.flatten.take (k * 64) := by
      rw [List.take_append, List.take_of_length_le (l := x) (by omega), hx, show (k + 1) * 64 - 64 = k * 64 from by omega]
    have e2 : (x ++ l.flatten).drop ((k + 1) * 64 + 64) = l.flatten.drop (k * 64 + 64) := by
      rw [List.drop_append, List.drop_eq_nil_of_le (show x.length ≤ _ from by omega), hx, show (k + 1) * 64 + 64 - 64 = k * 64 + 64 from by omega, List.nil_append]
    simp only [List.set_cons_succ, List.flatten_cons, ih, e1, e2, List.append_assoc]
theorem flat_length (l : List (List UInt8)) (hl : ∀ s ∈ l, s.length = 64) : l.flatten.length = l.length * 64 := by
  induction l with
  | nil => rfl
  | cons x l ih => rw [List.flatten_cons, List.length_append, hl x (by simp), ih (fun y hy => hl y (by simp [hy])), List.length_cons]; omega
theorem lay_64 : ∀ (q : List (Nat × List UInt8)) (secs : List (List UInt8)), (∀ s ∈ secs, s.length = 64) → (∀ x ∈ q, x.2.length = 64) → ∀ s ∈ Vd.lay secs q, s.length = 64
  | [], _, h, _ => h
  | x :: q, secs, h, hq => lay_64 q (secs.set x.1 x.2) (fun s hs => by
      rcases List.mem_or_eq_of_mem_set hs with h1 | h1
      · exact h s h1
      · rw [h1]; exact hq x (by simp)) (fun y hy => hq y (by simp [hy]))
theorem lay_take (secs : List (List UInt8)) (q : List (Nat × List UInt8)) (k : Nat) (h : k < q.length) : Vd.lay secs (q.take (k + 1)) = (Vd.lay secs (q.take k)).set q[k].1 q[k].2 := by
  rw [List.take_succ_eq_append_getElem h, Vd.lay_snoc]
theorem flat_lay (secs : List (List UInt8)) (q : List (Nat × List UInt8)) (h : ∀ s ∈ secs, s.length = 64) (hq : ∀ x ∈ q, x.2.length = 64) : (Vd.lay secs q).flatten.length = secs.length * 64 := by
  rw [flat_length _ (lay_64 q secs h hq), Vd.lay_length]
/-- a sector written into the sectors' block -/
theorem Blk.sector {w : World} {S : Nat} {t : TypeId} {l : List (List UInt8)} {k : Nat} {s : List UInt8} (h : Blk w S t (bvs l.flatten)) (hl : ∀ s ∈ l, s.length = 64) (hk : k < l.length) (hs : s.length = 64) (hset : Blk w S t (bl l.flatten).toArray → Blk (w.setCells S (k * 64) (bl s)) S t ((bl l.flatten).take (k * 64) ++ (bl s ++ (bl l.flatten).drop (k * 64 + (bl s).length))).toArray) :
    Blk (w.setCells S (k * 64) (bl s)) S t (bvs (l.set k s).flatten) := by
  refine (hset h).eq_ ?_
  rw [flat_set l hl k s hk hs, bl_length, hs]
  simp [bvs, bl, List.map_append]
theorem Blk.setCells {g : Nat} {t : TypeId} : ∀ (vs : List Value) (o : Nat) (w : World) (cs : List Value), Blk w g t cs.toArray → o + vs.length ≤ cs.length → Blk (w.setCells g o vs) g t (cs.take o ++ (vs ++ cs.drop (o + vs.length))).toArray
  | [], _, _, cs, h, _ => by simpa [World.setCells] using h
  | v :: r, o, w, cs, h, hl => by
    have hl' : o + (r.length + 1) ≤ cs.length := by simpa using hl
    have h1 := (h.set_ o v).eq_ (show cs.toArray.setIfInBounds o v = (cs.set o v).toArray by simp)
    have ih := Blk.setCells r (o + 1) (w.setCell ⟨g, o, none⟩ v) (cs.set o v) h1 (by simp; omega)
    refine ih.eq_ ?_
    congr 1
    rw [List.take_add_one, List.take_set_of_le (by omega), List.drop_set_of_lt (by omega)]
    simp [show o < cs.length from by omega, show o + 1 + r.length = o + (r.length + 1) from by omega]
theorem Blk.sector' {w : World} {S : Nat} {t : TypeId} {l : List (List UInt8)} {k : Nat} {s : List UInt8} (h : Blk w S t (bvs l.flatten)) (hl : ∀ s ∈ l, s.length = 64) (hk : k < l.length) (hs : s.length = 64) :
    Blk (w.setCells S (k * 64) (bl s)) S t (bvs (l.set k s).flatten) :=
  h.sector hl hk hs fun h => Blk.setCells _ _ _ _ h (by rw [bl_length, bl_length, hs, flat_length l hl]; omega)
/-- the same, with cells behind the sectors -/
theorem Blk.sectorR {w : World} {S : Nat} {t : TypeId} {l : List (List UInt8)} {sr : List Value} {k : Nat} {s : List UInt8} (h : Blk w S t (bl l.flatten ++ sr).toArray) (hl : ∀ s ∈ l, s.length = 64) (hk : k < l.length) (hs : s.length = 64) :
    Blk (w.setCells S (k * 64) (bl s)) S t (bl (l.set k s).flatten ++ sr).toArray := by
  have hfl : (bl l.flatten).length = l.length * 64 := by rw [bl_length, flat_length l hl]
  refine (Blk.setCells (bl s) (k * 64) w _ h (by rw [bl_length, hs, List.length_append, hfl]; omega)).eq_ ?_
  rw [flat_set l hl k s hk hs, bl_length, hs, List.take_append_of_le_length (by rw [hfl]; omega), List.drop_append_of_le_length (by rw [hfl]; omega)]
  simp [bl, List.map_append]
theorem only_setCells {fp : List Nat} {a : World} {b : Nat} (hp : b ∈ fp ∨ a.heap.size ≤ b) : ∀ (vs : List Value) (o : Nat) (w : World), Only fp a w → Only fp a (w.setCells b o vs)
  | [], _, _, h => h
  | v :: r, o, _, h => only_setCells hp r (o + 1) _ (h.setCell (p := ⟨b, o, none⟩) hp v)
/-- a block that was made, then written whole -/
theorem alloc_setCells (t : TypeId) : ∀ (vs : List Value) (o : Nat) (w : World) (pre zs : List Value), pre.length = o → zs.length = vs.length → (w.alloc (.cells (pre ++ zs).toArray t)).setCells w.heap.size o vs = w.alloc (.cells (pre ++ vs).toArray t)
  | [], _, _, pre, zs, _, h => by
    have : zs = [] := List.eq_nil_of_length_eq_zero (by simpa using h)
    subst this
    rfl
  | v :: r, o, w, pre, z :: zs, hp, h => by
    have ih := alloc_setCells t r (o + 1) w (pre ++ [v]) zs (by simp [hp]) (by simpa using h)
    have e : (w.alloc (.cells (pre ++ z :: zs).toArray t)).setCell ⟨w.heap.size, o, none⟩ v = w.alloc (.cells ((pre ++ [v]) ++ zs).toArray t) := by
      subst hp
      rw [World.setCell_alloc_at _ _ _ _ _ rfl]
      congr 2
      simp
    show ((w.alloc (.cells (pre ++ z :: zs).toArray t)).setCell ⟨w.heap.size, o, none⟩ v).setCells w.heap.size (o + 1) r = _
    rw [e, ih]
    simp
/-- a variable of many cells is made, and written whole -/
theorem wpList_alloc_store {P : Program} {ops : Array Oper} {rest : List Oper} {o1 o2 : Oper} {a : Act} {w : World} {Q : Exit → Act → World → Prop} (hg1 : o1.guard = none) (hg2 : o2.guard = none) (ty : TypeId) (x y : Operand)
    (h1 : o1.op = .alloc ty) (h2 : o2.op = .store ty x y) (zs cells : Array Value)
    (hrun : (Instr.alloc ty true (.tuple #[])).run P w = .ok (.pointer (some ⟨w.heap.size, 0, none⟩)) (w.alloc (.cells zs ty)))
    (hx : (a.put o1.dst (.pointer (some ⟨w.heap.size, 0, none⟩))).eval x = .pointer (some ⟨w.heap.size, 0, none⟩))
    (hy : (a.put o1.dst (.pointer (some ⟨w.heap.size, 0, none⟩))).eval y = .agg cells) (hz : zs.size = cells.size)
    (hi : (P.info? ty).map (·.size) = some cells.size) (hone : cells.all (·.oneCell') = true)
    (h : wpList P ops Q rest ((a.put o1.dst (.pointer (some ⟨w.heap.size, 0, none⟩))).put o2.dst undef) (w.alloc (.cells cells ty))) : wpList P ops Q (o1 :: o2 :: rest) a w := by
  refine wpList_plain hg1 fun K hK => ?_
  unfold Oper.wp execOp
  simp only [h1, Sem.run_bind, Sem.run_pure, hrun, Result.andThen_ok]
  refine hK _ _ ?_
  refine wpList_store_mid hg2 ty x y h2 w.heap.size 0 cells hx hy (fun j hj => ?_) hi hone ?_
  · have hb := Blk.new w ty zs
    rw [Nat.zero_add]
    refine ⟨?_, hb.frozen j⟩
    rw [hb.cell j, Array.getElem?_eq_getElem (by omega)]
    rfl
  · have := alloc_setCells ty cells.toList 0 w [] zs.toList rfl (by simpa using hz)
    simp only [List.nil_append, Array.toArray_toList] at this
    rw [this]
    exact h
theorem run_alloc_wr (w : World) : (Instr.alloc 157 true (.tuple #[])).run Tryz.prog w = .ok (.pointer (some ⟨w.heap.size, 0, none⟩)) (w.alloc (.cells (#[.int .i64 0] ++ Array.replicate 64 (.int .u8 0)) 157)) := by kernel_rfl
theorem run_alloc_sec (w : World) : (Instr.alloc 155 true (.tuple #[])).run Tryz.prog w = .ok (.pointer (some ⟨w.heap.size, 0, none⟩)) (w.alloc (.cells (Array.replicate 64 (.int .u8 0)) 155)) := by kernel_rfl
end Go.Proofs.YtoleojljpaglhaaGreat
