/- The contract of the disk's Crash. -/
import Derived.Test.YtoleojljpaglhaaGreatVdF
import Derived.Laws.CopyOwn
namespace Go.Proofs.YtoleojljpaglhaaGreat
open Go.RowKit Go.Maps
set_option maxRecDepth 20000
theorem Only.cell {fp : List Nat} {a w : World} (h : Only fp a w) {p : Addr} (hp : p.block < a.heap.size) (hn : p.block ∉ fp) : w.cell? p = a.cell? p := World.cell?_of_block (h.block p.block hp hn)
theorem Only.frozen {fp : List Nat} {a w : World} (h : Only fp a w) {p : Addr} (hp : p.block < a.heap.size) (hn : p.block ∉ fp) : w.frozen? p = a.frozen? p := by
  unfold World.frozen?
  rw [h.block p.block hp hn]
theorem only_setRow (w : World) (g : Nat) (cs : Array Value) : Only [g] w (w.setRow g cs) := ⟨rfl, rfl, rfl, by simp [World.setRow], fun k _ hn => setRow_other w g k cs (by simpa using hn)⟩
/-- copy onto a block that is known whole, as a step of a region that draws -/
theorem step_copy_only {P : Program} {ops : Array Oper} {o : Oper} {a : Act} {w : World} {K : Act → World → Prop} {Q : Exit → Act → World → Prop} {E : Prop} (hgd : o.guard = none) (d s : Operand) (dT sT : TypeId)
    (ho : o.op = .call { callee := .builtin .copy, args := #[d, s], argTypes := #[dT, sT] }) (elem : TypeId) (hu : P.underlying dT = some (.slice elem)) (hsz : (P.info? elem).map (·.size) = some 1)
    (dp sp : Option Addr) (dLen dCap sLen sCap : Nat) (hd : a.eval d = .slice dp dLen dCap) (hs : a.eval s = .slice sp sLen sCap)
    (g off : Nat) (cur : List Value) (t : TypeId) (hg : Blk w g t cur.toArray) (cs : List Value) (hn : cs.length = Nat.min sLen dLen)
    (hpos : 0 < cs.length → dp = some ⟨g, off, none⟩ ∧ ∃ ad, sp = some ad ∧ ∀ j v, cs[j]? = some v → w.cell? (ad.add j) = some v)
    (hfit : off + cs.length ≤ cur.length) (h1 : ∀ v ∈ cs, v.oneCell' = true)
    (h : ∀ w', Blk w' g t (splice cur off cs).toArray → Only [g] w w' → K (a.put o.dst (goInt cs.length)) w') :
    if Region.wanted o (yielded ops a.tmps) = true then Oper.wp P o a w K Q else E := by
  have hw : Region.wanted o (yielded ops a.tmps) = true := by simp [Region.wanted, hgd]
  rw [if_pos hw]
  by_cases h0 : cs.length = 0
  · obtain rfl : cs = [] := List.eq_nil_of_length_eq_zero h0
    have hrun := run_copy_none (P := P) w dT sT o.type elem dp sp dLen dCap sLen sCap hu hsz (by simpa using hn.symm)
    unfold Oper.wp
    simp [execOp, ho, resolve, invoke, builtin, hd, hs, hrun, Result.andThen]
    exact h w (hg.eq_ (by simp [splice])) (Only.refl _ _)
  · obtain ⟨rfl, ad, rfl, hsrc⟩ := hpos (by omega)
    have hrun := run_copy_row (P := P) w dT sT o.type elem g off dLen dCap ad sLen sCap cur.toArray t cs hu hsz hg hn hsrc (by simpa using hfit) h1
    unfold Oper.wp
    simp [execOp, ho, resolve, invoke, builtin, hd, hs, hrun, Result.andThen]
    exact h _ (show _ = _ by simpa [splice] using setRow_heap w g _ _ t _ hg) (only_setRow _ _ _)
theorem flat_drop : ∀ (l : List (List UInt8)) (k t : Nat), (∀ s ∈ l, s.length = 64) → k < l.length → t ≤ 64 → l.flatten.drop (k * 64 + t) = (l.getD k []).drop t ++ l.flatten.drop (k * 64 + 64)
  | [], k, _, _, hk, _ => by simp at hk
  | x :: l, 0, t, hl, _, ht => by
    have hx : x.length = 64 := hl x (by simp)
    simp only [List.flatten_cons, Nat.zero_mul, Nat.zero_add, List.getD_cons_zero]
    rw [List.drop_append_of_le_length (by omega), List.drop_append, List.drop_eq_nil_of_le (show x.length ≤ 64 by omega), hx]
    simp
  | x :: l, k + 1, t, hl, hk, ht => by
    have hx : x.length = 64 := hl x (by simp)
    have ih := flat_drop l k t (fun y hy => hl y (by simp [hy])) (by simpa using hk) ht
    simp only [List.flatten_cons, List.getD_cons_succ]
    rw [List.drop_append, List.drop_append, List.drop_eq_nil_of_le (show x.length ≤ (k + 1) * 64 + t by omega), List.drop_eq_nil_of_le (show x.length ≤ (k + 1) * 64 + 64 by omega), hx,
      show (k + 1) * 64 + t - 64 = k * 64 + t from by omega, show (k + 1) * 64 + 64 - 64 = k * 64 + 64 from by omega, List.nil_append, List.nil_append, ih]
/-- the torn sector -/
theorem splice_torn (l : List (List UInt8)) (k t : Nat) (x : List UInt8) (hl : ∀ s ∈ l, s.length = 64) (hk : k < l.length) (ht : t ≤ 64) (hx : x.length = 64) :
    splice (bl l.flatten) (k * 64) (bl (x.take t)) = bl (l.set k (x.take t ++ (l.getD k []).drop t)).flatten := by
  have hg : (l.getD k []).length = 64 := by
    rw [List.getD_eq_getElem?_getD, List.getElem?_eq_getElem hk]
    exact hl _ (List.getElem_mem hk)
  rw [flat_set l hl k _ hk (by rw [List.length_append, List.length_take, List.length_drop, hg]; omega)]
  unfold splice
  rw [bl_length, List.length_take, show min t x.length = t from by omega]
  have e := flat_drop l k t hl hk ht
  simp only [bl, ← List.map_take, ← List.map_drop, ← List.map_append]
  rw [e, List.append_assoc]
theorem splice_more (l sr : List Value) (o : Nat) (x : List Value) (h : o + x.length ≤ l.length) : splice (l ++ sr) o x = splice l o x ++ sr := by
  unfold splice
  rw [List.take_append_of_le_length (by omega), List.drop_append_of_le_length (by omega)]
  simp
theorem torn_64 (l : List (List UInt8)) (k t : Nat) (x : List UInt8) (hl : ∀ s ∈ l, s.length = 64) (hk : k < l.length) (ht : t ≤ 64) (hx : x.length = 64) : ∀ s ∈ l.set k (x.take t ++ (l.getD k []).drop t), s.length = 64 := by
  intro s hs
  rcases List.mem_or_eq_of_mem_set hs with h1 | h1
  · exact hl s h1
  · have hg : (l.getD k []).length = 64 := by
      rw [List.getD_eq_getElem?_getD, List.getElem?_eq_getElem hk]
      exact hl _ (List.getElem_mem hk)
    rw [h1, List.length_append, List.length_take, List.length_drop, hg]
    omega
/-- max and min that the walk does not part -/
def imax (x y : Int) : Int := if y > x then y else x
def imin (x y : Int) : Int := if y < x then y else x
theorem run_imax {P : Program} {w : World} (ts : Array TypeId) (t : TypeId) (k k' : IntKind) (x y : Int) : (Builtin.max_ ts t #[.int k x, .int k' y]).run P w = .ok (.int k (imax x y)) w := run_max_int2 _ ts t k k' x y
theorem run_imin {P : Program} {w : World} (ts : Array TypeId) (t : TypeId) (k k' : IntKind) (x y : Int) : (Builtin.min_ ts t #[.int k x, .int k' y]).run P w = .ok (.int k (imin x y)) w := run_min_int2 _ ts t k k' x y
theorem clamp_eq (x hi : Int) : imin (imax x 0) hi = Vd.clamp x 0 hi := by
  unfold imin imax Vd.clamp
  split <;> split <;> omega
attribute [local go_sem ↓] run_imax run_imin
section
variable {w : World} {g S M : Nat} {qv : Value} {d : Vd.VD}
set_option maxHeartbeats 400000 in
theorem crash_off (h : DiskAt w g S M qv d) (keep torn : Int) (ho : d.on = false) :
    Calls Tryz.prog 63 #[.pointer (some ⟨g, 0, none⟩), .int .i64 keep, .int .i64 torn] w fun e w' => e = .returned (.tuple #[]) ∧ w = w' := by
  have hs := on_any h
  rw [ho] at hs
  clear h ho
  go_enter Tryz.func63, Tryz.ntmps63
  go_wp2_with fail
  refine hs.mono ?_
  rintro e w1 ⟨rfl, rfl⟩
  go_wp2_with fail
  refine bodyPost_ret (results_none rfl _ _ _) rfl ?_
  exact ⟨rfl, rfl⟩
set_option maxHeartbeats 1000000 in
theorem crash_on (h : DiskAt w g S M qv d) (keep torn : Int) (ho : d.on = true) (k t : Nat) (hk : (k : Int) = Vd.clamp keep 0 d.q.length) (ht : (t : Int) = Vd.clamp torn 0 64) :
    Calls Tryz.prog 63 #[.pointer (some ⟨g, 0, none⟩), .int .i64 keep, .int .i64 torn] w fun e w' => e = .returned (.tuple #[]) ∧ (∃ M', w.heap.size ≤ M' ∧ DiskAt w' g S M' (.slice none 0 0) (Vd.crash d keep torn)) ∧ Only [g, S] w w' := by
  have hs := on_any h
  rw [ho] at hs
  obtain ⟨p, cap, rfl⟩ := h.qform
  have hcap : d.q.length ≤ cap := by
    rcases h.queue.2 with ⟨e, h0⟩ | ⟨g', cap', cur, e, _, _, hnc, _⟩
    · rw [h0]; exact Nat.zero_le _
    · injection e with _ _ e; omega
  have hm : d.q.length ≤ maxLen := by
    rcases h.queue.2 with ⟨e, h0⟩ | ⟨g', cap', cur, e, _, _, hnc, hm, _⟩
    · rw [h0]; exact Nat.zero_le _
    · omega
  unfold maxLen at hm
  obtain ⟨c0, c1, c2, c3, c4, c5, c6, c7, c8, c9⟩ := h.cells
  have HD := Lib.hid h
  clear h
  have e1 : imin (imax keep 0) (d.q.length : Int) = (k : Int) := by rw [clamp_eq, hk]
  have e2 : imin (imax torn 0) 64 = (t : Int) := by rw [clamp_eq, ht]
  have hkl : k ≤ d.q.length := by unfold Vd.clamp at hk; omega
  have htl : t ≤ 64 := by unfold Vd.clamp at ht; omega
  have HK := Lib.hid hk
  have HT := Lib.hid ht
  clear hk ht
  have HKept := Lib.hid (kept_any HD.out k hkl)
  by_cases hlt : k < d.q.length
  · have hck : k < cap := by omega
    have hck2 : ¬ cap = k := by omega
    obtain ⟨qb, cap', hv, _, hqb⟩ := HD.out.queue.form (by omega)
    obtain ⟨rfl, rfl⟩ : p = some ⟨qb, 0, none⟩ ∧ cap = cap' := by injection hv with e1 _ e2; exact ⟨e1, e2⟩
    clear hv
    obtain ⟨x, hx⟩ : ∃ x, x = d.q[k] := ⟨_, rfl⟩
    have hx1 := (HD.out.ok.q x (by rw [hx]; exact List.getElem_mem hlt)).1
    have hx2 := (HD.out.ok.q x (by rw [hx]; exact List.getElem_mem hlt)).2
    have HX := Lib.hid hx
    clear hx
    obtain ⟨xa, xd⟩ := x
    obtain ⟨r, hr⟩ : ∃ r, d.q.length - k = r := ⟨_, rfl⟩
    have hr0 : 0 < r := by omega
    have hr1 : (0 : Int) < (r : Int) := by omega
    have hdk : decide (0 < r) = true := decide_eq_true hr0
    go_enter Tryz.func63, Tryz.ntmps63
    go_wp2_with fail
    refine hs.mono ?_
    rintro e w1 ⟨rfl, rfl⟩
    go_wp2_with fail
    refine HKept.out.mono ?_
    rintro e w1 ⟨rfl, ⟨M', hM', hD1⟩, hO1⟩
    have hqO : w1.ownsRow 0 157 65 (.slice (some ⟨qb, 0, none⟩) d.q.length cap) d.q.length (qcells d.q) := ownsRow_only HD.out.queue hO1 (fun j hj => by
      simp only [List.mem_cons, List.not_mem_nil, or_false, not_or]
      exact ⟨fun e => HD.out.qg (e ▸ hj), fun e => HD.out.qS (e ▸ hj)⟩)
    have hrange : w1.rangeAt qb (k * 65) (wcells (xa, xd)) := fun j v hv => by
      rw [HX.out] at hv
      have := hqO.cells (g := qb) rfl (k * 65 + j) v (qcells_at d.q (fun y hy => (HD.out.ok.q y hy).2) k hlt j v hv)
      rwa [Addr.add_mid, Nat.zero_add] at this
    have k0 : w1.cell? ⟨g, 0, none⟩ = some (.slice (some ⟨S, 0, none⟩) d.secs.length d.sc) := by
      have := hD1.cells.c0
      rwa [show (keptVD d k).secs.length = d.secs.length from Vd.lay_length _ _] at this
    have kq : w1.cell? ⟨qb, k * 65, none⟩ = some (.int .i64 (xa : Int)) := hrange 0 _ rfl
    have src : ∀ j v, (bl (xd.take t))[j]? = some v → w1.cell? ((⟨qb, k * 65 + 1, none⟩ : Addr).add j) = some v := fun j v hv => by
      rw [Addr.add_mid, Nat.add_assoc]
      refine hrange (1 + j) v ?_
      rw [Nat.add_comm]
      have e : bl (xd.take t) = (bl xd).take t := by simp [bl, List.map_take]
      rw [e, List.getElem?_take] at hv
      split at hv
      · simpa [wcells] using hv
      · cases hv
    have hlen : (bl (xd.take t)).length = Nat.min t t := by
      rw [bl_length, List.length_take]
      show min t xd.length = min t t
      omega
    have hone := bl_one (xd.take t)
    have hBS : Blk w1 S 155 (bl (Vd.lay d.secs (d.q.take k)).flatten ++ d.sr).toArray := hD1.secs
    have h64 := lay_64 (d.q.take k) d.secs HD.out.ok.secs (fun x hx => (HD.out.ok.q x (List.mem_of_mem_take hx)).2)
    have hfit : xa * 64 + (bl (xd.take t)).length ≤ (bl (Vd.lay d.secs (d.q.take k)).flatten ++ d.sr).length := by
      rw [List.length_append, bl_length, bl_length, List.length_take, flat_lay _ _ HD.out.ok.secs (fun x hx => (HD.out.ok.q x (List.mem_of_mem_take hx)).2)]
      omega
    have i0 : (0 : Int) ≤ (xa : Int) := by omega
    have i1 : (xa : Int) < (d.secs.length : Int) := by omega
    have i2 : (0 : Int) ≤ (t : Int) := by omega
    have i3 : (t : Int) ≤ 64 := by omega
    have hgl : g < w1.heap.size := hD1.self.lt
    have hql : qb < w1.heap.size := by have := hO1.size; omega
    have hgS : g ≠ S := HD.out.gS
    have hqS : qb ≠ S := fun e => HD.out.qS (by simp [Value.ownBlock, e])
    have Hlen := Lib.hid hlen
    have Hone := Lib.hid hone
    have HBS := Lib.hid hBS
    have Hfit := Lib.hid hfit
    have Hsrc := Lib.hid src
    have HD1 := Lib.hid hD1
    have H64 := Lib.hid h64
    have HR := Lib.hid hrange
    clear hlen hone hBS hfit src hD1 h64 hrange hqO
    go_wp2_with fail
    go_region_held3 (fun w' => w'.cell? ⟨g, 0, none⟩ = some (.slice (some ⟨S, 0, none⟩) d.secs.length d.sc) ∧ w'.cell? ⟨qb, k * 65, none⟩ = some (.int .i64 (xa : Int))) (first | go_keep | (go_split_ands; exact ⟨(hO2.cell hgl (by simpa using hgS)).trans (by assumption), (hO2.cell hql (by simpa using hqS)).trans (by assumption)⟩)) ((refine step_copy_only (by rfl) (.tmp 43) (.tmp 48) 121 121 (by rfl) 5 Tryz.underlying121 (by kernel_rfl) _ _ _ _ _ _ (by rfl) (by rfl) S (xa * 64) _ 155 HBS.out (bl (xd.take t)) Hlen.out (fun _ => ⟨rfl, ⟨qb, k * 65 + 1, none⟩, rfl, Hsrc.out⟩) Hfit.out Hone.out ?_; intro w2 hB2 hO2))
    have k3 : w2.cell? ⟨g, 3, none⟩ = some (.bool d.on) := (hO2.cell hgl (by simpa using hgS)).trans HD1.out.cells.c3
    have f3 : w2.frozen? ⟨g, 3, none⟩ = false := (hO2.frozen hgl (by simpa using hgS)).trans (HD1.out.self.frozen 3)
    have HB2 := Lib.hid hB2
    have HO2 := Lib.hid hO2
    clear hB2 hO2
    go_wp2_with fail
    go_end0
    have hO2' : Only [S] w1 w2 := ⟨HO2.out.os, HO2.out.tape, HO2.out.output, HO2.out.size, HO2.out.block⟩
    have hlay : (Vd.lay d.secs (d.q.take k)).length = d.secs.length := Vd.lay_length _ _
    have hdrop : d.q.drop k = (xa, xd) :: d.q.drop (k + 1) := by rw [HX.out]; exact List.drop_eq_getElem_cons hlt
    have hcr : Vd.crash d keep torn = { (keptVD d k) with secs := (Vd.lay d.secs (d.q.take k)).set xa (xd.take t ++ ((Vd.lay d.secs (d.q.take k)).getD xa []).drop t), on := false } := by
      unfold Vd.crash
      rw [if_pos ho]
      simp only [← HK.out, ← HT.out, Int.toNat_natCast, hdrop]
      rfl
    have hd2 : DiskAt w2 g S M' (.slice none 0 0) { (keptVD d k) with secs := (Vd.lay d.secs (d.q.take k)).set xa (xd.take t ++ ((Vd.lay d.secs (d.q.take k)).getD xa []).drop t) } := by
      have hok := HD1.out.ok
      refine ⟨⟨torn_64 _ _ _ _ H64.out (by rw [hlay]; exact hx1) htl hx2, ?_, (fun x hx => by cases hx), hok.room, hok.fuse, hok.writes⟩, ?_, ?_, ?_, ⟨rfl, .inl ⟨rfl, rfl⟩⟩, HD1.out.last.only hO2' (by simpa using HD1.out.MS)⟩
      · simp only [List.length_set]; exact hok.secs0
      · simp only [List.length_set]; exact HD1.out.secs1
      · refine (HD1.out.self.only hO2' (by simpa using hgS)).eq_ ?_
        unfold dcells
        simp [keptVD]
      · refine ⟨HB2.out.eq_ ?_, ?_⟩
        · rw [splice_more _ _ _ _ (by rw [bl_length, bl_length, List.length_take, flat_lay _ _ HD.out.ok.secs (fun x hx => (HD.out.ok.q x (List.mem_of_mem_take hx)).2)]; omega), splice_torn _ _ _ _ H64.out (by rw [hlay]; exact hx1) htl hx2]
          rfl
        · simp only [List.length_set]
          exact HD1.out.secsG.2
    rw [hcr]
    refine ⟨rfl, ⟨M', hM', hd2.store 3 (.bool false) _ ⟨hd2.ok.secs, hd2.ok.secs0, hd2.ok.q, hd2.ok.room, hd2.ok.fuse, hd2.ok.writes⟩ rfl rfl rfl⟩, ?_⟩
    exact (hO1.trans hO2' (by simp)).setCell (p := ⟨g, 3, none⟩) (.inl (by simp)) _
  · obtain rfl : k = d.q.length := by omega
    go_enter Tryz.func63, Tryz.ntmps63
    go_wp2_with fail
    refine hs.mono ?_
    rintro e w1 ⟨rfl, rfl⟩
    go_wp2_with fail
    all_goals
      refine HKept.out.mono ?_
      rintro e w1 ⟨rfl, ⟨M', hM', hD1⟩, hO1⟩
      have k3 : w1.cell? ⟨g, 3, none⟩ = some (.bool d.on) := hD1.cells.c3
      have f3 := hD1.self.frozen 3
      have HD1 := Lib.hid hD1
      clear hD1
      go_wp2_with fail
      go_end0
      refine ⟨rfl, ⟨M', hM', ?_⟩, hO1.setCell (.inl (by simp)) _⟩
      have := HD1.out.store 3 (.bool false) { (keptVD d d.q.length) with on := false } ⟨HD1.out.ok.secs, HD1.out.ok.secs0, HD1.out.ok.q, HD1.out.ok.room, HD1.out.ok.fuse, HD1.out.ok.writes⟩ rfl rfl rfl
      rw [show Vd.crash d keep torn = { (keptVD d d.q.length) with on := false } from by
        unfold Vd.crash
        rw [if_pos ho]
        simp only [← HK.out]
        simp [keptVD]]
      exact this
end
end Go.Proofs.YtoleojljpaglhaaGreat
