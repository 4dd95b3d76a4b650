/- Put of a first key into an empty tree. -/
import Derived.Test.YtoleojljpaglhaaGreatTrB
import Derived.Test.YtoleojljpaglhaaGreatTrA
import Derived.Test.YtoleojljpaglhaaGreatPaN
import Derived.Test.YtoleojljpaglhaaGreatPbU
set_option maxRecDepth 20000
namespace Go.Proofs.YtoleojljpaglhaaGreat
open Go.RowKit
set_option maxRecDepth 20000
/-- blocks that are kept as they are -/
abbrev TKept := Nat → Option Obj
def addH (H : TKept) (b : Nat) (x : Obj) : TKept := fun q => if q = b then some x else H q
theorem addH_self (H : TKept) (b : Nat) (x : Obj) : addH H b x b = some x := if_pos rfl
theorem addH_ne {H : TKept} {b q : Nat} {x : Obj} (h : q ≠ b) : addH H b x q = H q := if_neg h
/-- a pager, and other blocks -/
structure Tk (w0 : World) (H : TKept) (G : PH) (d : Vd.VD) (L : Wa.WL) (P : PP) (wr : World) : Prop where
  pg : PG (Up w0.heap.size) w0 wr G d L P
  kept : ∀ q x, H q = some x → wr.heap[q]? = some x ∧ ¬ PFoot G P wr q
section
variable {S : Nat → Prop} {w0 w w' wr : World} {T g cap q : Nat} {H : TKept} {G G' : PH} {d d' : Vd.VD} {L L' : Wa.WL} {P P' : PP} {t : PT} {kb vb : ByteArray} {x : Obj}
theorem PG.fresh_not' (h : PG S w0 w G d L P) {q : Nat} (h1 : w.heap.size ≤ q) (h2 : q < w'.heap.size) : ¬ PFoot G P w' q := by
  rintro (h3 | h3 | h3 | h3 | h3)
  · have := h.lt q h3; omega
  · have := h.log.blk.lt; omega
  · have := h.log.disk.lt q h3; omega
  · have := ownBlock_lt h.log.row h3; omega
  · omega
theorem Tk.viaPg (h : Tk w0 H G d L P wr) (k : PG (PFoot G P wr) wr w' G' d' L' P') : Tk w0 H G' d' L' P' w' := by
  refine ⟨h.pg.via k, fun q x hx => ?_⟩
  obtain ⟨h1, h2⟩ := h.kept q x hx
  obtain ⟨k1, k2⟩ := k.stays (Array.getElem?_eq_some_iff.1 h1).1 h2
  exact ⟨k1.trans h1, k2⟩
theorem Tk.later (h : Tk w0 H G d L P wr) (hb : Below wr.heap.size wr w') : Tk w0 H G d L P w' := h.viaPg (h.pg.rebase.later hb)
theorem Tk.grab (h : Tk w0 H G d L P wr) (hb : Below wr.heap.size wr w') (hq : wr.heap.size ≤ q) (hx : w'.heap[q]? = some x) : Tk w0 (addH H q x) G d L P w' := by
  have h1 := h.later hb
  refine ⟨h1.pg, fun p y hy => ?_⟩
  unfold addH at hy
  split at hy
  · next e =>
    subst e
    injection hy with hy
    subst hy
    exact ⟨hx, h.pg.fresh_not' hq (Array.getElem?_eq_some_iff.1 hx).1⟩
  · exact h1.kept p y hy
theorem Tk.push (h : Tk w0 H G d L P wr) (x : Obj) : Tk w0 (addH H wr.heap.size x) G d L P (wr.alloc x) := h.grab (below_new wr x) (Nat.le_refl _) (heap_alloc_new wr x)
theorem Tk.forget (h : Tk w0 (addH H q x) G d L P wr) (hn : H q = none) : Tk w0 H G d L P wr := ⟨h.pg, fun p y hy => h.kept p y (by
  by_cases e : p = q
  · subst e; rw [hn] at hy; cases hy
  · rw [addH_ne e]; exact hy)⟩
theorem Tk.blk {ty : TypeId} {cs : Array Value} (h : Tk w0 H G d L P wr) (hq : H q = some (.cells cs ty (0, 0))) : Blk wr q ty cs := (h.kept q _ hq).1
theorem Tk.lt (h : Tk w0 H G d L P wr) (hq : H q = some x) : q < wr.heap.size := (Array.getElem?_eq_some_iff.1 (h.kept q _ hq).1).1
theorem Tk.nil_ (h : Tk w0 H G d L P wr) (hq : wr.heap.size ≤ q) : H q = none := by
  cases hh : H q with
  | none => rfl
  | some x => have := h.lt hh; omega
/-- a tree over it -/
def treeO (pg : Nat) : Obj := .cells #[.pointer (some ⟨pg, 0, none⟩), .int .i64 0] 36 (0, 0)
def itemO (kb vb : ByteArray) : Obj := .cells (itemC kb vb) 94 (0, 0)
theorem Tk.it (h : Tk w0 H G d L P wr) (hq : H g = some (itemO kb vb)) : It wr g kb vb := by
  have hb : Blk wr g 94 (itemC kb vb) := h.blk hq
  exact ⟨hb.cell 0, hb.cell 1, hb.cell 2⟩
theorem Tk.tree (h : Tk w0 H G d L P wr) (hq : H T = some (treeO G.pg)) : wr.cell? ⟨T, 0, none⟩ = some (.pointer (some ⟨G.pg, 0, none⟩)) ∧ wr.cell? ⟨T, 1, none⟩ = some (.int .i64 0) := by
  have hb : Blk wr T 36 #[.pointer (some ⟨G.pg, 0, none⟩), .int .i64 0] := h.blk hq
  exact ⟨hb.cell 0, hb.cell 1⟩
theorem pageB_size (hk : kb.size = 1) (hv : vb.size = 1) : (pageB kb vb).size = 256 := by
  unfold pageB
  refine List.size_toArray.trans ?_
  rw [List.length_append, headB_len hk hv, List.length_replicate]
theorem grow_closed (h : Tk w0 H G d L P wr) (ht : P.tx = none) (hT : H T = some (treeO G.pg)) (b : Bool) (i : Int) (A : Option Addr) (n c : Nat) : Calls Tryz.prog 41 #[.pointer (some ⟨T, 0, none⟩), .agg #[.bool b, .int .i64 i, .slice A n c]] wr fun e w' => e = .returned (.int .i64 90) ∧ Tk w0 H G d L P w' := by
  have h1 := h.later (below_new wr (.cells #[.bool b, .int .i64 i, .slice A n c] 88))
  have c0 := (h1.tree hT).1
  have HAL := Lib.hid (palloc_closed h1.pg ht)
  have H1 := Lib.hid h1
  clear h h1
  go_enter Tryz.func41, Tryz.ntmps41
  go_wp2_with fail
  (with_reducible refine HAL.out.mono ?_)
  rintro e w2 ⟨rfl, rfl⟩
  go_wp2_with fail
  go_ret
  exact ⟨rfl, H1.out⟩
set_option maxHeartbeats 1000000 in
theorem tput_b (h : Tk w0 H G d L (P.with_ t) wr) (hT : H T = some (treeO G.pg)) (hg : H g = some (itemO kb vb)) (hk : kb.size = 1) (hv : vb.size = 1) (hu : (t.pages 1).isSome = true) (hz : t.sz < maxLen ∧ t.dz < maxLen) :
    Calls Tryz.prog 88 #[.pointer (some ⟨T, 0, none⟩), .int .i64 1, .agg (nodeC g cap)] wr fun e w' => e = .returned (.tuple #[.slice none 0 0, .int .i64 0]) ∧ Tk w0 H G d L (P.with_ (writeT t 1 (pageB kb vb))) w' := by
  show Calls Tryz.prog 88 #[.pointer (some ⟨T, 0, none⟩), .int .i64 1, .agg #[.bool false, .int .i64 0, .slice (some ⟨g, 0, none⟩) 1 cap]] wr _
  have hb1 := below_new wr (.cells #[.bool false, .int .i64 0, .slice (some ⟨g, 0, none⟩) 1 cap] 88)
  have h1 := h.later hb1
  have hn := Blk.new wr 88 #[.bool false, .int .i64 0, .slice (some ⟨g, 0, none⟩) 1 cap]
  have n0 : (wr.alloc (.cells #[.bool false, .int .i64 0, .slice (some ⟨g, 0, none⟩) 1 cap] 88)).cell? ⟨wr.heap.size, 0, none⟩ = some (.bool false) := hn.cell 0
  have n1 : (wr.alloc (.cells #[.bool false, .int .i64 0, .slice (some ⟨g, 0, none⟩) 1 cap] 88)).cell? ⟨wr.heap.size, 1, none⟩ = some (.int .i64 0) := hn.cell 1
  have n2 : (wr.alloc (.cells #[.bool false, .int .i64 0, .slice (some ⟨g, 0, none⟩) 1 cap] 88)).cell? ⟨wr.heap.size, 2, none⟩ = some (.slice (some ⟨g, 0, none⟩) 1 cap) := hn.cell 2
  have HPT : Hid (Calls Tryz.prog 111 #[.agg #[.bool false, .int .i64 0, .slice (some ⟨g, 0, none⟩) 1 cap]] (wr.alloc (.cells #[.bool false, .int .i64 0, .slice (some ⟨g, 0, none⟩) 1 cap] 88)) _) := Lib.hid (parts_b (cap := cap) (h1.it hg) hk hv)
  have H1 := Lib.hid h1
  have HK := Lib.hid hk
  have HV := Lib.hid hv
  have HZ := Lib.hid hz
  have HU := Lib.hid hu
  have HTT := Lib.hid hT
  have HG := Lib.hid hg
  have HNQ : Hid (∀ q, (wr.alloc (.cells #[.bool false, .int .i64 0, .slice (some ⟨g, 0, none⟩) 1 cap] 88)).heap.size ≤ q → H q = none) := Lib.hid (fun q hq => h1.nil_ hq)
  clear h hb1 h1 hn hk hv hz hu hT hg
  go_enter Tryz.func88, Tryz.ntmps88
  go_wp2_with fail
  (with_reducible refine HPT.out.mono ?_)
  rintro e w2 ⟨q, rfl, ⟨hq, hqb⟩, hb2⟩
  have h2 := H1.out.grab hb2 hq hqb
  have hnq := HNQ.out q hq
  have hTq : T ≠ q := fun e => by have := HTT.out; rw [e, hnq] at this; cases this
  have hgq : g ≠ q := fun e => by have := HG.out; rw [e, hnq] at this; cases this
  have hT2 : addH H q (.cells (nodeC g cap) 88 (0, 0)) T = some (treeO G.pg) := (addH_ne hTq).trans HTT.out
  have hg2 : addH H q (.cells (nodeC g cap) 88 (0, 0)) g = some (itemO kb vb) := (addH_ne hgq).trans HG.out
  have c0 := (h2.tree hT2).1
  have hcq : ∀ W, Tk w0 (addH H q (.cells (nodeC g cap) 88 (0, 0))) G d L (P.with_ t) W → W.cell? ⟨T, 0, none⟩ = some (.pointer (some ⟨G.pg, 0, none⟩)) ∧ W.cell? ⟨q, 0, none⟩ = some (.bool false) ∧ W.cell? ⟨q, 1, none⟩ = some (.int .i64 0) ∧ W.cell? ⟨q, 2, none⟩ = some (.slice (some ⟨g, 0, none⟩) 1 cap) := fun W hW => by
    have hb : Blk W q 88 (nodeC g cap) := hW.blk (addH_self _ _ _)
    exact ⟨(hW.tree hT2).1, hb.cell 0, hb.cell 1, hb.cell 2⟩
  obtain ⟨_, q0, q1, q2⟩ := hcq w2 h2
  have hby := bytes_b (cap := cap) ((h2.later (Below.refl _ _).drew).it hg2) HK.out HV.out
  have HBY : Hid (Calls Tryz.prog 112 #[.agg #[.bool false, .int .i64 0, .slice (some ⟨g, 0, none⟩) 1 cap]] w2.drew _) := Lib.hid hby
  have HCQ := Lib.hid hcq
  have HWR : Hid (∀ W, Tk w0 (addH H q (.cells (nodeC g cap) 88 (0, 0))) G d L (P.with_ t) W → Calls Tryz.prog 60 #[.pointer (some ⟨G.pg, 0, none⟩), .int .i64 1, .string (pageB kb vb)] W fun e w' => e = .returned (.int .i64 0) ∧ Tk w0 (addH H q (.cells (nodeC g cap) 88 (0, 0))) G d L (P.with_ (writeT t 1 (pageB kb vb))) w') := Lib.hid (fun W hW => by
    have hss := pageB_size HK.out HV.out
    refine (pwrite_any hW.pg.rebase 1 (pageB kb vb) (by decide) (by rw [hss]; omega) (fun t' h' => by have h' : some t = some t' := h'; injection h' with h'; subst h'; exact HZ.out)).mono ?_
    rintro e w' ⟨he, hP⟩
    have e1 : writeE (P.with_ t) 1 (pageB kb vb) = 0 := (if_pos HU.out).trans (if_pos hss)
    have e2 : writeP (P.with_ t) 1 (pageB kb vb) = P.with_ (writeT t 1 (pageB kb vb)) := (if_pos HU.out).trans (if_pos hss)
    rw [e1] at he
    rw [e2] at hP
    exact ⟨he, hW.viaPg hP⟩)
  have hcq2 : ∀ t' W, Tk w0 (addH H q (.cells (nodeC g cap) 88 (0, 0))) G d L (P.with_ t') W → W.cell? ⟨T, 0, none⟩ = some (.pointer (some ⟨G.pg, 0, none⟩)) ∧ W.cell? ⟨q, 0, none⟩ = some (.bool false) ∧ W.cell? ⟨q, 1, none⟩ = some (.int .i64 0) ∧ W.cell? ⟨q, 2, none⟩ = some (.slice (some ⟨g, 0, none⟩) 1 cap) := fun t' W hW => by
    have hb : Blk W q 88 (nodeC g cap) := hW.blk (addH_self _ _ _)
    exact ⟨(hW.tree hT2).1, hb.cell 0, hb.cell 1, hb.cell 2⟩
  have HCQ2 := Lib.hid hcq2
  have H2 := Lib.hid h2
  have HQN := Lib.hid hnq
  clear h2 hnq hTq hgq hT2 hg2 hcq hcq2 hby hqb hq hb2 n0 n1 n2
  go_wp2_with fail
  go_region_held3 (fun W => W.cell? ⟨T, 0, none⟩ = some (.pointer (some ⟨G.pg, 0, none⟩)) ∧ W.cell? ⟨q, 0, none⟩ = some (.bool false) ∧ W.cell? ⟨q, 1, none⟩ = some (.int .i64 0) ∧ W.cell? ⟨q, 2, none⟩ = some (.slice (some ⟨g, 0, none⟩) 1 cap)) (first | exact ⟨c0, q0, q1, q2⟩ | exact hc3 | exact hc4 | go_keep)
    ((first
      | ((with_reducible refine HBY.out.mono ?_); rintro e w3 ⟨rfl, hb3⟩; have h3 := (H2.out.later (Below.refl _ _).drew).later hb3; have hc3 := HCQ.out w3 h3; have HW3 := Lib.hid (HWR.out w3 h3); clear h3 hb3)
      | ((with_reducible refine HW3.out.mono ?_); rintro e w4 ⟨rfl, h4⟩; have hc4 := HCQ2.out _ w4 h4; have H4 := Lib.hid h4; clear h4)))
  all_goals
    clear c0 q0 q1 q2 hc3 hc4
    go_wp2_with fail
    go_loopw [11, 37] (fun o i wx => o = .slice none 0 0 ∧ i = .int .i64 0 ∧ wx = w4) (fun _ _ _ => 0)
    case atStart => exact ⟨rfl, rfl, by first | rfl | trivial⟩
    case round =>
      obtain ⟨rfl, rfl, hwx⟩ := hrel
      (try subst hwx)
      go_wp2_with fail
      go_ret2
      exact ⟨rfl, H4.out.forget HQN.out⟩
set_option maxHeartbeats 1000000 in
theorem grow_b (h : Tk w0 H G d L (P.with_ t) wr) (hT : H T = some (treeO G.pg)) (hg : H g = some (itemO kb vb)) (hk : kb.size = 1) (hv : vb.size = 1) (hf : freeAt t.pages (P.n - 8) 1 = 1) (hn : 8 ≤ P.n) (hn2 : P.n ≤ 5000) (hz : t.sz ≤ 5000 ∧ t.dz ≤ 5000) :
    Calls Tryz.prog 41 #[.pointer (some ⟨T, 0, none⟩), .agg (nodeC g cap)] wr fun e w' => e = .returned (.int .i64 0) ∧ Tk w0 H G d L (P.with_ (rootT (writeT (writeT t 1 zeros) 1 (pageB kb vb)) 0 1)) w' := by
  show Calls Tryz.prog 41 #[.pointer (some ⟨T, 0, none⟩), .agg #[.bool false, .int .i64 0, .slice (some ⟨g, 0, none⟩) 1 cap]] wr _
  have hnone := h.nil_ (Nat.le_refl _)
  have hTn : T ≠ wr.heap.size := fun e => by rw [e, hnone] at hT; cases hT
  have hgn : g ≠ wr.heap.size := fun e => by rw [e, hnone] at hg; cases hg
  have h1 := h.push (.cells #[.bool false, .int .i64 0, .slice (some ⟨g, 0, none⟩) 1 cap] 88 (0, 0))
  obtain ⟨H', hH'⟩ : ∃ H', addH H wr.heap.size (.cells #[.bool false, .int .i64 0, .slice (some ⟨g, 0, none⟩) 1 cap] 88 (0, 0)) = H' := ⟨_, rfl⟩
  have hT1 : H' T = some (treeO G.pg) := by rw [← hH']; exact (addH_ne hTn).trans hT
  have hg1 : H' g = some (itemO kb vb) := by rw [← hH']; exact (addH_ne hgn).trans hg
  have hn1 : H' wr.heap.size = some (.cells #[.bool false, .int .i64 0, .slice (some ⟨g, 0, none⟩) 1 cap] 88 (0, 0)) := by rw [← hH']; exact addH_self _ _ _
  have hfin : ∀ t' W, Tk w0 H' G d L (P.with_ t') W → Tk w0 H G d L (P.with_ t') W := fun t' W hW => by
    rw [← hH'] at hW
    exact hW.forget hnone
  rw [hH'] at h1
  have c0 := (h1.tree hT1).1
  have hal := palloc_some h1.pg.rebase hn hn2 rfl ⟨by unfold maxLen; omega, by unfold maxLen; omega⟩
  have e1 : allocE (P.with_ t) = (1, 0) := by
    show (if freeAt t.pages (P.n - 8) 1 = 0 then ((0 : Int), (83 : Int)) else (((freeAt t.pages (P.n - 8) 1 : Nat) : Int), 0)) = _
    rw [hf]
    rfl
  have e2 : allocP (P.with_ t) = P.with_ (writeT t 1 zeros) := by
    show (if freeAt t.pages (P.n - 8) 1 = 0 then P.with_ t else (P.with_ t).with_ (writeT t (freeAt t.pages (P.n - 8) 1 : Nat) zeros)) = _
    rw [hf]
    rfl
  rw [e1, e2] at hal
  have HAL := Lib.hid hal
  have H1 := Lib.hid h1
  have HT1 := Lib.hid hT1
  have HG1 := Lib.hid hg1
  have HN1 := Lib.hid hn1
  have HFIN := Lib.hid hfin
  have HK := Lib.hid hk
  have HV := Lib.hid hv
  have HZ := Lib.hid hz
  clear h hnone hTn hgn h1 hH' hT1 hg1 hn1 hfin hal e1 e2 hT hg hk hv hf hz
  go_enter Tryz.func41, Tryz.ntmps41
  go_wp2_with fail
  (with_reducible refine HAL.out.mono ?_)
  rintro e w2 ⟨rfl, hP2⟩
  have h2 := H1.out.viaPg hP2
  have hb2 : Blk w2 wr.heap.size 88 #[.bool false, .int .i64 0, .slice (some ⟨g, 0, none⟩) 1 cap] := h2.blk HN1.out
  have n0 : w2.cell? ⟨wr.heap.size, 0, none⟩ = some (.bool false) := hb2.cell 0
  have n1 : w2.cell? ⟨wr.heap.size, 1, none⟩ = some (.int .i64 0) := hb2.cell 1
  have n2 : w2.cell? ⟨wr.heap.size, 2, none⟩ = some (.slice (some ⟨g, 0, none⟩) 1 cap) := hb2.cell 2
  have hu : ((writeT t 1 zeros).pages 1).isSome = true := by
    show (putF t.pages 1 zeros 1).isSome = true
    unfold putF
    rw [if_pos rfl]
    rfl
  have hz2 : (writeT t 1 zeros).sz < maxLen ∧ (writeT t 1 zeros).dz < maxLen := by
    have := HZ.out
    have h1 : (writeT t 1 zeros).sz ≤ t.sz + 1 := by
      show putSz t.pages t.sz 1 ≤ _
      unfold putSz
      split <;> omega
    have h2 : (writeT t 1 zeros).dz ≤ t.dz + 1 := by
      show (if t.dirty 1 = true then t.dz else t.dz + 1) ≤ _
      split <;> omega
    unfold maxLen
    omega
  have hpt := tput_b (cap := cap) h2 HT1.out HG1.out HK.out HV.out hu hz2
  have HPT : Hid (Calls Tryz.prog 88 #[.pointer (some ⟨T, 0, none⟩), .int .i64 1, .agg #[.bool false, .int .i64 0, .slice (some ⟨g, 0, none⟩) 1 cap]] w2 _) := Lib.hid hpt
  clear h2 hb2 hu hz2 hpt hP2 c0
  go_wp2_with fail
  (with_reducible refine HPT.out.mono ?_)
  rintro e w3 ⟨rfl, h3⟩
  obtain ⟨t0, t1⟩ := h3.tree HT1.out
  have h3d := h3.later (Below.refl _ _).drew
  have hsr := psetRoot_any h3d.pg.rebase 0 1 (by decide)
  have hu3 : ((writeT (writeT t 1 zeros) 1 (pageB kb vb)).pages 1).isSome = true := by
    show (putF (writeT t 1 zeros).pages 1 (pageB kb vb) 1).isSome = true
    unfold putF
    rw [if_pos rfl]
    rfl
  have hi0 : ¬ ((0 : Int) < 0 ∨ (8 : Int) ≤ 0) := by omega
  have hu4 : ((writeT (writeT t 1 zeros) 1 (pageB kb vb)).pages 1).isSome = true ∨ (1 : Int) = 0 := .inl hu3
  obtain ⟨X, hX⟩ : ∃ X, writeT (writeT t 1 zeros) 1 (pageB kb vb) = X := ⟨_, rfl⟩
  rw [hX] at hsr hu4
  have e1 : setRootE (P.with_ X) 0 1 = 0 := by
    show (if (0 : Int) < 0 ∨ (8 : Int) ≤ 0 then (3 : Int) else if (X.pages 1).isSome = true ∨ (1 : Int) = 0 then 0 else 91) = 0
    rw [if_neg hi0, if_pos hu4]
  have e2 : setRootP (P.with_ X) 0 1 = P.with_ (rootT X 0 1) := by
    show (if (0 : Int) < 0 ∨ (8 : Int) ≤ 0 then P.with_ X else if (X.pages 1).isSome = true ∨ (1 : Int) = 0 then (P.with_ X).with_ (rootT X (0 : Int).toNat 1) else P.with_ X) = _
    rw [if_neg hi0, if_pos hu4]
    rfl
  rw [e1, e2] at hsr
  subst hX
  have HSR := Lib.hid hsr
  have H3D := Lib.hid h3d
  clear h3 h3d hsr hu3 hi0 hu4 e1 e2 n0 n1 n2
  go_wp2_with fail
  go_region_held3 (fun W => W.cell? ⟨T, 0, none⟩ = some (.pointer (some ⟨G.pg, 0, none⟩)) ∧ W.cell? ⟨T, 1, none⟩ = some (.int .i64 0)) (first | exact ⟨t0, t1⟩ | exact hc4 | go_keep)
    (((with_reducible refine HSR.out.mono ?_); rintro e w4 ⟨rfl, hP4⟩; have h4 := H3D.out.viaPg hP4; have hc4 := h4.tree HT1.out; have H4 := Lib.hid h4; clear h4 hP4))
  all_goals
    clear t0 t1 hc4
    go_wp2_with fail
    go_ret
    exact ⟨rfl, HFIN.out _ _ H4.out⟩
end
end Go.Proofs.YtoleojljpaglhaaGreat
