/- The contract of changed. -/
import Derived.Test.YtoleojljpaglhaaGreatPcC
import Derived.Test.YtoleojljpaglhaaGreatPcS
import Derived.Test.YtoleojljpaglhaaGreatPbU
import Derived.ChangeKeysEq
import Derived.BigQuiet
import Derived.Deep.RegionHeld3
namespace Go.Proofs.YtoleojljpaglhaaGreat
open Go.RowKit Go.Maps
set_option maxRecDepth 20000
theorem i64_info : (Tryz.prog.info? 3).map (fun i => (i.zero, i.size, i.bytes)) = some (some (.int .i64 0), 1, 8) := by kernel_rfl
theorem cells64 : Tryz.prog.cellsOf 3 = 1 := by kernel_rfl
theorem plain64 : Tryz.prog.plainKey 3 = true := by kernel_rfl
theorem eqItems64 (d : Nat) (xs ys : Array Value) (i : Nat) (is : List Nat) (a b : Int) (w : World) (hx : xs[i]? = some (.int .i64 a)) (hy : ys[i]? = some (.int .i64 b)) :
    (Op.eqItems (d + 1) 3 1 xs ys (i :: is)).run Tryz.prog w = if (a == b) = true then (Op.eqItems (d + 1) 3 1 xs ys is).run Tryz.prog w else .ok false w := by
  simp only [Op.eqItems, Sem.run_bind, Nat.mul_one, run_part_plain w plain64 hx, run_part_plain w plain64 hy, Result.andThen_ok, run_equalIn_int w d 3 .i64 .i64 a b Tryz.underlying3]
  cases h : (a == b) <;> simp
/-- are two rows of roots other -/
def ne8 (x y : List Int) : Bool := !(x == y)
set_option maxRecDepth 20000 in
theorem run_neq8 (a0 a1 a2 a3 a4 a5 a6 a7 b0 b1 b2 b3 b4 b5 b6 b7 : Int) (w : World) :
    (binOp .neq 53 (.agg #[.int .i64 a0, .int .i64 a1, .int .i64 a2, .int .i64 a3, .int .i64 a4, .int .i64 a5, .int .i64 a6, .int .i64 a7]) (.agg #[.int .i64 b0, .int .i64 b1, .int .i64 b2, .int .i64 b3, .int .i64 b4, .int .i64 b5, .int .i64 b6, .int .i64 b7])).run Tryz.prog w = .ok (.bool (ne8 [a0, a1, a2, a3, a4, a5, a6, a7] [b0, b1, b2, b3, b4, b5, b6, b7])) w := by
  obtain ⟨i, hi, _⟩ := info_parts i64_info
  have e : ne8 [a0, a1, a2, a3, a4, a5, a6, a7] [b0, b1, b2, b3, b4, b5, b6, b7] = !(a0 == b0 && (a1 == b1 && (a2 == b2 && (a3 == b3 && (a4 == b4 && (a5 == b5 && (a6 == b6 && (a7 == b7)))))))) := by
    unfold ne8
    simp
  rw [e]
  simp only [binOp, Op.equal, Op.maxDepth, Sem.run_bind]
  rw [run_equalIn_array w 9999 _ _ Tryz.underlying53 hi, cells64]
  rw [show List.range 8 = [0, 1, 2, 3, 4, 5, 6, 7] from rfl]
  rw [eqItems64 9998 _ _ 0 _ a0 b0 w rfl rfl, eqItems64 9998 _ _ 1 _ a1 b1 w rfl rfl, eqItems64 9998 _ _ 2 _ a2 b2 w rfl rfl, eqItems64 9998 _ _ 3 _ a3 b3 w rfl rfl, eqItems64 9998 _ _ 4 _ a4 b4 w rfl rfl, eqItems64 9998 _ _ 5 _ a5 b5 w rfl rfl, eqItems64 9998 _ _ 6 _ a6 b6 w rfl rfl, eqItems64 9998 _ _ 7 _ a7 b7 w rfl rfl]
  cases (a0 == b0) <;> cases (a1 == b1) <;> cases (a2 == b2) <;> cases (a3 == b3) <;> cases (a4 == b4) <;> cases (a5 == b5) <;> cases (a6 == b6) <;> cases (a7 == b7) <;> simp [Op.eqItems]
/-- what the loop of changed has collected -/
structure Coll (P : PP) (t : PT) (left : Lit → Bool) (l : List Int) : Prop where
  ok : ∀ x ∈ l, ∃ b, t.pages x = some b
  all : ∀ x, t.dirty x = true → left (.int .i64 x) = false → ∀ b, t.pages x = some b → x ∉ l → P.pages x = some b
theorem strike_int (left : Lit → Bool) (x y : Int) (h : (left (.int .i64 y) && !(Lit.int .i64 y).sameKey (.int .i64 x)) = false) : y = x ∨ left (.int .i64 y) = false := by
  by_cases e : y = x
  · exact .inl e
  · right
    have e2 : (Lit.int .i64 y).sameKey (.int .i64 x) = false := by
      simp only [Lit.sameKey, true_and, decide_eq_false_iff_not]
      exact e
    rw [e2] at h
    simpa using h
theorem Coll.skip {P : PP} {t : PT} {left : Lit → Bool} {l : List Int} (h : Coll P t left l) (x : Int) (hx : ∀ b, t.pages x = some b → P.pages x = some b) : Coll P t (fun z => left z && !z.sameKey (.int .i64 x)) l :=
  ⟨h.ok, fun y hd hl b hb hm => by
    rcases strike_int left x y hl with e | e
    · rw [e] at hb ⊢; exact hx b hb
    · exact h.all y hd e b hb hm⟩
theorem Coll.add {P : PP} {t : PT} {left : Lit → Bool} {l : List Int} (h : Coll P t left l) (x : Int) (hx : ∃ b, t.pages x = some b) : Coll P t (fun z => left z && !z.sameKey (.int .i64 x)) (l ++ [x]) :=
  ⟨fun y hy => by
    rcases List.mem_append.1 hy with hy | hy
    · exact h.ok y hy
    · rw [List.mem_singleton] at hy; rw [hy]; exact hx, fun y hd hl b hb hm => by
    rcases strike_int left x y hl with e | e
    · exact absurd (List.mem_append_right l (by rw [e]; exact List.mem_singleton_self x)) hm
    · exact h.all y hd e b hb (fun h' => hm (List.mem_append_left _ h'))⟩
theorem Coll.done {P : PP} {t : PT} {left : Lit → Bool} {l l' : List Int} (h : Coll P t left l) (ht : Pb.TxI P t) (hl : ∀ k, left k = false) (hp : l'.Perm l) : Pb.Chg P t l' :=
  ⟨fun x hx => h.ok x (hp.mem_iff.1 hx), fun x b hb hm => by
    cases hd : t.dirty x with
    | false => exact ht.ok.same x b hb hd
    | true => exact h.all x hd (hl _) b hb (fun h' => hm (hp.mem_iff.2 h'))⟩
section
variable {S : Nat → Prop} {w0 w w' : World} {G : PH} {d d' : Vd.VD} {L L' : Wa.WL} {P : PP} {t : PT}
theorem pgsAt_own {w : World} {B : Nat} {v : Value} {l : List Int} (h : w.ownsRow B 3 1 v l.length (pis l)) : PgsAt w v l := by
  rcases h.2 with ⟨rfl, h0⟩ | ⟨g, cap, cur, rfl, _, hb, _⟩
  · exact ⟨none, 0, by rw [h0], fun j hj => by omega⟩
  · refine ⟨some ⟨g, 0, none⟩, cap, rfl, fun j hj => ⟨g, rfl, (Array.getElem?_eq_some_iff.1 hb).1, ?_⟩⟩
    have := h.cells (g := g) rfl j (.int .i64 l[j]) (by simp [pis, hj])
    rwa [show (⟨g, 0, none⟩ : Addr).add j = ⟨g, j, none⟩ from by unfold Addr.add; split <;> simp_all] at this
theorem PgsAt.drewN {w : World} {v : Value} {l : List Int} (h : PgsAt w v l) (n : Nat) : PgsAt (w.drewN n) v l := h.below (below_drewN (Below.refl _ _) n)
theorem below_dr {B : Nat} {a w : World} (h : Below B a w) : Below B a w.drew := ⟨h.os, h.tape, h.output, h.size, h.block⟩
/-- what changed tells -/
def ChgR (w : World) (P : PP) (t : PT) (e : Ending) (w' : World) : Prop :=
  ∃ v ch any, e = .returned (.tuple #[v, .bool any]) ∧ PgsAt w' v ch ∧ ch.length ≤ P.n - 8 ∧ Pb.Chg P t ch ∧ (any = false → t.pages = P.pages ∧ t.sz = P.sz ∧ t.roots = P.roots) ∧ Below w.heap.size w w'
set_option maxRecDepth 20000 in
set_option maxHeartbeats 4000000 in
theorem changed_any (h : PG S w0 w G d L P) (hn : 8 ≤ P.n) (hn2 : P.n ≤ 5000) (hu : P.up = true) {MT MD : Nat} (hdv : G.dv = .map (some MD)) (hm : PMap w MT t.pages t.sz) (hd : SMap w MD t.dirty t.dz) (ht : Pb.TxI P t) (hkP : Pb.Wf P.n P.pages P.roots P.sz) :
    Calls Tryz.prog 95 #[.pointer (some ⟨G.pg, 0, none⟩), .agg (scells MT t.roots)] w (ChgR w P t) := by
  obtain ⟨a0, a1, a2, a3, a4, a5, a6, a7, hta⟩ := len8 ht.ok.wf.len
  obtain ⟨b0, b1, b2, b3, b4, b5, b6, b7, htb⟩ := len8 hkP.len
  have hdz : t.dz ≤ P.n - 8 := by
    rw [ht.dz]
    exact Pb.cnt_le _ _
  rw [hta, scells_lit]
  have hB : Below w.heap.size w (w.alloc (.cells #[.map (some MT), .int .i64 a0, .int .i64 a1, .int .i64 a2, .int .i64 a3, .int .i64 a4, .int .i64 a5, .int .i64 a6, .int .i64 a7] 76)) := (Below.refl _ _).alloc (Nat.le_refl _) _
  have hbox := Blk.new w 76 #[.map (some MT), .int .i64 a0, .int .i64 a1, .int .i64 a2, .int .i64 a3, .int .i64 a4, .int .i64 a5, .int .i64 a6, .int .i64 a7]
  obtain ⟨V, hV⟩ : ∃ V, w.alloc (.cells #[.map (some MT), .int .i64 a0, .int .i64 a1, .int .i64 a2, .int .i64 a3, .int .i64 a4, .int .i64 a5, .int .i64 a6, .int .i64 a7] 76) = V := ⟨_, rfl⟩
  have hVs : V.heap.size = w.heap.size + 1 := by rw [← hV]; exact World.size_alloc _ _
  rw [hV] at hB hbox
  have hmV := hm.below hB
  obtain ⟨D, hown, hhas, hsz⟩ := hd.below hB
  have hPV := h.later hB
  have c13 : V.cell? ⟨G.pg, 13, none⟩ = some (.map (some MD)) := by rw [hPV.cells.cd, hdv]
  -- cells of the box and of the pager, later
  have hcells : ∀ W, Below V.heap.size V W → W.cell? ⟨w.heap.size, 0, none⟩ = some (.map (some MT)) ∧ W.cell? ⟨G.pg, 3, none⟩ = some (.map (some G.M)) := fun W hW => by
    have h1 := hbox.below hW hbox.lt
    have h2 := (hPV.later hW).cells.c3
    rw [hu] at h2
    exact ⟨h1.cell 0, h2⟩
  have hlook : ∀ W, Below V.heap.size V W → ∀ x, (Lit.int .i64 x).wf = true → (Instr.lookup 74 (.map (some MT)) (.int .i64 x) true).run Tryz.prog W = .ok (.tuple #[.string ((t.pages x).getD ⟨#[]⟩), .bool (t.pages x).isSome]) W ∧ (Instr.lookup 74 (.map (some G.M)) (.int .i64 x) true).run Tryz.prog W = .ok (.tuple #[.string ((P.pages x).getD ⟨#[]⟩), .bool (P.pages x).isSome]) W := fun W hW x hx => ⟨(hmV.below hW).look x hx, ((hPV.pm hu).below hW).look x hx⟩
  have HC := Lib.hid hcells
  have HLK := Lib.hid hlook
  have HHAS := Lib.hid hhas
  have HSZ := Lib.hid hsz
  have HPV := Lib.hid hPV
  have HBOX := Lib.hid hbox
  have HB := Lib.hid hB
  have HV := Lib.hid hV
  have HDZ := Lib.hid hdz
  have HT := Lib.hid ht
  have HKP := Lib.hid hkP
  have HTA := Lib.hid hta
  have HTB := Lib.hid htb
  have HMV := Lib.hid hmV
  have HU := Lib.hid hu
  have HVS := Lib.hid hVs
  have hMD : MD < V.heap.size := hown.lt
  have i2 : (P.n : Int) ≤ 5000 := by omega
  have i3 : 8 ≤ (P.n : Int) := by omega
  clear hcells hlook hhas hsz hPV hbox hB hdz ht hkP hta htb hmV hu h hm hd hdv hn hn2 hVs
  go_enter Tryz.func95, Tryz.ntmps95
  go_upto_region 2 with fail
  clear hV
  go_wp2_with (at_range; refine wpList_range_own _ rfl _ 78 rfl 3 145 int_law Tryz.underlying78 unitElem MD t.dz D rfl hown ?_; intro w6 hrg0 hg0 hs0)
  go_frame
  have hs0' : w6.heap.size = V.heap.size + 1 := hs0
  have HS6 := Lib.hid hs0'
  have HST : Hid (Coll P t (Maps.has D) []) := Lib.hid ⟨fun x hx => (by cases hx), fun x hd hl => by
    rw [HHAS.out] at hl
    rw [hd] at hl
    cases hl⟩
  have HB6 : Hid (Below V.heap.size V w6) := Lib.hid ((Below.refl _ V).grown hg0 (Nat.le_refl _) (fun q hq => by cases hq))
  clear hs0 hs0' hg0
  have HSZ2 : Hid ((([] : List Int)).length + Maps.size D ≤ t.dz) := Lib.hid (by rw [HSZ.out]; simp)
  go_loopw [6, 7] (fun o _ wr => ∃ left cnt v l, v = o ∧ wr.ranges Tryz.prog 3 (unitElem (H := Unit)) MD V.heap.size t.dz D left cnt ∧ Hid (wr.ownsRow (V.heap.size + 1) 3 1 v l.length (pis l)) ∧ Hid (l.length + cnt ≤ t.dz) ∧ Hid (Coll P t left l) ∧ Hid (Below V.heap.size V wr)) (fun _ _ wr => wr.rangeLeft MD V.heap.size)
  case atStart => exact ⟨_, _, _, [], rfl, hrg0, Lib.hid (World.ownsRow_nil _ _ _ _), HSZ2, HST, HB6⟩
  case round =>
    obtain ⟨left, cnt, v, l, rfl, hrg, hrow, hcn, hcol, hbe⟩ := hrel
    clear hrg0 HSZ2 HST HB6
    obtain ⟨i0, hi0, hz0, hz1, hz2⟩ := info_parts i64_info
    have Hi0 := Lib.hid hi0
    have Hz0 := Lib.hid hz0
    have Hz1 := Lib.hid hz1
    have Hz2 := Lib.hid hz2
    clear hi0 hz0 hz1 hz2
    go_wp2_with (at_next; refine wpList_next_ranges _ rfl _ rfl 3 int_law (unitElem (H := Unit)) (Value.int .i64) (fun _ : Unit => Value.agg #[]) (fun key kl hkey => by obtain ⟨x, rfl, _⟩ := Maps.keyOf_int_inv Tryz.underlying3 hkey; exact ⟨x, rfl⟩) (fun v y hv => ⟨(), (unitElem_inv hv).1⟩) MD V.heap.size t.dz D left cnt rfl hrg ?_ ?_)
    · intro hc0 hl0
      have hll : l.length ≤ P.n - 8 := by have := hcn.out; have := HDZ.out; omega
      have HSO := Lib.hid (psort_any (V.heap.size + 1) v l wr hrow.out (by omega))
      have HLL := Lib.hid hll
      have HL0 := Lib.hid hl0
      clear hll hl0 hc0 hrg hrow hcn
      go_wp2_with fail
      (with_reducible refine HSO.out.mono ?_)
      rintro e w9 ⟨rfl, l', hperm, hown9, hb9⟩
      have hchg := hcol.out.done HT.out HL0.out hperm
      have hlen := hperm.length_eq
      have hpg9 : PgsAt w9 v l' := pgsAt_own hown9
      have hbV : Below V.heap.size V w9 := hbe.out.trans (hb9.mono (by omega))
      obtain ⟨p9, cap9, rfl⟩ : ∃ p cap, v = .slice p l'.length cap := by
        obtain ⟨p, cap, hv, _⟩ := hpg9.shape
        exact ⟨p, cap, hv⟩
      have HP9 := Lib.hid hpg9
      have HBV := Lib.hid hbV
      have HCHG := Lib.hid hchg
      have HLEN : Hid (l'.length ≤ P.n - 8) := Lib.hid (by have := HLL.out; omega)
      have hBW : Below w.heap.size w w9 := HB.out.trans (hbV.mono (by have := HVS.out; omega))
      have HBW := Lib.hid hBW
      have HS : Hid (∀ W, Below V.heap.size V W → W.cell? ⟨w.heap.size, 0, none⟩ = some (.map (some MT)) ∧ W.cell? ⟨w.heap.size, 1, none⟩ = some (.int .i64 a0) ∧ W.cell? ⟨w.heap.size, 2, none⟩ = some (.int .i64 a1) ∧ W.cell? ⟨w.heap.size, 3, none⟩ = some (.int .i64 a2) ∧ W.cell? ⟨w.heap.size, 4, none⟩ = some (.int .i64 a3) ∧ W.cell? ⟨w.heap.size, 5, none⟩ = some (.int .i64 a4) ∧ W.cell? ⟨w.heap.size, 6, none⟩ = some (.int .i64 a5) ∧ W.cell? ⟨w.heap.size, 7, none⟩ = some (.int .i64 a6) ∧ W.cell? ⟨w.heap.size, 8, none⟩ = some (.int .i64 a7) ∧ W.cell? ⟨G.pg, 3, none⟩ = some (.map (some G.M)) ∧ W.cell? ⟨G.pg, 4, none⟩ = some (.int .i64 b0) ∧ W.cell? ⟨G.pg, 5, none⟩ = some (.int .i64 b1) ∧ W.cell? ⟨G.pg, 6, none⟩ = some (.int .i64 b2) ∧ W.cell? ⟨G.pg, 7, none⟩ = some (.int .i64 b3) ∧ W.cell? ⟨G.pg, 8, none⟩ = some (.int .i64 b4) ∧ W.cell? ⟨G.pg, 9, none⟩ = some (.int .i64 b5) ∧ W.cell? ⟨G.pg, 10, none⟩ = some (.int .i64 b6) ∧ W.cell? ⟨G.pg, 11, none⟩ = some (.int .i64 b7)) := Lib.hid (fun W hW => by
        have h1 := HBOX.out.below hW HBOX.out.lt
        have h2 := (HPV.out.later hW).blk
        rw [HTB.out, HU.out] at h2
        exact ⟨h1.cell 0, h1.cell 1, h1.cell 2, h1.cell 3, h1.cell 4, h1.cell 5, h1.cell 6, h1.cell 7, h1.cell 8, h2.cell 3, h2.cell 4, h2.cell 5, h2.cell 6, h2.cell 7, h2.cell 8, h2.cell 9, h2.cell 10, h2.cell 11⟩)
      clear hchg hlen hpg9 hbV hBW hown9 hb9 hperm
      obtain ⟨n9, hn9⟩ : ∃ n9, l'.length = n9 := ⟨_, rfl⟩
      rw [hn9]
      have HN9 := Lib.hid hn9
      clear hn9
      by_cases hN : 0 < n9
      · have hN2 : (0 : Int) < (n9 : Int) := by omega
        go_wp2_with fail
        go_quiet (fail)
        go_wp2_with fail
        go_ret2
        refine ⟨_, l', true, rfl, ?_, HLEN.out, HCHG.out, (fun e => by cases e), below_drewN HBW.out _⟩
        rw [← HN9.out]
        exact HP9.out.drewN _
      · have hl0 : n9 = 0 := by omega
        subst hl0
        have hnil : l' = [] := List.eq_nil_of_length_eq_zero HN9.out
        have HNIL := Lib.hid hnil
        have hneq := fun W => run_neq8 a0 a1 a2 a3 a4 a5 a6 a7 b0 b1 b2 b3 b4 b5 b6 b7 W
        obtain ⟨X, hX⟩ : ∃ X, ne8 [a0, a1, a2, a3, a4, a5, a6, a7] [b0, b1, b2, b3, b4, b5, b6, b7] = X := ⟨_, rfl⟩
        simp only [hX] at hneq
        have HX := Lib.hid hX
        clear hN hnil hX
        cases X with
        | true =>
          obtain ⟨x0, x1, x2, x3, x4, x5, x6, x7, x8, y3, y4, y5, y6, y7, y8, y9, y10, y11⟩ := HS.out w9 HBV.out
          go_wp2_with fail
          go_quiet (fail)
          go_wp2_with fail
          go_ret2
          refine ⟨_, l', true, rfl, ?_, HLEN.out, HCHG.out, (fun e => by cases e), below_drewN HBW.out _⟩
          have := HP9.out.drewN (w := w9)
          rw [HN9.out] at this
          exact this _
        | false =>
          have hroots : t.roots = P.roots := by
            have := HX.out
            unfold ne8 at this
            rw [HTA.out, HTB.out]
            simpa using this
          have hM1 : ∀ W, Below w9.heap.size w9 W → Calls Tryz.prog 120 #[.pointer (some ⟨G.pg, 0, none⟩), .agg #[.map (some MT), .int .i64 a0, .int .i64 a1, .int .i64 a2, .int .i64 a3, .int .i64 a4, .int .i64 a5, .int .i64 a6, .int .i64 a7]] W fun e w' => e = .returned (.string ⟨(Pb.metaL P.n t.pages t.roots).toArray⟩) ∧ Below W.heap.size W w' := fun W hW9 => by
            have hW : Below V.heap.size V W := HBV.out.trans (hW9.mono HBV.out.size)
            have := meta_any (HPV.out.later hW) (by omega) (by omega) (HMV.out.below hW) HT.out.ok.wf
            rw [HTA.out, scells_lit] at this
            rw [HTA.out]
            exact this
          have hM2 : ∀ W, Below w9.heap.size w9 W → Calls Tryz.prog 120 #[.pointer (some ⟨G.pg, 0, none⟩), .agg #[.map (some G.M), .int .i64 b0, .int .i64 b1, .int .i64 b2, .int .i64 b3, .int .i64 b4, .int .i64 b5, .int .i64 b6, .int .i64 b7]] W fun e w' => e = .returned (.string ⟨(Pb.metaL P.n P.pages P.roots).toArray⟩) ∧ Below W.heap.size W w' := fun W hW9 => by
            have hW : Below V.heap.size V W := HBV.out.trans (hW9.mono HBV.out.size)
            have := meta_any (HPV.out.later hW) (by omega) (by omega) ((HPV.out.pm HU.out).below hW) HKP.out
            rw [HTB.out, scells_lit] at this
            rw [HTB.out]
            exact this
          obtain ⟨m1, hm1⟩ : ∃ m1 : ByteArray, (⟨(Pb.metaL P.n t.pages t.roots).toArray⟩ : ByteArray) = m1 := ⟨_, rfl⟩
          obtain ⟨m2, hm2⟩ : ∃ m2 : ByteArray, (⟨(Pb.metaL P.n P.pages P.roots).toArray⟩ : ByteArray) = m2 := ⟨_, rfl⟩
          simp only [hm1] at hM1
          simp only [hm2] at hM2
          have HM1 := Lib.hid hM1
          have HM2 := Lib.hid hM2
          have HROOTS := Lib.hid hroots
          have HE1 := Lib.hid hm1
          have HE2 := Lib.hid hm2
          have hV : Below w9.heap.size w9 w9 := Below.refl _ _
          have HS2 : Hid (∀ W, Below w9.heap.size w9 W → _) := Lib.hid (fun W hW => HS.out W (HBV.out.trans (hW.mono HBV.out.size)))
          obtain ⟨x0, x1, x2, x3, x4, x5, x6, x7, x8, y3, y4, y5, y6, y7, y8, y9, y10, y11⟩ := HS.out w9 HBV.out
          clear hM1 hM2 hroots hm1 hm2
          go_wp2_with fail
          go_region_held3 (fun w' => w'.cell? ⟨w.heap.size, 0, none⟩ = some (.map (some MT)) ∧ w'.cell? ⟨w.heap.size, 1, none⟩ = some (.int .i64 a0) ∧ w'.cell? ⟨w.heap.size, 2, none⟩ = some (.int .i64 a1) ∧ w'.cell? ⟨w.heap.size, 3, none⟩ = some (.int .i64 a2) ∧ w'.cell? ⟨w.heap.size, 4, none⟩ = some (.int .i64 a3) ∧ w'.cell? ⟨w.heap.size, 5, none⟩ = some (.int .i64 a4) ∧ w'.cell? ⟨w.heap.size, 6, none⟩ = some (.int .i64 a5) ∧ w'.cell? ⟨w.heap.size, 7, none⟩ = some (.int .i64 a6) ∧ w'.cell? ⟨w.heap.size, 8, none⟩ = some (.int .i64 a7) ∧ w'.cell? ⟨G.pg, 3, none⟩ = some (.map (some G.M)) ∧ w'.cell? ⟨G.pg, 4, none⟩ = some (.int .i64 b0) ∧ w'.cell? ⟨G.pg, 5, none⟩ = some (.int .i64 b1) ∧ w'.cell? ⟨G.pg, 6, none⟩ = some (.int .i64 b2) ∧ w'.cell? ⟨G.pg, 7, none⟩ = some (.int .i64 b3) ∧ w'.cell? ⟨G.pg, 8, none⟩ = some (.int .i64 b4) ∧ w'.cell? ⟨G.pg, 9, none⟩ = some (.int .i64 b5) ∧ w'.cell? ⟨G.pg, 10, none⟩ = some (.int .i64 b6) ∧ w'.cell? ⟨G.pg, 11, none⟩ = some (.int .i64 b7)) (first | exact HS2.out _ hV | exact HS2.out _ (below_dr hV) | go_keep)
            ((first
              | (go_at_call 120; ((with_reducible refine (HM1.out _ (below_dr hV)).mono ?_)); rintro e w11 ⟨rfl, hb11⟩; have hV := (below_dr hV).trans (hb11.mono (below_dr hV).size); clear hb11)
              | (go_at_call 120; ((with_reducible refine (HM2.out _ hV).mono ?_)); rintro e w11 ⟨rfl, hb11⟩; have hV := hV.trans (hb11.mono hV.size); clear hb11)
              | (go_at_call 120; ((with_reducible refine (HM2.out _ (below_dr hV)).mono ?_)); rintro e w11 ⟨rfl, hb11⟩; have hV := (below_dr hV).trans (hb11.mono (below_dr hV).size); clear hb11)
              | (go_at_call 120; ((with_reducible refine (HM1.out _ hV).mono ?_)); rintro e w11 ⟨rfl, hb11⟩; have hV := hV.trans (hb11.mono hV.size); clear hb11)))
          have HFV := Lib.hid hV
          clear hV
          go_wp2_with fail
          go_ret2
          refine ⟨_, l', _, rfl, ?_, HLEN.out, HCHG.out, fun e => ?_, HBW.out.trans (HFV.out.mono HBW.out.size)⟩
          · have := HP9.out
            rw [HN9.out] at this
            exact this.below HFV.out
          · have e2 : m1 = m2 := by
              have : (m1.toList == m2.toList) = true := by simpa using e
              have e3 : m1.toList = m2.toList := by simpa using this
              rw [ByteArray.toList_eq, ByteArray.toList_eq] at e3
              exact ByteArray.ext (Array.toList_inj.1 e3)
            have e4 : Pb.metaL P.n t.pages P.roots = Pb.metaL P.n P.pages P.roots := by
              have := congrArg (fun m : ByteArray => m.data.toList) (HE1.out.trans (e2.trans HE2.out.symm))
              rw [HROOTS.out] at this
              exact this
            have hk' := HT.out.ok.wf
            rw [HROOTS.out] at hk'
            have h5 := Pb.same_of_meta HKP.out hk' (by omega) (fun x b hb => HCHG.out.all x b hb (by rw [HNIL.out]; exact List.not_mem_nil)) e4
            exact ⟨h5.1, h5.2, HROOTS.out⟩
    · intro x c kl yd w8 cnt8 hkey hlk hv hat8 hrg8 hlt8 hg8 hs8 hen
      obtain ⟨x', ex, rfl, hwx⟩ := Maps.keyOf_int_inv Tryz.underlying3 hkey
      cases ex
      have hb8 : Below V.heap.size V w8 := hbe.out.grown hg8 hbe.out.size (fun q hq => by injection hq with hq; omega)
      obtain ⟨c0, c3⟩ := HC.out w8 hb8
      obtain ⟨hk1, hk2⟩ := HLK.out w8 hb8 x hwx
      have hr8 : w8.ownsRow (V.heap.size + 1) 3 1 v l.length (pis l) := hrow.out.kept hg8 (by
        cases hvo : v.ownBlock with
        | none => exact .inl rfl
        | some q => right; intro e; injection e with e; have := (hrow.out.lt q hvo).1; omega)
      have HR8 := Lib.hid hr8
      have HB8 := Lib.hid hb8
      have HG8 := Lib.hid hrg8
      have HL8 := Lib.hid hlt8
      have HRG := Lib.hid hrg
      clear hkey hlk hv hat8 hrg8 hlt8 hg8 hs8 hr8 hb8 hrg hrow
      cases hp : t.pages x with
      | none =>
        rw [hp] at hk1
        have HCL := Lib.hid (hcol.out.skip x (fun b hb => by rw [hp] at hb; cases hb))
        clear hp hcol
        go_wp2_with fail
        go_roundw
        case rel => exact ⟨_, cnt8, v, l, rfl, HG8.out, HR8, Lib.hid (by have := hcn.out; have := HL8.out; omega), HCL, HB8⟩
        case measure =>
          rw [HG8.out.left_eq, HRG.out.left_eq]
          exact HL8.out
      | some b =>
        rw [hp] at hk1
        cases hP : P.pages x with
        | none =>
          rw [hP] at hk2
          have HCL := Lib.hid (hcol.out.add x ⟨b, hp⟩)
          clear hp hP hcol
          go_wp2_with (at_builtin; refine wpList_append_own_at _ rfl _ _ 51 rfl (V.heap.size + 1) 3 i0 (.int .i64 0) 1 8 Tryz.underlying51 Hi0.out Hz0.out Hz1.out Hz2.out rfl (by decide) _ l.length (pis l) rfl (HR8.out.alloc _) ⟨w8.heap.size, 0, none⟩ 1 1 [.int .i64 x] rfl rfl (cell_one_new _ _ _) (ints_oneCell .i64 [x]) ?c3 ?c4 ?c5 ?_)
          case c3 => have := hcn.out; have := HDZ.out; unfold maxLen; omega
          case c4 => have := hcn.out; have := HDZ.out; omega
          case c5 => rw [World.size_alloc]; have := HB8.out.size; have := HS6.out; omega
          intro v9 w9 hown9 hgrow9 _ _
          have hb9 : Below V.heap.size V w9 := (HB8.out.alloc HB8.out.size _).grown hgrow9 (by rw [World.size_alloc]; have := HB8.out.size; omega) (fun q hq => by have := (HR8.out.lt q hq).1; omega)
          have hrg9 := (HG8.out.alloc (.cells #[.int .i64 x] 3)).kept hgrow9 (by intro e; have := (HR8.out.lt MD e.symm).1; omega) (by intro e; have := (HR8.out.lt V.heap.size e.symm).1; omega)
          have HR9 : Hid (w9.ownsRow (V.heap.size + 1) 3 1 v9 (l ++ [x]).length (pis (l ++ [x]))) := Lib.hid (by rw [List.length_append]; unfold pis; rw [List.map_append]; exact hown9)
          have HB9 := Lib.hid hb9
          have HG9 := Lib.hid hrg9
          clear hown9 hgrow9 hb9 hrg9 c0 c3 hk1 hk2
          go_wp2_with fail
          go_roundw
          case rel => exact ⟨_, cnt8, v9, l ++ [x], rfl, HG9.out, HR9, Lib.hid (by rw [List.length_append]; have := hcn.out; have := HL8.out; simp; omega), HCL, HB9⟩
          case measure =>
            rw [HG9.out.left_eq, HRG.out.left_eq]
            exact HL8.out
        | some b' =>
          rw [hP] at hk2
          by_cases hbb : b' = b
          · subst hbb
            have HCL := Lib.hid (hcol.out.skip x (fun b hb => by rw [hp] at hb; rw [hP]; exact hb))
            clear hp hP hcol
            go_wp2_with fail
            go_roundw
            case rel => exact ⟨_, cnt8, v, l, rfl, HG8.out, HR8, Lib.hid (by have := hcn.out; have := HL8.out; omega), HCL, HB8⟩
            case measure =>
              rw [HG8.out.left_eq, HRG.out.left_eq]
              exact HL8.out
          · have HCL := Lib.hid (hcol.out.add x ⟨b, hp⟩)
            have hne := str_ne hbb
            clear hp hP hcol hbb
            go_wp2_with (at_builtin; refine wpList_append_own_at _ rfl _ _ 51 rfl (V.heap.size + 1) 3 i0 (.int .i64 0) 1 8 Tryz.underlying51 Hi0.out Hz0.out Hz1.out Hz2.out rfl (by decide) _ l.length (pis l) rfl (HR8.out.alloc _) ⟨w8.heap.size, 0, none⟩ 1 1 [.int .i64 x] rfl rfl (cell_one_new _ _ _) (ints_oneCell .i64 [x]) ?c3 ?c4 ?c5 ?_)
            case c3 => have := hcn.out; have := HDZ.out; unfold maxLen; omega
            case c4 => have := hcn.out; have := HDZ.out; omega
            case c5 => rw [World.size_alloc]; have := HB8.out.size; have := HS6.out; omega
            intro v9 w9 hown9 hgrow9 _ _
            have hb9 : Below V.heap.size V w9 := (HB8.out.alloc HB8.out.size _).grown hgrow9 (by rw [World.size_alloc]; have := HB8.out.size; omega) (fun q hq => by have := (HR8.out.lt q hq).1; omega)
            have hrg9 := (HG8.out.alloc (.cells #[.int .i64 x] 3)).kept hgrow9 (by intro e; have := (HR8.out.lt MD e.symm).1; omega) (by intro e; have := (HR8.out.lt V.heap.size e.symm).1; omega)
            have HR9 : Hid (w9.ownsRow (V.heap.size + 1) 3 1 v9 (l ++ [x]).length (pis (l ++ [x]))) := Lib.hid (by rw [List.length_append]; unfold pis; rw [List.map_append]; exact hown9)
            have HB9 := Lib.hid hb9
            have HG9 := Lib.hid hrg9
            clear hown9 hgrow9 hb9 hrg9 c0 c3 hk1 hk2
            go_wp2_with fail
            go_roundw
            case rel => exact ⟨_, cnt8, v9, l ++ [x], rfl, HG9.out, HR9, Lib.hid (by rw [List.length_append]; have := hcn.out; have := HL8.out; simp; omega), HCL, HB9⟩
            case measure =>
              rw [HG9.out.left_eq, HRG.out.left_eq]
              exact HL8.out
end
end Go.Proofs.YtoleojljpaglhaaGreat
