/- The law's looks: all roots, all pages, Used and Busy. -/
import Derived.Test.YtoleojljpaglhaaGreatPeH
import Derived.Test.YtoleojljpaglhaaGreatPeK
import Derived.Test.YtoleojljpaglhaaGreatPostB
import Derived.Deep.Slices
import Derived.Deep.Fields
import Derived.ChangeSame
set_option maxRecDepth 20000
namespace Go.Proofs.YtoleojljpaglhaaGreat
open Go.RowKit
set_option maxRecDepth 20000
/-- what looks finds in every later world -/
structure LK (B pg : Nat) (R : RR) (A1 : Option Addr) (cp1 : Nat) (A2 : Option Addr) (cp2 : Nat) (W : World) : Prop where
  c1 : W.cell? ⟨B, 1, none⟩ = some (.pointer (some ⟨pg, 0, none⟩))
  c13 : W.cell? ⟨B, 13, none⟩ = some (.slice A1 R.now.page.length cp1)
  c14 : W.cell? ⟨B, 14, none⟩ = some (.slice A2 R.now.page.length cp2)
  c23 : W.cell? ⟨B, 23, none⟩ = some (.bool R.busy)
  root : ∀ i, i < 8 → W.cell? ⟨B, 15 + i, none⟩ = some (.int .i64 (R.now.root.getD i 0))
  at_ : ∀ j, j < R.now.page.length → ∃ k s q1 q2, A1 = some ⟨q1, 0, none⟩ ∧ A2 = some ⟨q2, 0, none⟩ ∧ W.cell? ⟨q1, j, none⟩ = some (.int .i64 k) ∧ W.cell? ⟨q2, j, none⟩ = some (.string s) ∧
    Calls Tryz.prog 46 #[.pointer (some ⟨pg, 0, none⟩), .int .i64 k] W.drew fun e w' => e = .returned (.tuple #[.string s, .int .i64 0]) ∧ W.drew = w'
  rootC : ∀ i : Nat, i < 8 → Calls Tryz.prog 28 #[.pointer (some ⟨pg, 0, none⟩), .int .i64 (i : Int)] W fun e w' => e = .returned (.tuple #[.int .i64 (R.now.root.getD i 0), .int .i64 0]) ∧ W = w'
  root8 : Calls Tryz.prog 28 #[.pointer (some ⟨pg, 0, none⟩), .int .i64 8] W fun e w' => e = .returned (.tuple #[.int .i64 0, .int .i64 3]) ∧ W = w'
  used : Calls Tryz.prog 47 #[.pointer (some ⟨pg, 0, none⟩)] W fun e w' => e = .returned (.int .i64 (R.now.page.length : Int)) ∧ W = w'
  busy : Calls Tryz.prog 48 #[.pointer (some ⟨pg, 0, none⟩)] W fun e w' => e = .returned (.bool R.busy) ∧ W = w'
section
variable {S : Nat → Prop} {w0 w w' wr wz : World} {B g dg pg : Nat} {H : Kept}
theorem bo_lk (h : Bo w0 B dg pg g H wr) : ∃ R A1 cp1 A2 cp2, R.now.page.length ≤ 32 ∧ ∀ W, Below wr.heap.size wr W → LK B pg R A1 cp1 A2 cp2 W := by
  obtain ⟨G, d, L, P, o, V, R, hS, rfl, rfl, hA⟩ := h.ex
  obtain ⟨_, A1, cp1, hv1, hc1⟩ := row_form hS.ref.rows.np
  obtain ⟨_, A2, cp2, hv2, hc2⟩ := row_form hS.ref.rows.nd
  have hup : (P.opn o).up = true := hA.hi.inv.up
  refine ⟨R, A1, cp1, A2, cp2, hA.small.2.1, fun W hW => ?_⟩
  have hSW := hS.later hW
  have hSD := hSW.later (Below.refl _ _).drew
  have hcl := hSW.ref.cells
  have c13 := hcl.c13
  have c14 := hcl.c14
  rw [hv1] at c13
  rw [hv2, hA.now.len] at c14
  have hp1 := hSW.ref.rows.np
  have hp2 := hSW.ref.rows.nd
  rw [hv1] at hp1
  rw [hv2] at hp2
  refine ⟨hcl.c1, c13, c14, hcl.c23, hcl.root, fun j hj => ?_, fun i hi => ?_, ?_, ?_, ?_⟩
  · have hj2 : R.now.page[j]? = some R.now.page[j] := List.getElem?_eq_getElem hj
    obtain ⟨s, hd, hf⟩ := hA.now.at_ j _ hj2
    have hcj1 : (pis R.now.page)[j]? = some (.int .i64 R.now.page[j]) := by unfold pis; rw [List.getElem?_map, hj2]; rfl
    have hcj2 : (bsl R.now.data)[j]? = some (.string s) := by unfold bsl; rw [List.getElem?_map, hd]; rfl
    obtain ⟨q1, e1, _⟩ := hc1 j _ hcj1
    obtain ⟨q2, e2, _⟩ := hc2 j _ hcj2
    subst e1 e2
    have hdom := hA.dom (List.getElem_mem hj)
    have hr := pread_any hSD.pg hup R.now.page[j] (wf64 (by omega) (by omega))
    have e1 : prd (P.opn o) R.now.page[j] = .tuple #[.string s, .int .i64 0] := by unfold prd; rw [hf]; rfl
    rw [e1] at hr
    refine ⟨R.now.page[j], s, q1, q2, rfl, rfl, ?_, ?_, hr⟩
    · rw [hp1.cellAt j (by omega)]; exact hcj1
    · rw [hp2.cellAt j (by rw [hA.now.len]; omega)]; exact hcj2
  · have hr := proot_any hSW.pg (i : Int)
    have e1 : prootV (P.opn o) (i : Int) = .tuple #[.int .i64 (R.now.root.getD i 0), .int .i64 0] := by
      unfold prootV
      rw [if_pos (by omega), hA.now.root, Int.toNat_natCast]
    rw [e1] at hr
    exact hr
  · have hr := proot_any hSW.pg 8
    have e1 : prootV (P.opn o) 8 = .tuple #[.int .i64 0, .int .i64 3] := by
      unfold prootV
      rw [if_neg (by omega)]
    rw [e1] at hr
    exact hr
  · have hr := pused_any hSW.pg hup
    rw [hA.now.sz] at hr
    exact hr
  · have hr := pbusy_any hSW.pg
    have e1 : (P.opn o).tx.isSome = R.busy := hA.busy.symm
    rw [e1] at hr
    exact hr
set_option maxHeartbeats 2000000 in
theorem bo_looks (h : Bo w0 B dg pg g H wz) : Calls Tryz.prog 20 #[.pointer (some ⟨B, 0, none⟩)] wz fun e w' => e = .returned (.bool true) ∧ Below wz.heap.size wz w' := by
  obtain ⟨R, A1, cp1, A2, cp2, hn, hlk⟩ := bo_lk h
  obtain ⟨n, hnn⟩ : ∃ n, R.now.page.length = n := ⟨_, rfl⟩
  rw [hnn] at hn
  have HNN := Lib.hid hnn
  have HN := Lib.hid hn
  have HLK := Lib.hid hlk
  clear h hlk hnn hn
  go_enter Tryz.func20, Tryz.ntmps20
  go_wp2_with fail
  go_loopw [3] (fun s3 wx => ∃ i : Nat, s3 = .int .i64 (i : Int) ∧ i ≤ 8 ∧ Hid (Below wz.heap.size wz wx)) (fun i _ => 8 - (intOf i).toNat)
  case atStart => exact ⟨0, rfl, Nat.zero_le _, Lib.hid (Below.refl _ _)⟩
  case round =>
    obtain ⟨i, rfl, hi, HB⟩ := hrel
    by_cases hlt : i < 8
    · have hl := HLK.out _ HB.out
      have hrc := hl.root i hlt
      have hcl := hl.rootC i hlt
      have c1 := hl.c1
      obtain ⟨r, hr⟩ : ∃ r, R.now.root.getD i 0 = r := ⟨_, rfl⟩
      rw [hr] at hrc hcl
      have HCL := Lib.hid hcl
      have i1 : (i : Int) < 8 := by omega
      have i2 : (0 : Int) ≤ (i : Int) := by omega
      have HLT := Lib.hid hlt
      clear hl hcl hlt hi hr
      go_wp2_with fail
      (with_reducible refine HCL.out.mono ?_)
      rintro e w3 ⟨rfl, rfl⟩
      go_wp2_with fail
      go_roundw
      case rel => exact ⟨i + 1, by go_num, by have := HLT.out; omega, HB⟩
      case measure => have := HLT.out; simp [intOf]; omega
    · have i1 : ¬ (i : Int) < 8 := by omega
      clear hlt hi
      go_wp2_with fail
      go_loopw [6] (fun s6 wy => ∃ j : Nat, s6 = .int .i64 (j : Int) ∧ j ≤ n ∧ Hid (Below wz.heap.size wz wy)) (fun j _ => n - (intOf j).toNat)
      case atStart => exact ⟨0, rfl, Nat.zero_le _, HB⟩
      case round =>
        obtain ⟨j, rfl, hj, HB2⟩ := hrel
        have hl := HLK.out _ HB2.out
        have c1 := hl.c1
        have c13 := hl.c13
        have c14 := hl.c14
        rw [HNN.out] at c13 c14
        by_cases hlt : j < n
        · obtain ⟨k, s, q1, q2, e1, e2, h1, h2, hr⟩ := hl.at_ j (by rw [HNN.out]; exact hlt)
          subst e1 e2
          have HR := Lib.hid hr
          have i3 : (j : Int) < (n : Int) := by omega
          have i4 : (0 : Int) ≤ (j : Int) := by omega
          have HLT := Lib.hid hlt
          have hjb : j ≤ 32 := by have := HN.out; omega
          clear hl hr hlt hj
          go_wp2_with fail
          go_region_held3 (fun w' => w'.cell? ⟨B, 1, none⟩ = some (.pointer (some ⟨pg, 0, none⟩)) ∧ w'.cell? ⟨B, 13, none⟩ = some (.slice (some ⟨q1, 0, none⟩) n cp1) ∧ w'.cell? ⟨q1, j, none⟩ = some (.int .i64 k)) (first | exact ⟨c1, c13, h1⟩ | go_keep)
            (((with_reducible refine HR.out.mono ?_); rintro e w3 ⟨rfl, rfl⟩))
          all_goals
            go_wp2_with fail
            go_roundw
            case rel => exact ⟨j + 1, by go_num, by have := HLT.out; omega, Lib.hid (HB2.out.drew)⟩
            case measure => have := HLT.out; simp [intOf]; omega
        · have i3 : ¬ (j : Int) < (n : Int) := by omega
          have HR8 := Lib.hid hl.root8
          have hus := (HLK.out _ HB2.out.drew).used
          have hbu := (HLK.out _ HB2.out.drew).busy
          have c23 := hl.c23
          rw [HNN.out] at hus
          have HUS := Lib.hid hus
          have HBU := Lib.hid hbu
          obtain ⟨bz, hbz⟩ : ∃ bz, R.busy = bz := ⟨_, rfl⟩
          rw [hbz] at c23 HBU
          clear hl hlt hj hus hbu hbz
          go_wp2_with fail
          (with_reducible refine HR8.out.mono ?_)
          rintro e w3 ⟨rfl, rfl⟩
          go_wp2_with fail
          go_region_held3 (fun w' => w'.cell? ⟨B, 1, none⟩ = some (.pointer (some ⟨pg, 0, none⟩)) ∧ w'.cell? ⟨B, 13, none⟩ = some (.slice A1 n cp1) ∧ w'.cell? ⟨B, 23, none⟩ = some (.bool bz)) (first | exact ⟨c1, c13, c23⟩ | go_keep)
            ((first
              | ((with_reducible refine HUS.out.mono ?_); rintro e w4 ⟨rfl, rfl⟩)
              | ((with_reducible refine HBU.out.mono ?_); rintro e w4 ⟨rfl, rfl⟩)))
          all_goals
            go_wp2_with fail
            go_ret
            exact ⟨rfl, HB2.out.drew⟩
end
end Go.Proofs.YtoleojljpaglhaaGreat
/- The law's play: a script of any steps. -/
set_option maxRecDepth 20000
namespace Go.Proofs.YtoleojljpaglhaaGreat
open Go.RowKit
structure OpV where
  k : Int
  a : Int
  b : Int
def OpV.cells (o : OpV) : Array Value := #[.int .i64 o.k, .int .i64 o.a, .int .i64 o.b]
/-- a script in memory -/
def OpsAt (w : World) (A : Option Addr) (n : Nat) (os : List OpV) : Prop :=
  os.length = n ∧ n ≤ maxLen ∧ ∀ i, (h : i < os.length) → ∃ a, A = some a ∧ a.block < w.heap.size ∧ ((Lit.int .i64 os[i].a).wf = true ∧ (Lit.int .i64 os[i].b).wf = true) ∧ ∀ j v, (os[i].cells)[j]? = some v → w.cell? (a.add (i * 3 + j)) = some v
theorem cell_heap_eq {w W : World} {p : Addr} (h : W.heap[p.block]? = w.heap[p.block]?) : W.cell? p = w.cell? p := by unfold World.cell?; rw [h]
theorem addr_add_add (a : Addr) (i j : Nat) : (a.add i).add j = a.add (i + j) := by
  unfold Addr.add
  by_cases hi : i = 0 <;> by_cases hj : j = 0 <;> simp [hi, hj, Nat.add_assoc]
theorem addr_add_block (a : Addr) (n : Nat) : (a.add n).block = a.block := by unfold Addr.add; split <;> rfl
section
variable {S : Nat → Prop} {w0 w w' wr : World} {B g dg pg : Nat} {H : Kept} {G G' : PH} {d d' : Vd.VD} {L L' : Wa.WL} {P P' : PP}
theorem step_any (h : Bo w0 B dg pg g noH w) (hg : g ≤ 250) (o : OpV) (ha : (Lit.int .i64 o.a).wf = true) (hb : (Lit.int .i64 o.b).wf = true) : Calls Tryz.prog 19 #[.pointer (some ⟨B, 0, none⟩), .agg #[.int .i64 o.k, .int .i64 o.a, .int .i64 o.b]] w (StepP w0 B dg g) := by
  obtain ⟨k, a, b⟩ := o
  simp only at ha hb ⊢
  by_cases h1 : k = 1
  · subst h1; exact step1 h hg a b
  by_cases h2 : k = 2
  · subst h2; exact step2 h hg a b
  by_cases h3 : k = 3
  · subst h3; exact step3 h hg a b
  by_cases h4 : k = 4
  · subst h4; exact step4 h hg a b
  by_cases h5 : k = 5
  · subst h5; exact step5 h hg a b ha
  by_cases h6 : k = 6
  · subst h6; exact step6 h hg a b ha hb
  by_cases h7 : k = 7
  · subst h7; exact step7 h hg a b ha
  by_cases h8 : k = 8
  · subst h8; exact step8 h hg a b ha
  by_cases h9 : k = 9
  · subst h9; exact step9 h hg a b
  exact step0 h k a b (beq_eq_false_iff_ne.2 h1) (beq_eq_false_iff_ne.2 h2) (beq_eq_false_iff_ne.2 h3) (beq_eq_false_iff_ne.2 h4) (beq_eq_false_iff_ne.2 h5) (beq_eq_false_iff_ne.2 h6) (beq_eq_false_iff_ne.2 h7) (beq_eq_false_iff_ne.2 h8) (beq_eq_false_iff_ne.2 h9)
theorem Bo.below (h : Bo w0 B dg pg g H wr) : Below w0.heap.size w0 wr := by
  obtain ⟨G, d, L, P, o, V, R, hS, _⟩ := h.ex
  exact hS.pg.log.bel.toBelow (Nat.le_refl _)
/-- a new disk is opened -/
theorem hopen_new (h : DK (Up w0.heap.size) w0 dg (newVD 487) w) :
    Calls Tryz.prog 8 #[.pointer (some ⟨dg, 0, none⟩), .int .i64 40] w fun e w' => ∃ G d' L', e = .returned (.tuple #[.pointer (some ⟨G.pg, 0, none⟩), .int .i64 0]) ∧ G.dg = dg ∧ PG (Up w0.heap.size) w0 w' G d' L' (openedP 40 noPg 0 zroots) ∧ Pb.HI d' L' (openedP 40 noPg 0 zroots) ∧ L'.gen = 0 ∧ d'.writes ≤ 0 := by
  obtain ⟨fp, hD, hl⟩ := h.ex
  have hC := cold_new 487 40 (by omega) (by omega) (by omega)
  have hgen : Wa.genB (Wa.sec (newVD 487).secs (4 * 40) 0) = ((0 : Nat) : Int) := by
    rcases hC.body with ⟨_, hF, _⟩ | ⟨_, _, hF, _⟩
    · exact hF.gen
    · exact hF.gen
  refine (popen_cold h.bel h.up hD hl hC (by simp [newVD])).mono ?_
  rintro e w' (⟨G', L', d', he, hg, _, hL, hP, hrel, hh⟩ | ⟨_, _, _, _, _, _, _, _, hf⟩ | hrm)
  · have hi := inv_opened hh (wf_none 40) hL (stamps_new 487 40 (by omega)) (by omega) (by omega) (by rw [hrel.len]; simp [newVD])
    refine ⟨G', d', L', he, hg, hP, ⟨hi, hh.q, ?_, hrel.room rfl, hrel.fuse rfl⟩, hL.gen, by have := hrel.wr; simpa [newVD] using this⟩
    have e1 : Wa.sec d'.secs (4 * 40) 0 = Wa.sec (newVD 487).secs (4 * 40) 0 := hh.high (4 * 40 + 0) (by omega)
    show Wa.genB (Wa.sec d'.secs (4 * 40) 0) = _
    rw [e1, hL.gen]
    exact hgen
  · exact absurd rfl hf
  · exact absurd rfl hrm
def RS0 : RS := ⟨[], [], zroots⟩
def RR0 : RR := ⟨RS0, RS0, false, []⟩
def RV0 : RV := ⟨.slice none 0 0, .slice none 0 0, .slice none 0 0, .slice none 0 0, .slice none 0 0⟩
theorem sm_none : Sm noPg zroots 0 RS0 := ⟨rfl, List.nodup_nil, fun i k h => (by cases h), fun k h => (by cases h), rfl, rfl⟩
/-- the law's both as it is made -/
theorem bo_new (h : PG (Up w0.heap.size) w0 w G d L (openedP 40 noPg 0 zroots)) (hI : Pb.HI d L (openedP 40 noPg 0 zroots)) (hg : L.gen = 0) (hw : d.writes ≤ 0) :
    Bo w0 w.heap.size G.dg G.pg 0 noH (w.alloc (.cells (bcl G.dg G.pg RV0 RR0).toArray 59)) := by
  have hlow : w0.heap.size ≤ w.heap.size := h.log.bel.size
  have hob : ∀ q, ¬ Ob RV0 q := by
    rintro q (h | h | h | h | h) <;> cases h
  refine ⟨G, d, L, openedP 40 noPg 0 zroots, none, RV0, RR0, ⟨h.later ((Below.refl _ w).alloc (Nat.le_refl _) _), ⟨Blk.new w _ _, rfl, rfl, ⟨World.ownsRow_nil _ _ _ _, World.ownsRow_nil _ _ _ _, World.ownsRow_nil _ _ _ _, World.ownsRow_nil _ _ _ _, World.ownsRow_nil _ _ _ _, fun q hq => (by cases hq), fun q hq => (by cases hq), fun q hq => (by cases hq)⟩⟩, fun q hq => ?_, hlow, fun q x hx => (by cases hx)⟩, rfl, rfl, rfl, rfl, hI, fun t ht => (by cases ht), sm_none, sm_none, rfl, by omega, by omega, Nat.le_refl _, fun k hk => (by cases hk)⟩
  rcases hq with rfl | hq
  · exact h.fresh_not (Nat.le_refl _) (by simp)
  · exact absurd hq (hob q)
end
end Go.Proofs.YtoleojljpaglhaaGreat
/- The walk of the law's play. -/
set_option maxRecDepth 20000
namespace Go.Proofs.YtoleojljpaglhaaGreat
open Go.RowKit
section
variable {w : World}
theorem play_long (A : Option Addr) (n cap : Nat) (each : Bool) (w : World) (hn : 250 < n) :
    Calls Tryz.prog 6 #[.slice A n cap, .bool each] w fun e w' => e = .returned (.bool true) ∧ Below w.heap.size w w' := by
  have i1 : (250 : Int) < (n : Int) := by omega
  have HAL := Lib.hid (palive_any w)
  clear hn
  go_enter Tryz.func6, Tryz.ntmps6
  go_wp2_with fail
  (with_reducible refine HAL.out.mono ?_)
  rintro e w1 ⟨rfl, hb⟩
  have HB := Lib.hid hb
  clear hb
  go_wp2_with fail
  go_ret
  exact ⟨rfl, HB.out⟩
set_option maxHeartbeats 2000000 in
theorem play_in (A : Option Addr) (n cap : Nat) (os : List OpV) (each : Bool) (w : World) (hA : OpsAt w A n os) (hn : n ≤ 250) :
    Calls Tryz.prog 6 #[.slice A n cap, .bool each] w fun e w' => e = .returned (.bool true) ∧ Below w.heap.size w w' := by
  have i1 : ¬ ((250 : Int) < (n : Int)) := by omega
  have HAL := Lib.hid (palive_any w)
  have HA := Lib.hid hA
  have HNN := Lib.hid hn
  clear hA hn
  go_enter Tryz.func6, Tryz.ntmps6
  go_wp2_with fail
  (with_reducible refine HAL.out.mono ?_)
  rintro e w1 ⟨rfl, hb1⟩
  have hN : Calls Tryz.prog 7 #[.int .i64 487] w1 fun e w' => e = .returned (.tuple #[.pointer (some ⟨w1.heap.size + 2, 0, none⟩), .int .i64 0]) ∧ DiskAt w' (w1.heap.size + 2) w1.heap.size (w1.heap.size + 1) (.slice none 0 0) (newVD 487) ∧ Below w1.heap.size w1 w' := new_in 487 w1 (by omega) (by omega)
  have HN := Lib.hid hN
  have HB1 := Lib.hid hb1
  clear hN hb1
  go_wp2_with fail
  (with_reducible refine HN.out.mono ?_)
  rintro e w2 ⟨rfl, hD, hb2⟩
  have hs1 := HB1.out.size
  have hdk : DK (Up w.heap.size) w (w1.heap.size + 2) (newVD 487) w2 := ⟨⟨_, wnew_df hD, by simp [Up]; omega⟩, KeepS.ofBelow (HB1.out.trans (hb2.mono hs1)), fun _ h => h⟩
  have HO := Lib.hid (hopen_new hdk)
  clear hD hb2 hdk hs1
  go_wp2_with fail
  (with_reducible refine HO.out.mono ?_)
  rintro e w3 ⟨G, d, L, rfl, hg, hP, hI, hg0, hw0⟩
  have h0 := bo_new hP hI hg0 hw0
  rw [hg] at h0
  have H0 : Hid (Bo w w3.heap.size (w1.heap.size + 2) G.pg 0 noH (w3.alloc (.cells #[.pointer (some ⟨w1.heap.size + 2, 0, none⟩), .pointer (some ⟨G.pg, 0, none⟩), .int .i64 40, .slice none 0 0, .slice none 0 0, .int .i64 0, .int .i64 0, .int .i64 0, .int .i64 0, .int .i64 0, .int .i64 0, .int .i64 0, .int .i64 0, .slice none 0 0, .slice none 0 0, .int .i64 0, .int .i64 0, .int .i64 0, .int .i64 0, .int .i64 0, .int .i64 0, .int .i64 0, .int .i64 0, .bool false, .slice none 0 0] 59))) := Lib.hid h0
  clear h0 hP hI hg hg0 hw0
  obtain ⟨B, hB⟩ : ∃ B, w3.heap.size = B := ⟨_, rfl⟩
  rw [hB] at H0
  go_wp2_with fail
  go_loopw [10] (fun s10 wx => ∃ (i : Nat), s10 = .int .i64 (i : Int) ∧ i ≤ n ∧ Hid (∃ pg, Bo w B (w1.heap.size + 2) pg i noH wx)) (fun i _ => n - (intOf i).toNat)
  case atStart => exact ⟨0, rfl, Nat.zero_le _, Lib.hid ⟨_, H0.out⟩⟩
  case round =>
    obtain ⟨i, rfl, hin, HB⟩ := hrel
    by_cases hlt : i < n
    · obtain ⟨pg, hb⟩ := HB.out
      have i3 : (i : Int) < (n : Int) := by omega
      have i0 : (0 : Int) ≤ (i : Int) := by omega
      have hlen : i < os.length := by rw [HA.out.1]; exact hlt
      obtain ⟨ad, hAd, hab, hwf, hcell⟩ := HA.out.2.2 i hlen
      subst hAd
      obtain ⟨c, hc⟩ : ∃ c, os[i] = c := ⟨_, rfl⟩
      rw [hc] at hcell hwf
      have hk : ∀ W, Below w.heap.size w W → ∀ j v, (c.cells)[j]? = some v → W.cell? ((ad.add (i * 3)).add j) = some v := fun W hW j v hj => by
        have h1 := hcell j v hj
        rw [addr_add_add, cell_heap_eq (w := w) (p := ad.add (i * 3 + j)) (by rw [addr_add_block]; exact hW.block ad.block hab)]
        exact h1
      have hk5 := hk wr hb.below
      have m0 : wr.cell? (ad.add (i * 3)) = some (.int .i64 c.k) := hk5 0 _ rfl
      have m1 : wr.cell? ⟨(ad.add (i * 3)).block, (ad.add (i * 3)).off + 1, none⟩ = some (.int .i64 c.a) := hk5 1 _ rfl
      have m2 : wr.cell? ⟨(ad.add (i * 3)).block, (ad.add (i * 3)).off + 2, none⟩ = some (.int .i64 c.b) := hk5 2 _ rfl
      have HST := Lib.hid (step_any hb (by have := HNN.out; omega) c hwf.1 hwf.2)
      have HLT := Lib.hid hlt
      have hib : i ≤ 250 := by have := HNN.out; omega
      have HK := Lib.hid hk
      clear hk5 hk hcell hab hlen hc hwf hb hlt hin
      cases each with
      | true =>
        go_wp2_with fail
        (with_reducible refine HST.out.mono ?_)
        rintro e w6 ⟨rfl, pg6, h6⟩
        have HLO := Lib.hid (bo_looks h6)
        have H6 := Lib.hid h6
        clear h6 m0 m1 m2
        go_wp2_with fail
        (with_reducible refine HLO.out.mono ?_)
        rintro e w7 ⟨rfl, hb7⟩
        have H7 := Lib.hid (H6.out.later hb7)
        clear hb7
        go_wp2_with fail
        go_roundw
        case rel => exact ⟨i + 1, by go_num, by have := HLT.out; omega, Lib.hid ⟨_, H7.out⟩⟩
        case measure => have := HLT.out; simp [intOf]; omega
      | false =>
        cases h10 : (c.k == 10) with
        | true =>
          go_wp2_with fail
          (with_reducible refine HST.out.mono ?_)
          rintro e w6 ⟨rfl, pg6, h6⟩
          have HLO := Lib.hid (bo_looks h6)
          have H6 := Lib.hid h6
          have m6 : w6.cell? (ad.add (i * 3)) = some (.int .i64 c.k) := HK.out w6 h6.below 0 _ rfl
          clear h6 m0 m1 m2
          go_wp2_with fail
          (with_reducible refine HLO.out.mono ?_)
          rintro e w7 ⟨rfl, hb7⟩
          have H7 := Lib.hid (H6.out.later hb7)
          clear hb7 m6
          go_wp2_with fail
          go_roundw
          case rel => exact ⟨i + 1, by go_num, by have := HLT.out; omega, Lib.hid ⟨_, H7.out⟩⟩
          case measure => have := HLT.out; simp [intOf]; omega
        | false =>
          go_wp2_with fail
          (with_reducible refine HST.out.mono ?_)
          rintro e w6 ⟨rfl, pg6, h6⟩
          have H6 := Lib.hid h6
          have m6 : w6.cell? (ad.add (i * 3)) = some (.int .i64 c.k) := HK.out w6 h6.below 0 _ rfl
          clear h6 m0 m1 m2
          go_wp2_with fail
          go_roundw
          case rel => exact ⟨i + 1, by go_num, by have := HLT.out; omega, Lib.hid ⟨_, H6.out⟩⟩
          case measure => have := HLT.out; simp [intOf]; omega
    · have i3 : ¬ (i : Int) < (n : Int) := by omega
      obtain ⟨pg, hb⟩ := HB.out
      have HLO := Lib.hid (bo_looks hb)
      have HBL := Lib.hid hb
      clear hlt hin hb
      go_wp2_with fail
      (with_reducible refine HLO.out.mono ?_)
      rintro e w7 ⟨rfl, hb7⟩
      have HE := Lib.hid (HBL.out.later hb7).below
      clear hb7
      go_wp2_with fail
      go_ret
      exact ⟨rfl, HE.out⟩
theorem play_any (A : Option Addr) (n cap : Nat) (os : List OpV) (each : Bool) (w : World) (hA : OpsAt w A n os) :
    Calls Tryz.prog 6 #[.slice A n cap, .bool each] w fun e w' => e = .returned (.bool true) ∧ Below w.heap.size w w' := by
  by_cases hn : 250 < n
  · exact play_long A n cap each w hn
  · exact play_in A n cap os each w hA (by omega)
theorem pagerPlays_walk (v : Value) (w : World) (h : ∃ A n cap os, v = .slice A n cap ∧ OpsAt w A n os) : Calls Tryz.prog 3 #[v] w fun e w' => e = .returned (.bool true) ∧ Below w.heap.size w w' := by
  obtain ⟨A, n, cap, os, rfl, hA⟩ := h
  have HP := Lib.hid (play_any A n cap os false w hA)
  clear hA
  go_enter Tryz.func3, Tryz.ntmps3
  go_wp2_with fail
  (with_reducible refine HP.out.mono ?_)
  rintro e w1 ⟨rfl, hb⟩
  have HB := Lib.hid hb
  clear hb
  go_wp2_with fail
  go_ret
  exact ⟨rfl, HB.out⟩
theorem pagerAll_walk (v : Value) (w : World) (h : ∃ A n cap os, v = .slice A n cap ∧ OpsAt w A n os) : Calls Tryz.prog 4 #[v] w fun e w' => e = .returned (.bool true) ∧ Below w.heap.size w w' := by
  obtain ⟨A, n, cap, os, rfl, hA⟩ := h
  have HP := Lib.hid (play_any A n cap os true w hA)
  clear hA
  go_enter Tryz.func4, Tryz.ntmps4
  go_wp2_with fail
  (with_reducible refine HP.out.mono ?_)
  rintro e w1 ⟨rfl, hb⟩
  have HB := Lib.hid hb
  clear hb
  go_wp2_with fail
  go_ret
  exact ⟨rfl, HB.out⟩
end
end Go.Proofs.YtoleojljpaglhaaGreat
/- A script opened. The lemma open_slice_fields began as a block of the kit's page extra-structs.md, which gives it to be copied. -/
namespace Go.Proofs.YtoleojljpaglhaaGreat
open Go.ChangeShapes Go.WideShapes Go.Deep Go.RowKit
set_option maxRecDepth 20000
section
variable {H : Type} {enc : TypeId × Value → H} {P : Program} {w : World} {base : Nat} {spare : Nat → Bool} {held : Bool}
theorem open_slice_fields {t e : TypeId} {fs : Array Field} {fuel : Nat} {cs : List Value} {x : DataW H × List MemPlace} (ht : P.underlying t = some (.slice e)) (he : P.underlying e = some (.struct fs))
    (hone : oneCellFields P fs = true) (hC : P.cellsOf e = fs.size) (h : DataW.trod enc P w base spare held fuel t cs = some x) :
    (cs = [.slice none 0 0] ∧ x = (.nil, [])) ∨
    ∃ (a : Addr) (len cap m : Nat) (D : Nat → DataW H) (Pl : Nat → List MemPlace), cs = [.slice (some a) len cap] ∧ base ≤ a.block ∧ len ≤ cap ∧ cap ≤ maxLen ∧ m = (if spare a.block then cap else len) ∧
      x = (.slice ((List.range len).map D) ((List.range (m - len)).map fun j => D (len + j)), MemPlace.row a (m * fs.size) ++ (List.range m).flatMap Pl) ∧
      ∀ i, i < m → ∃ (ys : List (DataW H × List MemPlace)) (n : Nat), D i = .agg (ys.map (·.1)) ∧ Pl i = ys.flatMap (·.2) ∧ ys.length = fs.size ∧
        ∀ (j : Nat) (f : Field), fs[j]? = some f → ∃ (v : Value) (y : DataW H × List MemPlace), w.cell? (a.add (i * fs.size + j)) = some v ∧ ys[j]? = some y ∧ DataW.trod enc P w base spare held n f.type [v] = some y := by
  rcases open_slice ht h with h0 | ⟨a, len, cap, m, n, D, Pl, hcs, hb, hl, hm, hmm, hx, hi⟩
  · exact .inl h0
  · refine .inr ⟨a, len, cap, m, D, Pl, hcs, hb, hl, hm, hmm, by rw [hC] at hx; exact hx, fun i him => ?_⟩
    obtain ⟨cs', hc, ht'⟩ := hi i him
    rw [hC] at hc
    obtain ⟨ys, n', hn', hy, hlen, hyl, hf⟩ := DataW.trod_struct he ht'
    obtain ⟨_, hcl, hat⟩ := World.cells?_some hc
    simp only [Prod.mk.injEq] at hy
    refine ⟨ys, n', hy.1, hy.2, hyl, fun j f hj => ?_⟩
    obtain ⟨ho, hk⟩ := hone_of hone j f hj
    have hjl : j < fs.size := (Array.getElem?_eq_some_iff.1 hj).1
    have hcell := hat j hjl
    have hv : cs'[j]? = some (cs'[j]'(by omega)) := List.getElem?_eq_getElem (by omega)
    have h1 := hf j f hj
    rw [ho, hk] at h1
    have hone' : (cs'.drop j).take 1 = [cs'[j]'(by omega)] := by
      rw [List.drop_eq_getElem_cons (by omega)]
      rfl
    rw [hone'] at h1
    have hys : ys[j]? = some (ys[j]'(by omega)) := List.getElem?_eq_getElem (by omega)
    refine ⟨_, _, ?_, hys, h1.trans hys⟩
    rw [← Go.Deep.add_add, hcell, hv]
end
theorem choose_ops {n : Nat} {p : Nat → OpV → Prop} (h : ∀ i, i < n → ∃ x, p i x) : ∃ f : Nat → OpV, ∀ i, i < n → p i (f i) := by
  classical
  refine ⟨fun i => if hi : i < n then Classical.choose (h i hi) else ⟨0, 0, 0⟩, fun i hi => ?_⟩
  simp only [dif_pos hi]
  exact Classical.choose_spec (h i hi)
theorem wf_i64_le' {n : Int} (h : (Lit.int .i64 n).wf = true) : n ≤ 9223372036854775807 := by
  have h2 : n ≤ IntKind.i64.max := by simp [Lit.wf] at h; exact h.2
  have e : IntKind.i64.max = 9223372036854775807 := by decide
  omega
theorem op_one : oneCellFields Tryz.prog (match Tryz.prog.underlying 62 with | some (.struct fs) => fs | _ => #[]) = true := by kernel_rfl
theorem op_cells : Tryz.prog.cellsOf 62 = 3 := by kernel_rfl
theorem open_opsAt {H : Type} {enc : TypeId × Value → H} {W : World} {b0 : Nat} {v : Value} {d : DataW H} {ps : List MemPlace} (hv : Value.okWide Tryz.prog W .any b0 22 v) (h : DataW.Trod enc Tryz.prog W 0 (fun _ => true) true 22 v d ps) :
    ∃ A n cap cs, v = .slice A n cap ∧ OpsAt W A n cs := by
  obtain ⟨A, n, cap, rfl⟩ := okWide_slice Tryz.underlying22 hv
  obtain ⟨fuel, hf⟩ := h
  rcases open_slice_fields Tryz.underlying22 Tryz.underlying62 op_one op_cells hf with ⟨hcs, _⟩ | ⟨a, len, cap', m, D, Pl, hcs, _, hl, hm, hmm, _, hi⟩
  · simp [Value.cells] at hcs
    obtain ⟨rfl, rfl, rfl⟩ := hcs
    exact ⟨none, 0, 0, [], rfl, rfl, Nat.zero_le _, fun t ht => by simp at ht⟩
  · simp [Value.cells] at hcs
    obtain ⟨rfl, rfl, rfl⟩ := hcs
    simp only [if_true] at hmm
    have hone : ∀ t, t < n → ∃ o : OpV, ((Lit.int .i64 o.a).wf = true ∧ (Lit.int .i64 o.b).wf = true) ∧ ∀ j u, (o.cells)[j]? = some u → W.cell? (a.add (t * 3 + j)) = some u := by
      intro t ht
      obtain ⟨ys, nn, _, _, _, hfld⟩ := hi t (by omega)
      obtain ⟨v0, y0, c0, _, t0⟩ := hfld 0 _ rfl
      obtain ⟨v1, y1, c1, _, t1⟩ := hfld 1 _ rfl
      obtain ⟨v2, y2, c2, _, t2⟩ := hfld 2 _ rfl
      obtain ⟨x0, e0, _, _⟩ := DataW.trod_int Tryz.underlying3 t0
      obtain ⟨x1, e1, _, wf1⟩ := DataW.trod_int Tryz.underlying3 t1
      obtain ⟨x2, e2, _, wf2⟩ := DataW.trod_int Tryz.underlying3 t2
      injection e0 with e0 _
      injection e1 with e1 _
      injection e2 with e2 _
      subst e0 e1 e2
      refine ⟨⟨x0, x1, x2⟩, ⟨wf1, wf2⟩, fun j u hu => ?_⟩
      unfold OpV.cells at hu
      match j, hu with
      | 0, hu => simp at hu; subst hu; exact c0
      | 1, hu => simp at hu; subst hu; exact c1
      | 2, hu => simp at hu; subst hu; exact c2
      | j + 3, hu => simp at hu
    obtain ⟨f, hf2⟩ := (choose_ops hone)
    refine ⟨some a, n, cap, (List.range n).map f, rfl, by simp, by omega, fun t ht => ?_⟩
    have ht' : t < n := by simpa using ht
    have hft := hf2 t ht'
    have e : ((List.range n).map f)[t] = f t := by simp
    rw [e]
    have hcell := hft.2 0 _ rfl
    have hlt := World.block_lt_of_cell? _ _ hcell
    rw [addr_add_block] at hlt
    exact ⟨a, rfl, hlt, hft.1, hft.2⟩
end Go.Proofs.YtoleojljpaglhaaGreat
