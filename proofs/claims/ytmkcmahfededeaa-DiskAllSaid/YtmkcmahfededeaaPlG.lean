/- The walk of the law's play. -/
import Derived.Test.YtmkcmahfededeaaPlF
namespace Go.Proofs.Ytmkcmahfededeaa
open Go.RowKit Go.Maps
attribute [local go_sem ↓] Go.wp_at_zero Go.wp_at_succ
set_option maxRecDepth 100000 in
set_option maxHeartbeats 1000000 in
theorem play_out (z : Int) (A : Option Addr) (n cap : Nat) (ea : Bool) (w : World) (h : 300 < n ∨ (100 < z ∧ z ≤ 65536)) : Calls Try.prog 22 #[.int .i64 z, .slice A n cap, .bool ea] w fun e w' => e = .returned (.bool true) ∧ Below w.heap.size w w' := by
  have hal := alive_any w
  by_cases h1 : (300 : Int) < (n : Int)
  · have h1' : 300 < n := by omega
    clear h
    go_enter Try.func22, Try.ntmps22
    go_wp2_with fail
    with_reducible refine hal.mono ?_
    rintro e w1 ⟨rfl, hb⟩
    go_wp2_with fail
    go_ret
    exact ⟨rfl, hb⟩
  · have h1' : ¬ 300 < n := by omega
    have h2 : 100 < z := by omega
    have h3 : z ≤ 65536 := by omega
    have h2' : decide (100 < z) = true := decide_eq_true h2
    have h3' : decide (z ≤ 65536) = true := decide_eq_true h3
    clear h
    go_enter Try.func22, Try.ntmps22
    go_wp2_with fail
    with_reducible refine hal.mono ?_
    rintro e w1 ⟨rfl, hb⟩
    go_wp2_with fail
    go_ret
    exact ⟨rfl, hb⟩
set_option maxRecDepth 100000 in
set_option maxHeartbeats 1000000 in
theorem play_bad (z : Int) (A : Option Addr) (n cap : Nat) (ea : Bool) (w : World) (hn : n ≤ 300) (h : z < 1 ∨ 65536 < z) : Calls Try.prog 22 #[.int .i64 z, .slice A n cap, .bool ea] w fun e w' => e = .returned (.bool true) ∧ Below w.heap.size w w' := by
  have h1 : ¬ (300 : Int) < (n : Int) := by omega
  have h1' : ¬ 300 < n := by omega
  have HN := Lib.hid h
  by_cases h2 : 100 < z
  case' pos =>
    have h2' : decide (100 < z) = true := decide_eq_true h2
    have h3' : decide (z ≤ 65536) = false := decide_eq_false (by omega)
    have h3 : ¬ z ≤ 65536 := by omega
    clear h
    go_enter Try.func22, Try.ntmps22
    go_wp2_with fail
  case' neg =>
    have h2' : decide (100 < z) = false := decide_eq_false h2
    clear h
    go_enter Try.func22, Try.ntmps22
    go_wp2_with fail
  all_goals
    with_reducible refine (alive_any _).mono ?_
    rintro e w1 ⟨rfl, hb⟩
    go_wp2_with fail
    with_reducible refine (new_no z _ HN.out).mono ?_
    rintro e w2 ⟨rfl, rfl⟩
    go_wp2_with fail
    with_reducible refine (refNew_no z _ HN.out).mono ?_
    rintro e w2 ⟨rfl, rfl⟩
    go_wp2_with fail
    go_ret
    exact ⟨rfl, hb⟩
theorem cellOff {w : World} {g i j : Nat} {u v : Value} (h : i ≠ j) (k : w.cell? ⟨g, i, none⟩ = some u) : (w.setCell ⟨g, j, none⟩ v).cell? ⟨g, i, none⟩ = some u := by
  rw [World.cell?_setCell_other _ _ _ _ (by intro e; injection e with _ e; exact h e.symm)]; exact k
theorem PS.c4 {B HL HM g0 g1 r0 r1 : Nat} {w0 w : World} {d0 d1 : Vd.VD} (h : PS B w0 HL HM g0 g1 r0 r1 d0 d1 w) : w.cell? ⟨HL, 0, none⟩ = some (.pointer (some ⟨g0, 0, none⟩)) ∧ w.cell? ⟨HL, 1, none⟩ = some (.pointer (some ⟨g1, 0, none⟩)) ∧ w.cell? ⟨HM, 0, none⟩ = some (.pointer (some ⟨r0, 0, none⟩)) ∧ w.cell? ⟨HM, 1, none⟩ = some (.pointer (some ⟨r1, 0, none⟩)) := ⟨h.cells.1.cell 0, h.cells.1.cell 1, h.cells.2.cell 0, h.cells.2.cell 1⟩
theorem add_one' (X : Addr) : X.add 1 = ⟨X.block, X.off + 1, none⟩ := rfl
/-- what holds at the head of play's loop -/
def PlRel (w : World) (B HL HM n : Nat) (i : Value) (wr : World) : Prop :=
  ∃ (k g0 g1 r0 r1 : Nat) (d0 d1 : Vd.VD), k ≤ n ∧ i = .int .i64 k ∧ d0.writes ≤ k ∧ d1.writes ≤ k ∧ PS B w HL HM g0 g1 r0 r1 d0 d1 wr
theorem plrel_mk {w wr : World} {B HL HM n k g0 g1 r0 r1 : Nat} {d0 d1 : Vd.VD} (h : PS B w HL HM g0 g1 r0 r1 d0 d1 wr) (hk : k < n) (h0 : d0.writes ≤ ((k + 1 : Nat) : Int)) (h1 : d1.writes ≤ ((k + 1 : Nat) : Int)) : PlRel w B HL HM n (.int .i64 ((k : Int) + 1)) wr :=
  ⟨k + 1, g0, g1, r0, r1, d0, d1, hk, by go_num, h0, h1, h⟩
set_option maxRecDepth 100000 in
set_option maxHeartbeats 4000000 in
theorem play_in (z : Nat) (A : Option Addr) (n cap : Nat) (ea : Bool) (ops : List OpV) (w : World) (hA : OpsAt w A n ops) (hn : n ≤ 300) (h1 : 1 ≤ z) (h2 : z ≤ 100) : Calls Try.prog 22 #[.int .i64 (z : Int), .slice A n cap, .bool ea] w fun e w' => e = .returned (.bool true) ∧ Below w.heap.size w w' := by
  have q1 : ¬ (300 : Int) < (n : Int) := by omega
  have q1' : ¬ 300 < n := by omega
  have q2 : decide ((100 : Int) < (z : Int)) = false := decide_eq_false (by omega)
  have q2' : decide (100 < z) = false := decide_eq_false (by omega)
  have HA := Lib.hid hA
  clear hA
  go_enter Try.func22, Try.ntmps22
  go_wp2_with fail
  with_reducible refine (alive_any _).mono ?_
  rintro e wa ⟨rfl, hba⟩
  have Hba := Lib.hid hba
  clear hba
  go_wp2_with fail
  with_reducible refine (new_db z (Nat.le_refl _) (Below.refl _ _) h1 (by omega)).mono ?_
  rintro e w1 ⟨rfl, hD1⟩
  have HD1 := Lib.hid hD1
  clear hD1
  go_wp2_with fail
  with_reducible refine (refNew z _ h1 (by omega)).mono ?_
  rintro e w2 ⟨r, fr, rfl, hR2, hfr, hb2⟩
  have HR2 := Lib.hid hR2
  have Hfr := Lib.hid hfr
  have Hb2 := Lib.hid hb2
  clear hR2 hfr hb2
  go_wp2_with fail
  have hDF2 : ∃ fp, DF w2 (wa.heap.size + 2) (newVD z) fp := by
    obtain ⟨_, _, fp, hF, _⟩ := HD1.out
    exact ⟨fp, hF.below Hb2.out⟩
  obtain ⟨fpd, hDF2⟩ := hDF2
  have htw := twin_any hDF2 (by simp [newVD])
  have HDF2 := Lib.hid hDF2
  clear hDF2
  with_reducible refine htw.mono ?_
  rintro e w3 ⟨gt, sc, sr, ft, rfl, hT, hft, hb3⟩
  have HT := Lib.hid hT
  have Hft := Lib.hid hft
  have Hb3 := Lib.hid hb3
  have hrt := refTwin (HR2.out.below hb3) (by simp [newVD])
  clear hT hft hb3 htw
  go_wp2_with fail
  with_reducible refine hrt.mono ?_
  rintro e w4 ⟨rt, fq, rfl, hQ, hfq, hb4⟩
  have hst := ps_start HD1.out HR2.out Hfr.out Hb2.out HT.out Hft.out Hb3.out hQ hfq hb4
  have HSt := Lib.hid hst
  clear hst hrt hQ hfq hb4 HT Hft Hb3 HR2 Hfr Hb2 HD1 HDF2
  go_wp2_with fail
  have hst := HSt.out
  obtain ⟨W, hW⟩ : ∃ W, W = ((w4.alloc (.cells #[.pointer (some ⟨wa.heap.size + 2, 0, none⟩), .pointer (some ⟨gt, 0, none⟩)] 64)).alloc (.cells #[.pointer (some ⟨r, 0, none⟩), .pointer (some ⟨rt, 0, none⟩)] 66)) := ⟨_, rfl⟩
  obtain ⟨HL, hHL⟩ : ∃ HL, HL = w4.heap.size := ⟨_, rfl⟩
  obtain ⟨HM, hHM⟩ : ∃ HM, HM = HL + 1 := ⟨_, rfl⟩
  rw [← hW, ← hHL, ← hHM] at hst
  rw [← hW, ← hHL, ← hHM]
  have HSt2 := Lib.hid hst
  clear hW HSt hst hHL hHM
  go_loopw [13] (fun i wr => PlRel wa wa.heap.size HL HM n i wr) (fun i _ => n - (intOf i).toNat)
  case atStart => exact ⟨0, _, _, _, _, _, _, Nat.zero_le _, rfl, by simp [newVD], by simp [newVD], HSt2.out⟩
  case round =>
    clear HSt2
    obtain ⟨k, g0, g1, r0, r1, d0, d1, hk, rfl, hw0, hw1, hP⟩ := hrel
    by_cases hlt : k < n
    · have hlt' : k < ops.length := by rw [HA.out.1]; exact hlt
      obtain ⟨ad, hAd, hadb, hcells, hos, hoa⟩ := HA.out.2.2 k hlt'
      subst hAd
      have hbw : Below wa.heap.size wa wr := hP.toBelow
      have hcr : ∀ j v, (ops[k].cells)[j]? = some v → wr.cell? (ad.add (k * 6 + j)) = some v := fun j v hv => by
        rw [hbw.cell (by rw [block_of_add']; have := Hba.out.size; omega), Hba.out.cell (by rw [block_of_add']; exact hadb)]
        exact hcells j v hv
      obtain ⟨o, ho⟩ : ∃ o, ops[k] = o := ⟨_, rfl⟩
      rw [ho] at hcr hos hoa
      have hop := opOf_eq (w := wr) (ad := ad.add (k * 6)) (o := o) (fun j v hv => by rw [add_of_add]; exact hcr j v hv)
      obtain ⟨hop1, hop2⟩ := hop
      obtain ⟨ok, ou, oa, ob, oq, os⟩ := o
      have m0 : wr.cell? (ad.add (k * 6)) = some (.int .i64 ok) := hcr 0 _ rfl
      have m1 : wr.cell? ⟨(ad.add (k * 6)).block, (ad.add (k * 6)).off + 1, none⟩ = some (.int .i64 ou) := by rw [← add_one', add_of_add]; exact hcr 1 _ rfl
      have ha1 := and1 ou
      have i0 : (0 : Int) ≤ (k : Int) := by omega
      have i1 : (k : Int) < (n : Int) := by omega
      simp only [OpV.cells] at hop2
      simp only at hos hoa
      have HP := Lib.hid hP
      have Hop1 := Lib.hid hop1
      have Hop2 := Lib.hid hop2
      have HOp : Hid (∀ W : World, Below wa.heap.size wa W → W.cell? (ad.add (k * 6)) = some (.int .i64 ok) ∧ W.cell? ⟨(ad.add (k * 6)).block, (ad.add (k * 6)).off + 1, none⟩ = some (.int .i64 ou) ∧ W.cell? ⟨(ad.add (k * 6)).block, (ad.add (k * 6)).off + 2, none⟩ = some (.int .i64 oa) ∧ W.cell? ⟨(ad.add (k * 6)).block, (ad.add (k * 6)).off + 3, none⟩ = some (.int .i64 ob) ∧ W.cell? ⟨(ad.add (k * 6)).block, (ad.add (k * 6)).off + 4, none⟩ = some (.int .i64 oq) ∧ W.cell? ⟨(ad.add (k * 6)).block, (ad.add (k * 6)).off + 5, none⟩ = some (.string os)) := Lib.hid (fun W hbW => by
        have hall : ∀ j v, ((⟨ok, ou, oa, ob, oq, os⟩ : OpV).cells)[j]? = some v → W.cell? ((ad.add (k * 6)).add j) = some v := fun j v hv => by
          rw [add_of_add, hbW.cell (by rw [block_of_add']; have := Hba.out.size; omega), Hba.out.cell (by rw [block_of_add']; exact hadb)]
          exact hcells j v (by rw [ho]; exact hv)
        exact ⟨hall 0 _ rfl, hall 1 _ rfl, hall 2 _ rfl, hall 3 _ rfl, hall 4 _ rfl, hall 5 _ rfl⟩)
      clear ho hcells hcr hP hop1 hop2 hbw Hop1 Hop2
      rcases (by omega : ou % 2 = 0 ∨ ou % 2 = 1) with hwho | hwho
      case' inl =>
        rw [hwho] at ha1
        by_cases h9 : ok = 9
        case' pos =>
          have e9 : (ok == 9) = true := by rw [h9]; simp
          clear h9 hwho
          have hw10 : IntKind.i64.wrap 1 = 1 := IntWalk.i64_in _ (by omega)
          have hw00 : IntKind.i64.wrap 0 = 0 := IntWalk.i64_in _ (by omega)
          obtain ⟨c, hC⟩ := HP.out
          obtain ⟨fd, hD, hfd⟩ := hC.D0
          obtain ⟨fe, hE, hfe⟩ := hC.R0
          have hq0 := HP.out.q0
          have htw := twin_any (hD.only ((Only.refl [] _).drew) (by simp)) (by omega)
          have hHLl := hC.l.lt
          have hHMl := hC.m.lt
          have hLM : HL ≠ HM := hC.l.ne_ hC.m (by decide)
          have x0 : wr.cell? ⟨HL, 0, none⟩ = some (.pointer (some ⟨g0, 0, none⟩)) := hC.l.cell 0
          have x1 : wr.cell? ⟨HL, 1, none⟩ = some (.pointer (some ⟨g1, 0, none⟩)) := hC.l.cell 1
          have y0 : wr.cell? ⟨HM, 0, none⟩ = some (.pointer (some ⟨r0, 0, none⟩)) := hC.m.cell 0
          have y1 : wr.cell? ⟨HM, 1, none⟩ = some (.pointer (some ⟨r1, 0, none⟩)) := hC.m.cell 1
          have z1 := hC.l.frozen 1
          have z2 := hC.m.frozen 1
          have HLE : Hid (∀ (W : World) (v : Value), Below wr.heap.size wr W → RF (W.setCell ⟨HL, 1, none⟩ v) r0 d0 fe) := Lib.hid (fun W v hb => (hE.below hb).only ((Only.refl [HL] _).setCell (p := ⟨HL, 1, none⟩) (.inl (by simp)) _) (fun b hb2 => by
            have h1 := (hfe b hb2).1
            have h2 := hC.cl
            simp only [List.mem_singleton]
            rintro rfl
            omega))
          have HTw := Lib.hid htw
          have HC := Lib.hid hC
          have HE := Lib.hid hE
          clear htw hD hfd hfe hE hC
          go_wp2_with fail
          go_region_held3 (fun w' => w'.cell? ⟨HL, 0, none⟩ = some (.pointer (some ⟨g0, 0, none⟩)) ∧ w'.cell? ⟨HM, 0, none⟩ = some (.pointer (some ⟨r0, 0, none⟩))) (first | exact ⟨x0, y0⟩ | exact ⟨k0, l0⟩ | exact ⟨k20, l20⟩ | exact ⟨cellOff (by decide) k20, cell_farZ hLM l20⟩ | exact ⟨cell_farZ hLM.symm (cellOff (by decide) k20), cellOff (by decide) (cell_farZ hLM l20)⟩ | exact ⟨cellOff (by decide) k0, cell_farZ hLM l0⟩ | exact ⟨cell_farZ hLM.symm k20, cellOff (by decide) l20⟩ | go_keep)
            ((first
              | ((with_reducible refine HTw.out.mono ?_); rintro e w5 ⟨g5, sc5, sr5, f5, rfl, hT, hft, hb5⟩; have hb5' : Below wr.heap.size wr w5 := (Below.refl _ _).drew.trans hb5; have k0 := (hb5'.cell (p := ⟨HL, 0, none⟩) hHLl).trans x0; have l0 := (hb5'.cell (p := ⟨HM, 0, none⟩) hHMl).trans y0; have k1 := (hb5'.cell (p := ⟨HL, 1, none⟩) hHLl).trans x1; have l1 := (hb5'.cell (p := ⟨HM, 1, none⟩) hHMl).trans y1; have fk := (hb5'.frozen (p := ⟨HL, 1, none⟩) hHLl).trans z1; have fl := (hb5'.frozen (p := ⟨HM, 1, none⟩) hHMl).trans z2; have hs5 : wr.heap.size ≤ w5.heap.size := hb5'.size; have HT := Lib.hid hT; have Hft := Lib.hid hft; have Hb5 := Lib.hid hb5'; clear hT hft hb5 hb5')
              | ((with_reducible refine (refTwin (HE.out.below Hb5.out) (by omega)).mono ?_); rintro e w6 ⟨r6, f6, rfl, hQ, hfq, hb6⟩; have k20 := (hb6.cell (p := ⟨HL, 0, none⟩) (show HL < w5.heap.size by omega)).trans k0; have l20 := (hb6.cell (p := ⟨HM, 0, none⟩) (show HM < w5.heap.size by omega)).trans l0; have k21 := (hb6.cell (p := ⟨HL, 1, none⟩) (show HL < w5.heap.size by omega)).trans k1; have l21 := (hb6.cell (p := ⟨HM, 1, none⟩) (show HM < w5.heap.size by omega)).trans l1; have fk2 := (hb6.frozen (p := ⟨HL, 1, none⟩) (show HL < w5.heap.size by omega)).trans fk; have fl2 := (hb6.frozen (p := ⟨HM, 1, none⟩) (show HM < w5.heap.size by omega)).trans fl; have HPS := Lib.hid (HC.out.twin0 Hb5.out hb6 HT.out Hft.out hQ hfq); clear hQ hfq hb6)
              | ((with_reducible refine (refTwin (HLE.out w5 (.pointer (some ⟨g5, 0, none⟩)) Hb5.out) (by omega)).mono ?_); rintro e w6 ⟨r6, f6, rfl, hQ, hfq, hb6⟩; have hsz : (w5.setCell ⟨HL, 1, none⟩ (.pointer (some ⟨g5, 0, none⟩))).heap.size = w5.heap.size := by { simp [World.setCell] }; rw [hsz] at hb6 hfq; have k20 := (hb6.cell (p := ⟨HL, 0, none⟩) (show HL < w5.heap.size by omega)).trans (show (w5.setCell ⟨HL, 1, none⟩ (.pointer (some ⟨g5, 0, none⟩))).cell? ⟨HL, 0, none⟩ = _ by { rw [World.cell?_setCell_other _ _ _ _ (by simp)]; exact k0 }); have l20 := (hb6.cell (p := ⟨HM, 0, none⟩) (show HM < w5.heap.size by omega)).trans (cell_farZ hLM l0); have l21 := (hb6.cell (p := ⟨HM, 1, none⟩) (show HM < w5.heap.size by omega)).trans (cell_farZ hLM l1); have fl2 := (hb6.frozen (p := ⟨HM, 1, none⟩) (show HM < w5.heap.size by omega)).trans (show (w5.setCell ⟨HL, 1, none⟩ (.pointer (some ⟨g5, 0, none⟩))).frozen? ⟨HM, 1, none⟩ = false by { rw [World.frozen?_setCell]; exact fl }); have HPS := Lib.hid (HC.out.twinB0 Hb5.out hb6 HT.out Hft.out hQ hfq); clear hQ hfq hb6 hsz)))
          all_goals
            clear x0 x1 y0 y1 z1 z2 k0 l0 k1 l1 fk fl k20 l20 l21 fl2 hw10 hw00 HC HE HLE HTw HT Hft Hb5
            have hwa : d0.writes ≤ ((k + 1 : Nat) : Int) := by omega
            have hwb : ({ d0 with sc := sc5, sr := sr5 } : Vd.VD).writes ≤ ((k + 1 : Nat) : Int) := by { show d0.writes ≤ _; omega }
            generalize hV : ((w6.setCell ⟨HL, 1, none⟩ (.pointer (some ⟨g5, 0, none⟩))).setCell ⟨HM, 1, none⟩ (.pointer (some ⟨r6, 0, none⟩))) = V at HPS ⊢
            clear hV
        case' neg =>
          have e9 : (ok == 9) = false := by simpa using h9
          clear h9 hwho m0 m1
          have hcl := HP.out.cells
          have x0 : wr.cell? ⟨HL, 0, none⟩ = some (.pointer (some ⟨g0, 0, none⟩)) := hcl.1.cell 0
          have y0 : wr.cell? ⟨HM, 0, none⟩ = some (.pointer (some ⟨r0, 0, none⟩)) := hcl.2.cell 0
          have hst := (HP.out.later ((Below.refl _ _).drew)).step0 (by omega) ok ou oa ob oq os hos hoa
          unfold opc at hst
          obtain ⟨n0, n1, n2, n3, n4, n5⟩ := HOp.out wr HP.out.toBelow
          have HSt := Lib.hid hst
          clear hst hcl
          go_wp2_with fail
          go_region_held3 (fun w' => w'.cell? ⟨HL, 0, none⟩ = some (.pointer (some ⟨g0, 0, none⟩)) ∧ w'.cell? ⟨HM, 0, none⟩ = some (.pointer (some ⟨r0, 0, none⟩)) ∧ w'.cell? (ad.add (k * 6)) = some (.int .i64 ok) ∧ w'.cell? ⟨(ad.add (k * 6)).block, (ad.add (k * 6)).off + 1, none⟩ = some (.int .i64 ou) ∧ w'.cell? ⟨(ad.add (k * 6)).block, (ad.add (k * 6)).off + 2, none⟩ = some (.int .i64 oa) ∧ w'.cell? ⟨(ad.add (k * 6)).block, (ad.add (k * 6)).off + 3, none⟩ = some (.int .i64 ob) ∧ w'.cell? ⟨(ad.add (k * 6)).block, (ad.add (k * 6)).off + 4, none⟩ = some (.int .i64 oq) ∧ w'.cell? ⟨(ad.add (k * 6)).block, (ad.add (k * 6)).off + 5, none⟩ = some (.string os)) (first | exact ⟨x0, y0, n0, n1, n2, n3, n4, n5⟩ | exact ⟨k0, l0, p1⟩ | go_keep)
            ((first
              | ((with_reducible refine HSt.out.mono ?_); rintro e w5 ⟨rfl, dz, hdz, hPz⟩; have k0 : w5.cell? ⟨HL, 0, none⟩ = some (.pointer (some ⟨g0, 0, none⟩)) := hPz.cells.1.cell 0; have l0 : w5.cell? ⟨HM, 0, none⟩ = some (.pointer (some ⟨r0, 0, none⟩)) := hPz.cells.2.cell 0; have p1 := HOp.out w5 hPz.toBelow; have HPS := Lib.hid hPz; have Hdz := Lib.hid hdz; clear hPz hdz)))
          all_goals
            clear x0 y0 k0 l0 p1 n0 n1 n2 n3 n4 n5 HSt
            have hwa : dz.writes ≤ ((k + 1 : Nat) : Int) := by { have := Hdz.out; omega }
            have hwb : d1.writes ≤ ((k + 1 : Nat) : Int) := by omega
      case' inr =>
        rw [hwho] at ha1
        by_cases h9 : ok = 9
        case' pos =>
          have e9 : (ok == 9) = true := by rw [h9]; simp
          clear h9 hwho
          have hw10 : IntKind.i64.wrap 1 = 1 := IntWalk.i64_in _ (by omega)
          have hw00 : IntKind.i64.wrap 0 = 0 := IntWalk.i64_in _ (by omega)
          obtain ⟨c, hC⟩ := HP.out
          obtain ⟨fd, hD, hfd⟩ := hC.D1
          obtain ⟨fe, hE, hfe⟩ := hC.R1
          have hq0 := HP.out.q1
          have htw := twin_any (hD.only ((Only.refl [] _).drew) (by simp)) (by omega)
          have hHLl := hC.l.lt
          have hHMl := hC.m.lt
          have hLM : HL ≠ HM := hC.l.ne_ hC.m (by decide)
          have x0 : wr.cell? ⟨HL, 1, none⟩ = some (.pointer (some ⟨g1, 0, none⟩)) := hC.l.cell 1
          have x1 : wr.cell? ⟨HL, 0, none⟩ = some (.pointer (some ⟨g0, 0, none⟩)) := hC.l.cell 0
          have y0 : wr.cell? ⟨HM, 1, none⟩ = some (.pointer (some ⟨r1, 0, none⟩)) := hC.m.cell 1
          have y1 : wr.cell? ⟨HM, 0, none⟩ = some (.pointer (some ⟨r0, 0, none⟩)) := hC.m.cell 0
          have z1 := hC.l.frozen 0
          have z2 := hC.m.frozen 0
          have HLE : Hid (∀ (W : World) (v : Value), Below wr.heap.size wr W → RF (W.setCell ⟨HL, 0, none⟩ v) r1 d1 fe) := Lib.hid (fun W v hb => (hE.below hb).only ((Only.refl [HL] _).setCell (p := ⟨HL, 0, none⟩) (.inl (by simp)) _) (fun b hb2 => by
            have h1 := (hfe b hb2).1
            have h2 := hC.cl
            simp only [List.mem_singleton]
            rintro rfl
            omega))
          have HTw := Lib.hid htw
          have HC := Lib.hid hC
          have HE := Lib.hid hE
          clear htw hD hfd hfe hE hC
          go_wp2_with fail
          go_region_held3 (fun w' => w'.cell? ⟨HL, 1, none⟩ = some (.pointer (some ⟨g1, 0, none⟩)) ∧ w'.cell? ⟨HM, 1, none⟩ = some (.pointer (some ⟨r1, 0, none⟩))) (first | exact ⟨x0, y0⟩ | exact ⟨k0, l0⟩ | exact ⟨k20, l20⟩ | exact ⟨cellOff (by decide) k20, cell_farZ hLM l20⟩ | exact ⟨cell_farZ hLM.symm (cellOff (by decide) k20), cellOff (by decide) (cell_farZ hLM l20)⟩ | exact ⟨cellOff (by decide) k0, cell_farZ hLM l0⟩ | exact ⟨cell_farZ hLM.symm k20, cellOff (by decide) l20⟩ | go_keep)
            ((first
              | ((with_reducible refine HTw.out.mono ?_); rintro e w5 ⟨g5, sc5, sr5, f5, rfl, hT, hft, hb5⟩; have hb5' : Below wr.heap.size wr w5 := (Below.refl _ _).drew.trans hb5; have k0 := (hb5'.cell (p := ⟨HL, 1, none⟩) hHLl).trans x0; have l0 := (hb5'.cell (p := ⟨HM, 1, none⟩) hHMl).trans y0; have k1 := (hb5'.cell (p := ⟨HL, 0, none⟩) hHLl).trans x1; have l1 := (hb5'.cell (p := ⟨HM, 0, none⟩) hHMl).trans y1; have fk := (hb5'.frozen (p := ⟨HL, 0, none⟩) hHLl).trans z1; have fl := (hb5'.frozen (p := ⟨HM, 0, none⟩) hHMl).trans z2; have hs5 : wr.heap.size ≤ w5.heap.size := hb5'.size; have HT := Lib.hid hT; have Hft := Lib.hid hft; have Hb5 := Lib.hid hb5'; clear hT hft hb5 hb5')
              | ((with_reducible refine (refTwin (HE.out.below Hb5.out) (by omega)).mono ?_); rintro e w6 ⟨r6, f6, rfl, hQ, hfq, hb6⟩; have k20 := (hb6.cell (p := ⟨HL, 1, none⟩) (show HL < w5.heap.size by omega)).trans k0; have l20 := (hb6.cell (p := ⟨HM, 1, none⟩) (show HM < w5.heap.size by omega)).trans l0; have k21 := (hb6.cell (p := ⟨HL, 0, none⟩) (show HL < w5.heap.size by omega)).trans k1; have l21 := (hb6.cell (p := ⟨HM, 0, none⟩) (show HM < w5.heap.size by omega)).trans l1; have fk2 := (hb6.frozen (p := ⟨HL, 0, none⟩) (show HL < w5.heap.size by omega)).trans fk; have fl2 := (hb6.frozen (p := ⟨HM, 0, none⟩) (show HM < w5.heap.size by omega)).trans fl; have HPS := Lib.hid (HC.out.twin1 Hb5.out hb6 HT.out Hft.out hQ hfq); clear hQ hfq hb6)
              | ((with_reducible refine (refTwin (HLE.out w5 (.pointer (some ⟨g5, 0, none⟩)) Hb5.out) (by omega)).mono ?_); rintro e w6 ⟨r6, f6, rfl, hQ, hfq, hb6⟩; have hsz : (w5.setCell ⟨HL, 0, none⟩ (.pointer (some ⟨g5, 0, none⟩))).heap.size = w5.heap.size := by { simp [World.setCell] }; rw [hsz] at hb6 hfq; have k20 := (hb6.cell (p := ⟨HL, 1, none⟩) (show HL < w5.heap.size by omega)).trans (show (w5.setCell ⟨HL, 0, none⟩ (.pointer (some ⟨g5, 0, none⟩))).cell? ⟨HL, 1, none⟩ = _ by { rw [World.cell?_setCell_other _ _ _ _ (by simp)]; exact k0 }); have l20 := (hb6.cell (p := ⟨HM, 1, none⟩) (show HM < w5.heap.size by omega)).trans (cell_farZ hLM l0); have l21 := (hb6.cell (p := ⟨HM, 0, none⟩) (show HM < w5.heap.size by omega)).trans (cell_farZ hLM l1); have fl2 := (hb6.frozen (p := ⟨HM, 0, none⟩) (show HM < w5.heap.size by omega)).trans (show (w5.setCell ⟨HL, 0, none⟩ (.pointer (some ⟨g5, 0, none⟩))).frozen? ⟨HM, 0, none⟩ = false by { rw [World.frozen?_setCell]; exact fl }); have HPS := Lib.hid (HC.out.twinB1 Hb5.out hb6 HT.out Hft.out hQ hfq); clear hQ hfq hb6 hsz)))
          all_goals
            clear x0 x1 y0 y1 z1 z2 k0 l0 k1 l1 fk fl k20 l20 l21 fl2 hw10 hw00 HC HE HLE HTw HT Hft Hb5
            have hwa : d1.writes ≤ ((k + 1 : Nat) : Int) := by omega
            have hwb : ({ d1 with sc := sc5, sr := sr5 } : Vd.VD).writes ≤ ((k + 1 : Nat) : Int) := by { show d1.writes ≤ _; omega }
            generalize hV : ((w6.setCell ⟨HL, 0, none⟩ (.pointer (some ⟨g5, 0, none⟩))).setCell ⟨HM, 0, none⟩ (.pointer (some ⟨r6, 0, none⟩))) = V at HPS ⊢
            clear hV
        case' neg =>
          have e9 : (ok == 9) = false := by simpa using h9
          clear h9 hwho m0 m1
          have hcl := HP.out.cells
          have x0 : wr.cell? ⟨HL, 1, none⟩ = some (.pointer (some ⟨g1, 0, none⟩)) := hcl.1.cell 1
          have y0 : wr.cell? ⟨HM, 1, none⟩ = some (.pointer (some ⟨r1, 0, none⟩)) := hcl.2.cell 1
          have hst := (HP.out.later ((Below.refl _ _).drew)).step1 (by omega) ok ou oa ob oq os hos hoa
          unfold opc at hst
          obtain ⟨n0, n1, n2, n3, n4, n5⟩ := HOp.out wr HP.out.toBelow
          have HSt := Lib.hid hst
          clear hst hcl
          go_wp2_with fail
          go_region_held3 (fun w' => w'.cell? ⟨HL, 1, none⟩ = some (.pointer (some ⟨g1, 0, none⟩)) ∧ w'.cell? ⟨HM, 1, none⟩ = some (.pointer (some ⟨r1, 0, none⟩)) ∧ w'.cell? (ad.add (k * 6)) = some (.int .i64 ok) ∧ w'.cell? ⟨(ad.add (k * 6)).block, (ad.add (k * 6)).off + 1, none⟩ = some (.int .i64 ou) ∧ w'.cell? ⟨(ad.add (k * 6)).block, (ad.add (k * 6)).off + 2, none⟩ = some (.int .i64 oa) ∧ w'.cell? ⟨(ad.add (k * 6)).block, (ad.add (k * 6)).off + 3, none⟩ = some (.int .i64 ob) ∧ w'.cell? ⟨(ad.add (k * 6)).block, (ad.add (k * 6)).off + 4, none⟩ = some (.int .i64 oq) ∧ w'.cell? ⟨(ad.add (k * 6)).block, (ad.add (k * 6)).off + 5, none⟩ = some (.string os)) (first | exact ⟨x0, y0, n0, n1, n2, n3, n4, n5⟩ | exact ⟨k0, l0, p1⟩ | go_keep)
            ((first
              | ((with_reducible refine HSt.out.mono ?_); rintro e w5 ⟨rfl, dz, hdz, hPz⟩; have k0 : w5.cell? ⟨HL, 1, none⟩ = some (.pointer (some ⟨g1, 0, none⟩)) := hPz.cells.1.cell 1; have l0 : w5.cell? ⟨HM, 1, none⟩ = some (.pointer (some ⟨r1, 0, none⟩)) := hPz.cells.2.cell 1; have p1 := HOp.out w5 hPz.toBelow; have HPS := Lib.hid hPz; have Hdz := Lib.hid hdz; clear hPz hdz)))
          all_goals
            clear x0 y0 k0 l0 p1 n0 n1 n2 n3 n4 n5 HSt
            have hwa : dz.writes ≤ ((k + 1 : Nat) : Int) := by { have := Hdz.out; omega }
            have hwb : d0.writes ≤ ((k + 1 : Nat) : Int) := by omega
      all_goals
        obtain ⟨c00, c01, c10, c11⟩ := HPS.out.c4
        have hl0 := HPS.out.looks0
        rcases ea with _ | _
        · clear hl0
          go_wp2_with fail
          go_roundw
          case rel => exact plrel_mk HPS.out hlt (by first | exact hwa | exact hwb) (by first | exact hwa | exact hwb)
          case measure => simp [intOf]; omega
        · go_wp2_with fail
          with_reducible refine hl0.mono ?_
          rintro e w7 ⟨rfl, h7⟩
          clear c00 c01 c10 c11 hl0
          obtain ⟨c00, c01, c10, c11⟩ := h7.c4
          have hl1 := h7.looks1
          clear h7
          go_wp2_with fail
          with_reducible refine hl1.mono ?_
          rintro e w8 ⟨rfl, h8⟩
          have HPS8 := Lib.hid h8
          clear c00 c01 c10 c11 hl1 h8
          go_wp2_with fail
          go_roundw
          case rel => exact plrel_mk HPS8.out hlt (by first | exact hwa | exact hwb) (by first | exact hwa | exact hwb)
          case measure => simp [intOf]; omega
    · obtain ⟨c00, c01, c10, c11⟩ := hP.c4
      have hl0 := hP.looks0
      clear hP
      go_wp2_with fail
      with_reducible refine hl0.mono ?_
      rintro e w7 ⟨rfl, h7⟩
      clear c00 c01 c10 c11 hl0
      obtain ⟨c00, c01, c10, c11⟩ := h7.c4
      have hl1 := h7.looks1
      clear h7
      go_wp2_with fail
      with_reducible refine hl1.mono ?_
      rintro e w8 ⟨rfl, h8⟩
      have HPS8 := Lib.hid h8
      clear c00 c01 c10 c11 hl1 h8
      go_wp2_with fail
      go_ret
      exact ⟨rfl, Hba.out.trans (HPS8.out.toBelow.mono Hba.out.size)⟩
theorem play_any (z : Int) (A : Option Addr) (n cap : Nat) (ea : Bool) (ops : List OpV) (w : World) (hA : OpsAt w A n ops) : Calls Try.prog 22 #[.int .i64 z, .slice A n cap, .bool ea] w fun e w' => e = .returned (.bool true) ∧ Below w.heap.size w w' := by
  by_cases h : 300 < n ∨ (100 < z ∧ z ≤ 65536)
  · exact play_out z A n cap ea w h
  · by_cases h2 : z < 1 ∨ 65536 < z
    · exact play_bad z A n cap ea w (by omega) h2
    · obtain ⟨k, rfl⟩ : ∃ k : Nat, z = k := ⟨z.toNat, by omega⟩
      exact play_in k A n cap ea ops w hA (by omega) (by omega) (by omega)
end Go.Proofs.Ytmkcmahfededeaa
