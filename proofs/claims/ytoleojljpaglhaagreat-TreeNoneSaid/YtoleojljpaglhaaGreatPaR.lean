/- The contract of the log's Append, whatever the disk does. -/
import Derived.Test.YtoleojljpaglhaaGreatWaD
import Derived.Test.YtoleojljpaglhaaGreatPaL
namespace Go.Proofs.YtoleojljpaglhaaGreat
open Go.RowKit
set_option maxRecDepth 20000
theorem wr_yes {d : Vd.VD} {x : Nat × List UInt8} {l : List (Nat × List UInt8)} (h : (Vd.write d (x.1 : Int) x.2).1 = 0) : Pb.wrSeq d (x :: l) = Pb.wrSeq (Vd.write d (x.1 : Int) x.2).2 l := by rw [Pb.wrSeq, if_pos h]
theorem wr_no {d : Vd.VD} {x : Nat × List UInt8} {l : List (Nat × List UInt8)} (h : (Vd.write d (x.1 : Int) x.2).1 ≠ 0) : Pb.wrSeq d (x :: l) = Vd.write d (x.1 : Int) x.2 := by rw [Pb.wrSeq, if_neg h]
theorem sq_kinded (fr gen used : Nat) (ps : List (List UInt8)) (j : Nat) (h : j < ps.length) : (Wa.sq fr gen used (Wa.kinded ps)).drop j = (fr + (used + j), Wa.formL ps[j] (if j + 1 = ps.length then 2 else 1) gen (used + j)) :: (Wa.sq fr gen used (Wa.kinded ps)).drop (j + 1) := by
  have hk : j < (Wa.kinded ps).length := by rw [Wa.kinded_length]; exact h
  have hl : j < (Wa.sq fr gen used (Wa.kinded ps)).length := by rw [Wa.sq_length]; exact hk
  rw [List.drop_eq_getElem_cons hl, Pb.sq_get _ _ _ _ _ hl hk]
  have := Wa.kinded_at ps j h
  rw [List.getElem?_eq_getElem hk] at this
  injection this with this
  rw [this]
section
variable {S : Nat → Prop} {w0 w w' : World} {dg : Nat} {d d' : Vd.VD} {lg : Nat} {L : Wa.WL} {fp : List Nat} {rv : Value}
set_option maxRecDepth 20000 in
set_option maxHeartbeats 2000000 in
theorem append_any (h : LG S w0 w dg d lg L fp rv) (hk : Wok L) (hop : L.op = true) (hon : d.on = true) (s : ByteArray) (hs : s.size ≤ 140737488351232) (hf : L.used + (Wa.pieces s.data.toList).length ≤ L.n) (hr : L.fr + L.n ≤ d.secs.length) (hw : d.writes + L.n < 900000000) (hrl : L.recs.length < 65536) :
    Calls Tryz.prog 99 #[.pointer (some ⟨lg, 0, none⟩), .string s] w fun e w' => e = .returned (.int .i64 (Pb.wrSeq d (Wa.sq L.fr L.gen L.used (Wa.kinded (Wa.pieces s.data.toList)))).1) ∧ ∃ fp' rv', LG S w0 w' dg (Pb.wrSeq d (Wa.sq L.fr L.gen L.used (Wa.kinded (Wa.pieces s.data.toList)))).2 lg (if (Pb.wrSeq d (Wa.sq L.fr L.gen L.used (Wa.kinded (Wa.pieces s.data.toList)))).1 = 0 then { L with used := L.used + (Wa.pieces s.data.toList).length, recs := L.recs ++ [s.data.toList] } else { L with op := false }) fp' rv' := by
  have H := Lib.hid h
  have HS := Lib.hid hs
  have HK := Lib.hid hk
  obtain ⟨ps, hps⟩ : ∃ ps, Wa.pieces s.data.toList = ps := ⟨_, rfl⟩
  have hpl : ∀ p ∈ ps, p.length ≤ 48 := by rw [← hps]; exact Wa.pieces_le _
  have hp1 : 1 ≤ ps.length := by rw [← hps, Wa.pieces_len]; omega
  rw [hps] at hf
  have k1 := hk.n
  have k2 := hk.fr
  have k3 := hk.used
  have k4 := hk.gen
  have HPS := Lib.hid hps
  have HPL := Lib.hid hpl
  have HW := Lib.hid hw
  have HR := Lib.hid hr
  have HRL := Lib.hid hrl
  have HF := Lib.hid hf
  have hpm : ps.length ≤ 65536 := by omega
  have K4 := Lib.hid k4
  have K2 := Lib.hid k2
  rw [hps]
  obtain ⟨WS, hWS⟩ : ∃ WS, Wa.sq L.fr L.gen L.used (Wa.kinded ps) = WS := ⟨_, rfl⟩
  rw [hWS]
  have HDROP : Hid (∀ j (h : j < ps.length), WS.drop j = (L.fr + (L.used + j), Wa.formL ps[j] (if j + 1 = ps.length then 2 else 1) L.gen (L.used + j)) :: WS.drop (j + 1)) := Lib.hid (fun j h => by rw [← hWS]; exact sq_kinded _ _ _ _ j h)
  have HWL : Hid (WS.length = ps.length) := Lib.hid (by rw [← hWS, Wa.sq_length, Wa.kinded_length])
  obtain ⟨R1, hR1⟩ : ∃ R1, (Pb.wrSeq d WS).1 = R1 := ⟨_, rfl⟩
  obtain ⟨R2, hR2⟩ : ∃ R2, (Pb.wrSeq d WS).2 = R2 := ⟨_, rfl⟩
  rw [hR1, hR2]
  obtain ⟨LL, hLL⟩ : ∃ LL, (if R1 = 0 then ({ L with used := L.used + ps.length, recs := L.recs ++ [s.data.toList] } : Wa.WL) else { L with op := false }) = LL := ⟨_, rfl⟩
  rw [hLL]
  have HR1 := Lib.hid hR1
  have HR2 := Lib.hid hR2
  have HLL := Lib.hid hLL
  have HON := Lib.hid hon
  clear h hs hk hpl hon hw hr hrl hps k4 k2 hWS hR1 hR2 hLL
  go_enter Tryz.func99, Tryz.ntmps99
  go_wp2_with fail
  (with_reducible refine (pieces_any s w HS.out).mono ?_)
  rintro e w1 ⟨pv, rfl, ho⟩
  rw [HPS.out] at ho
  obtain ⟨pg, pcap, rfl⟩ : ∃ pg cap, pv = .slice (some ⟨pg, 0, none⟩) ps.length cap := by
    rcases ho.own.2 with ⟨rfl, h0⟩ | ⟨g, cap, cur, rfl, _⟩
    · omega
    · exact ⟨_, cap, rfl⟩
  have H1 := H.out.later ho.bel
  have hpo := ho.own
  have hpB : w.heap.size ≤ pg := (hpo.lt pg rfl).1
  have hpf : pg ∉ fp := fun hm => by have := H.out.disk.lt pg hm; omega
  have hpr : ∀ q, rv.ownBlock = some q → q ≠ pg := fun q hq e => by have := ownBlock_lt H.out.row hq; omega
  have HPO : Hid (w1.ownsRow w.heap.size 9 1 (.slice (some ⟨pg, 0, none⟩) ps.length pcap) ps.length (strs ps)) := Lib.hid hpo
  have HPR := Lib.hid hpr
  have HPF := Lib.hid hpf
  clear ho hpo hpr hpf
  obtain ⟨c0, c1, c2, c3, c4, c5, c6, fz⟩ := H1.cells
  rw [hop] at c4
  have HN := Lib.hid (none_any H1.blk)
  have HFr := Lib.hid (free_any H1 HK.out)
  have HH1 := Lib.hid H1
  clear H1 c0 c1 c2 c3 c5 c6
  go_wp2_with fail
  (with_reducible refine HN.out.mono ?_)
  rintro e w2 ⟨rfl, rfl⟩
  go_wp2_with fail
  (with_reducible refine HFr.out.mono ?_)
  rintro e w3 ⟨rfl, hb3⟩
  have hlt : ¬ (L.n : Int) - (L.used : Int) < (ps.length : Int) := by omega
  have HH3 := Lib.hid (HH1.out.later hb3)
  have HPO3 := Lib.hid (ownsRow_only HPO.out ((Only.refl [] w1).below hb3) (by simp))
  clear hb3 c4 fz
  go_wp2_with fail
  go_loopw [30] (fun i wr => ∃ j : Nat, j ≤ ps.length ∧ i = .int .i64 j ∧ Hid (∃ fp' dj, LG S w0 wr dg dj lg L fp' rv ∧ pg ∉ fp' ∧ wr.ownsRow w.heap.size 9 1 (.slice (some ⟨pg, 0, none⟩) ps.length pcap) ps.length (strs ps) ∧ dj.on = true ∧ dj.secs.length = d.secs.length ∧ dj.writes ≤ d.writes + j ∧ Pb.wrSeq d WS = Pb.wrSeq dj (WS.drop j))) (fun i _ => ps.length - (intOf i).toNat)
  case atStart => exact ⟨0, Nat.zero_le _, rfl, Lib.hid ⟨fp, d, HH3.out, HPF.out, HPO3.out, HON.out, rfl, by simp, rfl⟩⟩
  case round =>
    obtain ⟨j, hj, rfl, HJ⟩ := hrel
    obtain ⟨fp', dj, hLG, hpf, hpo, hdon, hdl, hdw, hseq⟩ := HJ.out
    have HDO := Lib.hid hdon
    have HDLn := Lib.hid hdl
    have HDW := Lib.hid hdw
    have HSEQ := Lib.hid hseq
    clear hdon hdl hdw hseq
    obtain ⟨c0, c1, c2, c3, c4, c5, c6, fz⟩ := hLG.cells
    by_cases hlt2 : j < ps.length
    · have hcell := hpo.cellAt j (by omega)
      have hce : (strs ps)[j]? = some (.string ⟨ps[j].toArray⟩) := by simp [strs, hlt2]
      rw [hce] at hcell
      obtain ⟨T, hTe⟩ : ∃ T : ByteArray, (⟨ps[j].toArray⟩ : ByteArray) = T := ⟨_, rfl⟩
      rw [hTe] at hcell
      have hTb : T.data.toList = ps[j] := by rw [← hTe]
      have hT48 : T.size ≤ 48 := by have := HPL.out _ (List.getElem_mem hlt2); rw [← hTe, ba_len]; exact this
      have hlgl : lg < wr.heap.size := hLG.blk.lt
      have HLG := Lib.hid hLG
      have HPJ : Hid (wr.ownsRow w.heap.size 9 1 (.slice (some ⟨pg, 0, none⟩) ps.length pcap) ps.length (strs ps)) := Lib.hid hpo
      have HPFJ := Lib.hid hpf
      have huj : L.used + j ≤ 65536 := by omega
      have hfj : L.fr + (L.used + j) ≤ 131072 := by have := K2.out; omega
      clear hLG hpf hpo hTe hce
      by_cases hl : j + 1 = ps.length
      · have hji : ((j : Int) == (ps.length : Int) - 1) = true := by rw [beq_iff_eq]; omega
        have hlast : (if j + 1 = ps.length then 2 else 1) = 2 := if_pos hl
        obtain ⟨F, hF⟩ : ∃ F : ByteArray, (⟨(Wa.formL ps[j] 2 L.gen (L.used + j)).toArray⟩ : ByteArray) = F := ⟨_, rfl⟩
        have hFb : F.data.toList = Wa.formL ps[j] 2 L.gen (L.used + j) := by rw [← hF]
        have hFz : F.size = 64 := by rw [← hF, ba_len]; exact Wa.formL_length _ _ _ _ (HPL.out _ (List.getElem_mem hlt2))
        have HFM : Hid (∀ W, Calls Tryz.prog 104 #[.string T, .int .i64 2, .int .i64 (L.gen : Int), .int .i64 ((L.used : Int) + (j : Int))] W fun e w' => e = .returned (.string F) ∧ Below W.heap.size W w') := Lib.hid (fun W => by
          have := form_any T 2 L.gen (L.used + j) W hT48 (by have := K4.out; omega) (by omega)
          rw [Int.natCast_add, hTb] at this
          rw [← hF]
          exact this)
        obtain ⟨r1, hr1⟩ : ∃ r1, (Vd.write dj ((L.fr + (L.used + j) : Nat) : Int) (Wa.formL ps[j] 2 L.gen (L.used + j))).1 = r1 := ⟨_, rfl⟩
        obtain ⟨d2, hd2⟩ : ∃ d2, (Vd.write dj ((L.fr + (L.used + j) : Nat) : Int) (Wa.formL ps[j] 2 L.gen (L.used + j))).2 = d2 := ⟨_, rfl⟩
        have HWRQ : Hid (∀ W, Below wr.heap.size wr W → Calls Tryz.prog 74 #[.pointer (some ⟨dg, 0, none⟩), .int .i64 ((L.fr : Int) + ((L.used : Int) + (j : Int))), .string F] W fun e w2 => e = .returned (.int .i64 r1) ∧ ∃ fp2, LG S w0 w2 dg d2 lg L fp2 rv ∧ pg ∉ fp2 ∧ w2.ownsRow w.heap.size 9 1 (.slice (some ⟨pg, 0, none⟩) ps.length pcap) ps.length (strs ps)) := Lib.hid (fun W hW => by
          have h5 := HLG.out.later hW
          have hw := write_any h5.disk ((L.fr : Int) + ((L.used : Int) + (j : Int))) F (by rw [hFz]; omega) (by have := HW.out; have := HDW.out; omega)
          rw [hFb, ← Int.natCast_add, ← Int.natCast_add, hr1, hd2] at hw
          rw [← Int.natCast_add, ← Int.natCast_add]
          refine hw.mono fun e w2 hp => ?_
          obtain ⟨he, fp2, h6, hO⟩ := h5.called hp
          have hpo5 := ownsRow_only HPJ.out ((Only.refl [] wr).below hW) (by simp)
          refine ⟨he, fp2, h6, fun hm => ?_, ownsRow_only hpo5 hO.1 (fun q hq hm => ?_)⟩
          · rcases hO.2 pg hm with h1 | h1
            · exact HPFJ.out h1
            · have := (hpo5.lt pg rfl).2; omega
          · injection hq with hq
            subst hq
            exact HPFJ.out hm)
        have HX1 : Hid (r1 = 0 → d2.on = true ∧ d2.secs.length = d.secs.length ∧ d2.writes ≤ d.writes + (j + 1 : Nat) ∧ Pb.wrSeq d WS = Pb.wrSeq d2 (WS.drop (j + 1))) := Lib.hid (fun h0 => by
          have hk := write_keeps dj ((L.fr + (L.used + j) : Nat) : Int) (Wa.formL ps[j] 2 L.gen (L.used + j)) (hr1.trans h0)
          rw [hd2] at hk
          refine ⟨hk.1.trans HDO.out, by rw [hk.2.1]; exact HDLn.out, by have := HDW.out; rw [hk.2.2]; push_cast; omega, ?_⟩
          rw [HSEQ.out, HDROP.out j hlt2, hlast, wr_yes (hr1.trans h0), hd2])
        have HX2 : Hid (r1 ≠ 0 → Pb.wrSeq d WS = (r1, d2)) := Lib.hid (fun h0 => by
          rw [HSEQ.out, HDROP.out j hlt2, hlast, wr_no (fun e => h0 (hr1.symm.trans e))]
          exact Prod.ext hr1 hd2)
        have HWR := HWRQ
        clear hr1 hd2 HWRQ
        have HKC : Hid (∀ w5, Below wr.drew.heap.size wr.drew w5 → w5.cell? ⟨lg, 0, none⟩ = some (.pointer (some ⟨dg, 0, none⟩)) ∧ w5.cell? ⟨lg, 1, none⟩ = some (.int .i64 (L.fr : Int)) ∧ w5.cell? ⟨lg, 3, none⟩ = some (.int .i64 (L.gen : Int))) := Lib.hid (fun w5 hb5 => ⟨(hb5.cell (p := ⟨lg, 0, none⟩) hlgl).trans c0, (hb5.cell (p := ⟨lg, 1, none⟩) hlgl).trans c1, (hb5.cell (p := ⟨lg, 3, none⟩) hlgl).trans c3⟩)
        have HBD : Hid (∀ w5, Below wr.drew.heap.size wr.drew w5 → Below wr.heap.size wr w5) := Lib.hid (fun w5 hb5 => (Below.refl wr.heap.size wr).drew.trans hb5)
        have hwrp : IntKind.i64.wrap ((L.fr : Int) + ((L.used : Int) + (j : Int))) = (L.fr : Int) + ((L.used : Int) + (j : Int)) := by rw [IntKind.wrap_i64]; omega
        clear hT48 hTb hF hFb hFz
        go_wp2_with fail
        go_region_held3 (fun w' => w'.cell? ⟨lg, 0, none⟩ = some (.pointer (some ⟨dg, 0, none⟩)) ∧ w'.cell? ⟨lg, 1, none⟩ = some (.int .i64 (L.fr : Int)) ∧ w'.cell? ⟨lg, 3, none⟩ = some (.int .i64 (L.gen : Int)))
          (first | exact ⟨m0, m1, m3⟩ | exact ⟨k0, k1, k3⟩ | exact ⟨c0, c1, c3⟩ | go_keep)
          (first
            | (go_at_call 104; ((with_reducible refine (HFM.out _).mono ?_)); rintro e w5 ⟨rfl, hb5⟩; obtain ⟨k0, k1, k3⟩ := HKC.out _ hb5)
            | (go_at_call 74; ((with_reducible refine (HWR.out _ (HBD.out _ hb5)).mono ?_)); rintro e w6 ⟨rfl, fp2, hL6, hp6, ho6⟩; obtain ⟨m0, m1, m2, m3, m4, m5, m6, mz⟩ := hL6.cells))
        have HL6 := Lib.hid hL6
        clear c0 c1 c2 c3 c4 c5 c6 fz k0 k1 k3 m0 m1 m2 m3 m4 m5 m6 mz
        by_cases h0 : r1 = 0
        · subst h0
          go_wp2_with fail
          go_roundw
          case rel =>
            obtain ⟨x1, x2, x3, x4⟩ := HX1.out rfl
            exact ⟨j + 1, by omega, by go_num, Lib.hid ⟨fp2, d2, HL6.out, hp6, ho6, x1, x2, x3, x4⟩⟩
          case measure => simp [intOf]; omega
        · have hr0 : (r1 == 0) = false := by simpa using h0
          obtain ⟨c0, c1, c2, c3, c4, c5, c6, fz⟩ := HL6.out.cells
          have HST := Lib.hid (HL6.out.store 4 (.bool false) { L with op := false } rfl rfl)
          have HX2' := Lib.hid (HX2.out h0)
          clear c0 c1 c2 c3 c5 c6 HX1 HX2
          go_wp2_with fail
          go_ret
          have e1 := HR1.out
          have e2 := HR2.out
          have e3 := HLL.out
          rw [HX2'.out] at e1 e2
          simp only at e1 e2
          subst e1 e2 e3
          rw [if_neg h0]
          exact ⟨rfl, _, _, HST.out⟩
      · have hji : ((j : Int) == (ps.length : Int) - 1) = false := by rw [beq_eq_false_iff_ne]; omega
        have hlast : (if j + 1 = ps.length then 2 else 1) = 1 := if_neg hl
        obtain ⟨F, hF⟩ : ∃ F : ByteArray, (⟨(Wa.formL ps[j] 1 L.gen (L.used + j)).toArray⟩ : ByteArray) = F := ⟨_, rfl⟩
        have hFb : F.data.toList = Wa.formL ps[j] 1 L.gen (L.used + j) := by rw [← hF]
        have hFz : F.size = 64 := by rw [← hF, ba_len]; exact Wa.formL_length _ _ _ _ (HPL.out _ (List.getElem_mem hlt2))
        have HFM : Hid (∀ W, Calls Tryz.prog 104 #[.string T, .int .i64 1, .int .i64 (L.gen : Int), .int .i64 ((L.used : Int) + (j : Int))] W fun e w' => e = .returned (.string F) ∧ Below W.heap.size W w') := Lib.hid (fun W => by
          have := form_any T 1 L.gen (L.used + j) W hT48 (by have := K4.out; omega) (by omega)
          rw [Int.natCast_add, hTb] at this
          rw [← hF]
          exact this)
        obtain ⟨r1, hr1⟩ : ∃ r1, (Vd.write dj ((L.fr + (L.used + j) : Nat) : Int) (Wa.formL ps[j] 1 L.gen (L.used + j))).1 = r1 := ⟨_, rfl⟩
        obtain ⟨d2, hd2⟩ : ∃ d2, (Vd.write dj ((L.fr + (L.used + j) : Nat) : Int) (Wa.formL ps[j] 1 L.gen (L.used + j))).2 = d2 := ⟨_, rfl⟩
        have HWRQ : Hid (∀ W, Below wr.heap.size wr W → Calls Tryz.prog 74 #[.pointer (some ⟨dg, 0, none⟩), .int .i64 ((L.fr : Int) + ((L.used : Int) + (j : Int))), .string F] W fun e w2 => e = .returned (.int .i64 r1) ∧ ∃ fp2, LG S w0 w2 dg d2 lg L fp2 rv ∧ pg ∉ fp2 ∧ w2.ownsRow w.heap.size 9 1 (.slice (some ⟨pg, 0, none⟩) ps.length pcap) ps.length (strs ps)) := Lib.hid (fun W hW => by
          have h5 := HLG.out.later hW
          have hw := write_any h5.disk ((L.fr : Int) + ((L.used : Int) + (j : Int))) F (by rw [hFz]; omega) (by have := HW.out; have := HDW.out; omega)
          rw [hFb, ← Int.natCast_add, ← Int.natCast_add, hr1, hd2] at hw
          rw [← Int.natCast_add, ← Int.natCast_add]
          refine hw.mono fun e w2 hp => ?_
          obtain ⟨he, fp2, h6, hO⟩ := h5.called hp
          have hpo5 := ownsRow_only HPJ.out ((Only.refl [] wr).below hW) (by simp)
          refine ⟨he, fp2, h6, fun hm => ?_, ownsRow_only hpo5 hO.1 (fun q hq hm => ?_)⟩
          · rcases hO.2 pg hm with h1 | h1
            · exact HPFJ.out h1
            · have := (hpo5.lt pg rfl).2; omega
          · injection hq with hq
            subst hq
            exact HPFJ.out hm)
        have HX1 : Hid (r1 = 0 → d2.on = true ∧ d2.secs.length = d.secs.length ∧ d2.writes ≤ d.writes + (j + 1 : Nat) ∧ Pb.wrSeq d WS = Pb.wrSeq d2 (WS.drop (j + 1))) := Lib.hid (fun h0 => by
          have hk := write_keeps dj ((L.fr + (L.used + j) : Nat) : Int) (Wa.formL ps[j] 1 L.gen (L.used + j)) (hr1.trans h0)
          rw [hd2] at hk
          refine ⟨hk.1.trans HDO.out, by rw [hk.2.1]; exact HDLn.out, by have := HDW.out; rw [hk.2.2]; push_cast; omega, ?_⟩
          rw [HSEQ.out, HDROP.out j hlt2, hlast, wr_yes (hr1.trans h0), hd2])
        have HX2 : Hid (r1 ≠ 0 → Pb.wrSeq d WS = (r1, d2)) := Lib.hid (fun h0 => by
          rw [HSEQ.out, HDROP.out j hlt2, hlast, wr_no (fun e => h0 (hr1.symm.trans e))]
          exact Prod.ext hr1 hd2)
        have HWR := HWRQ
        clear hr1 hd2 HWRQ
        have HKC : Hid (∀ w5, Below wr.drew.heap.size wr.drew w5 → w5.cell? ⟨lg, 0, none⟩ = some (.pointer (some ⟨dg, 0, none⟩)) ∧ w5.cell? ⟨lg, 1, none⟩ = some (.int .i64 (L.fr : Int)) ∧ w5.cell? ⟨lg, 3, none⟩ = some (.int .i64 (L.gen : Int))) := Lib.hid (fun w5 hb5 => ⟨(hb5.cell (p := ⟨lg, 0, none⟩) hlgl).trans c0, (hb5.cell (p := ⟨lg, 1, none⟩) hlgl).trans c1, (hb5.cell (p := ⟨lg, 3, none⟩) hlgl).trans c3⟩)
        have HBD : Hid (∀ w5, Below wr.drew.heap.size wr.drew w5 → Below wr.heap.size wr w5) := Lib.hid (fun w5 hb5 => (Below.refl wr.heap.size wr).drew.trans hb5)
        have hwrp : IntKind.i64.wrap ((L.fr : Int) + ((L.used : Int) + (j : Int))) = (L.fr : Int) + ((L.used : Int) + (j : Int)) := by rw [IntKind.wrap_i64]; omega
        clear hT48 hTb hF hFb hFz
        go_wp2_with fail
        go_region_held3 (fun w' => w'.cell? ⟨lg, 0, none⟩ = some (.pointer (some ⟨dg, 0, none⟩)) ∧ w'.cell? ⟨lg, 1, none⟩ = some (.int .i64 (L.fr : Int)) ∧ w'.cell? ⟨lg, 3, none⟩ = some (.int .i64 (L.gen : Int)))
          (first | exact ⟨m0, m1, m3⟩ | exact ⟨k0, k1, k3⟩ | exact ⟨c0, c1, c3⟩ | go_keep)
          (first
            | (go_at_call 104; ((with_reducible refine (HFM.out _).mono ?_)); rintro e w5 ⟨rfl, hb5⟩; obtain ⟨k0, k1, k3⟩ := HKC.out _ hb5)
            | (go_at_call 74; ((with_reducible refine (HWR.out _ (HBD.out _ hb5)).mono ?_)); rintro e w6 ⟨rfl, fp2, hL6, hp6, ho6⟩; obtain ⟨m0, m1, m2, m3, m4, m5, m6, mz⟩ := hL6.cells))
        have HL6 := Lib.hid hL6
        clear c0 c1 c2 c3 c4 c5 c6 fz k0 k1 k3 m0 m1 m2 m3 m4 m5 m6 mz
        by_cases h0 : r1 = 0
        · subst h0
          go_wp2_with fail
          go_roundw
          case rel =>
            obtain ⟨x1, x2, x3, x4⟩ := HX1.out rfl
            exact ⟨j + 1, by omega, by go_num, Lib.hid ⟨fp2, d2, HL6.out, hp6, ho6, x1, x2, x3, x4⟩⟩
          case measure => simp [intOf]; omega
        · have hr0 : (r1 == 0) = false := by simpa using h0
          obtain ⟨c0, c1, c2, c3, c4, c5, c6, fz⟩ := HL6.out.cells
          have HST := Lib.hid (HL6.out.store 4 (.bool false) { L with op := false } rfl rfl)
          have HX2' := Lib.hid (HX2.out h0)
          clear c0 c1 c2 c3 c5 c6 HX1 HX2
          go_wp2_with fail
          go_ret
          have e1 := HR1.out
          have e2 := HR2.out
          have e3 := HLL.out
          rw [HX2'.out] at e1 e2
          simp only at e1 e2
          subst e1 e2 e3
          rw [if_neg h0]
          exact ⟨rfl, _, _, HST.out⟩
    · obtain rfl : j = ps.length := by omega
      have h20 := hLG.store 5 (.int .i64 ((L.used : Int) + (ps.length : Int))) { L with used := L.used + ps.length } (by simp only [lcells]; rw [Int.natCast_add]; rfl) rfl
      clear hpf hpo
      go_upto_region 21 with fail
      obtain ⟨V, hV⟩ : ∃ V, wr.setCell ⟨lg, 5, none⟩ (.int .i64 ((L.used : Int) + (ps.length : Int))) = V := ⟨_, rfl⟩
      rw [hV] at h20 ⊢
      clear hV hLG c0 c1 c2 c3 c4 c5 c6 fz HJ
      obtain ⟨c0, c1, c2, c3, c4, c5, c6, fz⟩ := h20.cells
      have H20 := Lib.hid h20
      obtain ⟨i0, hi0, hz0, hz1, hz2⟩ := info_parts str_info
      have Hi0 := Lib.hid hi0
      have Hz0 := Lib.hid hz0
      have Hz1 := Lib.hid hz1
      have Hz2 := Lib.hid hz2
      clear hi0 hz0 hz1 hz2
      have HOWN : Hid (∀ w5, Below V.heap.size V w5 → (w5.alloc (.cells #[.string s] 9)).ownsRow 0 9 1 rv L.recs.length (strs L.recs) ∧ 0 ≤ (w5.alloc (.cells #[.string s] 9)).heap.size) := Lib.hid (fun w5 hb5 => by
        have h5a := (H20.out.later hb5).later ((Below.refl _ _).alloc (Nat.le_refl _) (.cells #[.string s] 9))
        exact ⟨h5a.row, Nat.zero_le _⟩)
      have HAP : Hid (∀ w5, Below V.heap.size V w5 → ∀ w6 g' cap', w6.ownsRow 0 9 1 (.slice (some ⟨g', 0, none⟩) (L.recs.length + 1) cap') (L.recs.length + 1) (strs L.recs ++ [.string s]) → (w5.alloc (.cells #[.string s] 9)).grownBy w6 rv.ownBlock → (rv.ownBlock = some g' ∨ g' = w5.heap.size + 1) → w6.cell? ⟨lg, 6, none⟩ = some rv ∧ w6.frozen? ⟨lg, 6, none⟩ = false ∧ LG S w0 (w6.setCell ⟨lg, 6, none⟩ (.slice (some ⟨g', 0, none⟩) (L.recs.length + 1) cap')) dg dj lg { L with used := L.used + ps.length, recs := L.recs ++ [s.data.toList] } fp' (.slice (some ⟨g', 0, none⟩) (L.recs.length + 1) cap')) := Lib.hid (fun w5 hb5 w6 g' cap' hown hgrow hat => by
        have h5 := H20.out.later hb5
        obtain ⟨h7, hL⟩ := h5.pushed s hown hgrow (by rcases hat with h1 | h1
                                                      · exact .inl (by rw [h1]; rfl)
                                                      · exact .inr (by rw [h1]; rfl))
        exact ⟨h7.c6, h7.fz 6, hL⟩)
      have hlgl : lg < V.heap.size := h20.blk.lt
      clear h20
      have hA2 : L.recs.length + 1 ≤ maxLen := by have := HRL.out; unfold maxLen; omega
      have hA3 : (L.recs.length + 1) * 16 ≤ 140737488355328 := by have := HRL.out; omega
      have HA2 := Lib.hid hA2
      have HA3 := Lib.hid hA3
      clear hA2 hA3
      go_region_law (first
        | (refine step_append_lies _ (by rfl) _ _ 52 (by rfl) 0 9 i0 _ 1 16 Tryz.underlying52 Hi0.out Hz0.out Hz1.out Hz2.out rfl Nat.one_pos rv L.recs.length (strs L.recs) (by rfl) (HOWN.out w5 ((below_drewN (Below.refl _ _) 1).trans hb5)).1 ⟨w5.heap.size, 0, none⟩ 1 1 [.string s] (by rfl) (by rfl) (cell_one_new _ _ _) (str_one _) Nat.one_pos HA2.out HA3.out (HOWN.out w5 ((below_drewN (Below.refl _ _) 1).trans hb5)).2 (w5.heap.size + 1) (World.size_alloc _ _) ?_; intro g' cap' w6 hown6 hgrow6 hat6 _; obtain ⟨n6, f6, hL6⟩ := HAP.out w5 ((below_drewN (Below.refl _ _) 1).trans hb5) w6 g' cap' hown6 hgrow6 hat6; have HL6 := Lib.hid hL6; clear hL6 hown6 hgrow6 hat6)
        | (go_simp; go_at_call 101; ((with_reducible refine (sclone_any s _ HS.out).mono ?_)); rintro e w5 ⟨rfl, hb5⟩; have k6 := (hb5.cell (p := ⟨lg, 6, none⟩) hlgl).trans c6; have k6a := (World.cell?_alloc_some w5 ⟨lg, 6, none⟩ (.cells #[.string s] 9) (by rw [k6]; rfl)).trans k6))
      all_goals
        clear c0 c1 c2 c3 c4 c5 c6 fz k6 k6a n6 f6
        go_wp2_with fail
        go_ret
        have e0 : Pb.wrSeq d WS = (0, dj) := by
          rw [HSEQ.out, List.drop_of_length_le (by rw [HWL.out]; exact Nat.le_refl _)]
          rfl
        have e1 := HR1.out
        have e2 := HR2.out
        have e3 := HLL.out
        rw [e0] at e1 e2
        simp only at e1 e2
        subst e1 e2 e3
        rw [if_pos rfl]
        exact ⟨rfl, _, _, HL6.out⟩
end
end Go.Proofs.YtoleojljpaglhaaGreat
