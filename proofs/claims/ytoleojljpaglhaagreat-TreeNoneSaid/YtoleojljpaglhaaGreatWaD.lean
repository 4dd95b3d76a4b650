/- The contract of the log's Append: closed, full, and where it is taken. -/
import Derived.Test.YtoleojljpaglhaaGreatWaC
import Derived.Deep.RegionHeld3
import Derived.Deep.AppendLies
import Derived.Deep.RegionLaw
namespace Go.Proofs.YtoleojljpaglhaaGreat
open Go.RowKit
set_option maxRecDepth 20000
section
variable {S : Nat → Prop} {w0 w w' : World} {dg : Nat} {d d' : Vd.VD} {lg : Nat} {L : Wa.WL} {fp : List Nat} {rv : Value}
theorem sclone_any (s : ByteArray) (w : World) (hs : s.size ≤ 140737488351232) : Calls Tryz.prog 101 #[.string s] w fun e w' => e = .returned (.string s) ∧ Below w.heap.size w w' := by
  have H := Lib.hid (stringslite_Clone s w (by omega))
  clear hs
  go_enter Tryz.func101, Tryz.ntmps101
  go_wp2_with fail
  (with_reducible refine H.out.mono ?_)
  rintro e w1 ⟨rfl, hb⟩
  go_wp2_with fail
  go_ret
  exact ⟨rfl, hb⟩
set_option maxRecDepth 20000 in
theorem append_closed (h : LG S w0 w dg d lg L fp rv) (hop : L.op = false) (s : ByteArray) (hs : s.size ≤ 140737488351232) :
    Calls Tryz.prog 99 #[.pointer (some ⟨lg, 0, none⟩), .string s] w fun e w' => e = .returned (.int .i64 90) ∧ LG S w0 w' dg d lg L fp rv := by
  have H := Lib.hid h
  have HS := Lib.hid hs
  clear h hs
  go_enter Tryz.func99, Tryz.ntmps99
  go_wp2_with fail
  (with_reducible refine (pieces_any s w HS.out).mono ?_)
  rintro e w1 ⟨pv, rfl, ho⟩
  have H1 := H.out.later ho.bel
  clear ho
  obtain ⟨c0, c1, c2, c3, c4, c5, c6, fz⟩ := H1.cells
  rw [hop] at c4
  have HN := Lib.hid (none_any H1.blk)
  have HH1 := Lib.hid H1
  clear H1 c0 c1 c2 c3 c5 c6 hop
  go_wp2_with fail
  (with_reducible refine HN.out.mono ?_)
  rintro e w2 ⟨rfl, rfl⟩
  go_wp2_with fail
  go_ret
  exact ⟨rfl, HH1.out⟩
set_option maxRecDepth 20000 in
theorem append_full (h : LG S w0 w dg d lg L fp rv) (hk : Wok L) (hop : L.op = true) (s : ByteArray) (hs : s.size ≤ 140737488351232) (hf : L.n < L.used + (Wa.pieces s.data.toList).length) :
    Calls Tryz.prog 99 #[.pointer (some ⟨lg, 0, none⟩), .string s] w fun e w' => e = .returned (.int .i64 83) ∧ LG S w0 w' dg d lg L fp rv := by
  have H := Lib.hid h
  have HS := Lib.hid hs
  have HK := Lib.hid hk
  obtain ⟨m, hm⟩ : ∃ m, (Wa.pieces s.data.toList).length = m := ⟨_, rfl⟩
  rw [hm] at hf
  have HM := Lib.hid hm
  clear h hs hk hm
  go_enter Tryz.func99, Tryz.ntmps99
  go_wp2_with fail
  (with_reducible refine (pieces_any s w HS.out).mono ?_)
  rintro e w1 ⟨pv, rfl, ho⟩
  obtain ⟨p, cap, rfl⟩ : ∃ p cap, pv = .slice p m cap := by
    have := ho.own
    rw [HM.out] at this
    rcases this.2 with ⟨rfl, h0⟩ | ⟨g, cap, cur, rfl, _⟩
    · exact ⟨none, 0, by rw [h0]⟩
    · exact ⟨_, cap, rfl⟩
  have H1 := H.out.later ho.bel
  clear ho
  obtain ⟨c0, c1, c2, c3, c4, c5, c6, fz⟩ := H1.cells
  rw [hop] at c4
  have HN := Lib.hid (none_any H1.blk)
  have HF := Lib.hid (free_any H1 HK.out)
  have HH1 := Lib.hid H1
  clear H1 c0 c1 c2 c3 c5 c6 hop
  go_wp2_with fail
  (with_reducible refine HN.out.mono ?_)
  rintro e w2 ⟨rfl, rfl⟩
  go_wp2_with fail
  (with_reducible refine HF.out.mono ?_)
  rintro e w3 ⟨rfl, hb3⟩
  have hlt : (L.n : Int) - (L.used : Int) < (m : Int) := by omega
  have HH3 := Lib.hid (HH1.out.later hb3)
  clear hb3 c4 fz
  go_wp2_with fail
  go_ret
  exact ⟨rfl, HH3.out⟩
set_option maxRecDepth 20000 in
set_option maxHeartbeats 1000000 in
theorem append_ok (h : LG S w0 w dg d lg L fp rv) (hk : Wok L) (hop : L.op = true) (ht : Wa.Takes d) (s : ByteArray) (hs : s.size ≤ 140737488351232) (hf : L.used + (Wa.pieces s.data.toList).length ≤ L.n) (hr : L.fr + L.n ≤ d.secs.length) (hw : d.writes < 900000000) (hrl : L.recs.length < 65536) :
    Calls Tryz.prog 99 #[.pointer (some ⟨lg, 0, none⟩), .string s] w fun e w' => e = .returned (.int .i64 0) ∧ ∃ fp' rv', LG S w0 w' dg (Wa.wrote d L (Wa.pieces s.data.toList) (Wa.pieces s.data.toList).length) lg { L with used := L.used + (Wa.pieces s.data.toList).length, recs := L.recs ++ [s.data.toList] } fp' rv' := by
  have H := Lib.hid h
  have HS := Lib.hid hs
  have HK := Lib.hid hk
  obtain ⟨ps, hps⟩ : ∃ ps, Wa.pieces s.data.toList = ps := ⟨_, rfl⟩
  have hpl : ∀ p ∈ ps, p.length ≤ 48 := by rw [← hps]; exact Wa.pieces_le _
  have hp1 : 1 ≤ ps.length := by rw [← hps, Wa.pieces_len]; omega
  rw [hps] at hf
  have k1 := hk.n
  have k2 := hk.fr
  have k3 := hk.used
  have k4 := hk.gen
  have HPS := Lib.hid hps
  have HPL := Lib.hid hpl
  have HT := Lib.hid ht
  have HW := Lib.hid hw
  have HR := Lib.hid hr
  have HRL := Lib.hid hrl
  have HF := Lib.hid hf
  have hpm : ps.length ≤ 65536 := by omega
  have K4 := Lib.hid k4
  have K2 := Lib.hid k2
  clear h hs hk hpl ht hw hr hrl hps k4 k2
  rw [HPS.out]
  go_enter Tryz.func99, Tryz.ntmps99
  go_wp2_with fail
  (with_reducible refine (pieces_any s w HS.out).mono ?_)
  rintro e w1 ⟨pv, rfl, ho⟩
  rw [HPS.out] at ho
  obtain ⟨pg, pcap, rfl⟩ : ∃ pg cap, pv = .slice (some ⟨pg, 0, none⟩) ps.length cap := by
    rcases ho.own.2 with ⟨rfl, h0⟩ | ⟨g, cap, cur, rfl, _⟩
    · omega
    · exact ⟨_, cap, rfl⟩
  have H1 := H.out.later ho.bel
  have hpo := ho.own
  have hpB : w.heap.size ≤ pg := (hpo.lt pg rfl).1
  have hpf : pg ∉ fp := fun hm => by have := H.out.disk.lt pg hm; omega
  have hpr : ∀ q, rv.ownBlock = some q → q ≠ pg := fun q hq e => by have := ownBlock_lt H.out.row hq; omega
  have HPO : Hid (w1.ownsRow w.heap.size 9 1 (.slice (some ⟨pg, 0, none⟩) ps.length pcap) ps.length (strs ps)) := Lib.hid hpo
  have HPR := Lib.hid hpr
  have HPF := Lib.hid hpf
  clear ho hpo hpr hpf
  obtain ⟨c0, c1, c2, c3, c4, c5, c6, fz⟩ := H1.cells
  rw [hop] at c4
  have HN := Lib.hid (none_any H1.blk)
  have HFr := Lib.hid (free_any H1 HK.out)
  have HH1 := Lib.hid H1
  clear H1 c0 c1 c2 c3 c5 c6
  go_wp2_with fail
  (with_reducible refine HN.out.mono ?_)
  rintro e w2 ⟨rfl, rfl⟩
  go_wp2_with fail
  (with_reducible refine HFr.out.mono ?_)
  rintro e w3 ⟨rfl, hb3⟩
  have hlt : ¬ (L.n : Int) - (L.used : Int) < (ps.length : Int) := by omega
  have HH3 := Lib.hid (HH1.out.later hb3)
  have HPO3 := Lib.hid (ownsRow_only HPO.out ((Only.refl [] w1).below hb3) (by simp))
  clear hb3 c4 fz
  go_wp2_with fail
  go_loopw [30] (fun i wr => ∃ j : Nat, j ≤ ps.length ∧ i = .int .i64 j ∧ Hid (∃ fp', LG S w0 wr dg (Wa.wrote d L ps j) lg L fp' rv ∧ pg ∉ fp' ∧ wr.ownsRow w.heap.size 9 1 (.slice (some ⟨pg, 0, none⟩) ps.length pcap) ps.length (strs ps))) (fun i _ => ps.length - (intOf i).toNat)
  case atStart => exact ⟨0, Nat.zero_le _, rfl, Lib.hid ⟨fp, by rw [Wa.wrote_zero]; exact HH3.out, HPF.out, HPO3.out⟩⟩
  case round =>
    obtain ⟨j, hj, rfl, HJ⟩ := hrel
    obtain ⟨fp', hLG, hpf, hpo⟩ := HJ.out
    obtain ⟨c0, c1, c2, c3, c4, c5, c6, fz⟩ := hLG.cells
    by_cases hlt2 : j < ps.length
    · have hcell := hpo.cellAt j (by omega)
      have hce : (strs ps)[j]? = some (.string ⟨ps[j].toArray⟩) := by simp [strs, hlt2]
      rw [hce] at hcell
      obtain ⟨T, hTe⟩ : ∃ T : ByteArray, (⟨ps[j].toArray⟩ : ByteArray) = T := ⟨_, rfl⟩
      rw [hTe] at hcell
      have hTb : T.data.toList = ps[j] := by rw [← hTe]
      have hT48 : T.size ≤ 48 := by have := HPL.out _ (List.getElem_mem hlt2); rw [← hTe, ba_len]; exact this
      have hlgl : lg < wr.heap.size := hLG.blk.lt
      have HLG := Lib.hid hLG
      have HPJ : Hid (wr.ownsRow w.heap.size 9 1 (.slice (some ⟨pg, 0, none⟩) ps.length pcap) ps.length (strs ps)) := Lib.hid hpo
      have HPFJ := Lib.hid hpf
      have huj : L.used + j ≤ 65536 := by omega
      have hfj : L.fr + (L.used + j) ≤ 131072 := by have := K2.out; omega
      clear hLG hpf hpo hTe hce
      by_cases hl : j + 1 = ps.length
      · have hji : ((j : Int) == (ps.length : Int) - 1) = true := by rw [beq_iff_eq]; omega
        have hlast : (if j + 1 = ps.length then 2 else 1) = 2 := if_pos hl
        obtain ⟨F, hF⟩ : ∃ F : ByteArray, (⟨(Wa.formL ps[j] 2 L.gen (L.used + j)).toArray⟩ : ByteArray) = F := ⟨_, rfl⟩
        have hFb : F.data.toList = Wa.formL ps[j] 2 L.gen (L.used + j) := by rw [← hF]
        have hFz : F.size = 64 := by rw [← hF, ba_len]; exact Wa.formL_length _ _ _ _ (HPL.out _ (List.getElem_mem hlt2))
        have HFM : Hid (∀ W, Calls Tryz.prog 104 #[.string T, .int .i64 2, .int .i64 (L.gen : Int), .int .i64 ((L.used : Int) + (j : Int))] W fun e w' => e = .returned (.string F) ∧ Below W.heap.size W w') := Lib.hid (fun W => by
          have := form_any T 2 L.gen (L.used + j) W hT48 (by have := K4.out; omega) (by omega)
          rw [Int.natCast_add, hTb] at this
          rw [← hF]
          exact this)
        have HWR : Hid (∀ W, Below wr.heap.size wr W → Calls Tryz.prog 74 #[.pointer (some ⟨dg, 0, none⟩), .int .i64 ((L.fr : Int) + ((L.used : Int) + (j : Int))), .string F] W fun e w2 => e = .returned (.int .i64 0) ∧ ∃ fp2, LG S w0 w2 dg (Wa.wrote d L ps (j + 1)) lg L fp2 rv ∧ pg ∉ fp2 ∧ w2.ownsRow w.heap.size 9 1 (.slice (some ⟨pg, 0, none⟩) ps.length pcap) ps.length (strs ps)) := Lib.hid (fun W hW => by
          have h5 := HLG.out.later hW
          have hw := write_any h5.disk ((L.fr : Int) + ((L.used : Int) + (j : Int))) F (by rw [hFz]; omega) (by have := HW.out; simp only [Wa.wrote]; omega)
          have hst := Wa.wrote_step HT.out L ps j hlt2 (HPL.out _ (List.getElem_mem hlt2)) (by have := HR.out; omega)
          rw [hlast, Int.natCast_add, Int.natCast_add] at hst
          rw [hFb, hst] at hw
          refine hw.mono fun e w2 hp => ?_
          obtain ⟨he, fp2, h6, hO⟩ := h5.called hp
          have hpo5 := ownsRow_only HPJ.out ((Only.refl [] wr).below hW) (by simp)
          refine ⟨he, fp2, h6, fun hm => ?_, ownsRow_only hpo5 hO.1 (fun q hq hm => ?_)⟩
          · rcases hO.2 pg hm with h1 | h1
            · exact HPFJ.out h1
            · have := (hpo5.lt pg rfl).2; omega
          · injection hq with hq
            subst hq
            exact HPFJ.out hm)
        have HKC : Hid (∀ w5, Below wr.drew.heap.size wr.drew w5 → w5.cell? ⟨lg, 0, none⟩ = some (.pointer (some ⟨dg, 0, none⟩)) ∧ w5.cell? ⟨lg, 1, none⟩ = some (.int .i64 (L.fr : Int)) ∧ w5.cell? ⟨lg, 3, none⟩ = some (.int .i64 (L.gen : Int))) := Lib.hid (fun w5 hb5 => ⟨(hb5.cell (p := ⟨lg, 0, none⟩) hlgl).trans c0, (hb5.cell (p := ⟨lg, 1, none⟩) hlgl).trans c1, (hb5.cell (p := ⟨lg, 3, none⟩) hlgl).trans c3⟩)
        have HBD : Hid (∀ w5, Below wr.drew.heap.size wr.drew w5 → Below wr.heap.size wr w5) := Lib.hid (fun w5 hb5 => (Below.refl wr.heap.size wr).drew.trans hb5)
        have hwrp : IntKind.i64.wrap ((L.fr : Int) + ((L.used : Int) + (j : Int))) = (L.fr : Int) + ((L.used : Int) + (j : Int)) := by rw [IntKind.wrap_i64]; omega
        clear hT48 hTb hF hFb hFz
        go_wp2_with fail
        go_region_held3 (fun w' => w'.cell? ⟨lg, 0, none⟩ = some (.pointer (some ⟨dg, 0, none⟩)) ∧ w'.cell? ⟨lg, 1, none⟩ = some (.int .i64 (L.fr : Int)) ∧ w'.cell? ⟨lg, 3, none⟩ = some (.int .i64 (L.gen : Int)))
          (first | exact ⟨m0, m1, m3⟩ | exact ⟨k0, k1, k3⟩ | exact ⟨c0, c1, c3⟩ | go_keep)
          (first
            | (go_at_call 104; ((with_reducible refine (HFM.out _).mono ?_)); rintro e w5 ⟨rfl, hb5⟩; obtain ⟨k0, k1, k3⟩ := HKC.out _ hb5)
            | (go_at_call 74; ((with_reducible refine (HWR.out _ (HBD.out _ hb5)).mono ?_)); rintro e w6 ⟨rfl, fp2, hL6, hp6, ho6⟩; obtain ⟨m0, m1, m2, m3, m4, m5, m6, mz⟩ := hL6.cells))
        have HL6 := Lib.hid hL6
        clear c0 c1 c2 c3 c4 c5 c6 fz k0 k1 k3 m0 m1 m2 m3 m4 m5 m6 mz
        go_wp2_with fail
        go_roundw
        case rel => exact ⟨j + 1, by omega, by go_num, Lib.hid ⟨fp2, HL6.out, hp6, ho6⟩⟩
        case measure => simp [intOf]; omega
      · have hji : ((j : Int) == (ps.length : Int) - 1) = false := by rw [beq_eq_false_iff_ne]; omega
        have hlast : (if j + 1 = ps.length then 2 else 1) = 1 := if_neg hl
        obtain ⟨F, hF⟩ : ∃ F : ByteArray, (⟨(Wa.formL ps[j] 1 L.gen (L.used + j)).toArray⟩ : ByteArray) = F := ⟨_, rfl⟩
        have hFb : F.data.toList = Wa.formL ps[j] 1 L.gen (L.used + j) := by rw [← hF]
        have hFz : F.size = 64 := by rw [← hF, ba_len]; exact Wa.formL_length _ _ _ _ (HPL.out _ (List.getElem_mem hlt2))
        have HFM : Hid (∀ W, Calls Tryz.prog 104 #[.string T, .int .i64 1, .int .i64 (L.gen : Int), .int .i64 ((L.used : Int) + (j : Int))] W fun e w' => e = .returned (.string F) ∧ Below W.heap.size W w') := Lib.hid (fun W => by
          have := form_any T 1 L.gen (L.used + j) W hT48 (by have := K4.out; omega) (by omega)
          rw [Int.natCast_add, hTb] at this
          rw [← hF]
          exact this)
        have HWR : Hid (∀ W, Below wr.heap.size wr W → Calls Tryz.prog 74 #[.pointer (some ⟨dg, 0, none⟩), .int .i64 ((L.fr : Int) + ((L.used : Int) + (j : Int))), .string F] W fun e w2 => e = .returned (.int .i64 0) ∧ ∃ fp2, LG S w0 w2 dg (Wa.wrote d L ps (j + 1)) lg L fp2 rv ∧ pg ∉ fp2 ∧ w2.ownsRow w.heap.size 9 1 (.slice (some ⟨pg, 0, none⟩) ps.length pcap) ps.length (strs ps)) := Lib.hid (fun W hW => by
          have h5 := HLG.out.later hW
          have hw := write_any h5.disk ((L.fr : Int) + ((L.used : Int) + (j : Int))) F (by rw [hFz]; omega) (by have := HW.out; simp only [Wa.wrote]; omega)
          have hst := Wa.wrote_step HT.out L ps j hlt2 (HPL.out _ (List.getElem_mem hlt2)) (by have := HR.out; omega)
          rw [hlast, Int.natCast_add, Int.natCast_add] at hst
          rw [hFb, hst] at hw
          refine hw.mono fun e w2 hp => ?_
          obtain ⟨he, fp2, h6, hO⟩ := h5.called hp
          have hpo5 := ownsRow_only HPJ.out ((Only.refl [] wr).below hW) (by simp)
          refine ⟨he, fp2, h6, fun hm => ?_, ownsRow_only hpo5 hO.1 (fun q hq hm => ?_)⟩
          · rcases hO.2 pg hm with h1 | h1
            · exact HPFJ.out h1
            · have := (hpo5.lt pg rfl).2; omega
          · injection hq with hq
            subst hq
            exact HPFJ.out hm)
        have HKC : Hid (∀ w5, Below wr.drew.heap.size wr.drew w5 → w5.cell? ⟨lg, 0, none⟩ = some (.pointer (some ⟨dg, 0, none⟩)) ∧ w5.cell? ⟨lg, 1, none⟩ = some (.int .i64 (L.fr : Int)) ∧ w5.cell? ⟨lg, 3, none⟩ = some (.int .i64 (L.gen : Int))) := Lib.hid (fun w5 hb5 => ⟨(hb5.cell (p := ⟨lg, 0, none⟩) hlgl).trans c0, (hb5.cell (p := ⟨lg, 1, none⟩) hlgl).trans c1, (hb5.cell (p := ⟨lg, 3, none⟩) hlgl).trans c3⟩)
        have HBD : Hid (∀ w5, Below wr.drew.heap.size wr.drew w5 → Below wr.heap.size wr w5) := Lib.hid (fun w5 hb5 => (Below.refl wr.heap.size wr).drew.trans hb5)
        have hwrp : IntKind.i64.wrap ((L.fr : Int) + ((L.used : Int) + (j : Int))) = (L.fr : Int) + ((L.used : Int) + (j : Int)) := by rw [IntKind.wrap_i64]; omega
        clear hT48 hTb hF hFb hFz
        go_wp2_with fail
        go_region_held3 (fun w' => w'.cell? ⟨lg, 0, none⟩ = some (.pointer (some ⟨dg, 0, none⟩)) ∧ w'.cell? ⟨lg, 1, none⟩ = some (.int .i64 (L.fr : Int)) ∧ w'.cell? ⟨lg, 3, none⟩ = some (.int .i64 (L.gen : Int)))
          (first | exact ⟨m0, m1, m3⟩ | exact ⟨k0, k1, k3⟩ | exact ⟨c0, c1, c3⟩ | go_keep)
          (first
            | (go_at_call 104; ((with_reducible refine (HFM.out _).mono ?_)); rintro e w5 ⟨rfl, hb5⟩; obtain ⟨k0, k1, k3⟩ := HKC.out _ hb5)
            | (go_at_call 74; ((with_reducible refine (HWR.out _ (HBD.out _ hb5)).mono ?_)); rintro e w6 ⟨rfl, fp2, hL6, hp6, ho6⟩; obtain ⟨m0, m1, m2, m3, m4, m5, m6, mz⟩ := hL6.cells))
        have HL6 := Lib.hid hL6
        clear c0 c1 c2 c3 c4 c5 c6 fz k0 k1 k3 m0 m1 m2 m3 m4 m5 m6 mz
        go_wp2_with fail
        go_roundw
        case rel => exact ⟨j + 1, by omega, by go_num, Lib.hid ⟨fp2, HL6.out, hp6, ho6⟩⟩
        case measure => simp [intOf]; omega
    · obtain rfl : j = ps.length := by omega
      have h20 := hLG.store 5 (.int .i64 ((L.used : Int) + (ps.length : Int))) { L with used := L.used + ps.length } (by simp only [lcells]; rw [Int.natCast_add]; rfl) rfl
      clear hpf hpo
      go_upto_region 21 with fail
      obtain ⟨V, hV⟩ : ∃ V, wr.setCell ⟨lg, 5, none⟩ (.int .i64 ((L.used : Int) + (ps.length : Int))) = V := ⟨_, rfl⟩
      rw [hV] at h20 ⊢
      clear hV hLG c0 c1 c2 c3 c4 c5 c6 fz HJ
      obtain ⟨c0, c1, c2, c3, c4, c5, c6, fz⟩ := h20.cells
      have H20 := Lib.hid h20
      obtain ⟨i0, hi0, hz0, hz1, hz2⟩ := info_parts str_info
      have Hi0 := Lib.hid hi0
      have Hz0 := Lib.hid hz0
      have Hz1 := Lib.hid hz1
      have Hz2 := Lib.hid hz2
      clear hi0 hz0 hz1 hz2
      have HOWN : Hid (∀ w5, Below V.heap.size V w5 → (w5.alloc (.cells #[.string s] 9)).ownsRow 0 9 1 rv L.recs.length (strs L.recs) ∧ 0 ≤ (w5.alloc (.cells #[.string s] 9)).heap.size) := Lib.hid (fun w5 hb5 => by
        have h5a := (H20.out.later hb5).later ((Below.refl _ _).alloc (Nat.le_refl _) (.cells #[.string s] 9))
        exact ⟨h5a.row, Nat.zero_le _⟩)
      have HAP : Hid (∀ w5, Below V.heap.size V w5 → ∀ w6 g' cap', w6.ownsRow 0 9 1 (.slice (some ⟨g', 0, none⟩) (L.recs.length + 1) cap') (L.recs.length + 1) (strs L.recs ++ [.string s]) → (w5.alloc (.cells #[.string s] 9)).grownBy w6 rv.ownBlock → (rv.ownBlock = some g' ∨ g' = w5.heap.size + 1) → w6.cell? ⟨lg, 6, none⟩ = some rv ∧ w6.frozen? ⟨lg, 6, none⟩ = false ∧ LG S w0 (w6.setCell ⟨lg, 6, none⟩ (.slice (some ⟨g', 0, none⟩) (L.recs.length + 1) cap')) dg (Wa.wrote d L ps ps.length) lg { L with used := L.used + ps.length, recs := L.recs ++ [s.data.toList] } fp' (.slice (some ⟨g', 0, none⟩) (L.recs.length + 1) cap')) := Lib.hid (fun w5 hb5 w6 g' cap' hown hgrow hat => by
        have h5 := H20.out.later hb5
        obtain ⟨h7, hL⟩ := h5.pushed s hown hgrow (by rcases hat with h1 | h1
                                                      · exact .inl (by rw [h1]; rfl)
                                                      · exact .inr (by rw [h1]; rfl))
        exact ⟨h7.c6, h7.fz 6, hL⟩)
      have hlgl : lg < V.heap.size := h20.blk.lt
      clear h20
      have hA2 : L.recs.length + 1 ≤ maxLen := by have := HRL.out; unfold maxLen; omega
      have hA3 : (L.recs.length + 1) * 16 ≤ 140737488355328 := by have := HRL.out; omega
      have HA2 := Lib.hid hA2
      have HA3 := Lib.hid hA3
      clear hA2 hA3
      go_region_law (first
        | (refine step_append_lies _ (by rfl) _ _ 52 (by rfl) 0 9 i0 _ 1 16 Tryz.underlying52 Hi0.out Hz0.out Hz1.out Hz2.out rfl Nat.one_pos rv L.recs.length (strs L.recs) (by rfl) (HOWN.out w5 ((below_drewN (Below.refl _ _) 1).trans hb5)).1 ⟨w5.heap.size, 0, none⟩ 1 1 [.string s] (by rfl) (by rfl) (cell_one_new _ _ _) (str_one _) Nat.one_pos HA2.out HA3.out (HOWN.out w5 ((below_drewN (Below.refl _ _) 1).trans hb5)).2 (w5.heap.size + 1) (World.size_alloc _ _) ?_; intro g' cap' w6 hown6 hgrow6 hat6 _; obtain ⟨n6, f6, hL6⟩ := HAP.out w5 ((below_drewN (Below.refl _ _) 1).trans hb5) w6 g' cap' hown6 hgrow6 hat6; have HL6 := Lib.hid hL6; clear hL6 hown6 hgrow6 hat6)
        | (go_simp; go_at_call 101; ((with_reducible refine (sclone_any s _ HS.out).mono ?_)); rintro e w5 ⟨rfl, hb5⟩; have k6 := (hb5.cell (p := ⟨lg, 6, none⟩) hlgl).trans c6; have k6a := (World.cell?_alloc_some w5 ⟨lg, 6, none⟩ (.cells #[.string s] 9) (by rw [k6]; rfl)).trans k6))
      all_goals
        clear c0 c1 c2 c3 c4 c5 c6 fz k6 k6a n6 f6
        go_wp2_with fail
        go_ret
        exact ⟨rfl, _, _, HL6.out⟩
end
end Go.Proofs.YtoleojljpaglhaaGreat
