/- The contract of wal.Open at any place of the disk, where some pieces of a generation stand. -/
import Derived.Test.YtoleojljpaglhaaGreatWaI
namespace Go.Proofs.YtoleojljpaglhaaGreat
open Go.RowKit
set_option maxRecDepth 20000
/-- what has been read of a record -/
def recOf (rs : List (List UInt8)) (r j : Nat) : List UInt8 := ((Wa.pieces (rs.getD r [])).take j).flatten
theorem recOf_zero (rs : List (List UInt8)) (r : Nat) : recOf rs r 0 = [] := by simp [recOf]
theorem getD_lt (rs : List (List UInt8)) (r : Nat) (h : r < rs.length) : rs.getD r [] = rs[r] := by simp [List.getD_eq_getElem?_getD, h]
theorem recOf_step (rs : List (List UInt8)) (r j : Nat) (hr : r < rs.length) (hj : j < (Wa.pieces rs[r]).length) : recOf rs r j ++ (Wa.pieces rs[r])[j] = recOf rs r (j + 1) := by
  unfold recOf
  rw [getD_lt rs r hr, List.take_succ_eq_append_getElem hj, List.flatten_append, List.flatten_cons, List.flatten_nil, List.append_nil]
theorem recOf_last (rs : List (List UInt8)) (r j : Nat) (hr : r < rs.length) (hj : j = (Wa.pieces rs[r]).length) : recOf rs r j = rs[r] := by
  unfold recOf
  rw [getD_lt rs r hr, hj, List.take_length, Wa.pieces_flat']
theorem recOf_len (rs : List (List UInt8)) (r : Nat) : ∀ j, (recOf rs r j).length ≤ 48 * j := by
  intro j
  have hp := Wa.pieces_le (rs.getD r [])
  unfold recOf
  generalize Wa.pieces (rs.getD r []) = l at hp
  induction l generalizing j with
  | nil => simp
  | cons a l ih =>
    cases j with
    | zero => simp
    | succ j =>
      simp only [List.take_succ_cons, List.flatten_cons, List.length_append]
      have h1 := hp a List.mem_cons_self
      have h2 := ih j (fun p hp' => hp p (List.mem_cons_of_mem _ hp'))
      omega
/-- the log as it has been read so far -/
def oG (FR NN gen : Nat) (rs : List (List UInt8)) (r : Nat) : Wa.WL := { fr := FR, n := NN, gen := gen, op := false, used := (Wa.allP (rs.take r)).length, recs := rs.take r }
/-- what Open leaves -/
def OpGen (S : Nat → Prop) (w0 : World) (dg : Nat) (d : Vd.VD) (FR NN gen T : Nat) (rs : List (List UInt8)) (fp : List Nat) (e : Ending) (w' : World) : Prop :=
  ∃ lg r j rv, e = .returned (.tuple #[.pointer (some ⟨lg, 0, none⟩), .int .i64 0]) ∧ Wa.Sc rs T r j ∧ LG S w0 w' dg d lg (oG FR NN gen rs r) fp rv
attribute [local go_sem ↓] run_cat
set_option maxRecDepth 20000 in
set_option maxHeartbeats 2000000 in
theorem open_gen {S : Nat → Prop} {w0 w : World} {dg : Nat} {d : Vd.VD} {fp : List Nat} (hbel : KeepS S w0 w) (hup : ∀ k, w0.heap.size ≤ k → S k) (hd : DF w dg d fp) (hlow : ∀ b ∈ fp, S b) (FR NN gen T : Nat) (rs : List (List UInt8)) (hon : d.on = true) (hq : d.q = []) (hN1 : 1 ≤ NN) (hlen : FR + NN ≤ d.secs.length)
    (hg1 : 1 ≤ gen) (hg : gen < 256) (hA : Wa.ArP d.secs FR NN gen (Wa.allP rs) T) (hrs : rs.length ≤ 30) :
    Calls Tryz.prog 22 #[.pointer (some ⟨dg, 0, none⟩), .int .i64 (FR : Int), .int .i64 (NN : Int)] w fun e w' => OpGen S w0 dg d FR NN gen T rs fp e w' := by
  have hsl : d.secs.length ≤ 65536 := by
    obtain ⟨_, _, _, _, hd'⟩ := hd
    exact hd'.secs1
  obtain ⟨sl, hsl2⟩ : ∃ sl : Int, (d.secs.length : Int) = sl := ⟨_, rfl⟩
  have i1 : sl ≤ 65536 := by omega
  have j1 : ¬ (NN : Int) < 1 := by omega
  have j3 : ¬ sl < (FR : Int) := by omega
  have j4 : ¬ sl - (FR : Int) < (NN : Int) := by omega
  have j5 : (FR : Int) ≤ 65536 := by omega
  have j6 : (NN : Int) ≤ 65536 := by omega
  have hlk : ∀ p, Vd.look d (FR + p) = Wa.sec d.secs FR p := fun p => by unfold Vd.look; rw [hq]; rfl
  have hsec : ∀ W, Below w.heap.size w W → Calls Tryz.prog 21 #[.pointer (some ⟨dg, 0, none⟩)] W fun e w' => e = .returned (.int .i64 sl) ∧ W = w' := fun W hW => by
    have := sectors_df (hd.below hW)
    rwa [hsl2] at this
  have hrdp : ∀ p : Nat, p < NN → Vd.read d ((FR : Int) + (p : Int)) = (0, Wa.sec d.secs FR p) := fun p hp => by
    unfold Vd.read
    have ha : Vd.asked d ((FR : Int) + (p : Int)) = 0 := by unfold Vd.asked; rw [if_pos hon, if_neg (by omega)]
    rw [if_neg (by rw [ha]; simp), show ((FR : Int) + (p : Int)).toNat = FR + p from by omega, hlk]
  have hr : ∀ (p : Nat), p < NN → ∀ W, DF W dg d fp → Calls Tryz.prog 65 #[.pointer (some ⟨dg, 0, none⟩), .int .i64 ((FR : Int) + (p : Int))] W fun e w' => e = .returned (.tuple #[.string ⟨(Wa.sec d.secs FR p).toArray⟩, .int .i64 0]) ∧ Below W.heap.size W w' := fun p hp W hW => by
    have := read_any hW ((FR : Int) + (p : Int))
    rw [hrdp p hp] at this
    exact this
  have hgn : ∀ W, Calls Tryz.prog 66 #[.string ⟨(Wa.sec d.secs FR 0).toArray⟩] W fun e w' => e = .returned (.int .i64 (gen : Int)) ∧ W = w' := fun W => by
    have := generation_any ⟨(Wa.sec d.secs FR 0).toArray⟩ W (by rw [ba_len]; exact hA.first.1)
    have e : genOf (Wa.sec d.secs FR 0) = (gen : Int) := hA.first.2
    have e2 : (⟨(Wa.sec d.secs FR 0).toArray⟩ : ByteArray).data.toList = Wa.sec d.secs FR 0 := by simp
    rwa [e2, e] at this
  have HS := Lib.hid hsec
  have HR := Lib.hid hr
  have hr0 : ∀ W, DF W dg d fp → Calls Tryz.prog 65 #[.pointer (some ⟨dg, 0, none⟩), .int .i64 (FR : Int)] W fun e w' => e = .returned (.tuple #[.string ⟨(Wa.sec d.secs FR 0).toArray⟩, .int .i64 0]) ∧ Below W.heap.size W w' := fun W hW => by
    have := hr 0 (by omega) W hW
    rwa [show ((FR : Int) + ((0 : Nat) : Int)) = (FR : Int) from by simp] at this
  obtain ⟨Z, hZ⟩ : ∃ Z : ByteArray, (⟨(Wa.sec d.secs FR 0).toArray⟩ : ByteArray) = Z := ⟨_, rfl⟩
  rw [hZ] at hr0 hgn
  have HR0 := Lib.hid hr0
  have HG := Lib.hid hgn
  have HD := Lib.hid hd
  have HBL := Lib.hid hbel
  have HL := Lib.hid hlow
  have HA := Lib.hid hA
  have hT30 := hA.tn
  have HRS := Lib.hid hrs
  have HG256 := Lib.hid hg
  have hg0 : (0 : Int) < (gen : Int) := by omega
  clear hsec hr hr0 hgn hd hbel hlow hrdp hZ hlk hq hlen hA hon hg hg1 hrs hsl hsl2 hN1
  have hs0 : w0.heap.size ≤ w.heap.size := HBL.out.size
  have HUP := Lib.hid hup
  clear hup
  go_enter Tryz.func22, Tryz.ntmps22
  go_wp2_with fail
  (with_reducible refine (HS.out _ (Below.refl _ _)).mono ?_)
  rintro e w1 ⟨rfl, rfl⟩
  go_wp2_with fail
  (with_reducible refine (HS.out _ (Below.refl _ _)).mono ?_)
  rintro e w1 ⟨rfl, rfl⟩
  go_wp2_with fail
  (with_reducible refine (HR0.out _ HD.out).mono ?_)
  rintro e w1 ⟨rfl, hb1⟩
  go_wp2_with fail
  (with_reducible refine (HG.out _).mono ?_)
  rintro e w2 ⟨rfl, rfl⟩
  have hs1 := hb1.size
  have hnew : LG S w0 (w1.alloc (.cells (lcells (.pointer (some ⟨dg, 0, none⟩)) (oG FR NN gen rs 0) (.slice none 0 0)) 112)) dg d w1.heap.size (oG FR NN gen rs 0) fp (.slice none 0 0) := by
    have hD1 := HD.out.below hb1
    refine ⟨(HBL.out.below hb1).alloc _, HUP.out, hD1.below ((Below.refl _ _).alloc (Nat.le_refl _) _), HL.out, HUP.out _ (by omega), Blk.new _ _ _, fun hm => ?_, ?_, by simp [Value.ownBlock], by simp [Value.ownBlock]⟩
    · have := hD1.lt _ hm
      omega
    · have e : (oG FR NN gen rs 0).recs = [] := by simp [oG]
      rw [e]
      exact World.ownsRow_nil _ _ _ _
  have HN := Lib.hid hnew
  clear hnew hb1
  go_wp2_with fail
  go_loopw [11, 12] (fun rec i wr => ∃ (p r j : Nat), p ≤ T ∧ i = .int .i64 p ∧ rec = .string ⟨(recOf rs r j).toArray⟩ ∧ Hid (Wa.Sc rs p r j) ∧ Hid (∃ rv, LG S w0 wr dg d w1.heap.size (oG FR NN gen rs r) fp rv)) (fun _ i _ => NN + 1 - (intOf i).toNat)
  case atStart => exact ⟨0, 0, 0, Nat.zero_le _, rfl, by rw [recOf_zero], Lib.hid (Wa.Sc.start rs), Lib.hid ⟨_, HN.out⟩⟩
  case round =>
    obtain ⟨p, r, j, hp, rfl, rfl, HSC, HLL⟩ := hrel
    obtain ⟨rv, hLG⟩ := HLL.out
    obtain ⟨c0, c1, c2, c3', c4, c5, c6, fz⟩ := hLG.cells
    have c3 : wr.cell? ⟨w1.heap.size, 3, none⟩ = some (.int .i64 (gen : Int)) := c3'
    clear c3'
    have HLG := Lib.hid hLG
    clear hLG
    by_cases hpT : p < T
    · obtain ⟨x, hx, hsx⟩ := HA.out.at_ p hpT
      obtain ⟨hr, hj, hget⟩ := HSC.out.get (by have := HA.out.le; omega)
      rw [hx] at hget
      have hget : x = ((Wa.pieces rs[r])[j], if j + 1 = (Wa.pieces rs[r]).length then 2 else 1) := by injection hget
      have hx48 := (Wa.allP_ok rs) x (List.mem_of_getElem? hx)
      have hjp : j ≤ p := by have := HSC.out.pl; omega
      obtain ⟨S, hS⟩ : ∃ S : ByteArray, (⟨(Wa.sec d.secs FR p).toArray⟩ : ByteArray) = S := ⟨_, rfl⟩
      obtain ⟨PC, hPC⟩ : ∃ PC : ByteArray, (⟨((Wa.pieces rs[r])[j]).toArray⟩ : ByteArray) = PC := ⟨_, rfl⟩
      obtain ⟨R0, hR0⟩ : ∃ R0 : ByteArray, (⟨(recOf rs r j).toArray⟩ : ByteArray) = R0 := ⟨_, rfl⟩
      have hRP := HR.out p (by omega)
      rw [hS] at hRP
      have hx1 : x.1 = (Wa.pieces rs[r])[j] := by rw [hget]
      have hS2 : S = ⟨(Wa.formL (Wa.pieces rs[r])[j] x.2 gen p).toArray⟩ := by rw [← hS, hsx, hx1]
      have hRY := fun W => lread_yes (Wa.pieces rs[r])[j] x.2 gen p S W hS2 (by rw [← hx1]; exact hx48.1) (by rw [← hx1]; have := hx48.2; omega) HG256.out (by omega)
      rw [hPC] at hRY
      have hcat : (⟨(recOf rs r (j + 1)).toArray⟩ : ByteArray) = R0 ++ PC := by rw [← hR0, ← hPC, ba_app, recOf_step rs r j hr hj]
      have z0 : R0.size ≤ 3145728 := by rw [← hR0, ba_len]; have := recOf_len rs r j; omega
      have z1 : PC.size ≤ 48 := by rw [← hPC, ba_len, ← hx1]; exact hx48.1
      have m0 : Small R0 := by unfold Small; omega
      have m1 : Small PC := by unfold Small; omega
      rw [hR0]
      have HRP := Lib.hid hRP
      have HCAT := Lib.hid hcat
      have hp30 : (p : Int) < (NN : Int) := by omega
      by_cases hl : j + 1 = (Wa.pieces rs[r]).length
      · have hx2 : x.2 = 2 := by rw [hget]; exact if_pos hl
        rw [hx2] at hRY
        have hRY : ∀ W, Calls Tryz.prog 67 #[.string S, .int .i64 (gen : Int), .int .i64 (p : Int)] W fun e w' => e = .returned (.tuple #[.string PC, .int .i64 2, .bool true]) ∧ Below W.heap.size W w' := hRY
        have HRY := Lib.hid hRY
        have hrq : (oG FR NN gen rs (r + 1)).recs = (oG FR NN gen rs r).recs ++ [(R0 ++ PC).data.toList] := by
          have e1 : (R0 ++ PC).data.toList = rs[r] := by rw [← HCAT.out]; show recOf rs r (j + 1) = rs[r]; exact recOf_last rs r (j + 1) hr hl
          rw [e1]
          exact List.take_succ_eq_append_getElem hr
        have hus : (((oG FR NN gen rs (r + 1)).used : Nat) : Int) = (p : Int) + 1 := by
          have e1 := Wa.allP_take rs r hr
          have e2 := HSC.out.pl
          show (((Wa.allP (rs.take (r + 1))).length : Nat) : Int) = _
          omega
        have hrl : (oG FR NN gen rs r).recs.length ≤ 30 := by have := HRS.out; simp [oG]; omega
        have HRL := Lib.hid hrl
        have HUS := Lib.hid hus
        have HRQ := Lib.hid hrq
        obtain ⟨i0, hi0, hz0, hz1, hz2⟩ := info_parts str_info
        have Hi0 := Lib.hid hi0
        have Hz0 := Lib.hid hz0
        have Hz1 := Lib.hid hz1
        have Hz2 := Lib.hid hz2
        have hem : (PC.toList.isEmpty = true ∧ R0.toList.isEmpty = true) ∨ PC.toList.isEmpty = false := by
          rw [ByteArray.toList_eq, ByteArray.toList_eq]
          by_cases he : (Wa.pieces rs[r])[j] = []
          · left
            obtain ⟨h1, h2⟩ := Wa.pieces_last _ rs[r] (Nat.le_refl _) j hj hl he
            have eR : recOf rs r j = [] := by rw [h2, recOf_zero]
            rw [← hPC, ← hR0, eR, he]
            exact ⟨rfl, rfl⟩
          · right
            rw [← hPC]
            show (Wa.pieces rs[r])[j].isEmpty = false
            rw [List.isEmpty_eq_false_iff]
            exact he
        clear hx hsx hget hx48 hS hPC hR0 hRP hx1 hS2 hRY hcat z0 z1 hrq hus hrl hi0 hz0 hz1 hz2 hx2
        rcases hem with ⟨hem1, hem2⟩ | hem1
        all_goals
        go_wp2_with fail
        (with_reducible refine (HRP.out _ HLG.out.disk).mono ?_)
        rintro e w3 ⟨rfl, hb3⟩
        have h3 := HLG.out.later hb3
        have k3 : w3.cell? ⟨w1.heap.size, 3, none⟩ = some (.int .i64 (gen : Int)) := h3.cells.c3
        have H3 := Lib.hid h3
        clear h3 hb3 c0 c1 c2 c3 c4 c5 c6 fz
        go_wp2_with fail
        (with_reducible refine (HRY.out _).mono ?_)
        rintro e w4 ⟨rfl, hb4⟩
        have h4 := H3.out.later hb4
        obtain ⟨d0, d1, d2, d3, d4, d5, d6, dz⟩ := h4.cells
        have H4 := Lib.hid h4
        clear h4 hb4 k3 d0 d1 d2 d3 d4
        go_wp2_with (at_builtin; refine wpList_append_own_at _ rfl _ _ 52 rfl 0 9 i0 _ 1 16 Tryz.underlying52 Hi0.out Hz0.out Hz1.out Hz2.out rfl (by decide) _ (oG FR NN gen rs r).recs.length (strs (oG FR NN gen rs r).recs) rfl (H4.out.row.alloc _) ⟨w4.heap.size, 0, none⟩ 1 1 [.string (R0 ++ PC)] rfl rfl (cell_one_new _ _ _) (str_one _) ?c3 ?c4 ?c5 ?_)
        case c3 => have := HRL.out; unfold maxLen; omega
        case c4 => have := HRL.out; omega
        case c5 => exact Nat.zero_le _
        intro v6 w6 hown6 hgrow6 hnil6 hat6
        obtain ⟨g6, cap6, rfl⟩ : ∃ g cap, v6 = .slice (some ⟨g, 0, none⟩) ((oG FR NN gen rs r).recs.length + 1) cap := by
          rcases hown6.2 with ⟨_, h0⟩ | ⟨g, cap, cur, rfl, _⟩
          · omega
          · exact ⟨g, cap, rfl⟩
        obtain ⟨hc7, hL6⟩ := H4.out.pushed (R0 ++ PC) hown6 hgrow6 (by simpa using hat6)
        obtain ⟨m0, m1, m2, m3, m4, m5, m6, mz⟩ := hc7
        have hL7 := hL6.store 5 (.int .i64 ((p : Int) + 1)) (oG FR NN gen rs (r + 1)) (by rw [← HUS.out]; rfl) HRQ.out
        have HL7 := Lib.hid hL7
        clear hown6 hgrow6 hnil6 hat6 hL6 hL7 d5 d6 dz
        go_wp2_with fail
        go_roundw
        case rel => exact ⟨p + 1, r + 1, 0, by omega, by go_num, by rw [recOf_zero], Lib.hid (HSC.out.last hr (by omega)), Lib.hid ⟨_, HL7.out⟩⟩
        case measure => simp [intOf]; omega
      · have hx2 : x.2 = 1 := by rw [hget]; exact if_neg hl
        rw [hx2] at hRY
        have hRY : ∀ W, Calls Tryz.prog 67 #[.string S, .int .i64 (gen : Int), .int .i64 (p : Int)] W fun e w' => e = .returned (.tuple #[.string PC, .int .i64 1, .bool true]) ∧ Below W.heap.size W w' := hRY
        have HRY := Lib.hid hRY
        clear hx hsx hget hx48 hS hPC hR0 hRP hx1 hS2 hRY hcat z0 z1 hx2
        go_wp2_with fail
        (with_reducible refine (HRP.out _ HLG.out.disk).mono ?_)
        rintro e w3 ⟨rfl, hb3⟩
        have h3 := HLG.out.later hb3
        have k3 : w3.cell? ⟨w1.heap.size, 3, none⟩ = some (.int .i64 (gen : Int)) := h3.cells.c3
        have H3 := Lib.hid h3
        clear h3 hb3 c0 c1 c2 c3 c4 c5 c6 fz
        go_wp2_with fail
        (with_reducible refine (HRY.out _).mono ?_)
        rintro e w4 ⟨rfl, hb4⟩
        have h4 := H3.out.later hb4
        have H4 := Lib.hid h4
        clear h4 hb4 k3
        go_wp2_with fail
        go_roundw
        case rel => exact ⟨p + 1, r, j + 1, by omega, by go_num, by rw [HCAT.out], Lib.hid (HSC.out.more hr hj hl), Lib.hid ⟨_, H4.out⟩⟩
        case measure => simp [intOf]; omega
    · obtain rfl : p = T := by omega
      by_cases hT : p < NN
      · obtain ⟨hst1, hst2⟩ := HA.out.stop hT
        obtain ⟨S, hS⟩ : ∃ S : ByteArray, (⟨(Wa.sec d.secs FR p).toArray⟩ : ByteArray) = S := ⟨_, rfl⟩
        have hRP := HR.out p hT
        rw [hS] at hRP
        have hRN := fun W => lread_no gen p S W (by rw [← hS, ba_len]; exact hst1) (by rw [← hS, Wa.be4 gen HG256.out]; exact hst2) (by have := HG256.out; omega) (by omega)
        have HRP := Lib.hid hRP
        have HRN := Lib.hid hRN
        have hp30 : (p : Int) < (NN : Int) := by omega
        clear hst1 hst2 hS hRP hRN hT
        go_wp2_with fail
        (with_reducible refine (HRP.out _ HLG.out.disk).mono ?_)
        rintro e w3 ⟨rfl, hb3⟩
        have h3 := HLG.out.later hb3
        have k3 : w3.cell? ⟨w1.heap.size, 3, none⟩ = some (.int .i64 (gen : Int)) := h3.cells.c3
        have H3 := Lib.hid h3
        clear h3 hb3 c0 c1 c2 c3 c4 c5 c6 fz
        go_wp2_with fail
        (with_reducible refine (HRN.out _).mono ?_)
        rintro e w4 ⟨⟨s4, k4, rfl⟩, hb4⟩
        have H4 := Lib.hid (H3.out.later hb4)
        clear hb4 k3
        go_wp2_with fail
        go_ret2
        exact ⟨_, _, _, _, rfl, HSC.out, H4.out⟩
      · have hp30 : ¬ (p : Int) < (NN : Int) := by omega
        go_wp2_with fail
        go_ret2
        obtain ⟨rv, hLG⟩ := HLL.out
        exact ⟨_, r, j, rv, rfl, HSC.out, hLG⟩
end Go.Proofs.YtoleojljpaglhaaGreat
