/- The contract of settle, whatever the disk does. -/
import Derived.Test.YtoleojljpaglhaaGreatPaI
import Derived.Deep.RegionHeld3
namespace Go.Proofs.YtoleojljpaglhaaGreat
open Go.RowKit
set_option maxRecDepth 20000
theorem str_back (a : ByteArray) : (⟨a.toList.toArray⟩ : ByteArray) = a := by
  rw [ByteArray.toList_eq]
theorem str_ne {a b : ByteArray} (h : a ≠ b) : (a.toList == b.toList) = false := by
  rw [beq_eq_false_iff_ne]
  intro e
  apply h
  rw [← str_back a, ← str_back b, e]
theorem tcells_at : ∀ (l : List (Int × ByteArray)) (j : Nat) (h : j < l.length), (tcells l)[2 * j]? = some (.int .i64 l[j].1) ∧ (tcells l)[2 * j + 1]? = some (.string l[j].2)
  | x :: l, 0, _ => ⟨rfl, rfl⟩
  | x :: l, j + 1, h => by
    have := tcells_at l j (by simpa using h)
    rw [show 2 * (j + 1) = 2 * j + 1 + 1 from by omega]
    exact this
theorem tod_at (l : List (Nat × List UInt8)) (j : Nat) (h : j < l.length) (h' : j < (Pb.tod l).length) : (Pb.tod l)[j] = ((l[j].1 : Int), (⟨l[j].2.toArray⟩ : ByteArray)) := by simp [Pb.tod]
theorem burns_keeps (d : Vd.VD) (h : (Vd.burns d).1 = false) : (Vd.burns d).2.on = d.on ∧ (Vd.burns d).2.secs = d.secs ∧ (Vd.burns d).2.writes = d.writes := by
  unfold Vd.burns at h ⊢
  split
  · exact ⟨rfl, rfl, rfl⟩
  · split
    · exact ⟨rfl, rfl, rfl⟩
    · rename_i hx hn
      rw [hx] at h
      simp only at h
      rw [if_neg hn] at h
      cases h
theorem write_keeps (d : Vd.VD) (a : Int) (x : List UInt8) (h : (Vd.write d a x).1 = 0) : (Vd.write d a x).2.on = d.on ∧ (Vd.write d a x).2.secs = d.secs ∧ (Vd.write d a x).2.writes = d.writes + 1 := by
  unfold Vd.write at h ⊢
  split
  · rename_i h0
    rw [if_pos h0] at h
    exact absurd h h0
  · rename_i h0
    rw [if_neg h0] at h
    split
    · rename_i h1
      rw [if_pos h1] at h
      cases h
    · rename_i h1
      rw [if_neg h1] at h
      split
      · rename_i h2
        rw [if_pos h2] at h
        cases h
      · rename_i h2
        rw [if_neg h2] at h
        split
        · rename_i h3
          rw [if_pos h3] at h
          cases h
        · rename_i h3
          have := burns_keeps d (by simpa using h3)
          exact ⟨this.1, this.2.1, by show (Vd.burns d).2.writes + 1 = _; rw [this.2.2]⟩
theorem set_same {d : Vd.VD} {x : Nat × List UInt8} {l : List (Nat × List UInt8)} {b : Bool} (h : Vd.look d x.1 = x.2) : Pb.setSeq d (x :: l) b = Pb.setSeq d l b := by rw [Pb.setSeq, if_pos h]
theorem set_yes {d : Vd.VD} {x : Nat × List UInt8} {l : List (Nat × List UInt8)} {b : Bool} (h : ¬ Vd.look d x.1 = x.2) (h0 : (Vd.write d (x.1 : Int) x.2).1 = 0) : Pb.setSeq d (x :: l) b = Pb.setSeq (Vd.write d (x.1 : Int) x.2).2 l true := by rw [Pb.setSeq, if_neg h, if_pos h0]
theorem set_no {d : Vd.VD} {x : Nat × List UInt8} {l : List (Nat × List UInt8)} {b : Bool} (h : ¬ Vd.look d x.1 = x.2) (h0 : (Vd.write d (x.1 : Int) x.2).1 ≠ 0) : Pb.setSeq d (x :: l) b = ((Vd.write d (x.1 : Int) x.2).1, true, (Vd.write d (x.1 : Int) x.2).2) := by rw [Pb.setSeq, if_neg h, if_neg h0]
section
variable {S : Nat → Prop} {w0 w w' : World} {G : PH} {d d' : Vd.VD} {L L' : Wa.WL} {P : PP}
theorem PG.row_shape (h : PG S w0 w G d L P) (hne : P.todo ≠ []) : ∃ g cap, G.tv = .slice (some ⟨g, 0, none⟩) P.todo.length cap := by
  rcases h.row.2 with ⟨_, e⟩ | ⟨g, cap, cur, e, _⟩
  · exact absurd (List.eq_nil_of_length_eq_zero e) hne
  · exact ⟨g, cap, e⟩
set_option maxHeartbeats 2000000 in
theorem settle_some (h : PG S w0 w G d L P) (l : List (Nat × List UInt8)) (ht : P.todo = Pb.tod l) (hne : l ≠ []) (hl : ∀ x ∈ l, x.1 < d.secs.length ∧ x.2.length = 64) (hon : d.on = true) (hw : d.writes + l.length < 1000000000) (hll : l.length ≤ 100000) :
    Calls Tryz.prog 25 #[.pointer (some ⟨G.pg, 0, none⟩)] w fun e w' => e = .returned (.int .i64 (Pb.settleV d l).1) ∧ ∃ fp tv, PG S w0 w' { G with fp := fp, tv := tv } (Pb.settleV d l).2 L { P with todo := if (Pb.settleV d l).1 = 0 then [] else P.todo } := by
  have hlen : P.todo.length = l.length := by rw [ht]; simp [Pb.tod]
  obtain ⟨g, cap, hv⟩ := h.row_shape (by intro e; rw [e] at hlen; exact hne (List.eq_nil_of_length_eq_zero hlen.symm))
  rw [hlen] at hv
  have co := h.cells.co
  rw [hv] at co
  have hcell : ∀ W G' d', G'.tv = G.tv → PG S w0 W G' d' L P → ∀ j (hj : j < l.length), W.cell? ⟨g, j * 2, none⟩ = some (.int .i64 (l[j].1 : Int)) ∧ W.cell? ⟨g, j * 2 + 1, none⟩ = some (.string ⟨l[j].2.toArray⟩) := fun W G' d' e hP j hj => by
    have hr := hP.row
    rw [e, hv, hlen] at hr
    have h1 := hr.cellAt (j * 2) (by omega)
    have h2 := hr.cellAt (j * 2 + 1) (by omega)
    have hj' : j < P.todo.length := by omega
    have ht' := tcells_at P.todo j hj'
    have e3 : P.todo[j] = ((l[j].1 : Int), (⟨l[j].2.toArray⟩ : ByteArray)) := by simp only [ht]; exact tod_at l j hj _
    rw [e3] at ht'
    rw [Nat.mul_comm j 2] at h1 h2 ⊢
    exact ⟨h1.trans ht'.1, h2.trans ht'.2⟩
  have HCELL := Lib.hid hcell
  have HL := Lib.hid hl
  have HW := Lib.hid hw
  have HP := Lib.hid h
  have c0 := h.cells.c0
  obtain ⟨R1, hR1⟩ : ∃ R1, (Pb.settleV d l).1 = R1 := ⟨_, rfl⟩
  obtain ⟨R2, hR2⟩ : ∃ R2, (Pb.settleV d l).2 = R2 := ⟨_, rfl⟩
  obtain ⟨TD, hTD⟩ : ∃ TD, (if R1 = 0 then [] else P.todo) = TD := ⟨_, rfl⟩
  rw [hR1, hR2, hTD]
  have HE1 := Lib.hid hR1
  have HE2 := Lib.hid hR2
  have HTD := Lib.hid hTD
  clear hcell hl hw h hlen hR1 hR2 hTD ht hne
  go_enter Tryz.func25, Tryz.ntmps25
  go_wp2_with fail
  clear co c0
  go_loopw [3, 14] (fun b i wr => ∃ j bj dj fp, j ≤ l.length ∧ b = .bool bj ∧ i = .int .i64 (j : Int) ∧ PG S w0 wr { G with fp := fp } dj L P ∧ dj.on = true ∧ dj.secs.length = d.secs.length ∧ dj.writes ≤ d.writes + j ∧ Pb.setSeq d l false = Pb.setSeq dj (l.drop j) bj) (fun _ i _ => l.length - (intOf i).toNat)
  case atStart => exact ⟨0, false, d, G.fp, Nat.zero_le _, rfl, rfl, HP.out, hon, rfl, by simp, rfl⟩
  case round =>
    obtain ⟨j, bj, dj, fp, hj, rfl, rfl, hP, hdon, hdl, hdw, hseq⟩ := hrel
    by_cases hlt : j < l.length
    · have i1 : ((j : Int) < (l.length : Int)) := by omega
      obtain ⟨t1, t2⟩ := HCELL.out wr { G with fp := fp } dj rfl hP j hlt
      have hB : Below wr.heap.size wr (wr.alloc (.cells #[.int .i64 (l[j].1 : Int), .string ⟨l[j].2.toArray⟩] 119)) := (Below.refl _ _).alloc (Nat.le_refl _) _
      have hP1 := (hP.later hB).drew
      have hx := HL.out _ (List.getElem_mem hlt)
      obtain ⟨A, hA⟩ : ∃ A : Nat, l[j].1 = A := ⟨_, rfl⟩
      obtain ⟨D, hD⟩ : ∃ D : ByteArray, (⟨l[j].2.toArray⟩ : ByteArray) = D := ⟨_, rfl⟩
      have hDl : D.data.toList = l[j].2 := by rw [← hD]
      rw [hA] at t1 hB hP1 hx
      rw [hD] at t2 hB hP1
      have hrd := read_any hP1.log.disk (A : Int)
      have hrdv : Vd.read dj (A : Int) = (0, Vd.look dj A) := by
        unfold Vd.read
        have ha : Vd.asked dj (A : Int) = 0 := by unfold Vd.asked; rw [if_pos hdon, if_neg (by rw [hdl]; omega)]
        rw [if_neg (by rw [ha]; simp), Int.toNat_natCast]
      obtain ⟨S, hS⟩ : ∃ S : ByteArray, (⟨(Vd.look dj A).toArray⟩ : ByteArray) = S := ⟨_, rfl⟩
      have hSl : S.data.toList = Vd.look dj A := by rw [← hS]
      rw [hrdv] at hrd
      unfold rdV at hrd
      simp only [hS] at hrd
      have hpg0 : (wr.alloc (.cells #[.int .i64 (A : Int), .string D] 119)).drew.cell? ⟨G.pg, 0, none⟩ = some (.pointer (some ⟨G.dg, 0, none⟩)) := hP1.cells.c0
      have hbk : Blk (wr.alloc (.cells #[.int .i64 (A : Int), .string D] 119)).drew wr.heap.size 119 #[.int .i64 (A : Int), .string D] := Blk.new _ _ _
      have hk0 : (wr.alloc (.cells #[.int .i64 (A : Int), .string D] 119)).drew.cell? ⟨wr.heap.size, 0, none⟩ = some (.int .i64 (A : Int)) := hbk.cell 0
      have hk1 : (wr.alloc (.cells #[.int .i64 (A : Int), .string D] 119)).drew.cell? ⟨wr.heap.size, 1, none⟩ = some (.string D) := hbk.cell 1
      have HRD := Lib.hid hrd
      have HB := Lib.hid hB
      have hbl0 : ∀ W, Below (wr.alloc (.cells #[.int .i64 (A : Int), .string D] 119)).drew.heap.size (wr.alloc (.cells #[.int .i64 (A : Int), .string D] 119)).drew W → wr.heap.size < W.drew.heap.size := fun W hW => Nat.lt_of_lt_of_le hbk.lt hW.size
      have hfp : wr.heap.size ∉ fp := fun hm => Nat.lt_irrefl _ (hP.log.disk.lt _ hm)
      have HBL := Lib.hid hbl0
      have HFP := Lib.hid hfp
      clear hbl0 hfp
      have HP1 := Lib.hid hP1
      have HBK := Lib.hid hbk
      have HDL := Lib.hid hDl
      have HSL := Lib.hid hSl
      have HX := Lib.hid hx
      have HSEQ := Lib.hid hseq
      have HA := Lib.hid hA
      clear hP hB hP1 hrd hrdv hS hSl hDl hD hA hx hbk hseq
      go_wp2_with fail
      go_region_held3 (fun w' => w'.cell? ⟨G.pg, 0, none⟩ = some (.pointer (some ⟨G.dg, 0, none⟩)) ∧ w'.cell? ⟨wr.heap.size, 0, none⟩ = some (.int .i64 (A : Int)) ∧ w'.cell? ⟨wr.heap.size, 1, none⟩ = some (.string D)) (first | exact ⟨q0, q1, q2⟩ | exact ⟨hpg0, hk0, hk1⟩ | go_keep) (first | (go_at_call 65; ((with_reducible refine HRD.out.mono ?_)); rintro e w5 ⟨rfl, hb5⟩; have HB5 := Lib.hid hb5; have q0 : w5.cell? ⟨G.pg, 0, none⟩ = some (.pointer (some ⟨G.dg, 0, none⟩)) := (HP1.out.later hb5).cells.c0; have q1 : w5.cell? ⟨wr.heap.size, 0, none⟩ = some (.int .i64 (A : Int)) := (hb5.cell (p := ⟨wr.heap.size, 0, none⟩) HBK.out.lt).trans hk0; have q2 : w5.cell? ⟨wr.heap.size, 1, none⟩ = some (.string D) := (hb5.cell (p := ⟨wr.heap.size, 1, none⟩) HBK.out.lt).trans hk1))
      clear hb5
      have HQ2 := Lib.hid q2
      clear q0 q1 hk0 hk1 hpg0 t1 t2
      by_cases hSD : S = D
      · subst hSD
        clear q2
        have q2 := HQ2.out
        go_wp2_with fail
        go_roundw
        case rel =>
          refine ⟨j + 1, bj, dj, fp, by omega, rfl, by go_num, HP1.out.later HB5.out, hdon, hdl, by push_cast; omega, ?_⟩
          rw [HSEQ.out, List.drop_eq_getElem_cons hlt, set_same]
          rw [HA.out, ← HSL.out, HDL.out]
        case measure => simp [intOf]; omega
      · have hne := str_ne hSD
        have hP5 := (HP1.out.later HB5.out).drew
        have hDs : D.size = 64 := by
          have := HX.out.2
          rw [← HDL.out] at this
          simpa using this
        have hwr := write_any hP5.log.disk (A : Int) D (by omega) (by have := HW.out; omega)
        rw [HDL.out] at hwr
        obtain ⟨r1, hr1⟩ : ∃ r1, (Vd.write dj (A : Int) l[j].2).1 = r1 := ⟨_, rfl⟩
        rw [hr1] at hwr
        have HR1 := Lib.hid hr1
        have HWR := Lib.hid hwr
        have HP5 := Lib.hid hP5
        have q0 : w5.drew.cell? ⟨G.pg, 0, none⟩ = some (.pointer (some ⟨G.dg, 0, none⟩)) := hP5.cells.c0
        have q1 : w5.drew.cell? ⟨wr.heap.size, 0, none⟩ = some (.int .i64 (A : Int)) := (HB5.out.cell (p := ⟨wr.heap.size, 0, none⟩) HBK.out.lt).trans (HBK.out.cell 0)
        have q3 : w5.drew.cell? ⟨wr.heap.size, 1, none⟩ = some (.string D) := HQ2.out
        have HSD := Lib.hid hSD
        clear hwr hr1 hP5 hDs hSD
        go_wp2_with fail
        go_region_held3 (fun w' => w'.cell? ⟨G.pg, 0, none⟩ = some (.pointer (some ⟨G.dg, 0, none⟩)) ∧ w'.cell? ⟨wr.heap.size, 0, none⟩ = some (.int .i64 (A : Int)) ∧ w'.cell? ⟨wr.heap.size, 1, none⟩ = some (.string D)) (first | exact ⟨q0, q1, q3⟩ | go_keep) (first | (go_at_call 74; ((with_reducible refine HWR.out.mono ?_)); rintro e w6 hp6; obtain ⟨rfl, fp6, hP6⟩ := HP5.out.called hp6; have HP6 := Lib.hid hP6; have hO6 : Only fp w5.drew w6 := hp6.2.choose_spec.2.1; have q0' : w6.cell? ⟨G.pg, 0, none⟩ = some (.pointer (some ⟨G.dg, 0, none⟩)) := hP6.cells.c0; have hbl : w6.heap[wr.heap.size]? = w5.drew.heap[wr.heap.size]? := hO6.block wr.heap.size (HBL.out w5 HB5.out) HFP.out; have q1' : w6.cell? ⟨wr.heap.size, 0, none⟩ = some (.int .i64 (A : Int)) := (World.cell?_of_block hbl).trans q1; have q3' : w6.cell? ⟨wr.heap.size, 1, none⟩ = some (.string D) := (World.cell?_of_block hbl).trans q3))
        clear hp6 hP6 hO6 q0' q1' q3' hbl q0 q1 q3 q2 hne
        by_cases h0 : r1 = 0
        · subst h0
          obtain ⟨k1, k2, k3⟩ := write_keeps dj (A : Int) l[j].2 HR1.out
          have hnl : ¬ Vd.look dj l[j].1 = l[j].2 := fun e => HSD.out (by
            have e1 : S.data.toList = D.data.toList := by rw [HSL.out, HDL.out, ← e, HA.out]
            exact ByteArray.ext (Array.toList_inj.1 e1))
          go_wp2_with fail
          go_roundw
          case rel =>
            refine ⟨j + 1, true, (Vd.write dj (A : Int) l[j].2).2, fp6, by omega, rfl, by go_num, HP6.out, k1.trans hdon, by rw [k2]; exact hdl, by rw [k3]; push_cast; omega, ?_⟩
            rw [HSEQ.out, List.drop_eq_getElem_cons hlt, set_yes hnl (by rw [HA.out]; exact HR1.out), HA.out]
          case measure => simp [intOf]; omega
        · have hr0 : (r1 == 0) = false := by simpa using h0
          have hnl : ¬ Vd.look dj l[j].1 = l[j].2 := fun e => HSD.out (by
            have e1 : S.data.toList = D.data.toList := by rw [HSL.out, HDL.out, ← e, HA.out]
            exact ByteArray.ext (Array.toList_inj.1 e1))
          have hset : Pb.setSeq d l false = (r1, true, (Vd.write dj (A : Int) l[j].2).2) := by
            rw [HSEQ.out, List.drop_eq_getElem_cons hlt, set_no hnl (by rw [HA.out, HR1.out]; exact h0), HA.out, HR1.out]
          have hsv : Pb.settleV d l = (r1, (Vd.write dj (A : Int) l[j].2).2) := by
            unfold Pb.settleV
            rw [hset]
            simp only
            rw [if_pos h0]
          have HSV := Lib.hid hsv
          clear hset hsv
          go_wp2_with fail
          go_ret
          have e1 := HE1.out
          have e2 := HE2.out
          have e3 := HTD.out
          rw [HSV.out] at e1 e2
          simp only at e1 e2
          subst e1 e2 e3
          rw [if_neg h0]
          exact ⟨rfl, fp6, G.tv, HP6.out⟩
    · obtain rfl : j = l.length := by omega
      have i1 : ¬ ((l.length : Int) < (l.length : Int)) := by omega
      have hset : Pb.setSeq d l false = (0, bj, dj) := by rw [hseq, List.drop_length]; rfl
      have co := hP.cells.co
      have c0 := hP.cells.c0
      have fz := hP.cells.fz 14
      cases bj with
      | false =>
        have hsv : Pb.settleV d l = (0, dj) := by
          unfold Pb.settleV
          rw [hset]
          rfl
        have HQ := Lib.hid hP.todo0
        have HSV := Lib.hid hsv
        clear hP hset hsv hseq c0
        go_wp2_with fail
        go_ret
        have e1 := HE1.out
        have e2 := HE2.out
        have e3 := HTD.out
        rw [HSV.out] at e1 e2
        simp only at e1 e2
        subst e1 e2 e3
        rw [if_pos rfl]
        exact ⟨rfl, fp, _, HQ.out⟩
      | true =>
        have hsy := sync_any hP.log.disk
        obtain ⟨r1, hr1⟩ : ∃ r1, (Vd.sync dj).1 = r1 := ⟨_, rfl⟩
        rw [hr1] at hsy
        have hsv : Pb.settleV d l = Vd.sync dj := by
          unfold Pb.settleV
          rw [hset]
          rfl
        have HSY := Lib.hid hsy
        have HPJ := Lib.hid hP
        have HSV := Lib.hid hsv
        have HR1 := Lib.hid hr1
        clear hP hset hsv hseq hsy hr1 co fz
        go_wp2_with fail
        (with_reducible refine HSY.out.mono ?_)
        rintro e w6 hp6
        obtain ⟨rfl, fp6, hP6⟩ := HPJ.out.called hp6
        have co := hP6.cells.co
        have fz := hP6.cells.fz 14
        have HQ := Lib.hid hP6.todo0
        have HP6 := Lib.hid hP6
        clear hp6 hP6
        by_cases h0 : r1 = 0
        · subst h0
          go_wp2_with fail
          go_ret
          have e1 := HE1.out
          have e2 := HE2.out
          have e3 := HTD.out
          rw [HSV.out] at e1 e2
          rw [HR1.out] at e1
          subst e1 e2 e3
          rw [if_pos rfl]
          exact ⟨rfl, fp6, _, HQ.out⟩
        · have hr0 : (r1 == 0) = false := by simpa using h0
          go_wp2_with fail
          go_ret
          have e1 := HE1.out
          have e2 := HE2.out
          have e3 := HTD.out
          rw [HSV.out] at e1 e2
          rw [HR1.out] at e1
          subst e1 e2 e3
          rw [if_neg h0]
          exact ⟨rfl, fp6, G.tv, HP6.out⟩
theorem settle_any (h : PG S w0 w G d L P) (l : List (Nat × List UInt8)) (ht : P.todo = Pb.tod l) (hl : ∀ x ∈ l, x.1 < d.secs.length ∧ x.2.length = 64) (hon : d.on = true) (hw : d.writes + l.length < 1000000000) (hll : l.length ≤ 100000) :
    Calls Tryz.prog 25 #[.pointer (some ⟨G.pg, 0, none⟩)] w fun e w' => e = .returned (.int .i64 (Pb.settleV d l).1) ∧ ∃ fp tv, PG S w0 w' { G with fp := fp, tv := tv } (Pb.settleV d l).2 L { P with todo := if (Pb.settleV d l).1 = 0 then [] else P.todo } := by
  by_cases hne : l = []
  · subst hne
    refine (settle_nil h ht).mono ?_
    rintro e w' ⟨he, hP⟩
    refine ⟨he, G.fp, .slice none 0 0, ?_⟩
    have e1 : (if (Pb.settleV d []).1 = 0 then [] else P.todo) = P.todo := by rw [ht]; rfl
    rw [e1]
    exact hP
  · exact settle_some h l ht hne hl hon hw hll
end
end Go.Proofs.YtoleojljpaglhaaGreat
/- The contract of Begin. -/
namespace Go.Proofs.YtoleojljpaglhaaGreat
open Go.RowKit
section
variable {S : Nat → Prop} {w0 w w' : World} {G : PH} {d d' : Vd.VD} {L L' : Wa.WL} {P : PP}
/-- only the pager's own cells were written -/
theorem PG.pokes (h : PG S w0 w G d L P) (ho : Only [G.pg] w w') : Poked S w0 w w' G d L P := by
  have pm : ∀ M f sz, PMap w M f sz → PMap w' M f sz := fun M f sz hm => hm.only ho (by simpa using hm.ne_blk h.blk)
  have sm : ∀ M f sz, SMap w M f sz → SMap w' M f sz := fun M f sz hm => hm.only ho (by simpa using hm.ne_blk h.blk)
  refine ⟨h.log.aside ho (fun b hb => ?_), pm, sm, fun t ht => ?_, ownsRow_only h.row ho (fun q hq hm => ?_)⟩
  · rw [List.mem_singleton] at hb
    exact h.own b (.inl hb)
  · have := h.tx t ht
    exact ⟨this.blk.only ho (by simpa using this.blk.ne_type h.blk (by decide)), this.len, pm _ _ _ this.pm, sm _ _ _ this.sm, this.dv, this.ne1, this.ne2, this.ne3⟩
  · rw [List.mem_singleton] at hm
    subst hm
    exact own_ne_blk h.row h.blk (by decide) hq
/-- a transaction that begins -/
def freshT (P : PP) : PT := { pages := P.pages, sz := P.sz, roots := P.roots, dirty := fun _ => false, dz := 0 }
def beginT (P : PP) : PP := { P with tx := some (freshT P) }
theorem PG.beginTx {w1 w2 : World} {MT : Nat} (h : PG S w0 w1 G d L P) (_ht : P.tx = none) (hu : P.up = true) (hb : Below w1.heap.size w1 w2) (hm : PMap w2 MT P.pages P.sz) (hM : w1.heap.size ≤ MT) :
    PG S w0 ((((w2.alloc (.cells (scells MT P.roots) 76)).alloc (.map #[] 0)).setCell ⟨G.pg, 12, none⟩ (.pointer (some ⟨w2.heap.size, 0, none⟩))).setCell ⟨G.pg, 13, none⟩ (.map (some (w2.heap.size + 1)))) { G with T := w2.heap.size, MT := MT, MD := w2.heap.size + 1, dv := .map (some (w2.heap.size + 1)) } d L (beginT P) := by
  have hs1 : (w2.alloc (.cells (scells MT P.roots) 76)).heap.size = w2.heap.size + 1 := World.size_alloc _ _
  have hBB : Below w1.heap.size w1 ((w2.alloc (.cells (scells MT P.roots) 76)).alloc (.map #[] 0)) := (hb.alloc hb.size _).alloc (by have := hb.size; rw [World.size_alloc]; omega) _
  have h2 := h.later hBB
  have hpg : G.pg < w1.heap.size := h.blk.lt
  have hmt : MT < w2.heap.size := hm.lt
  have hb2 : Below w2.heap.size w2 ((w2.alloc (.cells (scells MT P.roots) 76)).alloc (.map #[] 0)) := ((Below.refl _ _).alloc (Nat.le_refl _) _).alloc (by simp) _
  have hT : Blk ((w2.alloc (.cells (scells MT P.roots) 76)).alloc (.map #[] 0)) w2.heap.size 76 (scells MT P.roots) := (Blk.new w2 _ _).alloc _
  have hMD : SMap ((w2.alloc (.cells (scells MT P.roots) 76)).alloc (.map #[] 0)) (w2.heap.size + 1) (fun _ => false) 0 := by
    have := SMap.made (w2.alloc (.cells (scells MT P.roots) 76))
    rwa [hs1] at this
  have hm2 := hm.below hb2
  obtain ⟨W, hW⟩ : ∃ W, (w2.alloc (.cells (scells MT P.roots) 76)).alloc (.map #[] 0) = W := ⟨_, rfl⟩
  rw [hW] at h2 hT hMD hm2 ⊢
  have ho : Only [G.pg] W ((W.setCell ⟨G.pg, 12, none⟩ (.pointer (some ⟨w2.heap.size, 0, none⟩))).setCell ⟨G.pg, 13, none⟩ (.map (some (w2.heap.size + 1)))) := ((Only.refl [G.pg] W).setCell (.inl (by simp)) _).setCell (.inl (by simp)) _
  have k := h2.pokes ho
  have hle1 := hb.size
  have hbl := (h2.blk.set_ 12 (.pointer (some ⟨w2.heap.size, 0, none⟩))).set_ 13 (.map (some (w2.heap.size + 1)))
  have hcs := pcells_set G.dg G.lg P.n (mapv G P.up) P.roots (txv G P.tx) G.dv G.tv
  rw [(hcs (.pointer (some ⟨w2.heap.size, 0, none⟩)) h.len).2.1, (pcells_set G.dg G.lg P.n (mapv G P.up) P.roots (.pointer (some ⟨w2.heap.size, 0, none⟩)) G.dv G.tv (.map (some (w2.heap.size + 1))) h.len).2.2.1] at hbl
  refine ⟨k.log, hbl, h.len, fun hu' => k.pm _ _ _ (h2.pm hu'), fun t hx => ?_, k.row, fun b hb' => ?_⟩
  · have hx' : freshT P = t := by
      have : some (freshT P) = some t := hx
      injection this
    subst hx'
    have hneM : MT ≠ G.M := by have := (h.pm hu).lt; show MT ≠ G.M; omega
    have hneD : w2.heap.size + 1 ≠ G.M := by have := (h.pm hu).lt; omega
    exact ⟨hT.only ho (by simp only [List.mem_singleton]; omega), h.len, k.pm _ _ _ hm2, k.sm _ _ _ hMD, rfl, hneM, hneD, by show w2.heap.size + 1 ≠ MT; omega⟩
  · rcases hb' with hb' | ⟨h1, hb'⟩ | ⟨_, hb' | hb' | hb'⟩ | hb'
    · exact h.own b (.inl hb')
    · exact h.own b (.inr (.inl ⟨h1, hb'⟩))
    · have hb' : b = w2.heap.size := hb'
      exact h.fresh b (by omega)
    · have hb' : b = MT := hb'
      exact h.fresh b (by omega)
    · have hb' : b = w2.heap.size + 1 := hb'
      exact h.fresh b (by omega)
    · exact h.own b (.inr (.inr (.inr hb')))
set_option maxRecDepth 20000 in
set_option maxHeartbeats 1000000 in
theorem pbegin_any (h : PG S w0 w G d L P) (hu : P.up = true) (htx : P.tx = none) (l : List (Nat × List UInt8)) (ht : P.todo = Pb.tod l) (hl : ∀ x ∈ l, x.1 < d.secs.length ∧ x.2.length = 64) (hon : d.on = true) (hw : d.writes + l.length < 1000000000) (hll : l.length ≤ 100000) :
    Calls Tryz.prog 40 #[.pointer (some ⟨G.pg, 0, none⟩)] w fun e w' => e = .returned (.int .i64 (Pb.settleV d l).1) ∧ ∃ G', G'.pg = G.pg ∧ G'.dg = G.dg ∧ PG S w0 w' G' (Pb.settleV d l).2 L (if (Pb.settleV d l).1 = 0 then beginT { P with todo := [] } else P) := by
  obtain ⟨a0, a1, a2, a3, a4, a5, a6, a7, hr⟩ := len8 h.len
  have H := Lib.hid (pnone_any h)
  have HON := Lib.hid (on_df h.log.disk)
  rw [hon] at HON
  have hs := settle_any h l ht hl hon hw hll
  obtain ⟨R1, hR1⟩ : ∃ R1, (Pb.settleV d l).1 = R1 := ⟨_, rfl⟩
  obtain ⟨R2, hR2⟩ : ∃ R2, (Pb.settleV d l).2 = R2 := ⟨_, rfl⟩
  rw [hR1, hR2] at hs ⊢
  obtain ⟨Q, hQ⟩ : ∃ Q, (if R1 = 0 then beginT { P with todo := [] } else P) = Q := ⟨_, rfl⟩
  rw [hQ]
  have HS := Lib.hid hs
  have HQ := Lib.hid hQ
  have HR := Lib.hid hr
  have c0 := h.cells.c0
  have ct := h.cells.ct
  rw [htx] at ct
  replace ct : w.cell? ⟨G.pg, 12, none⟩ = some (.pointer none) := ct
  clear h hs ht hl hw hll hR1 hR2 hQ hr
  go_enter Tryz.func40, Tryz.ntmps40
  go_wp2_with fail
  (with_reducible refine H.out.mono ?_)
  rintro e w1 ⟨rfl, rfl⟩
  go_wp2_with fail
  (with_reducible refine HON.out.mono ?_)
  rintro e w1 ⟨rfl, rfl⟩
  go_wp2_with fail
  (with_reducible refine HS.out.mono ?_)
  rintro e w1 ⟨rfl, fp, tv, hP⟩
  clear c0 ct
  by_cases h0 : R1 = 0
  · subst h0
    rw [if_pos rfl] at hP
    have hrt := hP.root
    have c3 := hP.cells.c3
    have fz := hP.cells.fz
    have e3 : mapv { G with fp := fp, tv := tv } P.up = .map (some G.M) := by rw [hu]; rfl
    replace c3 : w1.cell? ⟨G.pg, 3, none⟩ = some (.map (some G.M)) := c3.trans (by rw [← e3])
    have hr := HR.out
    have hr' : ({ P with todo := [] } : PP).roots = [a0, a1, a2, a3, a4, a5, a6, a7] := hr
    rw [hr'] at hrt
    have r0 : w1.cell? ⟨G.pg, 4, none⟩ = some (.int .i64 a0) := hrt 0 (by omega)
    have r1 : w1.cell? ⟨G.pg, 5, none⟩ = some (.int .i64 a1) := hrt 1 (by omega)
    have r2 : w1.cell? ⟨G.pg, 6, none⟩ = some (.int .i64 a2) := hrt 2 (by omega)
    have r3 : w1.cell? ⟨G.pg, 7, none⟩ = some (.int .i64 a3) := hrt 3 (by omega)
    have r4 : w1.cell? ⟨G.pg, 8, none⟩ = some (.int .i64 a4) := hrt 4 (by omega)
    have r5 : w1.cell? ⟨G.pg, 9, none⟩ = some (.int .i64 a5) := hrt 5 (by omega)
    have r6 : w1.cell? ⟨G.pg, 10, none⟩ = some (.int .i64 a6) := hrt 6 (by omega)
    have r7 : w1.cell? ⟨G.pg, 11, none⟩ = some (.int .i64 a7) := hrt 7 (by omega)
    have htw := twin_any (hP.pm hu) [a0, a1, a2, a3, a4, a5, a6, a7] rfl
    rw [scells_lit, scells_lit] at htw
    have HT : Hid (Calls Tryz.prog 87 #[.agg #[.map (some G.M), .int .i64 a0, .int .i64 a1, .int .i64 a2, .int .i64 a3, .int .i64 a4, .int .i64 a5, .int .i64 a6, .int .i64 a7]] w1 _) := Lib.hid htw
    have HP := Lib.hid hP
    clear hP hrt htw e3 hr hr'
    have hmm := @run_makeMap Tryz.prog
    go_wp2_with fail
    (with_reducible refine HT.out.mono ?_)
    rintro e w2 ⟨rfl, hpm, hb2⟩
    have fz2 : ∀ o1 o2 i, ((w2.alloc o1).alloc o2).frozen? ⟨G.pg, i, none⟩ = false := fun o1 o2 i => (HP.out.later ((hb2.alloc hb2.size o1).alloc (by have := hb2.size; rw [World.size_alloc]; omega) o2)).cells.fz i
    have ct2 : ∀ o1 o2, ((w2.alloc o1).alloc o2).cell? ⟨G.pg, 12, none⟩ = some (.pointer none) := fun o1 o2 => by
      have := (HP.out.later ((hb2.alloc hb2.size o1).alloc (by have := hb2.size; rw [World.size_alloc]; omega) o2)).cells.ct
      have e : txv { G with fp := fp, tv := tv } ({ P with todo := [] } : PP).tx = .pointer none := by show txv _ P.tx = _; rw [htx]; rfl
      rw [e] at this
      exact this
    have cd2 : ∀ o1 o2, ((w2.alloc o1).alloc o2).cell? ⟨G.pg, 13, none⟩ = some G.dv := fun o1 o2 => (HP.out.later ((hb2.alloc hb2.size o1).alloc (by have := hb2.size; rw [World.size_alloc]; omega) o2)).cells.cd
    clear r0 r1 r2 r3 r4 r5 r6 r7 c3 fz
    have HPM := Lib.hid hpm
    have HB2 := Lib.hid hb2
    clear hpm hb2
    go_wp2_with fail
    go_ret
    have hr := HR.out
    have hq := HQ.out
    rw [if_pos trivial] at hq
    have hfin := HP.out.beginTx htx hu HB2.out HPM.out (Nat.le_add_right _ _)
    have er : scells (w1.heap.size + 2) ({ P with todo := [] } : PP).roots = #[.map (some (w1.heap.size + 2)), .int .i64 a0, .int .i64 a1, .int .i64 a2, .int .i64 a3, .int .i64 a4, .int .i64 a5, .int .i64 a6, .int .i64 a7] := by
      show scells (w1.heap.size + 2) P.roots = _
      rw [hr, scells_lit]
    rw [er] at hfin
    subst hq
    refine ⟨rfl, _, ?_, ?_, hfin⟩ <;> rfl
  · have hr0 : (R1 == 0) = false := by simpa using h0
    rw [if_neg h0] at hP
    have hq := HQ.out
    rw [if_neg h0] at hq
    subst hq
    have HP := Lib.hid hP
    clear hP
    go_wp2_with fail
    go_ret
    exact ⟨rfl, { G with fp := fp, tv := tv }, rfl, rfl, HP.out⟩
set_option maxRecDepth 20000 in
/-- without power -/
theorem pbegin_off (h : PG S w0 w G d L P) (hon : d.on = false) :
    Calls Tryz.prog 40 #[.pointer (some ⟨G.pg, 0, none⟩)] w fun e w' => e = .returned (.int .i64 80) ∧ w = w' := by
  have H := Lib.hid (pnone_any h)
  have HON := Lib.hid (on_df h.log.disk)
  rw [hon] at HON
  have c0 := h.cells.c0
  clear h
  go_enter Tryz.func40, Tryz.ntmps40
  go_wp2_with fail
  (with_reducible refine H.out.mono ?_)
  rintro e w1 ⟨rfl, rfl⟩
  go_wp2_with fail
  (with_reducible refine HON.out.mono ?_)
  rintro e w1 ⟨rfl, rfl⟩
  go_wp2_with fail
  go_ret
  exact ⟨rfl, rfl⟩
set_option maxRecDepth 20000 in
/-- with a transaction open -/
theorem pbegin_busy (h : PG S w0 w G d L P) (hon : d.on = true) (t : PT) (htx : P.tx = some t) :
    Calls Tryz.prog 40 #[.pointer (some ⟨G.pg, 0, none⟩)] w fun e w' => e = .returned (.int .i64 90) ∧ w = w' := by
  have H := Lib.hid (pnone_any h)
  have HON := Lib.hid (on_df h.log.disk)
  rw [hon] at HON
  have c0 := h.cells.c0
  have ct := h.cells.ct
  rw [htx] at ct
  replace ct : w.cell? ⟨G.pg, 12, none⟩ = some (.pointer (some ⟨G.T, 0, none⟩)) := ct
  clear h
  go_enter Tryz.func40, Tryz.ntmps40
  go_wp2_with fail
  (with_reducible refine H.out.mono ?_)
  rintro e w1 ⟨rfl, rfl⟩
  go_wp2_with fail
  (with_reducible refine HON.out.mono ?_)
  rintro e w1 ⟨rfl, rfl⟩
  go_wp2_with fail
  go_ret
  exact ⟨rfl, rfl⟩
end
end Go.Proofs.YtoleojljpaglhaaGreat
