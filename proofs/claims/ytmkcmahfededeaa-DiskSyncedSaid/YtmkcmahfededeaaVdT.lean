/- The walk of the law DiskSynced. -/
import Derived.Test.YtmkcmahfededeaaVdS
import Derived.Lib.IndexBytes
import Derived.IntWalk
import Derived.Deep.DrawnRows
import Derived.Deep.RegionLaw
namespace Go.Proofs.Ytmkcmahfededeaa
open Go.RowKit Go.Maps
attribute [local go_sem ↓] run_imax run_imin
attribute [local go_sem ↓] Go.wp_at_zero Go.wp_at_succ
theorem block_of_add (a : Addr) (n : Nat) : (a.add n).block = a.block := by unfold Addr.add; split <;> rfl
set_option maxHeartbeats 1000000 in
theorem synced_out (A : Option Addr) (n cap : Nat) (sy keep torn : Int) (w : World) (h : 60 < n ∨ sy < 0 ∨ (n : Int) < sy) : Calls Try.prog 3 #[.slice A n cap, .int .i64 sy, .int .i64 keep, .int .i64 torn] w fun e w' => e = .returned (.bool true) ∧ Below w.heap.size w w' := by
  have hal := alive_any w
  by_cases h1 : (60 : Int) < (n : Int)
  · clear h
    have h1' : 60 < n := by omega
    go_enter Try.func3, Try.ntmps3
    go_wp2_with fail
    refine hal.mono ?_
    rintro e w1 ⟨rfl, hb⟩
    go_wp2_with fail
    go_ret
    exact ⟨rfl, hb⟩
  · have h1' : ¬ 60 < n := by omega
    by_cases h2 : sy < 0
    · clear h
      go_enter Try.func3, Try.ntmps3
      go_wp2_with fail
      refine hal.mono ?_
      rintro e w1 ⟨rfl, hb⟩
      go_wp2_with fail
      go_ret
      exact ⟨rfl, hb⟩
    · have h3 : (n : Int) < sy := by omega
      clear h
      go_enter Try.func3, Try.ntmps3
      go_wp2_with fail
      refine hal.mono ?_
      rintro e w1 ⟨rfl, hb⟩
      go_wp2_with fail
      go_ret
      exact ⟨rfl, hb⟩
theorem sy_done1 {B : Nat} {w w5 : World} {H g sy pk i : Nat} {zs : List Int} {keep torn : Int} {r : ByteArray} (hS : SY B w H g (syD (plc zs) sy (i + 1)) (syW (plc zs) sy keep torn i) w5) (hr : (⟨(rowL ((i : Int) + 1)).toArray⟩ : ByteArray) = r) (hpk : plc zs i = pk) (h : i < sy ∨ (i : Int) - sy < keep) :
    SY B w H g (syD (plc zs) sy (i + 1)) (syW (plc zs) sy keep torn (i + 1)) (w5.setCell ⟨H, pk, none⟩ (.string r)) := by
  subst hr hpk
  rw [syW_one _ _ _ _ _ h]
  exact hS.store _ _
theorem sy_done2 {B : Nat} {w w5 : World} {H g sy pk i tn : Nat} {zs : List Int} {keep torn : Int} {r s : ByteArray} (hS : SY B w H g (syD (plc zs) sy (i + 1)) (syW (plc zs) sy keep torn i) w5) (hr : (⟨(rowL ((i : Int) + 1)).toArray⟩ : ByteArray) = r) (hpk : plc zs i = pk)
    (hs : (⟨((syW (plc zs) sy keep torn i).getD pk []).toArray⟩ : ByteArray) = s) (hss : s.size = 64) (htn : imin (imax torn 0) 64 = (tn : Int)) (h1 : sy ≤ i) (h : (i : Int) - sy = imax keep 0) :
    SY B w H g (syD (plc zs) sy (i + 1)) (syW (plc zs) sy keep torn (i + 1)) (w5.setCell ⟨H, pk, none⟩ (.string (r.extract 0 tn ++ s.extract tn 64))) := by
  have e : r.extract 0 tn ++ s.extract tn 64 = ⟨((rowL ((i : Int) + 1)).take tn ++ ((syW (plc zs) sy keep torn i).getD pk []).drop tn).toArray⟩ := by
    apply ByteArray.ext
    apply Array.toList_inj.1
    rw [ByteArray.data_append, Array.toList_append, Lib.extract_data, ← hss, Lib.extract_to_end, ← hr, ← hs]
    simp
  have ht : (Vd.clamp torn 0 64).toNat = tn := by rw [← clamp_eq, htn]; simp
  subst hpk
  rw [e, syW_two _ _ _ _ _ h1 (by rw [h]; unfold imax; split <;> omega), ht]
  exact hS.store _ _
/-- a text that may be joined -/
def Small (a : ByteArray) : Prop := a.size ≤ 4194304
theorem run_cat {P : Program} {w : World} (a b : ByteArray) (h : Small a) (k : Small b) : (Op.stringOp .add a b).run P w = .ok (.string (a ++ b)) w :=
  run_string_add_sum (P := P) w a b (by unfold Small at h k; omega)
attribute [local go_sem ↓] run_cat
/-- behind the rounds: the sync that may be left is done, and all is looked at -/
theorem new_sy {B : Nat} {w w1 w2 : World} (hB : B ≤ w.heap.size) (h : DB B w w1 (w.heap.size + 2) (newVD 8)) (hw : w2 = w1.alloc (.cells (strs (rep8 0)) 28)) : SY B w w1.heap.size (w.heap.size + 2) (newVD 8) (rep8 0) w2 := by
  subst hw
  obtain ⟨_, hb, fp, hF, hf⟩ := h
  have := hb.size
  refine ⟨hB, hb.alloc (by omega) _, Blk.new _ _ _, by omega, fp, hF.only ((Only.refl [] _).alloc _) (by simp), fun b hm => ⟨hf b hm, ?_⟩⟩
  have := hF.lt b hm
  omega
set_option maxRecDepth 100000 in
set_option maxHeartbeats 2000000 in
theorem synced_in (A : Option Addr) (n cap sy : Nat) (keep torn : Int) (zs : List Int) (w : World) (hA : IntsAt w A n zs) (h0 : n ≤ 60) (h1 : sy ≤ n) : Calls Try.prog 3 #[.slice A n cap, .int .i64 sy, .int .i64 keep, .int .i64 torn] w fun e w' => e = .returned (.bool true) ∧ Below w.heap.size w w' := by
  have d0 : ¬ 60 < n := by omega
  have d1 : ¬ n < sy := by omega
  have d2 : ¬ (60 : Int) < (n : Int) := by omega
  have d3 : ¬ (n : Int) < (sy : Int) := by omega
  have d4 : ¬ (sy : Int) < 0 := by omega
  have HA := Lib.hid hA
  clear hA
  have hal := run_alloc_want
  go_enter Try.func3, Try.ntmps3
  go_wp2_with fail
  refine (new_db 8 (Nat.le_refl _) (Below.refl _ _) (by omega) (by omega)).mono ?_
  rintro e w1 ⟨rfl, hF⟩
  have hSY := new_sy (Nat.le_refl _) hF rfl
  have HSY := Lib.hid hSY
  clear hSY hF
  go_wp2_with fail
  clear hal
  have hSY := HSY.out
  have e0 : strs (rep8 0) = #[.string ⟨#[]⟩, .string ⟨#[]⟩, .string ⟨#[]⟩, .string ⟨#[]⟩, .string ⟨#[]⟩, .string ⟨#[]⟩, .string ⟨#[]⟩, .string ⟨#[]⟩] := rfl
  obtain ⟨w2, hw2⟩ : ∃ w2, w2 = w1.alloc (.cells #[.string ⟨#[]⟩, .string ⟨#[]⟩, .string ⟨#[]⟩, .string ⟨#[]⟩, .string ⟨#[]⟩, .string ⟨#[]⟩, .string ⟨#[]⟩, .string ⟨#[]⟩] 28) := ⟨_, rfl⟩
  rw [e0] at hSY
  rw [← hw2] at hSY ⊢
  obtain ⟨H, hH⟩ : ∃ H, H = w1.heap.size := ⟨_, rfl⟩
  rw [← hH] at hSY ⊢
  clear hw2 HSY hH e0 w1
  have HSY := Lib.hid hSY
  clear hSY
  go_loopw [12] (fun i wr => ∃ k : Nat, k ≤ 8 ∧ i = .int .i64 k ∧ SY w.heap.size w H (w.heap.size + 2) (newVD 8) (rep8 k) wr) (fun i _ => 8 - (intOf i).toNat)
  case atStart => exact ⟨0, Nat.zero_le _, rfl, HSY.out⟩
  case round =>
    clear HSY w2
    obtain ⟨k, hk, rfl, hS⟩ := hrel
    by_cases hlt : k < 8
    · have k0 : (0 : Int) ≤ (k : Int) := by omega
      have k1 : (k : Int) < 8 := by omega
      have HS := Lib.hid hS
      clear hS
      go_wp2_with fail
      refine (row_any _ _).mono ?_
      rintro e w3 ⟨rfl, hb3⟩
      rw [rowL_zero]
      have hS3 := HS.out.later hb3
      have hc := hS3.want.cell k
      rw [strs_at _ _ (by rw [rep8_length k hk]; exact hlt)] at hc
      have hf := hS3.want.frozen k
      have HS3 := Lib.hid hS3
      clear hS3 HS hb3
      go_wp2_with fail
      go_roundw
      case rel => exact ⟨k + 1, by omega, by go_num, by have := HS3.out.store k z64; rwa [rep8_step k hlt] at this⟩
      case measure => simp [intOf]; omega
    · obtain rfl : k = 8 := by omega
      rw [rep8_all] at hS
      have HS := Lib.hid hS
      clear hS
      go_wp2_with fail
      have e8 : ((8 : Nat) : Int) = 8 := rfl
      rw [e8]
      clear e8
      go_loopw [13] (fun i wr => ∃ k : Nat, k ≤ n ∧ i = .int .i64 k ∧ SY w.heap.size w H (w.heap.size + 2) (syD (plc zs) sy k) (syW (plc zs) sy keep torn k) wr) (fun i _ => n - (intOf i).toNat)
      case atStart => exact ⟨0, Nat.zero_le _, rfl, by rw [syD_zero, syW_zero]; exact HS.out⟩
      case round =>
        clear HS
        obtain ⟨i, hi, rfl, hS⟩ := hrel
        by_cases hlt : i < n
        · obtain ⟨ad, hAd, hadb, hcell⟩ := HA.out.2 i hlt
          subst hAd
          have hc : wr.cell? (ad.add i) = some (.int .i64 (zs.getD i 0)) := (hS.below.cell (by rw [block_of_add]; exact hadb)).trans hcell
          have ha7 := plc_and zs i
          have hp := plc_lt zs i
          obtain ⟨z, hz⟩ : ∃ z, zs.getD i 0 = z := ⟨_, rfl⟩
          rw [hz] at hc ha7
          obtain ⟨pk, hpk⟩ : ∃ pk, plc zs i = pk := ⟨_, rfl⟩
          rw [hpk] at ha7 hp
          have i0 : (0 : Int) ≤ (i : Int) := by omega
          have i1 : (i : Int) < (n : Int) := by omega
          have p0 : (0 : Int) ≤ (pk : Int) := by omega
          have p1 : (pk : Int) < 8 := by omega
          obtain ⟨r, hr⟩ : ∃ r : ByteArray, (⟨(rowL ((i : Int) + 1)).toArray⟩ : ByteArray) = r := ⟨_, rfl⟩
          have hrs : r.size = 64 := by rw [← hr, bytes_size, rowL_length]
          have HR := Lib.hid hr
          have HRS := Lib.hid hrs
          have HPK := Lib.hid hpk
          have HS := Lib.hid hS
          clear hz hr hrs hpk hcell hS
          by_cases hsy : i = sy
          case' pos =>
            have s1 : ((i : Int) == (sy : Int)) = true := by rw [hsy]; simp
            have s2 : (i == sy) = true := by rw [hsy]; simp
            have hsync := sync_sy HS.out (d' := syE (plc zs) sy i) (by rw [hsy]; exact syD_sync _ _)
            have Hwr : Hid (∀ wr2 w3, SY w.heap.size w H (w.heap.size + 2) (syE (plc zs) sy i) (syW (plc zs) sy keep torn i) wr2 → Below wr2.heap.size wr2 w3 → Calls Try.prog 13 #[.pointer (some ⟨w.heap.size + 2, 0, none⟩), .int .i64 (pk : Int), .string r] w3 fun e w2 => e = .returned (.int .i64 0) ∧ SY w.heap.size w H (w.heap.size + 2) (syD (plc zs) sy (i + 1)) (syW (plc zs) sy keep torn i) w2) := Lib.hid (fun wr2 w3 hS2 hb => by
              refine write_sy (hS2.later hb) _ _ (by rw [HRS.out]; omega) (by simp only [syE]; omega) ?_
              rw [← HR.out, bytes_toList, ← HPK.out, syE_write _ _ _ (plc_lt _ _) (by omega), syD_E _ _ _ (by omega)])
            have HSy := Lib.hid hsy
            clear hsy
            go_wp2_with fail
            refine hsync.mono ?_
            rintro e wr2 ⟨rfl, hS2⟩
            clear hsync
            have Hwr2 := Lib.hid (Hwr.out wr2 · hS2)
            clear Hwr hS2
            go_wp2_with fail
            with_reducible refine (row_var _ _ _ HR).mono ?_
            rintro e w3 ⟨rfl, hb3⟩
            go_wp2_with fail
            refine (Hwr2.out w3 hb3).mono ?_
            rintro e w4 ⟨rfl, hS4⟩
            clear Hwr2 hb3
            have HS4 := Lib.hid hS4
            clear hS4
            clear HSy s1 s2
          case' neg =>
            have s1 : ((i : Int) == (sy : Int)) = false := by simpa using (by omega : ¬ (i : Int) = (sy : Int))
            have s2 : (i == sy) = false := by simpa using hsy
            have Hwr2 : Hid (∀ w3, Below wr.heap.size wr w3 → Calls Try.prog 13 #[.pointer (some ⟨w.heap.size + 2, 0, none⟩), .int .i64 (pk : Int), .string r] w3 fun e w2 => e = .returned (.int .i64 0) ∧ SY w.heap.size w H (w.heap.size + 2) (syD (plc zs) sy (i + 1)) (syW (plc zs) sy keep torn i) w2) := Lib.hid (fun w3 hb => by
              refine write_sy (HS.out.later hb) _ _ (by rw [HRS.out]; omega) (by rw [syD_writes]; omega) ?_
              rw [← HR.out, bytes_toList, ← HPK.out]
              by_cases hi : i < sy
              · rw [syD_write _ _ _ (plc_lt _ _) hi]
              · rw [syD_E _ _ _ (by omega), syD_E _ _ _ (by omega), syE_write _ _ _ (plc_lt _ _) (by omega)])
            have HSy := Lib.hid hsy
            clear hsy
            go_wp2_with fail
            with_reducible refine (row_var _ _ _ HR).mono ?_
            rintro e w3 ⟨rfl, hb3⟩
            go_wp2_with fail
            refine (Hwr2.out w3 hb3).mono ?_
            rintro e w4 ⟨rfl, hS4⟩
            clear Hwr2 hb3
            have HS4 := Lib.hid hS4
            clear hS4
            clear HSy s1 s2
          all_goals
            by_cases q0 : i < sy
            · have c1 : decide (i < sy) = true := decide_eq_true q0
              have c1' : decide ((i : Int) < (sy : Int)) = true := decide_eq_true (by omega)
              go_wp2_with fail
              with_reducible refine (row_var _ _ _ HR).mono ?_
              rintro e w5 ⟨rfl, hb5⟩
              have hS5 := HS4.out.later hb5
              have hc5 := hS5.want.cell pk
              rw [strs_at _ _ (by rw [syW_length]; exact hp)] at hc5
              have hf5 := hS5.want.frozen pk
              have HS5 := Lib.hid hS5
              clear hS5 hb5 HS4
              go_wp2_with fail
              go_roundw
              case rel => exact ⟨i + 1, by omega, by go_num, sy_done1 HS5.out HR.out HPK.out (.inl q0)⟩
              case measure => simp [intOf]; omega
            · have c1 : decide (i < sy) = false := decide_eq_false q0
              have c1' : decide ((i : Int) < (sy : Int)) = false := decide_eq_false (by omega)
              by_cases q1 : (i : Int) - (sy : Int) < keep
              · have c2 : decide ((i : Int) - (sy : Int) < keep) = true := decide_eq_true q1
                go_wp2_with fail
                with_reducible refine (row_var _ _ _ HR).mono ?_
                rintro e w5 ⟨rfl, hb5⟩
                have hS5 := HS4.out.later hb5
                have hc5 := hS5.want.cell pk
                rw [strs_at _ _ (by rw [syW_length]; exact hp)] at hc5
                have hf5 := hS5.want.frozen pk
                have HS5 := Lib.hid hS5
                clear hS5 hb5 HS4
                go_wp2_with fail
                go_roundw
                case rel => exact ⟨i + 1, by omega, by go_num, sy_done1 HS5.out HR.out HPK.out (.inr q1)⟩
                case measure => simp [intOf]; omega
              · have c2 : decide ((i : Int) - (sy : Int) < keep) = false := decide_eq_false q1
                by_cases q2 : (i : Int) - (sy : Int) = imax keep 0
                · have c3 : ((i : Int) - (sy : Int) == imax keep 0) = true := by rw [q2]; simp
                  have Q2 := Lib.hid q2
                  clear q2
                  obtain ⟨tn, htn⟩ : ∃ tn : Nat, imin (imax torn 0) 64 = (tn : Int) := ⟨(Vd.clamp torn 0 64).toNat, by rw [clamp_eq]; unfold Vd.clamp; omega⟩
                  have htl : tn ≤ 64 := by rw [clamp_eq] at htn; unfold Vd.clamp at htn; omega
                  have hc4 := HS4.out.want.cell pk
                  rw [strs_at _ _ (by rw [syW_length]; exact hp)] at hc4
                  obtain ⟨s, hs⟩ : ∃ s : ByteArray, (⟨((syW (plc zs) sy keep torn i).getD pk []).toArray⟩ : ByteArray) = s := ⟨_, rfl⟩
                  rw [hs] at hc4
                  have hss : s.size = 64 := by
                    rw [← hs, bytes_size, List.getD_eq_getElem?_getD, List.getElem?_eq_getElem (by rw [syW_length]; exact hp)]
                    exact syW_64 _ (plc_lt zs) _ _ _ _ _ (List.getElem_mem _)
                  have hrs := HRS.out
                  have HSS := Lib.hid hs
                  clear hs
                  have t0 : (0 : Int) ≤ (tn : Int) := by omega
                  have t1 : (tn : Int) ≤ 64 := by omega
                  have hHl : H < w4.heap.size := HS4.out.want.lt
                  have hsm1 : Small (r.extract 0 tn) := by unfold Small; simp; omega
                  have hsm2 : Small (s.extract tn 64) := by unfold Small; simp; omega
                  have hw1 : IntKind.i64.wrap ((i : Int) + 1) = (i : Int) + 1 := IntWalk.i64_in _ (by omega)
                  go_wp2_with fail
                  have hf4 := HS4.out.want.frozen pk
                  go_region_law (first | (go_simp; go_at_call 11; (with_reducible refine (row_var _ _ _ HR).mono ?_); rintro e w5 ⟨rfl, hb5⟩; have hc5 : w5.cell? ⟨H, pk, none⟩ = some (.string s) := (hb5.cell (p := ⟨H, pk, none⟩) (show H < w4.heap.size from hHl)).trans hc4; have hf5 : w5.frozen? ⟨H, pk, none⟩ = false := (hb5.frozen (p := ⟨H, pk, none⟩) (show H < w4.heap.size from hHl)).trans hf4))
                  all_goals
                    have HS5 := Lib.hid (HS4.out.later ((Below.refl _ w4).drew.trans hb5))
                    clear hb5 HS4 hc4 hf4 hc5 hf5
                    go_wp2_with fail
                    go_roundw
                    case rel => exact ⟨i + 1, by omega, by go_num, sy_done2 HS5.out HR.out HPK.out HSS.out hss htn (by omega) Q2.out⟩
                    case measure => simp [intOf]; omega
                · have c3 : ((i : Int) - (sy : Int) == imax keep 0) = false := by simpa using q2
                  go_wp2_with fail
                  go_roundw
                  case rel => exact ⟨i + 1, by omega, by go_num, by rw [syW_three _ _ _ _ _ (by omega) (by unfold imax at q2; split at q2 <;> omega)]; exact HS4.out⟩
                  case measure => simp [intOf]; omega
        · obtain rfl : i = n := by omega
          have hsyl : sy ≤ i := h1
          by_cases hsy : sy = i
          case' pos =>
            have s1 : ((sy : Int) == (i : Int)) = true := by rw [hsy]; simp
            have s2 : (sy == i) = true := by rw [hsy]; simp
            have hsync := sync_sy hS (d' := syE (plc zs) sy i) (by rw [← hsy]; exact syD_sync _ _)
            clear hsy hS
            go_wp2_with fail
            with_reducible refine hsync.mono ?_
            rintro e wr2 ⟨rfl, hS2⟩
            clear hsync s1 s2
            go_wp2_with fail
          case' neg =>
            have s1 : ((sy : Int) == (i : Int)) = false := by simpa using (by omega : ¬ (sy : Int) = (i : Int))
            have s2 : (sy == i) = false := by simpa using hsy
            rw [syD_E _ _ _ (by omega)] at hS
            have hS2 := hS
            clear hsy hS
            go_wp2_with fail
          all_goals
            with_reducible refine (crash_sy hS2 keep torn).mono ?_
            rintro e w3 ⟨rfl, hS3⟩
            clear hS2
            go_wp2_with fail
            with_reducible refine (restore_sy hS3).mono ?_
            rintro e w4 ⟨rfl, hS4⟩
            clear hS3
            rw [sy_crash _ _ _ _ _ hsyl] at hS4
            have HS4 := Lib.hid hS4
            clear hS4
            go_wp2_with fail
            go_loopw [17] (fun j wr => ∃ k : Nat, k ≤ 8 ∧ j = .int .i64 k ∧ SY w.heap.size w H (w.heap.size + 2) (syZ (plc zs) sy keep torn i) (syW (plc zs) sy keep torn i) wr) (fun j _ => 8 - (intOf j).toNat)
            case atStart => exact ⟨0, Nat.zero_le _, rfl, HS4.out⟩
            case round =>
              clear HS4
              obtain ⟨k, hk, rfl, hS⟩ := hrel
              by_cases hlt : k < 8
              · have hrd := read_sy hS (k : Int)
                rw [syZ_read _ _ _ _ _ _ hlt] at hrd
                obtain ⟨s, hs⟩ : ∃ s : ByteArray, (⟨((syW (plc zs) sy keep torn i).getD k []).toArray⟩ : ByteArray) = s := ⟨_, rfl⟩
                unfold rdV at hrd
                simp only [hs] at hrd
                have HSS := Lib.hid hs
                have k0 : (0 : Int) ≤ (k : Int) := by omega
                have k1 : (k : Int) < 8 := by omega
                clear hs hS
                go_wp2_with fail
                with_reducible refine hrd.mono ?_
                rintro e w5 ⟨rfl, hS5⟩
                clear hrd
                have hc := hS5.want.cell k
                rw [strs_at _ _ (by rw [syW_length]; exact hlt), HSS.out] at hc
                have HS5 := Lib.hid hS5
                clear hS5
                go_wp2_with fail
                go_roundw
                case rel => exact ⟨k + 1, by omega, by go_num, HS5.out⟩
                case measure => simp [intOf]; omega
              · obtain rfl : k = 8 := by omega
                go_wp2_with fail
                with_reducible refine (alive_any _).mono ?_
                rintro e w5 ⟨rfl, hb5⟩
                have hS5 := hS.later hb5
                have hq := queue_sy hS5
                have e0 : (syZ (plc zs) sy keep torn i).q.length = 0 := rfl
                rw [e0] at hq
                clear e0 hb5 hS
                go_wp2_with fail
                with_reducible refine hq.mono ?_
                rintro e w6 ⟨rfl, rfl⟩
                go_wp2_with fail
                go_ret
                exact ⟨rfl, hS5.below⟩
end Go.Proofs.Ytmkcmahfededeaa
