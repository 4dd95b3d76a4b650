/- The walk of PagerMany. -/
import Derived.Test.YtoleojljpaglhaaPdF
import Derived.Deep.CutBlock
set_option maxRecDepth 20000
namespace Go.Proofs.Ytoleojljpaglhaa
open Go.RowKit
set_option maxRecDepth 20000
set_option maxHeartbeats 4000000 in
theorem pagerMany_in (fr : Nat) (w : World) (hf : fr ≤ 32) :
    Calls Try.prog 3 #[.int .i64 (fr : Int)] w fun e w' => e = .returned (.bool true) ∧ Below w.heap.size w w' := by
  have hN : Calls Try.prog 8 #[.int .i64 480] w fun e w' => e = .returned (.tuple #[.pointer (some ⟨w.heap.size + 2, 0, none⟩), .int .i64 0]) ∧ DiskAt w' (w.heap.size + 2) w.heap.size (w.heap.size + 1) (.slice none 0 0) (newVD 480) ∧ Below w.heap.size w w' := new_in 480 w (by omega) (by omega)
  obtain ⟨i0, hi0, hz0, hz1, hz2⟩ := info_parts i64_info
  obtain ⟨u0, hu0, hy0, hy1, hy2⟩ := info_parts u8_info
  obtain ⟨zl, hzl⟩ : ∃ zl, List.replicate 256 (0 : UInt8) = zl := ⟨_, rfl⟩
  have hmk0 := (fun W => make_bytes' (P := Try.prog) 39 5 u0 Try.underlying39 hu0 hy0 hy1 hy2 .i64 .i64 256 256 256 256 rfl rfl (by omega) (by omega) W)
  rw [hzl] at hmk0
  have HMK := Lib.hid hmk0
  have HZL := Lib.hid hzl
  clear hmk0 hzl
  have HN := Lib.hid hN
  have HFR := Lib.hid hf
  have Hi0 := Lib.hid hi0
  have Hz0 := Lib.hid hz0
  have Hz1 := Lib.hid hz1
  have Hz2 := Lib.hid hz2
  have f1 : ¬ (fr : Int) < 0 := by omega
  have f2 : (fr : Int) ≤ 32 := by omega
  clear hN hf hi0 hz0 hz1 hz2 hu0 hy0 hy1 hy2
  go_enter Try.func3, Try.ntmps3
  go_wp2_with fail
  (with_reducible refine HN.out.mono ?_)
  rintro e w1 ⟨rfl, hD, hb1⟩
  have hdk : DK (Up w.heap.size) w (w.heap.size + 2) (newVD 480) w1 := ⟨⟨_, wnew_df hD, by simp [Up]⟩, KeepS.ofBelow hb1, fun _ h => h⟩
  have HO := Lib.hid (ropen_new (by omega) hdk)
  clear hD hb1 hdk
  go_wp2_with fail
  (with_reducible refine HO.out.mono ?_)
  rintro e w2 ⟨G, L, d, rfl, hg, hg0, hP, hI, hr⟩
  have HB := Lib.hid (mn_begin hP rfl rfl rfl hI hg0 (by have := hr.wr; simpa [newVD] using this) (hr.room rfl) (hr.fuse rfl))
  clear hg hg0 hP hI hr HO HN
  go_wp2_with fail
  (with_reducible refine HB.out.mono ?_)
  rintro e w3 ⟨rfl, hM⟩
  have HM0 := Lib.hid hM
  clear hM HB
  go_wp2_with fail
  go_loopw [7, 8] (fun s7 s8 wr => ∃ (ks : List Int) (N : Nat), s8 = .int .i64 (N : Int) ∧ N ≤ 32 ∧ Hid (ks.length = N) ∧ Hid ks.Nodup ∧ Hid (∀ k ∈ ks, 1 ≤ k ∧ k ≤ 32) ∧ Hid (Mn w G.pg ks ks [] N 1 s7 wr)) (fun _ i _ => 32 - (intOf i).toNat)
  case atStart => exact ⟨[], 0, rfl, Nat.zero_le _, Lib.hid rfl, Lib.hid List.nodup_nil, Lib.hid (fun k hk => by cases hk), HM0⟩
  case round =>
    obtain ⟨ks, N, rfl, hN, HLN, HND, HBD, HM⟩ := hrel
    obtain ⟨A, cap, rfl, _⟩ := HM.out.shape
    obtain ⟨n0, hn0⟩ : ∃ n0, ks.length = n0 := ⟨_, rfl⟩
    obtain rfl : n0 = N := hn0.symm.trans HLN.out
    rw [hn0] at HM ⊢
    by_cases hlt : n0 < 32
    · have HAL := Lib.hid (mn_alloc HM.out hlt)
      have g1 : (n0 : Int) < 32 := by omega
      have HLT := Lib.hid hlt
      clear hlt hN
      go_wp2_with fail
      (with_reducible refine HAL.out.mono ?_)
      rintro e w5 ⟨k, rfl, hk, hnk, hM5, _⟩
      have HK := Lib.hid hk
      have HNK := Lib.hid hnk
      have HM5 := Lib.hid hM5
      clear hk hnk hM5 HAL HM
      go_wp2_with fail
      go_loopw [11] (fun s11 wx => ∃ j : Nat, s11 = .int .i64 (j : Int) ∧ j ≤ n0 ∧ wx = w5) (fun j _ => n0 - (intOf j).toNat)
      case atStart => exact ⟨0, rfl, Nat.zero_le _, rfl⟩
      case round =>
        obtain ⟨j, rfl, hj, rfl⟩ := hrel
        by_cases hjl : j < n0
        · obtain ⟨q, hA, hc⟩ := HM5.out.cell.2 j (by rw [hn0]; exact hjl)
          subst hA
          have hmem : ks[j]'(by rw [hn0]; exact hjl) ∈ ks := List.getElem_mem _
          obtain ⟨x, hx⟩ : ∃ x, ks[j]'(by rw [hn0]; exact hjl) = x := ⟨_, rfl⟩
          rw [hx] at hc hmem
          have e1 : (x == k) = false := beq_eq_false_iff_ne.2 (fun e => HNK.out (by rw [← e]; exact hmem))
          have g2 : (j : Int) < (n0 : Int) := by omega
          have HJL := Lib.hid hjl
          clear hx hmem hjl hj
          go_wp2_with fail
          go_roundw
          case rel => exact ⟨j + 1, by go_num, by have := HJL.out; omega, by first | rfl | trivial⟩
          case measure => have := HJL.out; simp [intOf]; omega
        · have g2 : ¬ (j : Int) < (n0 : Int) := by omega
          clear hjl hj
          go_wp2_with fail
          (with_reducible refine (row12_any _ _).mono ?_)
          rintro e w6 ⟨s6, rfl, hs6, hb6⟩
          have HWR := Lib.hid (mn_write (HM5.out.later hb6) k (List.mem_append_right _ (List.mem_singleton_self k)) HK.out s6 hs6)
          clear hs6 hb6
          go_wp2_with fail
          (with_reducible refine HWR.out.mono ?_)
          rintro e w7 ⟨rfl, hM7⟩
          have HM7 := Lib.hid hM7
          have HROW : Hid (w7.ownsRow w.heap.size 3 1 (.slice A n0 cap) n0 (pis ks)) := Lib.hid (by have := hM7.row; rw [hn0] at this; exact this)
          clear hM7 HWR
          go_wp2_with (at_builtin; refine wpList_append_own_at _ rfl _ _ 31 rfl w.heap.size 3 i0 (.int .i64 0) 1 8 Try.underlying31 Hi0.out Hz0.out Hz1.out Hz2.out rfl (by decide) _ n0 (pis ks) rfl (HROW.out.alloc _) ⟨w7.heap.size, 0, none⟩ 1 1 [.int .i64 k] rfl rfl (cell_one_new _ _ _) (ints_oneCell .i64 [k]) ?c3 ?c4 ?c5 ?_)
          case c3 => have := HLT.out; unfold maxLen; omega
          case c4 => have := HLT.out; omega
          case c5 => rw [World.size_alloc]; have := HM7.out.below.size; omega
          intro v9 w9 hown9 hgrow9 _ hat9
          have HM9 := Lib.hid (mn_push HM7.out (by rw [hn0]; exact hown9) hgrow9 hat9)
          clear hown9 hgrow9 hat9 HROW
          go_wp2_with fail
          go_roundw
          case rel => exact ⟨ks ++ [k], n0 + 1, by go_num, by have := HLT.out; omega, Lib.hid (by rw [List.length_append, hn0]; rfl), Lib.hid (by
            rw [List.nodup_append]
            exact ⟨HND.out, (by simp), fun a ha b hb => by
              rw [List.mem_singleton] at hb
              subst hb
              intro e
              exact HNK.out (by rw [← e]; exact ha)⟩), Lib.hid (fun x hx => by
            rcases List.mem_append.1 hx with hx | hx
            · exact HBD.out x hx
            · rw [List.mem_singleton] at hx
              subst hx
              exact HK.out), HM9⟩
          case measure => have := HLT.out; simp [intOf]; omega
    · obtain rfl : n0 = 32 := by omega
      have HFU := Lib.hid (mn_full HM.out)
      clear hlt hN HM
      go_wp2_with fail
      (with_reducible refine HFU.out.mono ?_)
      rintro e w5 ⟨k, rfl, hM5⟩
      have HCM := Lib.hid (mn_commit hM5 (by omega))
      clear hM5 HFU
      go_wp2_with fail
      (with_reducible refine HCM.out.mono ?_)
      rintro e w6 ⟨rfl, _, HBG⟩
      clear HCM
      go_wp2_with fail
      (with_reducible refine HBG.out.mono ?_)
      rintro e w7 ⟨rfl, hM7⟩
      have HM7 := Lib.hid hM7
      clear hM7 HBG
      go_wp2_with fail
      go_loopw [14] (fun s14 wx => ∃ i : Nat, s14 = .int .i64 (i : Int) ∧ i ≤ fr ∧ Hid (Mn w G.pg ks (ks.drop i) [] (32 - i) 2 (.slice A 32 cap) wx)) (fun i _ => fr - (intOf i).toNat)
      case atStart => exact ⟨0, rfl, Nat.zero_le _, HM7⟩
      case round =>
        obtain ⟨i, rfl, hi, HM⟩ := hrel
        clear HM7
        by_cases hil : i < fr
        · have hlen : i < ks.length := by have := HFR.out; omega
          obtain ⟨q, hA, hc⟩ := HM.out.cell.2 i hlen
          subst hA
          have hdr : ks.drop i = ks[i] :: ks.drop (i + 1) := List.drop_eq_getElem_cons hlen
          have hbd := HBD.out ks[i] (List.getElem_mem hlen)
          obtain ⟨x, hx⟩ : ∃ x, ks[i] = x := ⟨_, rfl⟩
          rw [hx] at hc hdr hbd
          have hnd : (ks.drop i).Nodup := HND.out.sublist (List.drop_sublist i ks)
          rw [hdr, List.nodup_cons] at hnd
          have HM1 : Hid (Mn w G.pg ks (x :: ks.drop (i + 1)) [] (32 - i) 2 (.slice (some ⟨q, 0, none⟩) 32 cap) wr) := Lib.hid (by rw [← hdr]; exact HM.out)
          have HF1 := Lib.hid (mn_free HM1.out hnd.1)
          have HBX := Lib.hid hbd
          have g2 : (i : Int) < (fr : Int) := by omega
          have g3 : (i : Int) < 32 := by omega
          have HIL := Lib.hid hil
          have HLEN := Lib.hid hlen
          have hx2 : ks[i]? = some x := by rw [List.getElem?_eq_getElem hlen, hx]
          have HX := Lib.hid hx2
          clear hdr hnd hbd hil hi hx hx2 HM HM1 hlen
          go_wp2_with fail
          (with_reducible refine HF1.out.mono ?_)
          rintro e w9 ⟨rfl, hM9⟩
          obtain ⟨q', hA, hc9⟩ := hM9.cell.2 i HLEN.out
          injection hA with hA
          injection hA with hA
          subst hA
          obtain ⟨_, hx9⟩ := List.getElem?_eq_some_iff.1 HX.out
          rw [hx9] at hc9
          clear hx9
          have HF2 := Lib.hid (mn_free2 hM9 HBX.out)
          clear hM9 HF1 hc
          go_wp2_with fail
          (with_reducible refine HF2.out.mono ?_)
          rintro e w10 ⟨rfl, hM10⟩
          have HM10 : Hid (Mn w G.pg ks (ks.drop (i + 1)) [] (32 - (i + 1)) 2 (.slice (some ⟨q, 0, none⟩) 32 cap) w10) := Lib.hid (by rw [← Nat.sub_sub]; exact hM10)
          clear hM10 hc9 HF2
          go_wp2_with fail
          go_roundw
          case rel => exact ⟨i + 1, by go_num, by have := HIL.out; omega, HM10⟩
          case measure => have := HIL.out; simp [intOf]; omega
        · obtain rfl : i = fr := by omega
          have HMF := Lib.hid HM.out.forget
          clear hil hi HM
          go_wp2_with fail
          go_loopw [15] (fun s15 wx => ∃ j : Nat, s15 = .int .i64 (j : Int) ∧ j ≤ i ∧ Hid (Mn w G.pg [] [] [] (32 - i + j) 2 (.slice none 0 0) wx)) (fun j _ => i - (intOf j).toNat)
          case atStart => exact ⟨0, rfl, Nat.zero_le _, HMF⟩
          case round =>
            obtain ⟨j, rfl, hj, HM⟩ := hrel
            clear HMF
            by_cases hjl : j < i
            · have HAL := Lib.hid (mn_alloc HM.out (by omega))
              have g2 : (j : Int) < (i : Int) := by omega
              have HJL := Lib.hid hjl
              clear hjl hj HM
              go_wp2_with fail
              (with_reducible refine HAL.out.mono ?_)
              rintro e w9 ⟨k, rfl, _, _, hM9, hrd⟩
              have HRD := Lib.hid hrd
              have HM9 := Lib.hid hM9
              clear hrd hM9 HAL
              obtain ⟨zs, hzs⟩ : ∃ zs, zeros = zs := ⟨_, rfl⟩
              rw [hzs] at HRD
              go_wp2_with fail
              (with_reducible refine HRD.out.mono ?_)
              rintro e w10 ⟨rfl, rfl⟩
              have hmk := HMK.out w9
              have hcv : (convert 39 9 (.slice (some ⟨w9.heap.size, 0, none⟩) 256 256)).run Try.prog (w9.alloc (.cells (bvs zl) 5)) = .ok (.string zs) (w9.alloc (.cells (bvs zl) 5)) := by
                have hzz : zs = ⟨zl.toArray⟩ := by rw [← hzs, ← HZL.out]; rfl
                rw [hzz]
                exact string_of_blk (P := Try.prog) (Blk.new w9 _ _) 39 9 5 256 256 (by rw [← HZL.out, List.length_replicate]) Try.underlying39 Try.underlying5 Try.underlying9
              have HM10 := Lib.hid (HM9.out.forget.later ((Below.refl _ _).alloc (Nat.le_refl _) (.cells (bvs zl) 5)))
              clear HM9 HRD hzs
              go_wp2_with fail
              go_roundw
              case rel => exact ⟨j + 1, by go_num, by have := HJL.out; omega, HM10⟩
              case measure => have := HJL.out; simp [intOf]; omega
            · obtain rfl : j = i := by omega
              have e32 : 32 - j + j = 32 := by have := HFR.out; omega
              rw [e32] at HM
              have HFU := Lib.hid (mn_full HM.out)
              clear hjl hj HM e32
              go_wp2_with fail
              (with_reducible refine HFU.out.mono ?_)
              rintro e w9 ⟨k, rfl, hM9⟩
              have HAV : Hid (Calls Try.prog 7 #[] w9 fun e w' => e = .returned (.bool true) ∧ Mn w G.pg [] [] [] 32 2 (.slice none 0 0) w') := Lib.hid ((palive_any w9).mono fun e w' ⟨he, hb⟩ => ⟨he, hM9.later hb⟩)
              clear hM9 HFU
              go_wp2_with fail
              (with_reducible refine HAV.out.mono ?_)
              rintro e w10 ⟨rfl, hM10⟩
              have HUS : Hid (Calls Try.prog 17 #[.pointer (some ⟨G.pg, 0, none⟩)] w10 fun e w' => e = .returned (.int .i64 32) ∧ w10 = w') := Lib.hid (mn_used hM10)
              have HCM := Lib.hid (mn_commit hM10 (by omega))
              clear hM10 HAV
              go_wp2_with fail
              (with_reducible refine HUS.out.mono ?_)
              rintro e w11 ⟨rfl, rfl⟩
              go_wp2_with fail
              (with_reducible refine HCM.out.mono ?_)
              rintro e w12 ⟨rfl, HB, _⟩
              go_wp2_with fail
              go_ret
              exact ⟨rfl, HB.out⟩
theorem pagerMany_walk (x : Int) (w : World) :
    Calls Try.prog 3 #[.int .i64 x] w fun e w' => e = .returned (.bool true) ∧ Below w.heap.size w w' := by
  by_cases h0 : x < 0
  · have HAL := Lib.hid (palive_any w)
    go_enter Try.func3, Try.ntmps3
    go_wp2_with fail
    (with_reducible refine HAL.out.mono ?_)
    rintro e w1 ⟨rfl, hb⟩
    go_wp2_with fail
    go_ret
    exact ⟨rfl, hb⟩
  · by_cases h1 : 32 < x
    · have HAL := Lib.hid (palive_any w)
      go_enter Try.func3, Try.ntmps3
      go_wp2_with fail
      (with_reducible refine HAL.out.mono ?_)
      rintro e w1 ⟨rfl, hb⟩
      go_wp2_with fail
      go_ret
      exact ⟨rfl, hb⟩
    · obtain ⟨n, rfl⟩ := Int.eq_ofNat_of_zero_le (by omega : 0 ≤ x)
      exact pagerMany_in n w (by omega)
end Go.Proofs.Ytoleojljpaglhaa
