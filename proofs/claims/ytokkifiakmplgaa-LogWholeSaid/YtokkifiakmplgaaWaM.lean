/- The walk of the law LogWhole. -/
import Derived.Test.YtokkifiakmplgaaWaL
import Derived.Deep.CutBlock
namespace Go.Proofs.Ytokkifiakmplgaa
open Go.RowKit
/-- the law's first argument in memory: lists of texts -/
structure GA (w : World) (gv : Value) (G : List (List (List UInt8))) : Prop where
  ex : ∃ a cap, gv = .slice a G.length cap ∧ ∀ i (h : i < G.length), ∃ g0 o0 ai ci, a = some ⟨g0, o0, none⟩ ∧ g0 < w.heap.size ∧ w.cell? ⟨g0, o0 + i, none⟩ = some (.slice ai G[i].length ci) ∧
    ∀ k (hk : k < G[i].length), ∃ gi oi, ai = some ⟨gi, oi, none⟩ ∧ gi < w.heap.size ∧ w.cell? ⟨gi, oi + k, none⟩ = some (.string ⟨(G[i][k]).toArray⟩) ∧ (G[i][k]).length ≤ 140737488351232
  len : G.length ≤ 140737488351232
  lens : ∀ i (h : i < G.length), G[i].length ≤ 140737488351232
theorem GA.at_ {w : World} {a : Option Addr} {cap : Nat} {G : List (List (List UInt8))} (h : GA w (.slice a G.length cap) G) (i : Nat) (hi : i < G.length) : ∃ g0 o0 ai ci, a = some ⟨g0, o0, none⟩ ∧ (∀ W, Below w.heap.size w W → W.cell? ⟨g0, o0 + i, none⟩ = some (.slice ai G[i].length ci)) ∧
    ∀ k (hk : k < G[i].length), ∃ gi oi, ai = some ⟨gi, oi, none⟩ ∧ (∀ W, Below w.heap.size w W → W.cell? ⟨gi, oi + k, none⟩ = some (.string ⟨(G[i][k]).toArray⟩)) ∧ (G[i][k]).length ≤ 140737488351232 := by
  obtain ⟨a', cap', he, hx⟩ := h.ex
  injection he with e1 _ e3
  subst e1 e3
  obtain ⟨g0, o0, ai, ci, h1, h2, h3, h4⟩ := hx i hi
  refine ⟨g0, o0, ai, ci, h1, fun W hW => (hW.cell (p := ⟨g0, o0 + i, none⟩) h2).trans h3, fun k hk => ?_⟩
  obtain ⟨gi, oi, k1, k2, k3, k4⟩ := h4 k hk
  exact ⟨gi, oi, k1, fun W hW => (hW.cell (p := ⟨gi, oi + k, none⟩) k2).trans k3, k4⟩
theorem gL_reset (i : Nat) (now : List (List UInt8)) : ({ Wa.gL i now with gen := (Wa.gL i now).gen + 1, op := true, used := 0, recs := [] } : Wa.WL) = Wa.gL (i + 1) [] := by simp [Wa.gL, Wa.allP]
theorem gL_push (i : Nat) (now : List (List UInt8)) (r : List UInt8) : ({ Wa.gL i now with used := (Wa.gL i now).used + (Wa.pieces r).length, recs := (Wa.gL i now).recs ++ [r] } : Wa.WL) = Wa.gL i (now ++ [r]) := by
  simp [Wa.gL, Wa.allP_append, Wa.allP_one, Wa.kinded_length]
theorem gL_ok (i : Nat) (now : List (List UInt8)) (h : (Wa.allP now).length ≤ 30) (hi : i ≤ 1000) : Wok (Wa.gL i now) := by
  have := allP_ge now
  exact ⟨by simp [Wa.gL], by simp [Wa.gL], h, by simp only [Wa.gL]; omega, by simp only [Wa.gL]; omega⟩
set_option maxRecDepth 20000 in
set_option maxHeartbeats 4000000 in
theorem logWhole_walk (G : List (List (List UInt8))) (gv : Value) (w : World) (hGA : GA w gv G) (sy keep torn : Int) :
    Calls Try.prog 5 #[gv, .int .i64 sy, .int .i64 keep, .int .i64 torn] w fun e w' => e = .returned (.bool true) ∧ Below w.heap.size w w' := by
  obtain ⟨a, cap, rfl, h0⟩ := hGA.ex
  clear h0
  have HGA := Lib.hid hGA
  have hlenG := hGA.len
  clear hGA
  have HAL := Lib.hid (alive_any w)
  by_cases hout : G.length < 1 ∨ 5 < G.length
  · by_cases q1 : (G.length : Int) < 1
    · go_enter Try.func5, Try.ntmps5
      go_wp2_with fail
      (with_reducible refine HAL.out.mono ?_)
      rintro e w1 ⟨rfl, hb⟩
      go_wp2_with fail
      go_ret
      exact ⟨rfl, hb⟩
    · have q2 : (5 : Int) < (G.length : Int) := by omega
      go_enter Try.func5, Try.ntmps5
      go_wp2_with fail
      (with_reducible refine HAL.out.mono ?_)
      rintro e w1 ⟨rfl, hb⟩
      go_wp2_with fail
      go_ret
      exact ⟨rfl, hb⟩
  · have q1 : ¬ (G.length : Int) < 1 := by omega
    have q2 : ¬ (5 : Int) < (G.length : Int) := by omega
    have hG5 : G.length ≤ 5 := by omega
    have HG1 : Hid (1 ≤ G.length) := Lib.hid (by omega)
    clear hout HAL
    have hNew : Calls Try.prog 7 #[.int .i64 40] w fun e w' => e = .returned (.tuple #[.pointer (some ⟨w.heap.size + 2, 0, none⟩), .int .i64 0]) ∧ DiskAt w' (w.heap.size + 2) w.heap.size (w.heap.size + 1) (.slice none 0 0) (newVD 40) ∧ Below w.heap.size w w' := new_in 40 w (by omega) (by omega)
    have HNew := Lib.hid hNew
    clear hNew
    go_enter Try.func5, Try.ntmps5
    go_wp2_with fail
    (with_reducible refine HNew.out.mono ?_)
    rintro e w1 ⟨rfl, hD, hb1⟩
    have hO : Calls Try.prog 8 #[.pointer (some ⟨w.heap.size + 2, 0, none⟩), .int .i64 3, .int .i64 30] w1 fun e w' => ∃ lg, e = .returned (.tuple #[.pointer (some ⟨lg, 0, none⟩), .int .i64 0]) ∧ LG (Up w.heap.size) w w' (w.heap.size + 2) (newVD 40) lg (Wa.gL 0 []) [w.heap.size + 2, w.heap.size, w.heap.size + 1] (.slice none 0 0) :=
      open_zero (S := Up w.heap.size) (w0 := w) (w := w1) (KeepS.ofBelow hb1) (fun _ h => h) (wnew_df hD) (by simp [Up]) 3 30 rfl (by omega) (by simp [newVD]) (by simp [newVD]) (new_look 40 3 (by omega))
    have HO := Lib.hid hO
    clear hO hD hb1
    go_wp2_with fail
    (with_reducible refine HO.out.mono ?_)
    rintro e w2 ⟨lg, rfl, h2⟩
    have HM2 := Lib.hid (LMx.start h2)
    have HGS0 : Hid (Wa.GS 0 [] [] 0 (newVD 40)) := Lib.hid (Wa.GS.start (newVD 40) (new_takes 40) rfl rfl rfl)
    obtain ⟨dg, hdg⟩ : ∃ dg, w.heap.size + 2 = dg := ⟨_, rfl⟩
    rw [hdg] at HM2
    simp only [hdg]
    clear h2 HO HNew hdg
    go_wp2_with fail
    go_loopw [13, 14, 15, 16] (fun s13 s14 s15 s16 wr => ∃ (i sure : Nat) (now ahead : List (List UInt8)) (d : Vd.VD) (fp : List Nat) (rv : Value), i ≤ G.length ∧ s16 = .int .i64 i ∧ s15 = .int .i64 sure ∧ Hid (Wa.GS i now ahead sure d) ∧ Hid (LMx w wr dg d lg (Wa.gL i now) now ahead s13 s14 fp rv)) (fun _ _ _ i _ => G.length - (intOf i).toNat)
    case atStart => exact ⟨0, 0, [], [], newVD 40, _, _, Nat.zero_le _, rfl, rfl, HGS0, HM2⟩
    case round =>
      obtain ⟨i, sure, now, ahead, d, fp, rv, hi, rfl, rfl, HGS, HM⟩ := hrel
      obtain ⟨N, hN⟩ : ∃ N : Nat, now.length = N := ⟨_, rfl⟩
      have HN := Lib.hid hN
      clear hN
      by_cases hlt : i < G.length
      · obtain ⟨pn, capn, hnv⟩ := own_p HM.out.rn
        rw [HN.out] at hnv
        subst hnv
        obtain ⟨g0, o0, ai, ci, rfl, hcg, hck⟩ := HGA.out.at_ i hlt
        have hbw : Below w.heap.size w wr := HM.out.log.bel.toBelow (Nat.le_refl _)
        have cg := hcg wr hbw
        obtain ⟨K, hK⟩ : ∃ K : Nat, G[i].length = K := ⟨_, rfl⟩
        rw [hK] at cg hcg
        have HK := Lib.hid hK
        have HCG := Lib.hid hcg
        have HCK := Lib.hid hck
        have HBW := Lib.hid hbw
        clear hK hcg hck hbw
        by_cases h12 : (12 : Int) < (K : Int)
        · go_wp2_with fail
          (with_reducible refine (alive_any wr).mono ?_)
          rintro e w3 ⟨rfl, hb3⟩
          go_wp2_with fail
          go_ret
          exact ⟨rfl, HBW.out.trans (hb3.mono HBW.out.size)⟩
        · have HLS := Lib.hid (lsync_any HM.out.log.rebase HGS.out.takes)
          go_wp2_with fail
          (with_reducible refine HLS.out.mono ?_)
          rintro e w3 ⟨rfl, fp3, h3⟩
          have HM3 : Hid (LMx w w3 dg (Wa.synced d) lg (Wa.gL i now) now ahead (.slice pn N capn) u14 fp3 rv) := Lib.hid (HM.out.use h3)
          have hrs := reset_any HM3.out.log.rebase HGS.out.takes.on (by show i < _; omega)
          rw [gL_reset] at hrs
          have HRS := Lib.hid hrs
          clear h3 hrs cg
          go_wp2_with fail
          (with_reducible refine HRS.out.mono ?_)
          rintro e w4 ⟨rfl, h4⟩
          have HM4 : Hid (LMx w w4 dg (Wa.synced d) lg (Wa.gL (i + 1) []) now ahead (.slice pn N capn) u14 fp3 (.slice none 0 0)) := Lib.hid (HM3.out.use h4)
          clear h4
          go_upto_if 64 with fail
          go_cut [14] (fun x14 wx => wx = w4 ∧ Hid (LMx w w4 dg (Wa.synced d) lg (Wa.gL (i + 1) []) [] (if now = [] then ahead else now) (.slice none 0 0) x14 fp3 (.slice none 0 0)))
          case first =>
            by_cases hn0 : (0 : Int) < (N : Int)
            · have hne : now ≠ [] := fun e => by have := HN.out; rw [e] at this; simp at this; omega
              have hx : LMx w w4 dg (Wa.synced d) lg (Wa.gL (i + 1) []) [] (if now = [] then ahead else now) (.slice none 0 0) (.slice pn N capn) fp3 (.slice none 0 0) := by
                rw [if_neg hne]
                exact HM4.out.shift
              have HX := Lib.hid hx
              clear hx hne
              go_wp2_with fail
              go_meet
              exact ⟨rfl, HX⟩
            · have hne : now = [] := List.eq_nil_of_length_eq_zero (by have := HN.out; omega)
              have hx : LMx w w4 dg (Wa.synced d) lg (Wa.gL (i + 1) []) [] (if now = [] then ahead else now) (.slice none 0 0) u14 fp3 (.slice none 0 0) := by
                rw [if_pos hne]
                exact HM4.out.drop
              have HX := Lib.hid hx
              clear hx hne
              go_wp2_with fail
              go_meet
              exact ⟨rfl, HX⟩
          case rest =>
          obtain ⟨rfl, HM5⟩ := hcut
          obtain ⟨ah, hah⟩ : ∃ ah, (if now = [] then ahead else now) = ah := ⟨_, rfl⟩
          have hg5 := HGS.out.reset (by omega)
          rw [hah] at HM5 hg5
          have HGS5 := Lib.hid hg5
          clear hg5 hah HM4 HM3 HRS HLS
          go_wp2_with fail
          go_loopw [13, 15, 17] (fun x13 x15 x17 wy => ∃ (k sr : Nat) (nw : List (List UInt8)) (d2 : Vd.VD) (fp2 : List Nat) (rv2 : Value), k ≤ K ∧ x17 = .int .i64 k ∧ x15 = .int .i64 sr ∧ Hid (Wa.GS (i + 1) nw ah sr d2) ∧ Hid (LMx w wy dg d2 lg (Wa.gL (i + 1) nw) nw ah x13 u14 fp2 rv2)) (fun _ _ k _ => K - (intOf k).toNat)
          case atStart => exact ⟨0, 0, [], Wa.synced d, _, _, Nat.zero_le _, rfl, rfl, HGS5, HM5⟩
          case round =>
            obtain ⟨k, sr, nw, d2, fp2, rv2, hk, rfl, rfl, HGI, HMI⟩ := hrel
            have hbk : Below w.heap.size w wr := HMI.out.log.bel.toBelow (Nat.le_refl _)
            have cg := HCG.out _ hbk
            have HBK := Lib.hid hbk
            clear hbk
            by_cases hkk : k < K
            · obtain ⟨gi, oi, rfl, hcs, hsz⟩ := HCK.out k (by rw [HK.out]; exact hkk)
              obtain ⟨X, hX⟩ : ∃ X : ByteArray, (⟨((G[i])[k]'(by rw [HK.out]; exact hkk)).toArray⟩ : ByteArray) = X := ⟨_, rfl⟩
              have hXz : X.size ≤ 140737488351232 := by rw [← hX, ba_len]; exact hsz
              rw [hX] at hcs
              have cs := hcs _ HBK.out
              have HCS := Lib.hid hcs
              have HXZ := Lib.hid hXz
              clear hX hcs hsz hXz
              by_cases h300 : (300 : Int) < (X.size : Int)
              · go_wp2_with fail
                (with_reducible refine (alive_any _).mono ?_)
                rintro e w6 ⟨rfl, hb6⟩
                go_wp2_with fail
                go_ret
                exact ⟨rfl, HBK.out.trans (hb6.mono HBK.out.size)⟩
              · have hok := gL_ok (i + 1) nw HGI.out.few (by omega)
                by_cases hfull : 30 < (Wa.allP nw).length + (Wa.pieces X.data.toList).length
                · have HAF := Lib.hid (append_full HMI.out.log.rebase hok (by simp [Wa.gL]) X HXZ.out hfull)
                  clear hok hfull
                  go_wp2_with fail
                  (with_reducible refine HAF.out.mono ?_)
                  rintro e w6 ⟨rfl, h6⟩
                  have HM6 := Lib.hid (HMI.out.use h6)
                  clear h6 cg cs
                  go_wp2_with fail
                  go_roundw
                  case rel => exact ⟨i + 1, sr, nw, ah, d2, _, _, by omega, by go_num, rfl, HGI, HM6⟩
                  case measure => simp [intOf]; omega
                · have hws := HGI.out.wr
                  have hfw := HGI.out.few
                  have hap := append_ok HMI.out.log.rebase hok (by simp [Wa.gL]) HGI.out.takes X HXZ.out (by show (Wa.allP nw).length + _ ≤ 30; omega) (by rw [HGI.out.len]; show 3 + 30 ≤ 40; omega) (by omega) (by have := allP_ge nw; show nw.length < _; omega)
                  rw [gL_push] at hap
                  have hgp := HGI.out.push (by omega) X.data.toList (by omega)
                  have hnl : nw.length ≤ 30 := by have := allP_ge nw; omega
                  have HGP := Lib.hid hgp
                  have HAP := Lib.hid hap
                  have HNL := Lib.hid hnl
                  clear hap hgp hws hfw hok hfull hnl
                  go_wp2_with fail
                  (with_reducible refine HAP.out.mono ?_)
                  rintro e w6 ⟨rfl, fp6, rv6, h6⟩
                  have HM6 := Lib.hid (HMI.out.use h6)
                  have hb6 : Below w.heap.size w w6 := HM6.out.log.bel.toBelow (Nat.le_refl _)
                  have cg6 := HCG.out _ hb6
                  have cs6 := HCS.out _ hb6
                  have hsw6 := hb6.size
                  obtain ⟨i0, hi0, hz0, hz1, hz2⟩ := info_parts str_info
                  have Hi0 := Lib.hid hi0
                  have Hz0 := Lib.hid hz0
                  have Hz1 := Lib.hid hz1
                  have Hz2 := Lib.hid hz2
                  clear h6 cg cs hb6 hi0 hz0 hz1 hz2
                  go_wp2_with (at_builtin; refine wpList_append_own_at _ rfl _ _ 34 rfl w.heap.size 9 i0 _ 1 16 Try.underlying34 Hi0.out Hz0.out Hz1.out Hz2.out rfl (by decide) _ nw.length (strs nw) rfl (HM6.out.rn.alloc _) ⟨w6.heap.size, 0, none⟩ 1 1 [.string X] rfl rfl (cell_one_new _ _ _) (str_one _) ?c3 ?c4 ?c5 ?_)
                  case c3 => have := HNL.out; unfold maxLen; omega
                  case c4 => have := HNL.out; omega
                  case c5 => simp; omega
                  intro v7 w7 hown7 hgrow7 hnil7 hat7
                  have HM7 := Lib.hid (HM6.out.push X hown7 hgrow7 (by simpa using hat7))
                  clear hown7 hgrow7 hnil7 hat7 cg6 cs6
                  obtain ⟨p7, cap7, hv7⟩ := own_p HM7.out.rn
                  subst hv7
                  obtain ⟨N7, hN7⟩ : ∃ N7 : Nat, (nw ++ [X.data.toList]).length = N7 := ⟨_, rfl⟩
                  rw [hN7] at HM7 ⊢
                  have HN7 := Lib.hid hN7
                  clear hN7
                  by_cases hsy : 0 ≤ sy
                  · have htm : sy.tmod 12 = sy % 12 := Int.tmod_eq_emod_of_nonneg hsy
                    by_cases hkm : (k : Int) = sy % 12
                    · have hkb : ((k : Int) == sy % 12) = true := by rw [beq_iff_eq]; exact hkm
                      have HLS := Lib.hid (lsync_any HM7.out.log.rebase HGP.out.takes)
                      have hgs := HGP.out.sync
                      rw [HN7.out] at hgs
                      have HGS8 := Lib.hid hgs
                      clear hkm hgs
                      go_wp2_with fail
                      (with_reducible refine HLS.out.mono ?_)
                      rintro e w8 ⟨rfl, fp8, h8⟩
                      have HM8 := Lib.hid (HM7.out.use h8)
                      clear h8
                      go_wp2_with fail
                      go_roundw
                      case rel => exact ⟨k + 1, N7, _, _, _, _, by omega, by go_num, rfl, HGS8, HM8⟩
                      case measure => simp [intOf]; omega
                    · have hkb : ((k : Int) == sy % 12) = false := by rw [beq_eq_false_iff_ne]; exact hkm
                      clear hkm
                      go_wp2_with fail
                      go_roundw
                      case rel => exact ⟨k + 1, sr, _, _, _, _, by omega, by go_num, rfl, HGP, HM7⟩
                      case measure => simp [intOf]; omega
                  ·
                    go_wp2_with fail
                    go_roundw
                    case rel => exact ⟨k + 1, sr, _, _, _, _, by omega, by go_num, rfl, HGP, HM7⟩
                    case measure => simp [intOf]; omega
            · obtain rfl : k = K := by omega
              go_wp2_with fail
              go_roundw
              case rel => exact ⟨i + 1, sr, nw, ah, d2, _, _, by omega, by go_num, rfl, HGI, HMI⟩
              case measure => simp [intOf]; omega
      · have hi0 : 0 < i := by have := HG1.out; omega
        have HFEW : Hid (now.length ≤ 30) := Lib.hid (by have := allP_ge now; have := HGS.out.few; omega)
        have HCR := Lib.hid (crash_any HM.out.log.disk keep torn)
        go_wp2_with fail
        (with_reducible refine HCR.out.mono ?_)
        rintro e w3 hp
        obtain ⟨rfl, fp3, h3, _⟩ := HM.out.log.rebase.called hp
        have HM3 := Lib.hid (HM.out.use h3)
        have HRE := Lib.hid (wrestore_df HM3.out.log.disk)
        clear hp h3
        go_wp2_with fail
        (with_reducible refine HRE.out.mono ?_)
        rintro e w4 hp
        obtain ⟨rfl, fp4, h4, _⟩ := HM3.out.log.rebase.called hp
        have HM4 := Lib.hid (HM3.out.use h4)
        have HOA := Lib.hid (open_after (S := fun k => k ∈ fp4 ∨ w4.heap.size ≤ k) HGS.out hi0 (by omega) keep torn rfl (fun _ h => .inr h) HM4.out.log.disk (fun _ h => .inl h))
        clear hp h4
        go_wp2_with fail
        (with_reducible refine HOA.out.mono ?_)
        rintro e w5 ⟨lg2, L2, rv2, rfl, hok2, hl2, hcase⟩
        have hrn := ownsRow_keep HM4.out.rn hl2.bel (fun q hq hS => by
          rcases hS with h | h
          · exact (HM4.out.sn q hq).2.1 h
          · have := (HM4.out.rn.lt q hq).2; omega)
        have hra := ownsRow_keep HM4.out.ra hl2.bel (fun q hq hS => by
          rcases hS with h | h
          · exact (HM4.out.sa q hq).2.1 h
          · have := (HM4.out.ra.lt q hq).2; omega)
        have hB5 : Below w.heap.size w w5 := (HM4.out.log.bel.trans hl2.bel (fun k hk => by
          rcases hk with h | h
          · exact HM4.out.log.low k h
          · exact Nat.le_trans HM4.out.log.bel.size h)).toBelow (Nat.le_refl _)
        have HREC := Lib.hid (records_any hl2 hok2)
        have HRN := Lib.hid hrn
        have HRA := Lib.hid hra
        have HB5 := Lib.hid hB5
        have HOK := Lib.hid hok2
        clear hl2 hrn hra hB5 hok2 HCR HRE HOA
        go_wp2_with fail
        (with_reducible refine HREC.out.mono ?_)
        rintro e w6 ⟨xv, rfl, hx⟩
        obtain ⟨xs, hxs⟩ : ∃ xs, L2.recs = xs := ⟨_, rfl⟩
        have hxl : xs.length ≤ 65536 := by rw [← hxs]; exact HOK.out.recs
        rw [hxs] at hx hcase
        have hRX : Rd w6 xv xs := Rd.of_own hx.own
        have hRN : Rd w6 u13 now := (Rd.of_own HRN.out).below hx.bel
        have hRA : Rd w6 u14 ahead := (Rd.of_own HRA.out).below hx.bel
        have hb6 := hx.bel
        have HBT : Hid (Below w.heap.size w w6) := Lib.hid (HB5.out.trans (hb6.mono HB5.out.size))
        have HRX := Lib.hid hRX
        have HRNN := Lib.hid hRN
        have HRAA := Lib.hid hRA
        have HXL := Lib.hid hxl
        obtain ⟨px, cx, hxv⟩ := os_slice hx
        obtain ⟨M, hM⟩ : ∃ M : Nat, xs.length = M := ⟨_, rfl⟩
        rw [hM] at hxv
        subst hxv
        obtain ⟨pn, capn, hnv⟩ := own_p HRN.out
        rw [HN.out] at hnv
        have HM' := Lib.hid hM
        have HCASE := Lib.hid hcase
        clear hx hRX hRN hRA hb6 hxl hM hxs hcase
        by_cases hN0 : N = 0
        · have hnow : now = [] := List.eq_nil_of_length_eq_zero (by have := HN.out; omega)
          have hxa : xs = ahead := by
            rcases HCASE.out with ⟨h, _⟩ | ⟨_, h⟩
            · exact absurd hnow h
            · exact h
          have HXA := Lib.hid hxa
          subst hN0 hnv
          clear hnow hxa
          go_wp2_with fail
          (with_reducible refine (alive_any _).mono ?_)
          rintro e w7 ⟨rfl, hb7⟩
          have hsm := sameTexts_any xs ahead _ _ w7 (HRX.out.below hb7) (HRAA.out.below hb7) HXL.out
          rw [decide_eq_true HXA.out] at hsm
          have HSM := Lib.hid hsm
          have HB7 := Lib.hid (HBT.out.trans (hb7.mono HBT.out.size))
          clear hsm hb7
          go_wp2_with fail
          (with_reducible refine HSM.out.mono ?_)
          rintro e w8 ⟨rfl, hb8⟩
          go_wp2_with fail
          go_ret
          exact ⟨rfl, HB7.out.trans (hb8.mono HB7.out.size)⟩
        · have hNb : ((N : Int) == 0) = false := by rw [beq_eq_false_iff_ne]; omega
          obtain ⟨gn, hpn, hNc⟩ : ∃ gn, pn = some ⟨gn, 0, none⟩ ∧ N ≤ capn := by
            have h1 := HRN.out
            rw [hnv] at h1
            rcases h1.2 with ⟨_, h0⟩ | ⟨g', c', _, he, _, _, hc, _⟩
            · have := HN.out; omega
            · injection he with e1 e2 e3
              exact ⟨g', e1, by have := HN.out; omega⟩
          subst hpn
          have hcapi : (N : Int) ≤ (capn : Int) := by omega
          have HCI := Lib.hid hcapi
          have hne : now ≠ [] := fun e => hN0 (by have := HN.out; rw [e] at this; simpa using this.symm)
          have hleft : ∀ (_ : ¬ (sure = 0 ∧ xs = ahead)), sure ≤ M ∧ M ≤ N ∧ xs = now.take M := fun h => by
            rcases HCASE.out with ⟨_, r, h1, h2, h3⟩ | ⟨h1, h2⟩
            · have hr : M = r := by have := HM'.out; rw [h3, List.length_take] at this; omega
              have := HN.out
              exact ⟨by omega, by omega, by rw [hr]; exact h3⟩
            · rcases h1 with h1 | h1
              · exact absurd h1 hne
              · exact absurd ⟨h1, h2⟩ h
          have HLEFT := Lib.hid hleft
          clear hleft hne hcapi hNc
          subst hnv
          have HFIN : Hid (∀ W, Below w6.heap.size w6 W → sure ≤ M → M ≤ N → xs = now.take M → Calls Try.prog 18 #[.slice px M cx, .slice (some ⟨gn, 0, none⟩) M capn] W fun e w' => e = .returned (.bool true) ∧ Below W.heap.size W w') := Lib.hid (fun W hW _ h2 h3 => by
            have h4 : Rd W (.slice (some ⟨gn, 0, none⟩) M capn) (now.take M) := by
              have h5 := HRNN.out.below hW
              rw [← HN.out] at h5
              exact h5.take M (by have := HN.out; omega) rfl
            have := sameTexts_any xs (now.take M) _ _ W (HRX.out.below hW) h4 HXL.out
            rwa [decide_eq_true h3] at this)
          by_cases hs0 : sure = 0
          · have HS0 := Lib.hid hs0
            by_cases hxa : xs = ahead
            · have hsm := sameTexts_any xs ahead _ _ w6 HRX.out HRAA.out HXL.out
              rw [decide_eq_true hxa] at hsm
              have HSM := Lib.hid hsm
              clear hsm hxa
              subst hs0
              go_wp2_with fail
              (with_reducible refine HSM.out.mono ?_)
              rintro e w7 ⟨rfl, hb7⟩
              have HB7 := Lib.hid (HBT.out.trans (hb7.mono HBT.out.size))
              clear hb7
              go_wp2_with fail
              (with_reducible refine (alive_any _).mono ?_)
              rintro e w8 ⟨rfl, hb8⟩
              go_wp2_with fail
              go_ret
              exact ⟨rfl, HB7.out.trans (hb8.mono HB7.out.size)⟩
            · have hsm := sameTexts_any xs ahead _ _ w6 HRX.out HRAA.out HXL.out
              rw [decide_eq_false hxa] at hsm
              have HSA := Lib.hid hsm
              obtain ⟨l1, l2, l3⟩ := HLEFT.out (fun h => hxa h.2)
              have L3 := Lib.hid l3
              have L1 := Lib.hid l1
              have i0 : (0 : Int) ≤ (M : Int) := by omega
              have i2 : (M : Int) ≤ (N : Int) := by omega
              have i3 : (M : Int) ≤ (capn : Int) := by have := HCI.out; omega
              clear l3 l1 hsm hxa
              subst hs0
              go_wp2_with fail
              (with_reducible refine HSA.out.mono ?_)
              rintro e w6a ⟨rfl, hb6a⟩
              have HB6 := Lib.hid hb6a
              clear hb6a
              go_wp2_with fail
              (with_reducible refine (alive_any _).mono ?_)
              rintro e w7 ⟨rfl, hb7⟩
              have hb67 := HB6.out.trans (hb7.mono HB6.out.size)
              have HSM := Lib.hid (HFIN.out w7 hb67 L1.out l2 L3.out)
              have HB7 := Lib.hid (HBT.out.trans (hb67.mono HBT.out.size))
              clear hb7 hb67
              go_wp2_with fail
              (with_reducible refine HSM.out.mono ?_)
              rintro e w8 ⟨rfl, hb8⟩
              go_wp2_with fail
              go_ret
              exact ⟨rfl, HB7.out.trans (hb8.mono HB7.out.size)⟩
          · have hsb : ((sure : Int) == 0) = false := by rw [beq_eq_false_iff_ne]; omega
            obtain ⟨l1, l2, l3⟩ := HLEFT.out (fun h => hs0 h.1)
            have L3 := Lib.hid l3
            have i1 : (sure : Int) ≤ (M : Int) := by omega
            have i2 : (M : Int) ≤ (N : Int) := by omega
            have i3 : (M : Int) ≤ (capn : Int) := by have := HCI.out; omega
            clear l3 hs0
            go_wp2_with fail
            (with_reducible refine (alive_any _).mono ?_)
            rintro e w7 ⟨rfl, hb7⟩
            have HSM := Lib.hid (HFIN.out w7 hb7 l1 l2 L3.out)
            have HB7 := Lib.hid (HBT.out.trans (hb7.mono HBT.out.size))
            clear hb7
            go_wp2_with fail
            (with_reducible refine HSM.out.mono ?_)
            rintro e w8 ⟨rfl, hb8⟩
            go_wp2_with fail
            go_ret
            exact ⟨rfl, HB7.out.trans (hb8.mono HB7.out.size)⟩
end Go.Proofs.Ytokkifiakmplgaa

