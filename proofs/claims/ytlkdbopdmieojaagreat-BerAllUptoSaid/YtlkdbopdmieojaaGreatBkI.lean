/- The contract of chancerybook.markedElements: lists that read as marks are marked. -/
import Derived.Test.YtlkdbopdmieojaaGreatBkH
set_option maxRecDepth 20000
namespace Go.Proofs.YtlkdbopdmieojaaGreat
open Go.RowKit Ber
set_option maxRecDepth 20000
set_option maxHeartbeats 1000000 in
theorem sameMarks_any {w : World} {v v2 : Value} {i n : Nat} (h1 : Rd w v i n) (h2 : Rd w v2 i n) (hn : n * 64 ≤ 140737488351232) (w0 : World) (hb : Below w.heap.size w w0) :
    Calls Tryz.prog 114 #[v, v2] w0 fun e w' => e = .returned (.bool true) ∧ Below w0.heap.size w0 w' := by
  obtain ⟨a, cap, rfl⟩ : ∃ a c, v = .slice a n c := by obtain ⟨a, c, e, _⟩ := h1; exact ⟨a, c, e⟩
  obtain ⟨a', cap', rfl⟩ : ∃ a c, v2 = .slice a n c := by obtain ⟨a, c, e, _⟩ := h2; exact ⟨a, c, e⟩
  have H1 := Lib.hid h1
  have H2 := Lib.hid h2
  have HB := Lib.hid hb
  clear h1 h2 hb
  obtain ⟨ks0, KN⟩ : ∃ ks0 : List El, ks0 = [] := ⟨_, rfl⟩
  go_enter Tryz.func114, Tryz.ntmps114
  go_wp2_with fail
  go_loopw [5] (fun i wr => ∃ j : Nat, j ≤ n ∧ i = .int .i64 j ∧ Below w0.heap.size w0 wr) (fun i _ => n - (intOf i).toNat)
  case atStart => exact ⟨0, Nat.zero_le _, rfl, Below.refl _ _⟩
  case round =>
    obtain ⟨j, hj, rfl, hbel⟩ := hrel
    by_cases hlt : j < n
    · obtain ⟨g, rfl, hgl, hc⟩ := H1.out.at hlt
      obtain ⟨g', rfl, hgl', hc'⟩ := H2.out.at hlt
      have hsw := HB.out.trans (hbel.mono HB.out.size)
      obtain ⟨c0, c1, c2, c3, c4⟩ := hc.later hsw hgl
      obtain ⟨d0, d1, d2, d3, d4⟩ := hc'.later hsw hgl'
      have HKA := Lib.hid (KsAt.nil w)
      have HBB := Lib.hid hbel
      have HSW := Lib.hid hsw
      have hs := hbel.size
      clear hc hbel hc' hsw
      have q0 : (0 : Int) ≤ (j : Int) := by omega
      have q1 : (j : Int) < (n : Int) := by omega
      go_wp2_with fail
      go_region_held3 (fun w' => w'.cell? ⟨g, j * 5, none⟩ = some (.int .i64 (-1 - (i : Int))) ∧ w'.cell? ⟨g, j * 5 + 1, none⟩ = some (.int .i64 (j : Int)) ∧ w'.cell? ⟨g, j * 5 + 2, none⟩ = some (.bool false) ∧ w'.cell? ⟨g, j * 5 + 3, none⟩ = some (.string ⟨#[]⟩) ∧ w'.cell? ⟨g, j * 5 + 4, none⟩ = some (.slice none 0 0) ∧ w'.cell? ⟨g', j * 5, none⟩ = some (.int .i64 (-1 - (i : Int))) ∧ w'.cell? ⟨g', j * 5 + 1, none⟩ = some (.int .i64 (j : Int)) ∧ w'.cell? ⟨g', j * 5 + 2, none⟩ = some (.bool false) ∧ w'.cell? ⟨g', j * 5 + 3, none⟩ = some (.string ⟨#[]⟩) ∧ w'.cell? ⟨g', j * 5 + 4, none⟩ = some (.slice none 0 0))
        (first | exact ⟨c0, c1, c2, c3, c4, d0, d1, d2, d3, d4⟩ | exact ⟨keep_c hb3 c0, keep_c hb3 c1, keep_c hb3 c2, keep_c hb3 c3, keep_c hb3 c4, keep_c hb3 d0, keep_c hb3 d1, keep_c hb3 d2, keep_c hb3 d3, keep_c hb3 d4⟩ | go_keep) (((with_reducible refine (same_any HKA.out _ (-1 - (i : Int)) (j : Int) false ⟨#[]⟩ _ HKA.out (by exact below_drew1 HSW.out)).mono ?_); rintro e w3 ⟨rfl, hb3⟩))
      have hb9 : Below w0.heap.size w0 w3 := HBB.out.trans ((below_drew1 (Below.refl wr.heap.size wr)).trans hb3 |>.mono hs)
      go_wp2_with fail
      go_roundw
      case rel => exact ⟨j + 1, by omega, by go_num, hb9⟩
      case measure => simp [intOf]; omega
    · go_wp2_with fail
      go_ret
      exact ⟨rfl, hbel⟩
set_option maxHeartbeats 2000000 in
theorem markedElements_any {w : World} {a : Option Addr} {N cap : Nat} (hN : N ≤ 250) (h : ∀ j, j < N → ∃ (q n : Nat) (v : Value), a = some ⟨q, 0, none⟩ ∧ w.cell? ⟨q, j, none⟩ = some v ∧ Rd w v j n ∧ n * 64 ≤ 140737488350000) :
    Calls Tryz.prog 84 #[.slice a N cap] w fun e w' => e = .returned (.bool true) ∧ Below w.heap.size w w' := by
  have HAT := Lib.hid h
  clear h
  go_enter Tryz.func84, Tryz.ntmps84
  go_wp2_with fail
  go_loopw [3] (fun i wr => ∃ j : Nat, j ≤ N ∧ i = .int .i64 j ∧ Below w.heap.size w wr) (fun i _ => N - (intOf i).toNat)
  case atStart => exact ⟨0, Nat.zero_le _, rfl, Below.refl _ _⟩
  case round =>
    obtain ⟨j, hj, rfl, hbel⟩ := hrel
    by_cases hlt : j < N
    · obtain ⟨q, n, v, rfl, hc, hrd, hn⟩ := HAT.out j hlt
      have c0 : wr.cell? ⟨q, j, none⟩ = some v := (hbel.cell (p := ⟨q, j, none⟩) (World.block_lt_of_cell? _ _ hc)).trans hc
      have hrw : Rd wr v j n := hrd.keep hbel.size (fun q hq _ => hbel.block q hq)
      obtain ⟨va, vc, rfl⟩ : ∃ a c, v = .slice a n c := by obtain ⟨a, c, e, _⟩ := hrd; exact ⟨a, c, e⟩
      have HR := Lib.hid hrw
      have HBB := Lib.hid hbel
      have hs := hbel.size
      have q0 : (0 : Int) ≤ (j : Int) := by omega
      have q1 : (j : Int) < (N : Int) := by omega
      have HM : Hid (Calls Tryz.prog 133 #[.int .i64 (j : Int), .int .i64 0, .int .i64 (n : Int)] wr.drew fun e w' => MkEls wr.drew j 0 n e w') := Lib.hid (markEls_any j 0 n (j : Int) 0 (n : Int) rfl rfl rfl _ (by omega) (by omega))
      have HS : Hid (∀ w5 mv, Below wr.drew.heap.size wr.drew w5 → Rd w5 mv j n → Calls Tryz.prog 114 #[.slice va n vc, mv] w5 fun e w' => e = .returned (.bool true) ∧ Below w5.heap.size w5 w') := Lib.hid (fun w5 mv hb5 hm => sameMarks_any (HR.out.keep hb5.size (fun q hq _ => hb5.block q hq)) hm (by omega) w5 (Below.refl _ _))
      clear hc hrd hrw hbel
      go_wp2_with fail
      go_region_held3 (fun w' => w'.cell? ⟨q, j, none⟩ = some (.slice va n vc))
        (first | exact c0 | exact keep_c hb3 c0 | exact (hb4.cell (p := ⟨q, j, none⟩) (World.block_lt_of_cell? _ _ (keep_c hb3 c0))).trans (keep_c hb3 c0) | go_keep)
        (first
          | (go_at_call 133; ((with_reducible refine HM.out.mono ?_)); rintro e w5 ⟨mv, rfl, hrow, hb3⟩; have HRM := Lib.hid (Rd.row hrow); obtain ⟨ma, mc, rfl⟩ := row_shape hrow; clear hrow)
          | (go_at_call 114; ((with_reducible refine (HS.out _ _ (by exact hb3) HRM.out).mono ?_)); rintro e w6 ⟨rfl, hb4⟩))
      all_goals
        have hb9 : Below w.heap.size w w6 := HBB.out.trans (((below_drew1 (Below.refl wr.heap.size wr)).trans (hb3.trans (hb4.mono hb3.size))).mono hs)
        go_wp2_with fail
        go_roundw
        case rel => exact ⟨j + 1, by omega, by go_num, hb9⟩
        case measure => simp [intOf]; omega
    · go_wp2_with fail
      go_ret
      exact ⟨rfl, hbel⟩
end Go.Proofs.YtlkdbopdmieojaaGreat
