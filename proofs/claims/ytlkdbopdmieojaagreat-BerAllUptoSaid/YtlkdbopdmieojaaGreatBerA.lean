/- The contracts of ber.deep. -/
import Derived.Test.YtlkdbopdmieojaaGreatBerM
namespace Go.Proofs.YtlkdbopdmieojaaGreat
open Go.RowKit Ber
set_option maxRecDepth 20000
theorem deepIn_succ (m : Nat) (c t : Int) (k : Bool) (b : ByteArray) (ks : List El) : deepIn (m + 1) (.mk c t k b ks) = ks.any (deepIn m) := rfl
theorem any_yes {m j : Nat} {ks : List El} (h : j < ks.length) (hd : deepIn m ks[j] = true) : ks.any (deepIn m) = true := List.any_eq_true.2 ⟨_, List.getElem_mem h, hd⟩
theorem any_no {m : Nat} {ks : List El} (h : ∀ i (h : i < ks.length), deepIn m ks[i] = false) : ks.any (deepIn m) = false := by
  rw [List.any_eq_false]
  intro x hx
  obtain ⟨i, hi, rfl⟩ := List.getElem_of_mem hx
  simp [h i hi]
set_option maxHeartbeats 400000 in
theorem deep_any {w : World} {ks : List El} {kv : Value} (h : KsAt w ks kv) : ∀ (m : Nat) (z : Int) (c t : Int) (k : Bool) (b : ByteArray) (wr : World), Hid (z + m = 20) → 0 ≤ z → Below w.heap.size w wr →
    Calls Tryz.prog 98 #[.agg #[.int .i64 c, .int .i64 t, .bool k, .string b, kv], .int .i64 z] wr fun e w' => e = .returned (.bool (deepIn m (.mk c t k b ks))) ∧ Below wr.heap.size wr w' := by
  induction h with
  | mk ks a cap g o f h1 h2 h3 h4 ih =>
  intro m z c t k b wr hz hz0 hb
  cases m with
  | zero =>
    have h20 : 20 ≤ z := by have := hz.out; omega
    go_enter Tryz.func98, Tryz.ntmps98
    go_wp2_with fail
    go_ret
    exact ⟨rfl, (Below.refl _ _).alloc (Nat.le_refl _) _⟩
  | succ m =>
    have h20 : z < 20 := by have := hz.out; omega
    have hk := h2.le
    have HI := Lib.hid ih
    have HK := Lib.hid (kid_at h3 h4)
    have HB := Lib.hid hb
    rw [deepIn_succ]
    clear ih h3 h4 h2 hb
    go_enter Tryz.func98, Tryz.ntmps98
    go_wp2_with fail
    go_loopw [12] (fun i w2 => ∃ j : Nat, j ≤ ks.length ∧ i = .int .i64 j ∧ Hid (∀ i (h : i < ks.length), i < j → deepIn m ks[i] = false) ∧ Below wr.heap.size wr w2) (fun i _ => ks.length - (intOf i).toNat)
    case atStart => exact ⟨0, Nat.zero_le _, rfl, Lib.hid (fun i h h0 => absurd h0 (by omega)), (Below.refl _ _).alloc (Nat.le_refl _) _⟩
    case round w2 =>
      obtain ⟨j, hj, rfl, HJ, hbel⟩ := hrel
      by_cases hlt : j < ks.length
      · obtain ⟨kc, kt, kk, kb, a2, n2, cap2, rfl, hg, hf, he, hfj, hn2, hc⟩ := HK.out j hlt
        have hI := HI.out j hlt m (z + 1) kc kt kk kb
        rw [hfj, ← he] at hI
        obtain ⟨c0, c1, c2, c3, c4⟩ := hc.later (HB.out.trans (hbel.mono HB.out.size)) hg
        obtain ⟨r, hr⟩ : ∃ r, deepIn m ks[j] = r := ⟨_, rfl⟩
        rw [hr] at hI
        have HR := Lib.hid hr
        have Hc := Lib.hid hc
        have HII := Lib.hid hI
        have HBB := Lib.hid hbel
        have hs := hbel.size
        clear hr hc he hfj hn2 hI hbel
        cases r with
        | true =>
          go_wp2_with fail
          (with_reducible refine (HII.out _ (Lib.hid (by have := hz.out; omega)) (by omega) ((HB.out.trans (HBB.out.mono HB.out.size)).trans ((Below.refl _ _).alloc (by have := HB.out.size; omega) _))).mono ?_)
          rintro e w3 ⟨rfl, hb3⟩
          go_wp2_with fail
          go_ret
          exact ⟨by rw [any_yes hlt HR.out]; rfl, HBB.out.trans (((Below.refl _ _).alloc hs _).trans (hb3.mono (by simp; omega)))⟩
        | false =>
          go_wp2_with fail
          (with_reducible refine (HII.out _ (Lib.hid (by have := hz.out; omega)) (by omega) ((HB.out.trans (HBB.out.mono HB.out.size)).trans ((Below.refl _ _).alloc (by have := HB.out.size; omega) _))).mono ?_)
          rintro e w3 ⟨rfl, hb3⟩
          go_wp2_with fail
          go_roundw
          case rel => exact ⟨j + 1, by omega, by go_num, Lib.hid (fun i h h0 => by
            rcases Nat.lt_succ_iff_lt_or_eq.1 h0 with h1 | h1
            · exact HJ.out i h h1
            · subst h1; exact HR.out), HBB.out.trans (((Below.refl _ _).alloc hs _).trans (hb3.mono (by simp; omega)))⟩
          case measure => simp [intOf]; omega
      · go_wp2_with fail
        go_ret
        exact ⟨by rw [any_no (fun i h => HJ.out i h (by omega))]; rfl, hbel⟩
end Go.Proofs.YtlkdbopdmieojaaGreat
