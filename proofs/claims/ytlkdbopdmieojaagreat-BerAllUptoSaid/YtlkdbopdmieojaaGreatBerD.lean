/- The contract of ber.size. -/
import Derived.Test.YtlkdbopdmieojaaGreatBerA
import Derived.Test.YtlkdbopdmieojaaGreatBerC
import Derived.WalkLawsBesides
namespace Go.Proofs.YtlkdbopdmieojaaGreat
open Go.RowKit Ber
set_option maxRecDepth 20000
/-- a size, at most one more than may be -/
def psz (m : Nat) (e : El) : Int := ((min (esz m e) 65537 : Nat) : Int)
/-- a content's size after some kids -/
def pn (m : Nat) (b : Nat) (ks : List El) (j : Nat) : Int := if j = 0 then (b : Int) else ((min (b + ((ks.take j).map (esz m)).sum) 65537 : Nat) : Int)
theorem psz_bd (m : Nat) (e : El) : 0 ≤ psz m e ∧ psz m e ≤ 65537 := by unfold psz; omega
theorem pn_bd (m b : Nat) (ks : List El) (j : Nat) (hb : b ≤ 140737488351232) : 0 ≤ pn m b ks j ∧ pn m b ks j ≤ 140737488351232 := by unfold pn; split <;> omega
theorem sum_snoc (m : Nat) (ks : List El) (j : Nat) (h : j < ks.length) : ((ks.take (j + 1)).map (esz m)).sum = ((ks.take j).map (esz m)).sum + esz m ks[j] := by
  rw [List.take_succ_eq_append_getElem h, List.map_append, List.sum_append]
  simp
theorem pn_step (m b : Nat) (ks : List El) (j : Nat) (h : j < ks.length) : min (pn m b ks j + psz m ks[j]) 65537 = pn m b ks (j + 1) := by
  unfold pn psz
  rw [sum_snoc m ks j h, if_neg (Nat.succ_ne_zero j)]
  split
  · rename_i h0
    subst h0
    simp only [List.take_zero, List.map_nil, List.sum_nil]
    omega
  · omega
theorem pn_end (m : Nat) (c t : Int) (k : Bool) (b : ByteArray) (ks : List El) (x y : Int) (hx : pn m b.size ks ks.length = x) (hy : min x 65537 = y) : min (1 + (lenN y.toNat : Int) + x) 65537 = psz (m + 1) (.mk c t k b ks) := by
  subst hx hy
  unfold psz pn
  rw [esz_succ]
  have hc : csz m (.mk c t k b ks) = b.size + (ks.map (esz m)).sum := rfl
  rw [hc, List.take_length]
  have h0 : ks.length = 0 → (ks.map (esz m)).sum = 0 := by
    intro h
    rw [List.eq_nil_of_length_eq_zero h]
    rfl
  generalize (ks.map (esz m)).sum = s at *
  have h1 := lenN_bd (b.size + s)
  split
  · rename_i h
    have := h0 h
    subst this
    by_cases h2 : b.size ≤ 65536
    · rw [show (min (b.size : Int) 65537).toNat = b.size + 0 from by omega]
      omega
    · have := lenN_bd (min (b.size : Int) 65537).toNat
      omega
  · by_cases h2 : b.size + s ≤ 65536
    · rw [show (min ((min (b.size + s) 65537 : Nat) : Int) 65537).toNat = b.size + s from by omega]
      omega
    · have := lenN_bd (min ((min (b.size + s) 65537 : Nat) : Int) 65537).toNat
      omega
theorem length_var (z : Int) (n : Nat) (hz : Hid (z = n)) (w : World) (l : List UInt8) (hl : Hid (lenL n = l)) (h0 : 0 ≤ z) (h : z ≤ 65537) : Calls Tryz.prog 143 #[.int .i64 z] w fun e w' => e = .returned (.string ⟨l.toArray⟩) ∧ l.length ≤ 4 ∧ Below w.heap.size w w' :=
  (length_any z n hz w h0 h).mono fun e w' ⟨he, hb⟩ => ⟨by rw [he, hl.out], by rw [← hl.out, lenL_length]; exact (lenN_bd n).2, hb⟩
theorem ret_i64 {k : IntKind} {a b : Int} (h : a = b) : Ending.returned (.int k a) = .returned (.int k b) := by rw [h]
set_option maxHeartbeats 400000 in
theorem size_any {w : World} {ks : List El} {kv : Value} (h : KsAt w ks kv) : ∀ (m : Nat) (c t : Int) (k : Bool) (b : ByteArray) (wr : World), Few b.size → Hid (deepIn m (.mk c t k b ks) = false) → Below w.heap.size w wr → ∀ r, Hid (psz m (.mk c t k b ks) = r) →
    Calls Tryz.prog 99 #[.agg #[.int .i64 c, .int .i64 t, .bool k, .string b, kv]] wr fun e w' => e = .returned (.int .i64 r) ∧ Below wr.heap.size wr w' := by
  induction h with
  | mk ks a cap g o f h1 h2 h3 h4 ih =>
  intro m c t k b wr hfb hdp hb r hr
  cases m with
  | zero => exact absurd hdp.out (by simp [deepIn])
  | succ m =>
    have hk := h2.le
    have hbs := hfb.le
    have HI := Lib.hid ih
    have HK := Lib.hid (kid_at h3 h4)
    have HB := Lib.hid hb
    clear ih h3 h4 h2 hb hfb
    go_enter Tryz.func99, Tryz.ntmps99
    go_wp2_with fail
    go_loopw [3, 12] (fun n i w2 => ∃ (j : Nat) (x : Int), j ≤ ks.length ∧ i = .int .i64 j ∧ n = .int .i64 x ∧ 0 ≤ x ∧ x ≤ 140737488351232 ∧ Hid (pn m b.size ks j = x) ∧ Below wr.heap.size wr w2) (fun _ i _ => ks.length - (intOf i).toNat)
    case atStart => exact ⟨0, b.size, Nat.zero_le _, rfl, rfl, by omega, by omega, Lib.hid rfl, (Below.refl _ _).alloc (Nat.le_refl _) _⟩
    case round w2 =>
      obtain ⟨j, x, hj, rfl, rfl, hx0, hx1, HJ, hbel⟩ := hrel
      by_cases hlt : j < ks.length
      · obtain ⟨kc, kt, kk, kb, a2, n2, cap2, rfl, hg, hf, he, hfj, hn2, hc⟩ := HK.out j hlt
        have hI := HI.out j hlt m kc kt kk kb
        rw [hfj, ← he] at hI
        obtain ⟨c0, c1, c2, c3, c4⟩ := hc.later (HB.out.trans (hbel.mono HB.out.size)) hg
        obtain ⟨r2, hr2⟩ : ∃ r, psz m ks[j] = r := ⟨_, rfl⟩
        have hr3 := psz_bd m ks[j]
        rw [hr2] at hI hr3
        have HR := Lib.hid hr2
        have Hc := Lib.hid hc
        have HII := Lib.hid hI
        have HBB := Lib.hid hbel
        have Hf := Lib.hid hf
        have hs := hbel.size
        clear hr2 hc he hfj hn2 hI hbel hf
        go_wp2_with fail
        (with_reducible refine (HII.out _ Hf.out (Lib.hid ?_) ((HB.out.trans (HBB.out.mono HB.out.size)).trans ((Below.refl _ _).alloc (by have := HB.out.size; omega) _)) r2 (Lib.hid rfl)).mono ?_)
        · have := hdp.out
          rw [deepIn_succ, List.any_eq_false] at this
          simpa using this _ (List.getElem_mem hlt)
        rintro e w3 ⟨rfl, hb3⟩
        go_wp2_with fail
        go_roundw
        case rel => exact ⟨j + 1, _, by omega, by go_num, rfl, by split <;> omega, by split <;> omega, Lib.hid (by rw [← pn_step m b.size ks j hlt, HJ.out, HR.out]; split <;> omega), HBB.out.trans (((Below.refl _ _).alloc hs _).trans (hb3.mono (by simp; omega)))⟩
        case measure => simp [intOf]; omega
      · obtain rfl : j = ks.length := by omega
        by_cases hx : 65537 < x
        · obtain ⟨l, hl⟩ : ∃ l, lenL 65537 = l := ⟨_, rfl⟩
          have HL := Lib.hid hl
          clear hl
          go_wp2_with fail
          (with_reducible refine (length_var 65537 65537 (Lib.hid rfl) _ l HL (by omega) (by omega)).mono ?_)
          rintro e w3 ⟨rfl, hl3, hb3⟩
          go_wp2_with fail
          all_goals go_ret
          all_goals
            refine ⟨ret_i64 ?_, hbel.trans (hb3.mono hbel.size)⟩
            have e := pn_end m c t k b ks x 65537 HJ.out (by omega)
            have e2 := lenL_length 65537
            rw [HL.out] at e2
            rw [← hr.out, ← e]
            rw [show (65537 : Int).toNat = 65537 from rfl, ← e2]
            omega
        · obtain ⟨l, hl⟩ : ∃ l, lenL x.toNat = l := ⟨_, rfl⟩
          have HL := Lib.hid hl
          clear hl
          go_wp2_with fail
          (with_reducible refine (length_var x x.toNat (Lib.hid (by omega)) _ l HL (by omega) (by omega)).mono ?_)
          rintro e w3 ⟨rfl, hl3, hb3⟩
          go_wp2_with fail
          all_goals go_ret
          all_goals
            refine ⟨ret_i64 ?_, hbel.trans (hb3.mono hbel.size)⟩
            have e := pn_end m c t k b ks x x HJ.out (by omega)
            have e2 := lenL_length x.toNat
            rw [HL.out] at e2
            rw [← hr.out, ← e, ← e2]
            omega
end Go.Proofs.YtlkdbopdmieojaaGreat
