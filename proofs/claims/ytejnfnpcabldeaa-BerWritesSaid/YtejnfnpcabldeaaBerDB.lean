/- The contract of chanceryref2.size. -/
import Derived.Test.YtejnfnpcabldeaaBerD
import Derived.Test.YtejnfnpcabldeaaBerR
namespace Go.Proofs.Ytejnfnpcabldeaa
open Go.RowKit Ber
/-- what size answers for so many bytes -/
structure Rs (n : Nat) (v : Int) : Prop where
  lo : 0 ≤ v
  hi : v ≤ 65540
  ok : n ≤ 65536 → v = (n : Int)
  big : 65536 < n → 65536 < v
/-- what it has counted -/
structure Rn (n : Nat) (x : Int) : Prop where
  ok : n ≤ 65536 → x = (n : Int)
  big : 65536 < n → 65536 < x
theorem rs_big {m : Nat} {e : El} (h : 65536 < csz m e) : Rs (esz (m + 1) e) 65537 := by
  have := esz_succ m e
  exact ⟨by omega, by omega, by omega, by omega⟩
theorem rs_2 {m : Nat} {e : El} {x : Int} (h : x = (csz m e : Nat)) (h2 : x < 128) : Rs (esz (m + 1) e) (x + 2) := by
  have e1 := esz_succ m e
  have e2 : lenN (csz m e) = 1 := by unfold lenN; rw [if_pos (by omega)]
  exact ⟨by omega, by omega, by omega, by omega⟩
theorem rs_3 {m : Nat} {e : El} {x : Int} (h : x = (csz m e : Nat)) (h1 : ¬ x < 128) (h2 : x < 256) : Rs (esz (m + 1) e) (x + 3) := by
  have e1 := esz_succ m e
  have e2 : lenN (csz m e) = 2 := by unfold lenN; rw [if_neg (by omega), if_pos (by omega)]
  exact ⟨by omega, by omega, by omega, by omega⟩
theorem rs_4 {m : Nat} {e : El} {x : Int} (h : x = (csz m e : Nat)) (h1 : ¬ x < 256) (h2 : x ≤ 65536) : Rs (esz (m + 1) e) (x + 4) := by
  have e1 := esz_succ m e
  by_cases h3 : csz m e < 65536
  · have e2 : lenN (csz m e) = 3 := by unfold lenN; rw [if_neg (by omega), if_neg (by omega), if_pos h3]
    exact ⟨by omega, by omega, by omega, by omega⟩
  · have e2 : lenN (csz m e) = 4 := by unfold lenN; rw [if_neg (by omega), if_neg (by omega), if_neg h3]
    exact ⟨by omega, by omega, by omega, by omega⟩
theorem rsum_take_le (f : El → Nat) (ks : List El) (j : Nat) : ((ks.take j).map f).sum ≤ (ks.map f).sum := by
  conv => rhs; rw [← List.take_append_drop j ks]
  rw [List.map_append, List.sum_append]
  omega
set_option maxHeartbeats 1000000 in
theorem rsize_any {w : World} {ks : List El} {kv : Value} (h : KsAt w ks kv) : ∀ (m : Nat) (c t : Int) (k : Bool) (b : ByteArray) (w0 : World), Few b.size → Hid (deepIn m (.mk c t k b ks) = false) → Below w.heap.size w w0 →
    Calls Try.prog 50 #[.agg #[.int .i64 c, .int .i64 t, .bool k, .string b, kv]] w0 fun e w' => (∃ v, e = .returned (.int .i64 v) ∧ Rs (esz m (.mk c t k b ks)) v) ∧ Below w0.heap.size w0 w' := by
  induction h with
  | mk ks a cap g o f h1 h2 h3 h4 ih =>
  intro m c t k b w0 hfb hdp hb
  cases m with
  | zero => exact absurd hdp.out (by simp [deepIn])
  | succ m =>
    have hk := h2.le
    have hbs := hfb.le
    have HI := Lib.hid ih
    have HK := Lib.hid (kid_at h3 h4)
    have HB := Lib.hid hb
    have HC : Hid (csz m (.mk c t k b ks) = b.size + (ks.map (esz m)).sum) := Lib.hid rfl
    clear ih h3 h4 h2 hb hfb
    go_enter Try.func50, Try.ntmps50
    go_wp2_with fail
    go_loopw [3, 4] (fun n i wr => ∃ (j : Nat) (x : Int), j ≤ ks.length ∧ i = .int .i64 j ∧ n = .int .i64 x ∧ 0 ≤ x ∧ x ≤ 140737488351232 ∧ Hid (Rn (b.size + ((ks.take j).map (esz m)).sum) x) ∧ Hid (wr.cell? ⟨w0.heap.size, 4, none⟩ = some (.slice a ks.length cap)) ∧ Below w0.heap.size w0 wr) (fun _ i _ => ks.length - (intOf i).toNat)
    case atStart => exact ⟨0, b.size, Nat.zero_le _, rfl, rfl, by omega, by omega, Lib.hid ⟨fun _ => by simp, fun h => by simp at h; omega⟩, Lib.hid ((Blk.new w0 _ _).cell 4), (Below.refl _ _).alloc (Nat.le_refl _) _⟩
    case round =>
      obtain ⟨j, x, hj, rfl, rfl, hx0, hx1, HJ, HE, hbel⟩ := hrel
      have e4 := HE.out
      by_cases hlt : j < ks.length
      · by_cases hbig : 65536 < x
        · have hcs : 65536 < csz m (.mk c t k b ks) := by
            rw [HC.out]
            have h1 := rsum_take_le (esz m) ks j
            have h2 := HJ.out.ok
            by_cases h3 : b.size + ((ks.take j).map (esz m)).sum ≤ 65536
            · have := h2 h3; omega
            · omega
          have HCS := Lib.hid hcs
          clear hcs
          go_wp2_with fail
          go_ret
          exact ⟨⟨_, rfl, rs_big HCS.out⟩, hbel⟩
        · obtain ⟨kc, kt, kk, kb, a2, n2, cap2, rfl, hg, hf, he, hfj, hn2, hc⟩ := HK.out j hlt
          have hI := HI.out j hlt m kc kt kk kb
          rw [hfj, ← he] at hI
          obtain ⟨c0, c1, c2, c3, c4⟩ := hc.later (HB.out.trans (hbel.mono HB.out.size)) hg
          have HII := Lib.hid hI
          have HBB := Lib.hid hbel
          have Hf := Lib.hid hf
          have hs := hbel.size
          have hel : w0.heap.size < wr.heap.size := World.block_lt_of_cell? _ _ e4
          have hdj : Hid (deepIn m ks[j] = false) := Lib.hid (by
            have := hdp.out
            rw [deepIn_succ, List.any_eq_false] at this
            simpa using this _ (List.getElem_mem hlt))
          clear hc he hfj hn2 hI hbel hf
          go_wp2_with fail
          (with_reducible refine (HII.out _ Hf.out hdj (HB.out.trans (HBB.out.mono HB.out.size))).mono ?_)
          rintro e w3 ⟨⟨v, rfl, hv⟩, hb3⟩
          have HV := Lib.hid hv
          have hv0 := hv.lo
          have hv1 := hv.hi
          have HE3 := Lib.hid ((hb3.cell (p := ⟨w0.heap.size, 4, none⟩) hel).trans e4)
          clear hv
          go_wp2_with fail
          go_roundw
          case rel => exact ⟨j + 1, _, by omega, by go_num, rfl, by omega, by omega, Lib.hid (by
            rw [sum_snoc m ks j hlt]
            have h2 := HJ.out
            have h3 := HV.out
            have k1 := h2.ok
            have k2 := h2.big
            have k3 := h3.ok
            have k4 := h3.big
            exact ⟨fun h => by have := k1 (by omega); have := k3 (by omega); omega, fun h => by
              by_cases q1 : b.size + ((ks.take j).map (esz m)).sum ≤ 65536
              · have := k1 q1
                by_cases q2 : esz m ks[j] ≤ 65536
                · have := k3 q2; omega
                · have := k4 (by omega); omega
              · have := k2 (by omega); omega⟩), HE3, HBB.out.trans (hb3.mono hs)⟩
          case measure => simp [intOf]; omega
      · obtain rfl : j = ks.length := by omega
        have hJ := HJ.out
        rw [List.take_length, ← HC.out] at hJ
        have HJ2 := Lib.hid hJ
        clear hJ
        by_cases hbig : 65536 < x
        · have hcs : 65536 < csz m (.mk c t k b ks) := by
            by_cases h3 : csz m (.mk c t k b ks) ≤ 65536
            · have := HJ2.out.ok h3; omega
            · omega
          have HCS := Lib.hid hcs
          clear hcs
          go_wp2_with fail
          go_ret
          exact ⟨⟨_, rfl, rs_big HCS.out⟩, hbel⟩
        · have hcs : x = (csz m (.mk c t k b ks) : Nat) := by
            by_cases h3 : csz m (.mk c t k b ks) ≤ 65536
            · exact HJ2.out.ok h3
            · have := HJ2.out.big (by omega); omega
          have HCS := Lib.hid hcs
          clear hcs
          by_cases q1 : x < 128
          · go_wp2_with fail
            go_ret
            exact ⟨⟨_, rfl, rs_2 HCS.out q1⟩, hbel⟩
          · by_cases q2 : x < 256
            · go_wp2_with fail
              go_ret
              exact ⟨⟨_, rfl, rs_3 HCS.out (by omega) (by omega)⟩, hbel⟩
            · go_wp2_with fail
              go_ret
              exact ⟨⟨_, rfl, rs_4 HCS.out (by omega) (by omega)⟩, hbel⟩
end Go.Proofs.Ytejnfnpcabldeaa
