/- The contract of chanceryref2.Same at equal elements. -/
import Derived.Test.YtlkdbopdmieojaaGreatBerG
import Derived.Deep.RegionHeld3
namespace Go.Proofs.YtlkdbopdmieojaaGreat
open Go.RowKit Ber
set_option maxRecDepth 20000
theorem below_drew1 {B : Nat} {a w : World} (h : Below B a w) : Below B a w.drew := ⟨h.os, h.tape, h.output, h.size, h.block⟩
theorem keep_c {w w' : World} (hb : Below w.drew.heap.size w.drew w') {p : Addr} {v : Value} (h : w.cell? p = some v) : w'.cell? p = some v := (hb.cell (p := p) (World.block_lt_of_cell? _ _ h)).trans h
set_option maxHeartbeats 1000000 in
theorem same_any {w : World} {ks : List El} {kv : Value} (h : KsAt w ks kv) : ∀ (kv2 : Value) (c t : Int) (k : Bool) (b : ByteArray) (w0 : World), KsAt w ks kv2 → Below w.heap.size w w0 →
    Calls Tryz.prog 7 #[.agg #[.int .i64 c, .int .i64 t, .bool k, .string b, kv], .agg #[.int .i64 c, .int .i64 t, .bool k, .string b, kv2]] w0 fun e w' => e = .returned (.bool true) ∧ Below w0.heap.size w0 w' := by
  induction h with
  | mk ks a cap g o f h1 h2 h3 h4 ih =>
  intro kv2 c t k b w0 hk2 hb
  have hk := h2.le
  have HI := Lib.hid ih
  have HK := Lib.hid (kid_at h3 h4)
  have HB := Lib.hid hb
  clear ih h3 h4 h2 hb h1
  obtain ⟨p, p1, p2⟩ : ∃ n, Hid (n = ks.length) ∧ ∃ (a' : Option Addr) (cap' g' o' : Nat) (f' : Nat → Value), kv2 = .slice a' n cap' ∧ Hid (∀ j (h : j < ks.length), ∃ (kc kt : Int) (kk : Bool) (kb : ByteArray) (a2 : Option Addr) (n2 cap2 : Nat), a' = some ⟨g', o', none⟩ ∧ g' < w.heap.size ∧ Few kb.size ∧ ks[j] = .mk kc kt kk kb ks[j].ks ∧ f' j = .slice a2 n2 cap2 ∧ n2 = ks[j].ks.length ∧ C5 w g' (o' + j * 5) kc kt kk kb (.slice a2 n2 cap2)) ∧ Hid (∀ j (h : j < ks.length), KsAt w ks[j].ks (f' j)) := by
    cases hk2 with
    | mk _ a' cap' g' o' f' h1' h2' h3' h4' => exact ⟨_, Lib.hid rfl, a', cap', g', o', f', rfl, Lib.hid (kid_at h3' h4'), Lib.hid h4'⟩
  obtain ⟨a', cap', g', o', f', rfl, HK2, H4⟩ := p2
  clear hk2
  obtain rfl : p = ks.length := p1.out
  clear p1
  go_enter Tryz.func7, Tryz.ntmps7
  go_wp2_with fail
  go_loopw [5] (fun i wr => ∃ j : Nat, j ≤ ks.length ∧ i = .int .i64 j ∧ Hid (wr.cell? ⟨w0.heap.size, 4, none⟩ = some (.slice a ks.length cap) ∧ wr.cell? ⟨w0.heap.size + 1, 4, none⟩ = some (.slice a' ks.length cap')) ∧ Below w0.heap.size w0 wr) (fun i _ => ks.length - (intOf i).toNat)
  case atStart => exact ⟨0, Nat.zero_le _, rfl, Lib.hid ⟨((Blk.new w0 _ _).alloc _).cell 4, by
    have h0 := (Blk.new (w0.alloc (.cells #[.int .i64 c, .int .i64 t, .bool k, .string b, .slice a ks.length cap] 47)) 47 #[.int .i64 c, .int .i64 t, .bool k, .string b, .slice a' ks.length cap']).cell 4
    rw [World.size_alloc] at h0
    exact h0⟩, ((Below.refl _ _).alloc (Nat.le_refl _) _).alloc (by simp) _⟩
  case round =>
    obtain ⟨j, hj, rfl, HE, hbel⟩ := hrel
    obtain ⟨x0, y0⟩ := HE.out
    have hlw : w0.heap.size + 1 < wr.heap.size := World.block_lt_of_cell? _ _ y0
    by_cases hlt : j < ks.length
    · obtain ⟨kc, kt, kk, kb, a2, n2, cap2, rfl, hgl, hf, he, hfj, hn2, hc⟩ := HK.out j hlt
      obtain ⟨kc', kt', kk', kb', a3, n3, cap3, rfl, hgl', hf', he', hfj', hn3, hc'⟩ := HK2.out j hlt
      obtain ⟨rfl, rfl, rfl, rfl, _⟩ := El.mk.inj (he.symm.trans he')
      have hI := HI.out j hlt (f' j) kc kt kk kb
      have hka := H4.out j hlt
      rw [hfj, hfj'] at hI
      rw [hfj'] at hka
      obtain ⟨c0, c1, c2, c3, c4⟩ := hc.later (HB.out.trans (hbel.mono HB.out.size)) hgl
      obtain ⟨d0, d1, d2, d3, d4⟩ := hc'.later (HB.out.trans (hbel.mono HB.out.size)) hgl'
      have HII := Lib.hid hI
      have HKA := Lib.hid hka
      have HBB := Lib.hid hbel
      have hs := hbel.size
      clear hc he hfj hn2 hI hbel hc' he' hfj' hn3 hka hf'
      have q0 : (0 : Int) ≤ (j : Int) := by omega
      have q1 : (j : Int) < (ks.length : Int) := by omega
      go_wp2_with fail
      go_region_held3 (fun w' => w'.cell? ⟨w0.heap.size, 4, none⟩ = some (.slice (some ⟨g, o, none⟩) ks.length cap) ∧ w'.cell? ⟨w0.heap.size + 1, 4, none⟩ = some (.slice (some ⟨g', o', none⟩) ks.length cap') ∧ w'.cell? ⟨g, o + j * 5, none⟩ = some (.int .i64 kc) ∧ w'.cell? ⟨g, o + j * 5 + 1, none⟩ = some (.int .i64 kt) ∧ w'.cell? ⟨g, o + j * 5 + 2, none⟩ = some (.bool kk) ∧ w'.cell? ⟨g, o + j * 5 + 3, none⟩ = some (.string kb) ∧ w'.cell? ⟨g, o + j * 5 + 4, none⟩ = some (.slice a2 n2 cap2) ∧ w'.cell? ⟨g', o' + j * 5, none⟩ = some (.int .i64 kc) ∧ w'.cell? ⟨g', o' + j * 5 + 1, none⟩ = some (.int .i64 kt) ∧ w'.cell? ⟨g', o' + j * 5 + 2, none⟩ = some (.bool kk) ∧ w'.cell? ⟨g', o' + j * 5 + 3, none⟩ = some (.string kb) ∧ w'.cell? ⟨g', o' + j * 5 + 4, none⟩ = some (.slice a3 n3 cap3))
        (first | exact ⟨x0, y0, c0, c1, c2, c3, c4, d0, d1, d2, d3, d4⟩ | exact ⟨keep_c hb3 x0, keep_c hb3 y0, keep_c hb3 c0, keep_c hb3 c1, keep_c hb3 c2, keep_c hb3 c3, keep_c hb3 c4, keep_c hb3 d0, keep_c hb3 d1, keep_c hb3 d2, keep_c hb3 d3, keep_c hb3 d4⟩ | go_keep) (((with_reducible refine (HII.out _ HKA.out (by exact below_drew1 (HB.out.trans (HBB.out.mono HB.out.size)))).mono ?_); rintro e w3 ⟨rfl, hb3⟩))
      have hb9 : Below w0.heap.size w0 w3 := HBB.out.trans ((below_drew1 (Below.refl wr.heap.size wr)).trans hb3 |>.mono hs)
      have HE9 := Lib.hid (⟨keep_c hb3 x0, keep_c hb3 y0⟩ : w3.cell? ⟨w0.heap.size, 4, none⟩ = some (.slice (some ⟨g, o, none⟩) ks.length cap) ∧ w3.cell? ⟨w0.heap.size + 1, 4, none⟩ = some (.slice (some ⟨g', o', none⟩) ks.length cap'))
      go_wp2_with fail
      go_roundw
      case rel => exact ⟨j + 1, by omega, by go_num, HE9, hb9⟩
      case measure => simp [intOf]; omega
    · go_wp2_with fail
      go_ret
      exact ⟨rfl, hbel⟩
end Go.Proofs.YtlkdbopdmieojaaGreat
