/- The contract of chancerybook.SameElements at equal lists, and the walk of the law BerGets. -/
import Derived.Test.YtlkdbopdmieojaaGreatBerBA
import Derived.Test.YtlkdbopdmieojaaGreatBerL
namespace Go.Proofs.YtlkdbopdmieojaaGreat
open Go.RowKit Ber
set_option maxRecDepth 20000
set_option maxHeartbeats 1000000 in
theorem sameEls_any {w : World} {ks : List El} {kv kv2 : Value} (hk1 : KsAt w ks kv) (hk2 : KsAt w ks kv2) (w0 : World) (hb : Below w.heap.size w w0) :
    Calls Tryz.prog 114 #[kv, kv2] w0 fun e w' => e = .returned (.bool true) ∧ Below w0.heap.size w0 w' := by
  obtain ⟨p, p1, p2⟩ : ∃ n, Hid (n = ks.length) ∧ ∃ (a' : Option Addr) (cap' g' o' : Nat) (f' : Nat → Value), kv2 = .slice a' n cap' ∧ FewK n ∧ Hid (∀ j (h : j < ks.length), ∃ (kc kt : Int) (kk : Bool) (kb : ByteArray) (a2 : Option Addr) (n2 cap2 : Nat), a' = some ⟨g', o', none⟩ ∧ g' < w.heap.size ∧ Few kb.size ∧ ks[j] = .mk kc kt kk kb ks[j].ks ∧ f' j = .slice a2 n2 cap2 ∧ n2 = ks[j].ks.length ∧ C5 w g' (o' + j * 5) kc kt kk kb (.slice a2 n2 cap2)) ∧ Hid (∀ j (h : j < ks.length), KsAt w ks[j].ks (f' j)) := by
    cases hk2 with
    | mk _ a' cap' g' o' f' h1' h2' h3' h4' => exact ⟨_, Lib.hid rfl, a', cap', g', o', f', rfl, h2', Lib.hid (kid_at h3' h4'), Lib.hid h4'⟩
  obtain ⟨a', cap', g', o', f', rfl, hfk, HK2, H4⟩ := p2
  obtain ⟨m, m1, m2⟩ : ∃ n, Hid (n = ks.length) ∧ ∃ (a' : Option Addr) (cap' g' o' : Nat) (f' : Nat → Value), kv = .slice a' n cap' ∧ Hid (∀ j (h : j < ks.length), ∃ (kc kt : Int) (kk : Bool) (kb : ByteArray) (a2 : Option Addr) (n2 cap2 : Nat), a' = some ⟨g', o', none⟩ ∧ g' < w.heap.size ∧ Few kb.size ∧ ks[j] = .mk kc kt kk kb ks[j].ks ∧ f' j = .slice a2 n2 cap2 ∧ n2 = ks[j].ks.length ∧ C5 w g' (o' + j * 5) kc kt kk kb (.slice a2 n2 cap2)) ∧ Hid (∀ j (h : j < ks.length), KsAt w ks[j].ks (f' j)) := by
    cases hk1 with
    | mk _ a' cap' g' o' f' h1' h2' h3' h4' => exact ⟨_, Lib.hid rfl, a', cap', g', o', f', rfl, Lib.hid (kid_at h3' h4'), Lib.hid h4'⟩
  obtain ⟨a, cap, g, o, f, rfl, HK, H3⟩ := m2
  clear hk1 hk2
  obtain rfl : p = ks.length := p1.out
  obtain rfl : m = ks.length := m1.out
  have hk := hfk.le
  have HB := Lib.hid hb
  clear p1 m1 hb hfk
  go_enter Tryz.func114, Tryz.ntmps114
  go_wp2_with fail
  go_loopw [5] (fun i wr => ∃ j : Nat, j ≤ ks.length ∧ i = .int .i64 j ∧ Below w0.heap.size w0 wr) (fun i _ => ks.length - (intOf i).toNat)
  case atStart => exact ⟨0, Nat.zero_le _, rfl, Below.refl _ _⟩
  case round =>
    obtain ⟨j, hj, rfl, hbel⟩ := hrel
    by_cases hlt : j < ks.length
    · obtain ⟨kc, kt, kk, kb, a2, n2, cap2, rfl, hgl, hf, he, hfj, hn2, hc⟩ := HK.out j hlt
      obtain ⟨kc', kt', kk', kb', a3, n3, cap3, rfl, hgl', hf', he', hfj', hn3, hc'⟩ := HK2.out j hlt
      obtain ⟨rfl, rfl, rfl, rfl, _⟩ := El.mk.inj (he.symm.trans he')
      have hka := H3.out j hlt
      have hka' := H4.out j hlt
      rw [hfj] at hka
      rw [hfj'] at hka'
      have hsw := HB.out.trans (hbel.mono HB.out.size)
      obtain ⟨c0, c1, c2, c3, c4⟩ := hc.later hsw hgl
      obtain ⟨d0, d1, d2, d3, d4⟩ := hc'.later hsw hgl'
      have HKA := Lib.hid hka
      have HKA' := Lib.hid hka'
      have HBB := Lib.hid hbel
      have HSW := Lib.hid hsw
      have hs := hbel.size
      clear hc he hfj hn2 hbel hc' he' hfj' hn3 hka hka' hf' hsw
      have q0 : (0 : Int) ≤ (j : Int) := by omega
      have q1 : (j : Int) < (ks.length : Int) := by omega
      go_wp2_with fail
      go_region_held3 (fun w' => w'.cell? ⟨g, o + j * 5, none⟩ = some (.int .i64 kc) ∧ w'.cell? ⟨g, o + j * 5 + 1, none⟩ = some (.int .i64 kt) ∧ w'.cell? ⟨g, o + j * 5 + 2, none⟩ = some (.bool kk) ∧ w'.cell? ⟨g, o + j * 5 + 3, none⟩ = some (.string kb) ∧ w'.cell? ⟨g, o + j * 5 + 4, none⟩ = some (.slice a2 n2 cap2) ∧ w'.cell? ⟨g', o' + j * 5, none⟩ = some (.int .i64 kc) ∧ w'.cell? ⟨g', o' + j * 5 + 1, none⟩ = some (.int .i64 kt) ∧ w'.cell? ⟨g', o' + j * 5 + 2, none⟩ = some (.bool kk) ∧ w'.cell? ⟨g', o' + j * 5 + 3, none⟩ = some (.string kb) ∧ w'.cell? ⟨g', o' + j * 5 + 4, none⟩ = some (.slice a3 n3 cap3))
        (first | exact ⟨c0, c1, c2, c3, c4, d0, d1, d2, d3, d4⟩ | exact ⟨keep_c hb3 c0, keep_c hb3 c1, keep_c hb3 c2, keep_c hb3 c3, keep_c hb3 c4, keep_c hb3 d0, keep_c hb3 d1, keep_c hb3 d2, keep_c hb3 d3, keep_c hb3 d4⟩ | go_keep) (((with_reducible refine (same_any HKA.out _ kc kt kk kb _ HKA'.out (by exact below_drew1 HSW.out)).mono ?_); rintro e w3 ⟨rfl, hb3⟩))
      have hb9 : Below w0.heap.size w0 w3 := HBB.out.trans ((below_drew1 (Below.refl wr.heap.size wr)).trans hb3 |>.mono hs)
      go_wp2_with fail
      go_roundw
      case rel => exact ⟨j + 1, by omega, by go_num, hb9⟩
      case measure => simp [intOf]; omega
    · go_wp2_with fail
      go_ret
      exact ⟨rfl, hbel⟩
end Go.Proofs.YtlkdbopdmieojaaGreat
