/- The contract of chancerybook.SameElements at equal lists, and the walk of the law BerGets. -/
import Derived.Test.YtejnfnpcabldeaaBerBA
import Derived.Test.YtejnfnpcabldeaaBerL
namespace Go.Proofs.Ytejnfnpcabldeaa
open Go.RowKit Ber
set_option maxHeartbeats 1000000 in
theorem sameEls_any {w : World} {ks : List El} {kv kv2 : Value} (hk1 : KsAt w ks kv) (hk2 : KsAt w ks kv2) (w0 : World) (hb : Below w.heap.size w w0) :
    Calls Try.prog 38 #[kv, kv2] w0 fun e w' => e = .returned (.bool true) ∧ Below w0.heap.size w0 w' := by
  obtain ⟨p, p1, p2⟩ : ∃ n, Hid (n = ks.length) ∧ ∃ (a' : Option Addr) (cap' g' o' : Nat) (f' : Nat → Value), kv2 = .slice a' n cap' ∧ FewK n ∧ Hid (∀ j (h : j < ks.length), ∃ (kc kt : Int) (kk : Bool) (kb : ByteArray) (a2 : Option Addr) (n2 cap2 : Nat), a' = some ⟨g', o', none⟩ ∧ g' < w.heap.size ∧ Few kb.size ∧ ks[j] = .mk kc kt kk kb ks[j].ks ∧ f' j = .slice a2 n2 cap2 ∧ n2 = ks[j].ks.length ∧ C5 w g' (o' + j * 5) kc kt kk kb (.slice a2 n2 cap2)) ∧ Hid (∀ j (h : j < ks.length), KsAt w ks[j].ks (f' j)) := by
    cases hk2 with
    | mk _ a' cap' g' o' f' h1' h2' h3' h4' => exact ⟨_, Lib.hid rfl, a', cap', g', o', f', rfl, h2', Lib.hid (kid_at h3' h4'), Lib.hid h4'⟩
  obtain ⟨a', cap', g', o', f', rfl, hfk, HK2, H4⟩ := p2
  obtain ⟨m, m1, m2⟩ : ∃ n, Hid (n = ks.length) ∧ ∃ (a' : Option Addr) (cap' g' o' : Nat) (f' : Nat → Value), kv = .slice a' n cap' ∧ Hid (∀ j (h : j < ks.length), ∃ (kc kt : Int) (kk : Bool) (kb : ByteArray) (a2 : Option Addr) (n2 cap2 : Nat), a' = some ⟨g', o', none⟩ ∧ g' < w.heap.size ∧ Few kb.size ∧ ks[j] = .mk kc kt kk kb ks[j].ks ∧ f' j = .slice a2 n2 cap2 ∧ n2 = ks[j].ks.length ∧ C5 w g' (o' + j * 5) kc kt kk kb (.slice a2 n2 cap2)) ∧ Hid (∀ j (h : j < ks.length), KsAt w ks[j].ks (f' j)) := by
    cases hk1 with
    | mk _ a' cap' g' o' f' h1' h2' h3' h4' => exact ⟨_, Lib.hid rfl, a', cap', g', o', f', rfl, Lib.hid (kid_at h3' h4'), Lib.hid h4'⟩
  obtain ⟨a, cap, g, o, f, rfl, HK, H3⟩ := m2
  clear hk1 hk2
  obtain rfl : p = ks.length := p1.out
  obtain rfl : m = ks.length := m1.out
  have hk := hfk.le
  have HB := Lib.hid hb
  clear p1 m1 hb hfk
  go_enter Try.func38, Try.ntmps38
  go_wp2_with fail
  go_loopw [5] (fun i wr => ∃ j : Nat, j ≤ ks.length ∧ i = .int .i64 j ∧ Below w0.heap.size w0 wr) (fun i _ => ks.length - (intOf i).toNat)
  case atStart => exact ⟨0, Nat.zero_le _, rfl, Below.refl _ _⟩
  case round =>
    obtain ⟨j, hj, rfl, hbel⟩ := hrel
    by_cases hlt : j < ks.length
    · obtain ⟨kc, kt, kk, kb, a2, n2, cap2, rfl, hgl, hf, he, hfj, hn2, hc⟩ := HK.out j hlt
      obtain ⟨kc', kt', kk', kb', a3, n3, cap3, rfl, hgl', hf', he', hfj', hn3, hc'⟩ := HK2.out j hlt
      obtain ⟨rfl, rfl, rfl, rfl, _⟩ := El.mk.inj (he.symm.trans he')
      have hka := H3.out j hlt
      have hka' := H4.out j hlt
      rw [hfj] at hka
      rw [hfj'] at hka'
      have hsw := HB.out.trans (hbel.mono HB.out.size)
      obtain ⟨c0, c1, c2, c3, c4⟩ := hc.later hsw hgl
      obtain ⟨d0, d1, d2, d3, d4⟩ := hc'.later hsw hgl'
      have HKA := Lib.hid hka
      have HKA' := Lib.hid hka'
      have HBB := Lib.hid hbel
      have HSW := Lib.hid hsw
      have hs := hbel.size
      clear hc he hfj hn2 hbel hc' he' hfj' hn3 hka hka' hf' hsw
      have q0 : (0 : Int) ≤ (j : Int) := by omega
      have q1 : (j : Int) < (ks.length : Int) := by omega
      go_wp2_with fail
      go_region_held3 (fun w' => w'.cell? ⟨g, o + j * 5, none⟩ = some (.int .i64 kc) ∧ w'.cell? ⟨g, o + j * 5 + 1, none⟩ = some (.int .i64 kt) ∧ w'.cell? ⟨g, o + j * 5 + 2, none⟩ = some (.bool kk) ∧ w'.cell? ⟨g, o + j * 5 + 3, none⟩ = some (.string kb) ∧ w'.cell? ⟨g, o + j * 5 + 4, none⟩ = some (.slice a2 n2 cap2) ∧ w'.cell? ⟨g', o' + j * 5, none⟩ = some (.int .i64 kc) ∧ w'.cell? ⟨g', o' + j * 5 + 1, none⟩ = some (.int .i64 kt) ∧ w'.cell? ⟨g', o' + j * 5 + 2, none⟩ = some (.bool kk) ∧ w'.cell? ⟨g', o' + j * 5 + 3, none⟩ = some (.string kb) ∧ w'.cell? ⟨g', o' + j * 5 + 4, none⟩ = some (.slice a3 n3 cap3))
        (first | exact ⟨c0, c1, c2, c3, c4, d0, d1, d2, d3, d4⟩ | exact ⟨keep_c hb3 c0, keep_c hb3 c1, keep_c hb3 c2, keep_c hb3 c3, keep_c hb3 c4, keep_c hb3 d0, keep_c hb3 d1, keep_c hb3 d2, keep_c hb3 d3, keep_c hb3 d4⟩ | go_keep) (((with_reducible refine (same_any HKA.out _ kc kt kk kb _ HKA'.out (by exact below_drew1 HSW.out)).mono ?_); rintro e w3 ⟨rfl, hb3⟩))
      have hb9 : Below w0.heap.size w0 w3 := HBB.out.trans ((below_drew1 (Below.refl wr.heap.size wr)).trans hb3 |>.mono hs)
      go_wp2_with fail
      go_roundw
      case rel => exact ⟨j + 1, by omega, by go_num, hb9⟩
      case measure => simp [intOf]; omega
    · go_wp2_with fail
      go_ret
      exact ⟨rfl, hbel⟩
set_option maxHeartbeats 2000000 in
theorem berGets_walk {w : World} {ks : List El} {kv : Value} (h : KsAt w ks kv) (c t : Int) (k : Bool) (b : ByteArray) (z1 z2 : Int) :
    Calls Try.prog 6 #[.agg #[.int .i64 c, .int .i64 t, .bool k, .string b, kv], .int .i64 z1, .int .i64 z2] w fun e w' => e = .returned (.bool true) ∧ Below w.heap.size w w' := by
  obtain ⟨a, cap, rfl, _, _⟩ := h.len
  obtain ⟨q, hq⟩ : ∃ q, isB c t k z1 z2 false = q := ⟨_, rfl⟩
  obtain ⟨q2, hq2⟩ : ∃ q, isB c t k z1 z2 true = q := ⟨_, rfl⟩
  have HQ := Lib.hid hq
  have HQ2 := Lib.hid hq2
  obtain ⟨v, r, hgi⟩ := giV_shape q b
  obtain ⟨x, r2, hgb⟩ := gbV_shape q b
  obtain ⟨sb, hsb⟩ : ∃ sb : ByteArray, (if q then b else ⟨#[]⟩) = sb := ⟨_, rfl⟩
  obtain ⟨re, hre⟩ : ∃ re : Int, (if q then 0 else 24) = re := ⟨_, rfl⟩
  obtain ⟨rk, hrk⟩ : ∃ rk : Int, (if q2 then 0 else 24) = rk := ⟨_, rfl⟩
  obtain ⟨ks2, hks2⟩ : ∃ ks2 : List El, (if q2 then ks else []) = ks2 := ⟨_, rfl⟩
  have G1 := fun W => getInt_any c t k b a ks.length cap z1 z2 q HQ W
  have G2 := fun W => rgetInt_any c t k b a ks.length cap z1 z2 q HQ W
  have G3 := fun W => getStr_any c t k b a ks.length cap z1 z2 q HQ W
  have G4 := fun W => rgetStr_any c t k b a ks.length cap z1 z2 q HQ W
  have G5 := fun W => getBool_any c t k b a ks.length cap z1 z2 q HQ W
  have G6 := fun W => rgetBool_any c t k b a ks.length cap z1 z2 q HQ W
  have G7 := fun W hW => getKids_any h c t k b z1 z2 q2 HQ2 W hW
  have G8 := fun W hW => rgetKids_any h c t k b z1 z2 q2 HQ2 W hW
  rw [hgi] at G1 G2
  rw [hsb, hre] at G3 G4
  rw [hgb] at G5 G6
  unfold GkPost at G7 G8
  rw [hrk, hks2] at G7 G8
  have HG1 := Lib.hid G1
  have HG2 := Lib.hid G2
  have HG3 := Lib.hid G3
  have HG4 := Lib.hid G4
  have HG5 := Lib.hid G5
  have HG6 := Lib.hid G6
  have HG7 := Lib.hid G7
  have HG8 := Lib.hid G8
  have HH := Lib.hid h
  clear h hq hq2 hgi hgb hsb hre hrk hks2 G1 G2 G3 G4 G5 G6 G7 G8 HQ HQ2
  go_enter Try.func6, Try.ntmps6
  go_wp2_with fail
  (with_reducible refine (many_any HH.out c t k b _ ((Below.refl _ _).alloc (Nat.le_refl _) _)).mono ?_)
  rintro e w1 ⟨⟨n, rfl⟩, hb1⟩
  have hB1 : Below w.heap.size w w1 := ((Below.refl _ _).alloc (Nat.le_refl _) _).trans (hb1.mono (by simp))
  have hE1 := (Blk.new w 24 #[.int .i64 c, .int .i64 t, .bool k, .string b, .slice a ks.length cap]).below hb1 (by simp)
  have HE1 := Lib.hid hE1
  clear hb1 hE1
  by_cases hn : 500 < n
  · go_wp2_with fail
    (with_reducible refine (alive_any _).mono ?_)
    rintro e w2 ⟨rfl, hb2⟩
    go_wp2_with fail
    go_ret
    exact ⟨rfl, hB1.trans (hb2.mono hB1.size)⟩
  · obtain ⟨c0, c1, c2, c3, c4⟩ := HE1.out.five
    go_wp2_with fail
    (with_reducible refine (HG1.out _).mono ?_)
    rintro e w2 ⟨rfl, hb2⟩
    have HE2 := Lib.hid (HE1.out.below hb2 HE1.out.lt)
    have hB2 := hB1.trans (hb2.mono hB1.size)
    clear hb2 hB1 c0 c1 c2 c3 c4 HE1 hn
    obtain ⟨c0, c1, c2, c3, c4⟩ := HE2.out.five
    go_wp2_with fail
    (with_reducible refine (HG2.out _).mono ?_)
    rintro e w3 ⟨rfl, hb3⟩
    have HE3 := Lib.hid (HE2.out.below hb3 HE2.out.lt)
    have hB3 := hB2.trans (hb3.mono hB2.size)
    clear hb3 hB2 c0 c1 c2 c3 c4 HE2
    obtain ⟨c0, c1, c2, c3, c4⟩ := HE3.out.five
    go_wp2_with fail
    (with_reducible refine (HG3.out _).mono ?_)
    rintro e w4 ⟨rfl, hb4⟩
    have HE4 := Lib.hid (HE3.out.below hb4 HE3.out.lt)
    have hB4 := hB3.trans (hb4.mono hB3.size)
    clear hb4 hB3 c0 c1 c2 c3 c4 HE3
    obtain ⟨c0, c1, c2, c3, c4⟩ := HE4.out.five
    go_wp2_with fail
    (with_reducible refine (HG4.out _).mono ?_)
    rintro e w5 ⟨rfl, hb5⟩
    have HE5 := Lib.hid (HE4.out.below hb5 HE4.out.lt)
    have hB5 := hB4.trans (hb5.mono hB4.size)
    clear hb5 hB4 c0 c1 c2 c3 c4 HE4
    obtain ⟨c0, c1, c2, c3, c4⟩ := HE5.out.five
    go_wp2_with fail
    (with_reducible refine (HG5.out _).mono ?_)
    rintro e w6 ⟨rfl, hb6⟩
    have HE6 := Lib.hid (HE5.out.below hb6 HE5.out.lt)
    have hB6 := hB5.trans (hb6.mono hB5.size)
    clear hb6 hB5 c0 c1 c2 c3 c4 HE5
    obtain ⟨c0, c1, c2, c3, c4⟩ := HE6.out.five
    go_wp2_with fail
    (with_reducible refine (HG6.out _).mono ?_)
    rintro e w7 ⟨rfl, hb7⟩
    have HE7 := Lib.hid (HE6.out.below hb7 HE6.out.lt)
    have hB7 := hB6.trans (hb7.mono hB6.size)
    clear hb7 hB6 c0 c1 c2 c3 c4 HE6
    obtain ⟨c0, c1, c2, c3, c4⟩ := HE7.out.five
    go_wp2_with fail
    (with_reducible refine (HG7.out _ hB7).mono ?_)
    rintro e w8 ⟨v8, rfl, hk8, hb8⟩
    obtain ⟨a8, cap8, rfl, _, _⟩ := hk8.len
    have HK8 := Lib.hid hk8
    have HE8 := Lib.hid (HE7.out.below hb8 HE7.out.lt)
    have hB8 := hB7.trans (hb8.mono hB7.size)
    clear hb8 hB7 c0 c1 c2 c3 c4 HE7 hk8
    obtain ⟨c0, c1, c2, c3, c4⟩ := HE8.out.five
    go_wp2_with fail
    (with_reducible refine (HG8.out _ hB8).mono ?_)
    rintro e w9 ⟨v9, rfl, hk9, hb9⟩
    obtain ⟨a9, cap9, rfl, _, _⟩ := hk9.len
    have HK9 := Lib.hid hk9
    have HL9 := Lib.hid (HK8.out.later hb9)
    have hB9 := hB8.trans (hb9.mono hB8.size)
    clear hb9 hB8 c0 c1 c2 c3 c4 HE8 hk9
    go_wp2_with fail
    (with_reducible refine (alive_any _).mono ?_)
    rintro e wA ⟨rfl, hbA⟩
    have HK10 := Lib.hid (HK9.out.later hbA)
    have HL10 := Lib.hid (HL9.out.later hbA)
    have hBA := hB9.trans (hbA.mono hB9.size)
    clear hbA hB9
    have hSS : decide (sb = sb) = true := decide_eq_true rfl
    go_wp2_with fail
    (with_reducible refine (sameEls_any HL10.out HK10.out _ (Below.refl _ _)).mono ?_)
    rintro e wB ⟨rfl, hbB⟩
    go_wp2_with fail
    go_ret
    exact ⟨rfl, hBA.trans (hbB.mono hBA.size)⟩
end Go.Proofs.Ytejnfnpcabldeaa
