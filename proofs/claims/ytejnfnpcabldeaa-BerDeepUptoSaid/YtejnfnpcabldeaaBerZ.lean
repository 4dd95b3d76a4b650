/- The walk of the law BerDeep. -/
import Derived.Test.YtejnfnpcabldeaaBerU
import Derived.Test.YtejnfnpcabldeaaBerN
namespace Go.Proofs.Ytejnfnpcabldeaa
open Go.RowKit Ber
/-- one element, its list laid already -/
theorem one_at {w : World} {g : Nat} {c t : Int} {k : Bool} {b : ByteArray} {ks : List El} {a : Option Addr} {n cap : Nat} (h : Blk w g 24 #[.int .i64 c, .int .i64 t, .bool k, .string b, .slice a n cap]) (hk : KsAt w ks (.slice a n cap)) (hb : Few b.size) :
    KsAt w [.mk c t k b ks] (.slice (some ⟨g, 0, none⟩) 1 1) := by
  refine .mk [.mk c t k b ks] (some ⟨g, 0, none⟩) 1 g 0 (fun _ => .slice a n cap) ⟨Nat.le_refl _, by unfold maxLen; simp⟩ (by unfold FewK; simp) ?_ ?_
  · intro i hi
    match i, hi with
    | 0, _ => exact ⟨rfl, h.lt, ⟨h.cell 0, h.cell 1, h.cell 2, h.cell 3, h.cell 4⟩, hb⟩
  · intro i hi
    match i, hi with
    | 0, _ => exact hk
/-- what holds of the element and its bytes -/
structure DeepRel (w : World) (E p : Nat) (C : ByteArray) (c t : Int) (k : Bool) (b : ByteArray) (ks : List El) (a : Option Addr) (cap : Nat) (wr : World) : Prop where
  e : nest p = .mk c t k b ks
  l : C.data.toList = nestL p
  x : Blk wr E 24 #[.int .i64 c, .int .i64 t, .bool k, .string b, .slice a ks.length cap]
  ks : KsAt wr ks (.slice a ks.length cap)
  few : Few b.size
  below : Below w.heap.size w wr
  elt : w.heap.size ≤ E
theorem DeepRel.size {w : World} {E p : Nat} {C : ByteArray} {c t : Int} {k : Bool} {b : ByteArray} {ks : List El} {a : Option Addr} {cap : Nat} {wr : World} (h : DeepRel w E p C c t k b ks a cap wr) : C.size = 2 * p + 3 := by
  have := congrArg List.length h.l
  rw [nestL_length] at this
  simpa using this
theorem ba2 (W : World) (a c : UInt8) : (Op.stringOp .add ⟨#[a]⟩ ⟨#[c]⟩).run Try.prog W = .ok (.string ⟨#[a, c]⟩) W := by
  have h1 := run_string_add_sum (P := Try.prog) (w := W) (⟨#[a]⟩ : ByteArray) ⟨#[c]⟩ (by
    show 1 + 1 ≤ _
    omega)
  rw [h1]
  rfl
theorem conv5 (w3 : World) (E : Nat) (c t : Int) (k : Bool) (b : ByteArray) (kv : Value) (z : Int) (u : UInt8) (hz : z = (u.toNat : Int)) :
    (convert 54 9 (.slice (some ⟨w3.heap.size, 0, none⟩) 1 1)).run Try.prog ((((((w3.setCell ⟨E, 0, none⟩ (.int .i64 c)).setCell ⟨E, 1, none⟩ (.int .i64 t)).setCell ⟨E, 2, none⟩ (.bool k)).setCell ⟨E, 3, none⟩ (.string b)).setCell ⟨E, 4, none⟩ kv).alloc (.cells #[.int .u8 z] 5)) =
      .ok (.string ⟨#[u]⟩) ((((((w3.setCell ⟨E, 0, none⟩ (.int .i64 c)).setCell ⟨E, 1, none⟩ (.int .i64 t)).setCell ⟨E, 2, none⟩ (.bool k)).setCell ⟨E, 3, none⟩ (.string b)).setCell ⟨E, 4, none⟩ kv).alloc (.cells #[.int .u8 z] 5)) := by
  have := one_byte (((((w3.setCell ⟨E, 0, none⟩ (.int .i64 c)).setCell ⟨E, 1, none⟩ (.int .i64 t)).setCell ⟨E, 2, none⟩ (.bool k)).setCell ⟨E, 3, none⟩ (.string b)).setCell ⟨E, 4, none⟩ kv) z u hz
  simp only [World.size_setCell] at this
  exact this
set_option maxHeartbeats 2000000 in
theorem berDeep_walk (z : Int) (w : World) :
    Calls Try.prog 11 #[.int .i64 z] w fun e w' => e = .returned (.bool true) ∧ Below w.heap.size w w' := by
  by_cases h1 : z < 1
  · go_enter Try.func11, Try.ntmps11
    go_wp2_with fail
    (with_reducible refine (alive_any _).mono ?_)
    rintro e w2 ⟨rfl, hb2⟩
    go_wp2_with fail
    go_ret
    exact ⟨rfl, hb2⟩
  by_cases h2 : 60 < z
  · go_enter Try.func11, Try.ntmps11
    go_wp2_with fail
    (with_reducible refine (alive_any _).mono ?_)
    rintro e w2 ⟨rfl, hb2⟩
    go_wp2_with fail
    go_ret
    exact ⟨rfl, hb2⟩
  obtain ⟨N, hN⟩ : ∃ N : Nat, z = (N : Int) + 1 := ⟨(z - 1).toNat, by omega⟩
  subst hN
  have hN60 : N ≤ 59 := by omega
  go_enter Try.func11, Try.ntmps11
  go_wp2_with fail
  (with_reducible refine (str_any 4 _ _).mono ?_)
  rintro e w1 ⟨rfl, hb1⟩
  unfold EV
  have h0 : DeepRel w w1.heap.size 0 ⟨#[4, 1, 120]⟩ 0 4 false ⟨#[120]⟩ [] none 0 (w1.alloc (.cells #[.int .i64 0, .int .i64 4, .bool false, .string ⟨#[120]⟩, .slice none 0 0] 24)) :=
    ⟨rfl, rfl, Blk.new w1 _ _, KsAt.nil _, by unfold Few; decide, hb1.alloc hb1.size _, hb1.size⟩
  have H0 := Lib.hid h0
  clear h0 hb1
  go_wp2_with fail
  go_loopw [4, 5] (fun s4 i wr => ∃ (p : Nat) (C : ByteArray) (c t : Int) (k : Bool) (b : ByteArray) (ks : List El) (a : Option Addr) (cap : Nat), p ≤ N ∧ i = .int .i64 ((p : Int) + 1) ∧ s4 = .string C ∧ DeepRel w w1.heap.size p C c t k b ks a cap wr) (fun _ i _ => N + 1 - (intOf i).toNat)
  case atStart => exact ⟨0, _, _, _, _, _, _, _, _, Nat.zero_le _, rfl, rfl, H0.out⟩
  case round =>
    obtain ⟨p, C, c, t, k, b, ks, a, cap, hp, rfl, rfl, hrel⟩ := hrel
    have hsz := hrel.size
    obtain ⟨c0, c1, c2, c3, c4⟩ := hrel.x.five
    have HREL := Lib.hid hrel
    have hxl := hrel.x.lt
    have hel := hrel.elt
    by_cases hpN : p < N
    · clear H0
      have hkid := one_at (w := wr.alloc (.cells #[.int .i64 c, .int .i64 t, .bool k, .string b, .slice a ks.length cap] 24)) (g := wr.heap.size) (Blk.new wr _ _) (hrel.ks.later ((Below.refl _ _).alloc (Nat.le_refl _) _)) hrel.few
      have HKID := Lib.hid hkid
      clear hkid hrel
      go_wp2_with fail
      (with_reducible refine (seq_any HKID.out).mono ?_)
      rintro e w3 ⟨v3, rfl, hk3, hb3⟩
      obtain ⟨a3, cap3, rfl, hc3, _⟩ := hk3.at.len
      have hz3 := hb3.size
      rw [World.size_alloc] at hz3
      have hX3 := (HREL.out.x.alloc (.cells #[.int .i64 c, .int .i64 t, .bool k, .string b, .slice a ks.length cap] 24)).below hb3 (by simp; omega)
      clear c0 c1 c2 c3 c4
      obtain ⟨c0, c1, c2, c3, c4⟩ := hX3.five
      have f0 := hX3.frozen 0
      have f1 := hX3.frozen 1
      have f2 := hX3.frozen 2
      have f3 := hX3.frozen 3
      have f4 := hX3.frozen 4
      obtain ⟨zc, hzc⟩ : ∃ zc : Int, (C.size : Int) = zc := ⟨_, rfl⟩
      have hcs : zc < 256 := by omega
      have hcs0 : 0 ≤ zc := by omega
      have hcv := conv5 w3 w1.heap.size 0 16 true ⟨#[]⟩ (.slice a3 1 cap3) zc (UInt8.ofNat C.size) (by rw [u8_nat _ (by omega)]; exact hzc.symm)
      obtain ⟨cb, hcb⟩ : ∃ cb, UInt8.ofNat C.size = cb := ⟨_, rfl⟩
      rw [hcb] at hcv
      have hj1 := fun W => ba2 W 48 cb
      have hj2 : ∀ W, (Op.stringOp .add ⟨#[48, cb]⟩ C).run Try.prog W = .ok (.string (⟨#[48, cb]⟩ ++ C)) W := fun W => run_string_add_sum (P := Try.prog) (w := W) _ C (by
        show 2 + C.size ≤ _
        omega)
      have HX3 := Lib.hid hX3
      have HK3 := Lib.hid hk3
      have HB3 := Lib.hid hb3
      have HCB := Lib.hid hcb
      have HSZ := Lib.hid hsz
      clear hX3 hk3 hb3 hcb hsz
      unfold EV
      go_wp2_with fail
      go_roundw
      case rel =>
        have hB3 : Below w.heap.size w w3 := (HREL.out.below.alloc HREL.out.below.size _).trans (HB3.out.mono (by have := HREL.out.below.size; simp; omega))
        refine ⟨p + 1, ⟨#[48, cb]⟩ ++ C, 0, 16, true, ⟨#[]⟩, [.mk c t k b ks], a3, cap3, by omega, by go_num, rfl, ?_, ?_, ?_, ?_, by unfold Few; decide, ?_, hel⟩
        · rw [nest, HREL.out.e]
        · have hl := HREL.out.l
          have h3 : (nestL p).length = C.size := by rw [nestL_length, HSZ.out]
          rw [nestL, h3, ← hl, HCB.out]
          simp
        · exact ((((((HX3.out.set_ 0 _).set_ 1 _).set_ 2 _).set_ 3 _).set_ 4 _).alloc _).eq_ rfl
        · refine KsP.at (S := fun _ => True) (HK3.out.keep (by simp) fun g hg hS => ⟨?_, trivial⟩)
          simp only [World.size_alloc] at hS
          rw [Below.heap_alloc _ _ _ (by simpa using hg)]
          iterate 5 rw [Below.heap_setCell _ _ _ _ (by show g ≠ w1.heap.size; omega)]
        · exact (((((hB3.setCell (p := ⟨_, 0, none⟩) hel _).setCell (p := ⟨_, 1, none⟩) hel _).setCell (p := ⟨_, 2, none⟩) hel _).setCell (p := ⟨_, 3, none⟩) hel _).setCell (p := ⟨_, 4, none⟩) hel _).alloc (by simpa using hB3.size) _
      case measure => simp [intOf]; omega
    · have hpN' : p = N := by omega
      subst hpN'
      obtain ⟨zc, hzc⟩ : ∃ zc : Int, (C.size : Int) = zc := ⟨_, rfl⟩
      have hzp : zc = 2 * (p : Int) + 3 := by omega
      have hCs : C.size ≤ 140737488351232 := by omega
      have hi60 : (p : Int) ≤ 59 := by omega
      have HZP := Lib.hid hzp
      have HCS := Lib.hid hCs
      have HI60 := Lib.hid hi60
      clear H0 hN60 hsz hzp hCs hi60 hp hpN hxl hel
      by_cases h120 : 120 < zc
      · clear hrel
        go_wp2_with fail
        (with_reducible refine (alive_any _).mono ?_)
        rintro e w2 ⟨rfl, hb2⟩
        go_wp2_with fail
        go_ret
        exact ⟨rfl, HREL.out.below.trans (hb2.mono HREL.out.below.size)⟩
      · by_cases h20 : 20 ≤ (p : Int)
        · have hw : Ber.wr (.mk c t k b ks) = ((⟨#[]⟩ : ByteArray).data.toList, 23) := by rw [← hrel.e]; exact nest_wr_deep (by omega)
          have hr : rdTop C.data.toList = (.mk 0 0 false ⟨#[]⟩ [], 23) := by rw [hrel.l]; exact nest_rdTop (by omega) (by have := HZP.out; omega)
          have HW := Lib.hid hw
          have HR := Lib.hid hr
          clear hw hr hrel
          go_wp2_with fail
          (with_reducible refine (write_var HREL.out.ks c t k b _ HREL.out.few (Below.refl _ _) ⟨#[]⟩ 23 HW).mono ?_)
          rintro e w2 ⟨rfl, hb2⟩
          have hB2 := HREL.out.below.trans (hb2.mono HREL.out.below.size)
          clear hb2 c0 c1 c2 c3 c4
          go_wp2_with fail
          (with_reducible refine (read_var C _ HCS.out 0 0 false ⟨#[]⟩ [] 23 HR).mono ?_)
          rintro e w3 ⟨⟨v, rfl, hk3⟩, _, hb3⟩
          obtain ⟨a3, cap3, rfl, _, _⟩ := hk3.at.len
          have hB3 := hB2.trans (hb3.mono hB2.size)
          clear hk3 hb3 hB2
          go_wp2_with fail
          (with_reducible refine (alive_any _).mono ?_)
          rintro e w4 ⟨rfl, hb4⟩
          go_wp2_with fail
          go_ret
          exact ⟨rfl, (hB3.alloc hB3.size _).trans (hb4.mono (by have := hB3.size; simp; omega))⟩
        · have hw : Ber.wr (.mk c t k b ks) = (C.data.toList, 0) := by rw [← hrel.e, hrel.l]; exact nest_wr (by omega)
          have hr : rdTop C.data.toList = (.mk c t k b ks, 0) := by rw [← hrel.e, hrel.l]; exact nest_rd (by omega)
          have HW := Lib.hid hw
          have HR := Lib.hid hr
          clear hw hr hrel
          go_wp2_with fail
          (with_reducible refine (write_var HREL.out.ks c t k b _ HREL.out.few (Below.refl _ _) C 0 HW).mono ?_)
          rintro e w2 ⟨rfl, hb2⟩
          have hB2 := HREL.out.below.trans (hb2.mono HREL.out.below.size)
          have HX2 := Lib.hid (HREL.out.x.below hb2 HREL.out.x.lt)
          have HK2 := Lib.hid (HREL.out.ks.later hb2)
          clear hb2 c0 c1 c2 c3 c4
          go_wp2_with fail
          (with_reducible refine (read_var C _ HCS.out c t k b ks 0 HR).mono ?_)
          rintro e w3 ⟨⟨v, rfl, hk3⟩, _, hb3⟩
          obtain ⟨a3, cap3, rfl, _, _⟩ := hk3.at.len
          have hB3 := hB2.trans (hb3.mono hB2.size)
          have HX3 := Lib.hid ((HX2.out.below hb3 HX2.out.lt).alloc (.cells #[.int .i64 c, .int .i64 t, .bool k, .string b, .slice a3 ks.length cap3] 24))
          have HY3 := Lib.hid (Blk.new w3 24 #[.int .i64 c, .int .i64 t, .bool k, .string b, .slice a3 ks.length cap3])
          have HKX3 := Lib.hid ((HK2.out.later hb3).later ((Below.refl _ _).alloc (Nat.le_refl _) (.cells #[.int .i64 c, .int .i64 t, .bool k, .string b, .slice a3 ks.length cap3] 24)))
          have HKY3 := Lib.hid (hk3.at.later ((Below.refl _ _).alloc (Nat.le_refl _) (.cells #[.int .i64 c, .int .i64 t, .bool k, .string b, .slice a3 ks.length cap3] 24)))
          have hB3a := hB3.alloc hB3.size (.cells #[.int .i64 c, .int .i64 t, .bool k, .string b, .slice a3 ks.length cap3] 24)
          clear hk3 hb3 hB2 hB3
          go_wp2_with fail
          (with_reducible refine (alive_any _).mono ?_)
          rintro e w4 ⟨rfl, hb4⟩
          obtain ⟨c0, c1, c2, c3, c4⟩ := (HX3.out.below hb4 HX3.out.lt).five
          obtain ⟨d0, d1, d2, d3, d4⟩ := (HY3.out.below hb4 HY3.out.lt).five
          have HKX4 := Lib.hid (HKX3.out.later hb4)
          have HKY4 := Lib.hid (HKY3.out.later hb4)
          have hB4 := hB3a.trans (hb4.mono hB3a.size)
          clear hb4 hB3a
          have hSS : decide (C = C) = true := decide_eq_true rfl
          go_wp2_with fail
          (with_reducible refine (same_any HKY4.out _ c t k b _ HKX4.out (Below.refl _ _)).mono ?_)
          rintro e w5 ⟨rfl, hb5⟩
          go_wp2_with fail
          go_ret
          exact ⟨rfl, hB4.trans (hb5.mono hB4.size)⟩
end Go.Proofs.Ytejnfnpcabldeaa
