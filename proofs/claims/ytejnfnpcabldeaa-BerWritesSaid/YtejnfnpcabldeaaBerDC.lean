/- Lists lent with a spare element behind each, and the contract of chancerylaw2.stays. -/
import Derived.Test.YtejnfnpcabldeaaBerG
import Derived.Test.YtejnfnpcabldeaaBerR
namespace Go.Proofs.Ytejnfnpcabldeaa
open Go.RowKit Ber
/-- a list of elements in memory with a marked element behind each list, within its room -/
inductive LtP (S : Nat → Prop) (w : World) : List El → Value → Prop
  | mk (ks : List El) (cap g o : Nat) (f : Nat → Value) (h1 : ks.length + 1 ≤ cap ∧ cap ≤ maxLen) (h2 : FewK ks.length) (hg : g < w.heap.size ∧ S g)
      (h3 : ∀ i (h : i < ks.length), C5 w g (o + i * 5) ks[i].c ks[i].t ks[i].k ks[i].b (f i) ∧ Few ks[i].b.size)
      (ht : w.cell? ⟨g, o + ks.length * 5 + 1, none⟩ = some (.int .i64 (-77)))
      (h4 : ∀ i (h : i < ks.length), LtP S w ks[i].ks (f i)) : LtP S w ks (.slice (some ⟨g, o, none⟩) ks.length cap)
theorem LtP.ksp {S : Nat → Prop} {w : World} {ks : List El} {kv : Value} (h : LtP S w ks kv) : KsP S w ks kv := by
  induction h with
  | mk ks cap g o f h1 h2 hg h3 ht h4 ih => exact .mk ks _ cap g o f ⟨by omega, h1.2⟩ h2 (fun i hi => ⟨rfl, hg, (h3 i hi).1, (h3 i hi).2⟩) ih
theorem LtP.keep {S T : Nat → Prop} {w w' : World} {ks : List El} {kv : Value} (h : LtP S w ks kv) (hs : w.heap.size ≤ w'.heap.size) (hb : ∀ g, g < w.heap.size → S g → w'.heap[g]? = w.heap[g]? ∧ T g) : LtP T w' ks kv := by
  induction h with
  | mk ks cap g o f h1 h2 hg h3 ht h4 ih =>
    have hbl := hb g hg.1 hg.2
    exact .mk ks cap g o f h1 h2 ⟨Nat.lt_of_lt_of_le hg.1 hs, hbl.2⟩ (fun i hi => ⟨(h3 i hi).1.block hbl.1, (h3 i hi).2⟩) (by
      have e : ∀ j, w'.cell? ⟨g, j, none⟩ = w.cell? ⟨g, j, none⟩ := fun j => by simp only [World.cell?, hbl.1]
      rw [e]; exact ht) ih
theorem LtP.later {S : Nat → Prop} {w w' : World} {ks : List El} {kv : Value} (h : LtP S w ks kv) (hb : Below w.heap.size w w') : LtP S w' ks kv :=
  h.keep hb.size fun g hg hS => ⟨hb.block g hg, hS⟩
theorem LtP.len {S : Nat → Prop} {w : World} {ks : List El} {kv : Value} (h : LtP S w ks kv) : ∃ g o cap, kv = .slice (some ⟨g, o, none⟩) ks.length cap := by
  cases h
  exact ⟨_, _, _, rfl⟩
set_option maxHeartbeats 400000 in
theorem stays_any {S : Nat → Prop} {w : World} {ks : List El} {kv : Value} (h : LtP S w ks kv) : ∀ (c t : Int) (k : Bool) (b : ByteArray) (w0 : World), Below w.heap.size w w0 →
    Calls Try.prog 18 #[.agg #[.int .i64 c, .int .i64 t, .bool k, .string b, kv]] w0 fun e w' => e = .returned (.bool true) ∧ Below w0.heap.size w0 w' := by
  induction h with
  | mk ks cap g o f h1 h2 hg h3 ht h4 ih =>
  intro c t k b w0 hb
  have hk := h2.le
  have hcap : (ks.length : Int) + 1 ≤ (cap : Int) := by omega
  have hcm : (cap : Int) ≤ 9223372036854775807 := by have := h1.2; unfold maxLen at this; omega
  have HI := Lib.hid ih
  have HK := Lib.hid (fun (j : Nat) (hj : j < ks.length) => (show ∃ (g2 o2 cap2 : Nat), f j = .slice (some ⟨g2, o2, none⟩) ks[j].ks.length cap2 from (h4 j hj).len))
  have H3 := Lib.hid h3
  have HB := Lib.hid hb
  have HT := Lib.hid ht
  have HG := Lib.hid hg.1
  clear ih h3 h4 h2 hb h1 ht hg
  go_enter Try.func18, Try.ntmps18
  go_wp2_with fail
  go_loopw [3] (fun i wr => ∃ (j : Nat), j ≤ ks.length ∧ i = .int .i64 j ∧ Hid (wr.cell? ⟨w0.heap.size, 4, none⟩ = some (.slice (some ⟨g, o, none⟩) ks.length cap)) ∧ Below w0.heap.size w0 wr) (fun i _ => ks.length - (intOf i).toNat)
  case atStart => exact ⟨0, Nat.zero_le _, rfl, Lib.hid ((Blk.new w0 _ _).cell 4), (Below.refl _ _).alloc (Nat.le_refl _) _⟩
  case round =>
    obtain ⟨j, hj, rfl, HE, hbel⟩ := hrel
    have he4 := HE.out
    by_cases hlt : j < ks.length
    · obtain ⟨g2, o2, cap2, hfj⟩ := HK.out j hlt
      have hI := HI.out j hlt ks[j].c ks[j].t ks[j].k ks[j].b
      have hc := (H3.out j hlt).1
      rw [hfj] at hI hc
      obtain ⟨kc, hkc⟩ : ∃ x, ks[j].c = x := ⟨_, rfl⟩
      obtain ⟨kt, hkt⟩ : ∃ x, ks[j].t = x := ⟨_, rfl⟩
      obtain ⟨kk, hkk⟩ : ∃ x, ks[j].k = x := ⟨_, rfl⟩
      obtain ⟨kb, hkb⟩ : ∃ x, ks[j].b = x := ⟨_, rfl⟩
      obtain ⟨n2, hn2⟩ : ∃ x, ks[j].ks.length = x := ⟨_, rfl⟩
      rw [hkc, hkt, hkk, hkb, hn2] at hI hc
      obtain ⟨c0, c1, c2, c3, c4⟩ := hc.later (HB.out.trans (hbel.mono HB.out.size)) HG.out
      have HII := Lib.hid hI
      have HBB := Lib.hid hbel
      have hs := hbel.size
      have hlw : w0.heap.size < wr.heap.size := World.block_lt_of_cell? _ _ he4
      clear hc hfj hI hbel hkc hkt hkk hkb hn2
      go_wp2_with fail
      (with_reducible refine (HII.out _ (HB.out.trans (HBB.out.mono HB.out.size))).mono ?_)
      rintro e w3 ⟨rfl, hb3⟩
      go_wp2_with fail
      go_roundw
      case rel => exact ⟨j + 1, by omega, by go_num, Lib.hid ((hb3.cell (p := ⟨_, 4, none⟩) hlw).trans HE.out), HBB.out.trans (hb3.mono hs)⟩
      case measure => simp [intOf]; omega
    · have hsw := HB.out.trans (hbel.mono HB.out.size)
      have ht := (hsw.cell (p := ⟨g, o + ks.length * 5 + 1, none⟩) HG.out).trans HT.out
      have i1 : (0 : Int) ≤ (ks.length : Int) + 1 := by omega
      have i2 : ((ks.length : Int) + 1).toNat = ks.length + 1 := by omega
      have i3 : (ks.length : Int) < (ks.length : Int) + 1 := by omega
      have i4 : (0 : Int) ≤ (ks.length : Int) := by omega
      have HBEL := Lib.hid hbel
      clear hsw hbel
      go_wp2_with fail
      go_quiet (fail)
      go_wp2_with fail
      go_ret
      exact ⟨rfl, below_drewN HBEL.out _⟩
end Go.Proofs.Ytejnfnpcabldeaa
