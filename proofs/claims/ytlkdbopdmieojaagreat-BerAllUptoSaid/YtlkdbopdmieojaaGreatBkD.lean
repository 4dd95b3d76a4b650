/- The contract of Book.Element: the lists of an element are kept, its kids' ahead of its own. -/
import Derived.Test.YtlkdbopdmieojaaGreatBkC
set_option maxRecDepth 20000
namespace Go.Proofs.YtlkdbopdmieojaaGreat
open Go.RowKit Ber
set_option maxRecDepth 20000
theorem row_at {w : World} {B n cap : Nat} {a : Option Addr} {L : List (El × Value)} (h2 : w.ownsRow B 47 5 (.slice a n cap) L.length (rowE L)) (i : Nat) (hi : i < L.length) :
    ∃ g, a = some ⟨g, 0, none⟩ ∧ g < w.heap.size ∧ C5 w g (i * 5) L[i].1.c L[i].1.t L[i].1.k L[i].1.b L[i].2 := by
  have h3 := h2
  rcases h2.2 with ⟨_, h0⟩ | ⟨g, cap', cur, hv, hB, hg, hr⟩
  · omega
  · injection hv with e1 _ e3
    subst e1
    exact ⟨g, rfl, (Array.getElem?_eq_some_iff.1 hg).1, by have := row_cells h3 i hi; rw [Nat.zero_add] at this; exact this⟩
/-- the kid at a place -/
theorem kid_q {w : World} {B n cap : Nat} {a : Option Addr} {L : List (El × Value)} (h2 : w.ownsRow B 47 5 (.slice a n cap) L.length (rowE L)) (hs : ∀ i (h : i < L.length), ∃ a n cap, L[i].2 = .slice a n cap) (j : Nat) (hj : j < L.length) :
    ∃ (g : Nat) (kc kt : Int) (kk : Bool) (kb : ByteArray) (a2 : Option Addr) (n2 cap2 : Nat), a = some ⟨g, 0, none⟩ ∧ L[j].2 = .slice a2 n2 cap2 ∧ C5 w g (j * 5) kc kt kk kb (.slice a2 n2 cap2) := by
  obtain ⟨g, ha, _, hc⟩ := row_at h2 j hj
  obtain ⟨a2, n2, cap2, e⟩ := hs j hj
  rw [e] at hc
  exact ⟨g, _, _, _, _, a2, n2, cap2, ha, e, hc⟩
theorem KsQ.shape {w : World} {S : Nat → Prop} {ks : List El} {v : Value} (h : KsQ w S ks v) : ∃ a n cap, v = .slice a n cap := by
  obtain ⟨a, cap, e, _⟩ := h.at.len
  exact ⟨a, _, cap, e⟩
/-- what Element leaves -/
def ElPost (w0 w : World) (b : Nat) (RL : List Rc) (S : Nat → Prop) (e : Ending) (w' : World) : Prop :=
  e = .returned (.tuple #[]) ∧ Below w0.heap.size w w' ∧ EK w w' ∧ ∃ NL, Bk w0 w' b (RL ++ NL) ∧ ∀ r ∈ NL, ∀ g, r.v.ownBlock = some g → S g
set_option maxHeartbeats 2000000 in
theorem element_any {w : World} {S : Nat → Prop} {ks : List El} {kv : Value} (h : KsQ w S ks kv) : ∀ (c t : Int) (k : Bool) (bb : ByteArray) (w0 w1 : World) (b : Nat) (RL : List Rc), EK w w1 → Bk w0 w1 b RL → (∀ r ∈ RL, ∀ g, r.v.ownBlock = some g → ¬ S g) → (∀ g, S g → w0.heap.size ≤ g) →
    Calls Tryz.prog 8 #[.pointer (some ⟨b, 0, none⟩), .agg #[.int .i64 c, .int .i64 t, .bool k, .string bb, kv]] w1 fun e w' => ElPost w0 w1 b RL S e w' := by
  induction h with
  | mk S L v C own h2 few so sub disj kids ih =>
  intro c t k bb w0 w1 b RL hk hB hd hn
  obtain ⟨a, cap, rfl⟩ : ∃ a cap, v = .slice a L.length cap := by
    obtain ⟨a, cap, e, _⟩ := (KsQ.mk S L v C own h2 few so sub disj kids).at.len
    rw [List.length_map] at e
    exact ⟨a, cap, e⟩
  have HSH : Hid (∀ i (h : i < L.length), ∃ a n cap, L[i].2 = .slice a n cap) := Lib.hid (fun i hi => (kids i hi).shape)
  have HQ := Lib.hid (KsQ.mk S L (.slice a L.length cap) C own h2 few so sub disj kids)
  have HI := Lib.hid ih
  have HOW := Lib.hid own
  have HSO := Lib.hid so
  have HSU := Lib.hid sub
  have HDJ := Lib.hid disj
  have HK := Lib.hid hk
  have HB := Lib.hid hB
  have HD := Lib.hid hd
  have HN := Lib.hid hn
  have hlow := hB.low
  have hF := h2.le
  clear ih own so sub disj hk hB hd hn kids h2 few
  go_enter Tryz.func8, Tryz.ntmps8
  go_wp2_with fail
  go_loopw [4] (fun i wr => ∃ (j : Nat) (NL : List Rc), j ≤ L.length ∧ i = .int .i64 j ∧ Hid (Blk wr w1.heap.size 47 #[.int .i64 c, .int .i64 t, .bool k, .string bb, .slice a L.length cap]) ∧ Hid (Bk w0 wr b (RL ++ NL)) ∧ Hid (∀ r ∈ NL, ∀ g, r.v.ownBlock = some g → ∃ i, i < j ∧ C i g) ∧ Hid (EK w1 wr) ∧ Hid (Below w0.heap.size w1 wr)) (fun i _ => L.length - (intOf i).toNat)
  case atStart =>
    have hb1 : Below w1.heap.size w1 (w1.alloc (.cells #[.int .i64 c, .int .i64 t, .bool k, .string bb, .slice a L.length cap] 47)) := (Below.refl _ _).alloc (Nat.le_refl _) _
    exact ⟨0, [], Nat.zero_le _, rfl, Lib.hid (Blk.new w1 _ _), Lib.hid (by rw [List.append_nil]; exact HB.out.later hb1), Lib.hid (fun r hr => by cases hr), Lib.hid (EK.of_below hb1), Lib.hid (hb1.mono hlow)⟩
  case round =>
    obtain ⟨j, NL, hj, rfl, HX, HBK, HNL, HEK, HBE⟩ := hrel
    have c4 := HX.out.cell 4
    rw [show (#[Value.int .i64 c, .int .i64 t, .bool k, .string bb, .slice a L.length cap])[4]? = some (.slice a L.length cap) from rfl] at c4
    by_cases hlt : j < L.length
    · obtain ⟨g, kc, kt, kk, kb, a2, n2, cap2, rfl, he, hc⟩ := kid_q (row_ek (HK.out.trans HEK.out) HOW.out) HSH.out j hlt
      obtain ⟨d0, d1, d2, d3, d4⟩ := hc
      have hI := HI.out j hlt kc kt kk kb w0 wr b (RL ++ NL) (HK.out.trans HEK.out) HBK.out (fun r hr q hq hC => by
        rw [List.mem_append] at hr
        rcases hr with hr | hr
        · exact HD.out r hr q hq (HSU.out j q hC).1
        · obtain ⟨i, hi, hci⟩ := HNL.out r hr q hq
          have := HDJ.out i j q hci hC
          omega) (fun q hC => HN.out q (HSU.out j q hC).1)
      rw [he] at hI
      have HII := Lib.hid hI
      clear hI he
      go_wp2_with fail
      (with_reducible refine HII.out.mono ?_)
      rintro e w3 ⟨rfl, hb3, hk3, NL3, hB3, hN3⟩
      have HX3 := Lib.hid (hk3.elem HX.out)
      have HE3 := Lib.hid (HEK.out.trans hk3)
      have HBE3 := Lib.hid (HBE.out.trans hb3)
      rw [List.append_assoc] at hB3
      have HB3 := Lib.hid hB3
      have HN3 : Hid (∀ r ∈ NL ++ NL3, ∀ g, r.v.ownBlock = some g → ∃ i, i < j + 1 ∧ C i g) := Lib.hid (fun r hr q hq => by
        rw [List.mem_append] at hr
        rcases hr with hr | hr
        · obtain ⟨i, hi, hci⟩ := HNL.out r hr q hq
          exact ⟨i, by omega, hci⟩
        · exact ⟨j, by omega, hN3 r hr q hq⟩)
      clear hb3 hk3 hB3 hN3 d0 d1 d2 d3 d4 c4
      go_wp2_with fail
      go_roundw
      case rel => exact ⟨j + 1, NL ++ NL3, by omega, by go_num, HX3, HB3, HN3, HE3, HBE3⟩
      case measure => simp [intOf]; omega
    · have HEL := Lib.hid (elements_any HBK.out (HQ.out.ek (HK.out.trans HEK.out)) (fun r hr q hq hv => by
        rw [List.mem_append] at hr
        rcases hr with hr | hr
        · exact HD.out r hr q hq (HSO.out q hv)
        · obtain ⟨i, hi, hci⟩ := HNL.out r hr q hq
          exact (HSU.out i q hci).2 hv) (fun q hq => HN.out q (HSO.out q hq)))
      go_wp2_with fail
      (with_reducible refine HEL.out.mono ?_)
      rintro e w3 ⟨rfl, hb3, hk3, NL3, hB3, hN3⟩
      rw [List.append_assoc] at hB3
      have HP : Hid (ElPost w0 w1 b RL S (.returned (.tuple #[])) w3) := Lib.hid ⟨rfl, HBE.out.trans hb3, HEK.out.trans hk3, NL ++ NL3, hB3, fun r hr q hq => by
        rw [List.mem_append] at hr
        rcases hr with hr | hr
        · obtain ⟨i, hi, hci⟩ := HNL.out r hr q hq
          exact (HSU.out i q hci).1
        · rw [hN3 r hr] at hq
          exact HSO.out q hq⟩
      clear hb3 hk3 hB3 hN3 c4
      go_wp2_with fail
      (try simp only [Exit.inBlock, Exit.then])
      first
        | exact ⟨rfl, _, results_none rfl _ _ _, HP.out⟩
        | (refine bodyPost_end (results_none rfl _ _ _) rfl ?_; exact HP.out)
end Go.Proofs.YtlkdbopdmieojaaGreat
