/- The contract of chancerylaw2.lent: the element again, with a spare element behind each list. -/
import Derived.Test.YtejnfnpcabldeaaBerDG
namespace Go.Proofs.Ytejnfnpcabldeaa
open Go.RowKit Ber
/-- what lent leaves -/
def LentPost (w0 : World) (c t : Int) (k : Bool) (b : ByteArray) (ks : List El) (e : Ending) (w' : World) : Prop :=
  (∃ v, e = .returned (.agg #[.int .i64 c, .int .i64 t, .bool k, .string b, v]) ∧ LtP (fun q => w0.heap.size ≤ q ∧ q < w'.heap.size) w' ks v) ∧ Below w0.heap.size w0 w'
set_option maxRecDepth 20000 in
set_option maxHeartbeats 1000000 in
theorem lent_any {w : World} {ks : List El} {kv : Value} (h : KsAt w ks kv) : ∀ (c t : Int) (k : Bool) (b : ByteArray) (w0 : World), Below w.heap.size w w0 →
    Calls Try.prog 14 #[.agg #[.int .i64 c, .int .i64 t, .bool k, .string b, kv]] w0 fun e w' => LentPost w0 c t k b ks e w' := by
  induction h with
  | mk ks a cap g o f h1 h2 h3 h4 ih =>
  intro c t k b w0 hb
  have hk := h2.le
  have HF := Lib.hid h2
  have HI := Lib.hid ih
  have HK := Lib.hid (kid_at h3 h4)
  have H3 := Lib.hid h3
  have HO : Hid (∀ i (_ : i < ks.length), ∃ a n cap, f i = .slice a n cap) := Lib.hid (fun i hi => by obtain ⟨a2, cap2, e, _⟩ := (h4 i hi).len; exact ⟨a2, _, cap2, e⟩)
  have HFW : Hid (∀ i (hi : i < ks.length), Few ks[i].b.size) := Lib.hid (fun i hi => (h3 i hi).2.2.2)
  have HB := Lib.hid hb
  clear ih h3 h4 h2 hb h1
  obtain ⟨i0, hi0, hz0, hz1, hz2⟩ := info_parts el_info
  have Hi0 := Lib.hid hi0
  have Hz0 := Lib.hid hz0
  have Hz1 := Lib.hid hz1
  have Hz2 := Lib.hid hz2
  clear hi0 hz0 hz1 hz2
  have HSRC : Hid (∀ W : World, Below w0.heap.size w0 W → 0 < ks.length → ∃ d, a = some d ∧ ∀ j u, (rowE ((List.range ks.length).map fun i => ((ks[i]?).getD zeroE, f i)))[j]? = some u → W.cell? (d.add j) = some u) := Lib.hid (fun W hW h0 => ⟨⟨g, o, none⟩, (H3.out 0 h0).1, rowE_cells (fun i hi => (H3.out i hi).2.2.1.later (HB.out.trans (hW.mono HB.out.size)) (H3.out i hi).2.1)⟩)
  go_enter Try.func14, Try.ntmps14
  go_wp2_with (at_builtin; refine wpList_append_els rfl _ _ 22 rfl (w0.heap.size + 2) 24 i0 _ 5 64 Try.underlying22 Hi0.out Hz0.out Hz1.out Hz2.out rfl (by decide) a ks.length cap _ rfl rfl (by rw [rowE_length]; simp) (fun h0 => HSRC.out _ (((Below.refl _ _).alloc (Nat.le_refl _) _).alloc (by simp) _) h0) (rowE_one HO.out) ?c3 ?c4 ?c5 ?_)
  case c3 => unfold maxLen; omega
  case c4 => omega
  case c5 => simp
  intro p cap1 w2 hown2 hgrow2
  have HL2 := Lib.hid (LenX.start hown2)
  have hs2 := hgrow2.size
  simp only [World.size_alloc] at hs2
  have hbel2 : Below w0.heap.size w0 w2 := ((((Below.refl _ _).alloc (Nat.le_refl _) _).alloc (by simp) _).grown hgrow2 (by simp; omega) (fun q hq => by cases hq))
  have hbk0 : w2.heap[w0.heap.size]? = _ := (hgrow2.block w0.heap.size (by simp; omega) (by simp)).trans ((Lib.alloc_old (w0.alloc _) _ w0.heap.size (by simp)).trans (heap_alloc_new w0 _))
  have HB0 : Hid (Blk w2 w0.heap.size 24 _) := Lib.hid hbk0
  have hz := heap_alloc_new (w0.alloc (.cells #[.int .i64 c, .int .i64 t, .bool k, .string b, .slice a ks.length cap] 24)) (.cells #[.int .i64 0, .int .i64 0, .bool false, .string ⟨#[]⟩, .slice none 0 0] 24)
  rw [World.size_alloc] at hz
  have hbk1 := (hgrow2.block (w0.heap.size + 1) (by simp) (by simp)).trans hz
  have HB1 : Hid (Blk w2 (w0.heap.size + 1) 24 _) := Lib.hid hbk1
  clear hown2 hgrow2 hbk0 hbk1 hz
  go_wp2_with fail
  go_loopw [4] (fun i wr => ∃ j : Nat, j ≤ ks.length ∧ i = .int .i64 j ∧ Hid (Len (w0.heap.size + 2) ks f wr p cap1 j) ∧ Hid (Blk wr w0.heap.size 24 #[.int .i64 c, .int .i64 t, .bool k, .string b, .slice a ks.length cap]) ∧ Hid (Blk wr (w0.heap.size + 1) 24 #[.int .i64 0, .int .i64 0, .bool false, .string ⟨#[]⟩, .slice none 0 0]) ∧ w0.heap.size + 2 ≤ wr.heap.size ∧ Below w0.heap.size w0 wr) (fun i _ => ks.length - (intOf i).toNat)
  case atStart => exact ⟨0, Nat.zero_le _, rfl, HL2, HB0, HB1, by omega, hbel2⟩
  case round =>
    obtain ⟨j, hj, rfl, HLJ, HE0, HE1, hsz, hbel⟩ := hrel
    obtain ⟨L, S, hX⟩ := HLJ.out
    have HX := Lib.hid hX
    have HBB := Lib.hid hbel
    clear hX hbel
    by_cases hlt : j < ks.length
    · obtain ⟨g1, rfl, hg1, hg2, hfz, hc⟩ := HX.out.at hlt
      obtain ⟨kc, kt, kk, kb, a2, n2, cap2, y1, y2, y3, he, hfj, hn2, y4⟩ := HK.out j hlt
      have hI := HI.out j hlt kc kt kk kb
      have HST := Lib.hid (fun (w3 : World) (hb3 : Below wr.heap.size wr w3) (v : Value) (hv : LtP (fun q => wr.heap.size ≤ q ∧ q < w3.heap.size) w3 ks[j].ks v) => HX.out.step hlt hg2 hb3 (by omega) hv)
      rw [he] at hc HST
      simp only [El.c, El.t, El.k, El.b] at hc HST
      rw [hfj] at hI hc
      obtain ⟨c0, c1, c2, c3, c4⟩ := hc
      have HII := Lib.hid hI
      clear hI hfj he hn2 y1 y2 y3 y4
      go_wp2_with fail
      (with_reducible refine (HII.out _ (HB.out.trans (HBB.out.mono HB.out.size))).mono ?_)
      rintro e w3 ⟨⟨v3, rfl, hl3⟩, hb3⟩
      obtain ⟨g3, o3, cap3, rfl⟩ := hl3.len
      have d0 := (hb3.cell (p := ⟨g1, j * 5, none⟩) hg2).trans c0
      have d1 := (hb3.cell (p := ⟨g1, j * 5 + 1, none⟩) hg2).trans c1
      have d2 := (hb3.cell (p := ⟨g1, j * 5 + 2, none⟩) hg2).trans c2
      have d3 := (hb3.cell (p := ⟨g1, j * 5 + 3, none⟩) hg2).trans c3
      have d4 := (hb3.cell (p := ⟨g1, j * 5 + 4, none⟩) hg2).trans c4
      have hf3 : ∀ i, w3.frozen? ⟨g1, i, none⟩ = false := fun i => by
        have e : w3.frozen? ⟨g1, i, none⟩ = wr.frozen? ⟨g1, i, none⟩ := by simp only [World.frozen?, hb3.block g1 hg2]
        rw [e]; exact hfz i
      have hN := HST.out w3 hb3 _ hl3
      have HN := Lib.hid hN
      have HB3 := Lib.hid hb3
      have hs3 := hb3.size
      clear c0 c1 c2 c3 c4 hN hl3 hb3
      go_wp2_with fail
      go_roundw
      case rel => exact ⟨j + 1, by omega, by go_num, HN, Lib.hid ((W5.other _ _ _ _ _ _ _ _ _ (by omega)).trans (HE0.out.below HB3.out HE0.out.lt)), Lib.hid ((W5.other _ _ _ _ _ _ _ _ _ (by omega)).trans (HE1.out.below HB3.out HE1.out.lt)), by simp; omega, W5.below (HBB.out.trans (HB3.out.mono (by omega))) (by omega)⟩
      case measure => simp [intOf]; omega
    · obtain rfl : j = ks.length := by omega
      have hBr : w0.heap.size + 2 ≤ wr.heap.size := hsz
      go_wp2_with (at_builtin; refine wpList_append_own_at _ rfl _ _ 22 rfl (w0.heap.size + 2) 24 i0 _ 5 64 Try.underlying22 Hi0.out Hz0.out Hz1.out Hz2.out rfl (by decide) _ ks.length (rowE L) rfl (HX.out.own.alloc _) ⟨wr.heap.size, 0, none⟩ 1 1 (cells1 spareE) rfl rfl ?c1 ?c2 ?c3 ?c4 ?c5 ?_)
      case c1 => exact new_row _ _ (by simp) _ _ _ rfl
      case c2 => exact cells1_one _ none 0 0 rfl
      case c3 => unfold maxLen; omega
      case c4 => omega
      case c5 => simp; omega
      intro v4 w4 hown4 hgrow4 hnil hblock
      obtain ⟨g4, cap4, rfl, hc4, hcm4, hl4⟩ := HX.out.fin HF.out HFW.out hgrow4 hown4
      have hs4 := hgrow4.size
      simp only [World.size_alloc] at hs4
      have hbel4 := (((HBB.out.alloc (by omega) _).grown hgrow4 (by simp; omega) (fun q hq => by have := (HX.out.own.lt q hq).1; omega)) : Below w0.heap.size w0 w4)
      have hE4 : ∀ q, q < w0.heap.size + 2 → w4.heap[q]? = wr.heap[q]? := fun q hq => (hgrow4.block q (by simp; omega) (fun e => by have := (HX.out.own.lt q e.symm).1; omega)).trans (Lib.alloc_old wr _ q (by omega))
      have HE4 : Blk w4 w0.heap.size 24 #[.int .i64 c, .int .i64 t, .bool k, .string b, .slice a ks.length cap] := (hE4 _ (by omega)).trans HE0.out
      have HE5 : Blk w4 (w0.heap.size + 1) 24 #[.int .i64 0, .int .i64 0, .bool false, .string ⟨#[]⟩, .slice none 0 0] := (hE4 _ (by omega)).trans HE1.out
      have HL4 := Lib.hid hl4
      have HBL4 := Lib.hid hbel4
      obtain ⟨c0, c1, c2, c3, c4⟩ := Blk.cells5 HE4
      have hfz := Blk.frozen HE4
      obtain ⟨d0, d1, d2, d3, d4⟩ := Blk.cells5 HE5
      have hfy := Blk.frozen HE5
      have HE4 := Lib.hid HE4
      have HE5 := Lib.hid HE5
      clear hown4 hgrow4 hnil hblock hE4 hl4 hbel4
      go_wp2_with fail
      refine bodyPost_ret (v := .agg #[.int .i64 c, .int .i64 t, .bool k, .string b, .slice (some ⟨g4, 0, none⟩) ks.length cap4]) (by simp [results, Try.results14, go_sem, d0, d1, d2, d3, d4]) rfl ⟨⟨_, rfl, ?_⟩, ?_⟩
      · refine HL4.out.keep (by simp) fun q hq hS => ⟨?_, by simp; omega⟩
        have q0 : q ≠ w0.heap.size := by omega
        have q1 : q ≠ w0.heap.size + 1 := by omega
        rw [Below.heap_setCell _ _ _ _ q1, Below.heap_setCell _ _ _ _ q1, Below.heap_setCell _ _ _ _ q1, Below.heap_setCell _ _ _ _ q1, Below.heap_setCell _ _ _ _ q1, Below.heap_setCell _ _ _ _ q0]
      · exact (((((HBL4.out.setCell (p := ⟨w0.heap.size, 4, none⟩) (Nat.le_refl _) _).setCell (p := ⟨w0.heap.size + 1, 0, none⟩) (Nat.le_succ _) _).setCell (p := ⟨w0.heap.size + 1, 1, none⟩) (Nat.le_succ _) _).setCell (p := ⟨w0.heap.size + 1, 2, none⟩) (Nat.le_succ _) _).setCell (p := ⟨w0.heap.size + 1, 3, none⟩) (Nat.le_succ _) _).setCell (p := ⟨w0.heap.size + 1, 4, none⟩) (Nat.le_succ _) _
end Go.Proofs.Ytejnfnpcabldeaa
