/- A disk and a log over it in memory; the contracts of Free, Generation, Reset, Records. -/
import Derived.Test.YtokkifiakmplgaaWaB
import Derived.Test.YtokkifiakmplgaaVdL
namespace Go.Proofs.Ytokkifiakmplgaa
open Go.RowKit
/-- a disk and a log over it, wholly above B -/
structure LG (B : Nat) (w0 w : World) (dg : Nat) (d : Vd.VD) (lg : Nat) (L : Wa.WL) (fp : List Nat) (rv : Value) : Prop where
  bel : Below B w0 w
  hB : B ≤ w0.heap.size
  disk : DF w dg d fp
  low : ∀ b ∈ fp, B ≤ b
  lb : B ≤ lg
  blk : Blk w lg 38 (lcells (.pointer (some ⟨dg, 0, none⟩)) L rv)
  out : lg ∉ fp
  row : w.ownsRow B 9 1 rv L.recs.length (strs L.recs)
  sep : ∀ q, rv.ownBlock = some q → q ∉ fp
section
variable {B : Nat} {w0 w w' : World} {dg : Nat} {d d' : Vd.VD} {lg : Nat} {L : Wa.WL} {fp : List Nat} {rv : Value}
theorem LG.size (h : LG B w0 w dg d lg L fp rv) : B ≤ w.heap.size := Nat.le_trans h.hB h.bel.size
theorem LG.later (h : LG B w0 w dg d lg L fp rv) (hb : Below w.heap.size w w') : LG B w0 w' dg d lg L fp rv :=
  ⟨h.bel.trans (hb.mono h.size), h.hB, h.disk.below hb, h.low, h.lb, h.blk.below hb h.blk.lt, h.out, ownsRow_only h.row ((Only.refl [] w).below hb) (by simp), h.sep⟩
/-- a call of the disk -/
theorem LG.called {v : Value} {e : Ending} (h : LG B w0 w dg d lg L fp rv) (hp : DPost v dg d' fp w e w') : e = .returned v ∧ ∃ fp', LG B w0 w' dg d' lg L fp' rv ∧ Fr fp w w' fp' := by
  obtain ⟨he, fp', hF, hO⟩ := hp
  refine ⟨he, fp', ⟨h.bel.trans (hO.1.to_below h.size h.low), h.hB, hF, fun b hb => ?_, h.lb, h.blk.only hO.1 h.out, fun hm => ?_, ownsRow_only h.row hO.1 h.sep, fun q hq hm => ?_⟩, hO⟩
  · rcases hO.2 b hb with h1 | h1
    · exact h.low b h1
    · exact Nat.le_trans h.size h1
  · rcases hO.2 lg hm with h1 | h1
    · exact h.out h1
    · have := h.blk.lt; omega
  · rcases hO.2 q hm with h1 | h1
    · exact h.sep q hq h1
    · have := ownBlock_lt h.row hq; omega
/-- a field of the log is written -/
theorem LG.store (h : LG B w0 w dg d lg L fp rv) (j : Nat) (u : Value) (L' : Wa.WL) (he : (lcells (.pointer (some ⟨dg, 0, none⟩)) L rv).setIfInBounds j u = lcells (.pointer (some ⟨dg, 0, none⟩)) L' rv) (hr : L'.recs = L.recs) :
    LG B w0 (w.setCell ⟨lg, j, none⟩ u) dg d lg L' fp rv := by
  have ho : Only [lg] w (w.setCell ⟨lg, j, none⟩ u) := (Only.refl [lg] w).setCell (.inl (by simp)) u
  refine ⟨h.bel.setCell (p := ⟨lg, j, none⟩) h.lb u, h.hB, h.disk.only ho (fun b hb hm => ?_), h.low, h.lb, ?_, h.out, ?_, h.sep⟩
  · rw [List.mem_singleton] at hm
    exact h.out (hm ▸ hb)
  · rw [← he]
    exact heap_setCell_same w lg j _ _ u h.blk
  · rw [hr]
    exact ownsRow_only h.row ho (fun q hq hm => by rw [List.mem_singleton] at hm; subst hm; exact own_ne_blk h.row h.blk (by decide) hq)
/-- the log's list is another -/
theorem LG.relist (h : LG B w0 w dg d lg L fp rv) (rv' : Value) (rs : List (List UInt8)) (hrow : w.ownsRow B 9 1 rv' rs.length (strs rs)) (hsep : ∀ q, rv'.ownBlock = some q → q ∉ fp) :
    LG B w0 (w.setCell ⟨lg, 6, none⟩ rv') dg d lg { L with recs := rs } fp rv' := by
  have ho : Only [lg] w (w.setCell ⟨lg, 6, none⟩ rv') := (Only.refl [lg] w).setCell (.inl (by simp)) rv'
  refine ⟨h.bel.setCell (p := ⟨lg, 6, none⟩) h.lb rv', h.hB, h.disk.only ho (fun b hb hm => ?_), h.low, h.lb, ?_, h.out, ?_, hsep⟩
  · rw [List.mem_singleton] at hm
    exact h.out (hm ▸ hb)
  · exact heap_setCell_same w lg 6 _ _ rv' h.blk
  · exact ownsRow_only hrow ho (fun q hq hm => by rw [List.mem_singleton] at hm; subst hm; exact own_ne_blk hrow h.blk (by decide) hq)
/-- the log's cells -/
structure Cells7 (w : World) (lg dg : Nat) (L : Wa.WL) (rv : Value) : Prop where
  c0 : w.cell? ⟨lg, 0, none⟩ = some (.pointer (some ⟨dg, 0, none⟩))
  c1 : w.cell? ⟨lg, 1, none⟩ = some (.int .i64 (L.fr : Int))
  c2 : w.cell? ⟨lg, 2, none⟩ = some (.int .i64 (L.n : Int))
  c3 : w.cell? ⟨lg, 3, none⟩ = some (.int .i64 (L.gen : Int))
  c4 : w.cell? ⟨lg, 4, none⟩ = some (.bool L.op)
  c5 : w.cell? ⟨lg, 5, none⟩ = some (.int .i64 (L.used : Int))
  c6 : w.cell? ⟨lg, 6, none⟩ = some rv
  fz : ∀ i, w.frozen? ⟨lg, i, none⟩ = false
theorem LG.cells (h : LG B w0 w dg d lg L fp rv) : Cells7 w lg dg L rv := ⟨h.blk.cell 0, h.blk.cell 1, h.blk.cell 2, h.blk.cell 3, h.blk.cell 4, h.blk.cell 5, h.blk.cell 6, h.blk.frozen⟩
/-- the numbers of a log -/
structure Wok (L : Wa.WL) : Prop where
  n : L.n ≤ 65536
  fr : L.fr ≤ 65536
  used : L.used ≤ L.n
  gen : L.gen ≤ 4294967295
  recs : L.recs.length ≤ 65536
theorem free_any (h : LG B w0 w dg d lg L fp rv) (hk : Wok L) : Calls Try.prog 13 #[.pointer (some ⟨lg, 0, none⟩)] w fun e w' => e = .returned (.int .i64 ((L.n : Int) - (L.used : Int))) ∧ Below w.heap.size w w' := by
  obtain ⟨c0, c1, c2, c3, c4, c5, c6, fz⟩ := h.cells
  have k1 := hk.n
  have k2 := hk.used
  have H := Lib.hid (none_any h.blk)
  clear h hk
  go_enter Try.func13, Try.ntmps13
  go_wp2_with fail
  (with_reducible refine H.out.mono ?_)
  rintro e w1 ⟨rfl, rfl⟩
  go_wp2_with fail
  go_quiet (fail)
  go_wp2_with fail
  go_ret
  exact ⟨rfl, below_drewN (Below.refl _ _) _⟩
theorem gen_any (h : LG B w0 w dg d lg L fp rv) : Calls Try.prog 15 #[.pointer (some ⟨lg, 0, none⟩)] w fun e w' => e = .returned (.int .i64 (L.gen : Int)) ∧ w = w' := by
  obtain ⟨c0, c1, c2, c3, c4, c5, c6, fz⟩ := h.cells
  have H := Lib.hid (none_any h.blk)
  clear h
  go_enter Try.func15, Try.ntmps15
  go_wp2_with fail
  (with_reducible refine H.out.mono ?_)
  rintro e w1 ⟨rfl, rfl⟩
  go_wp2_with fail
  go_ret
  exact ⟨rfl, rfl⟩
set_option maxRecDepth 20000 in
theorem reset_any (h : LG B w0 w dg d lg L fp rv) (hon : d.on = true) (hg : L.gen < 4294967295) :
    Calls Try.prog 9 #[.pointer (some ⟨lg, 0, none⟩)] w fun e w' => e = .returned (.int .i64 0) ∧ LG B w0 w' dg d lg { L with gen := L.gen + 1, op := true, used := 0, recs := [] } fp (.slice none 0 0) := by
  obtain ⟨c0, c1, c2, c3, c4, c5, c6, fz⟩ := h.cells
  have H := Lib.hid (none_any h.blk)
  have HO := on_df h.disk
  rw [hon] at HO
  have HO := Lib.hid HO
  have HH := Lib.hid h
  have g1 : ((L.gen : Int) == 4294967295) = false := by rw [beq_eq_false_iff_ne]; omega
  clear h hon
  go_enter Try.func9, Try.ntmps9
  go_wp2_with fail
  (with_reducible refine H.out.mono ?_)
  rintro e w1 ⟨rfl, rfl⟩
  go_wp2_with fail
  (with_reducible refine HO.out.mono ?_)
  rintro e w1 ⟨rfl, rfl⟩
  go_wp2_with fail
  go_ret
  refine ⟨rfl, ?_⟩
  have h1 := HH.out.store 3 (.int .i64 ((L.gen : Int) + 1)) { L with gen := L.gen + 1 } rfl rfl
  have h2 := h1.store 4 (.bool true) { L with gen := L.gen + 1, op := true } rfl rfl
  have h3 := h2.store 5 (.int .i64 0) { L with gen := L.gen + 1, op := true, used := 0 } rfl rfl
  exact h3.relist (.slice none 0 0) [] (World.ownsRow_nil _ _ _ _) (by simp [Value.ownBlock])
theorem records_any (h : LG B w0 w dg d lg L fp rv) (hk : Wok L) :
    Calls Try.prog 12 #[.pointer (some ⟨lg, 0, none⟩)] w fun e w' => ∃ v, e = .returned v ∧ OwnS w.heap.size w w' v L.recs := by
  obtain ⟨c0, c1, c2, c3, c4, c5, c6, fz⟩ := h.cells
  have H := Lib.hid (none_any h.blk)
  have hC : Calls Try.prog 29 #[rv] w fun e w' => ∃ v, e = .returned v ∧ OwnS w.heap.size w w' v L.recs := by
    rcases h.row.2 with ⟨rfl, h0⟩ | ⟨g, cap, cur, rfl, hB, hh, hnc, hcm, hcur, htk⟩
    · refine (slices_Clone_string_nil 0 0 w).mono ?_
      rintro e w' ⟨rfl, rfl⟩
      exact ⟨_, rfl, by rw [h0, List.eq_nil_of_length_eq_zero h0]; exact World.ownsRow_nil _ _ _ _, Below.refl _ _⟩
    · have hz : (L.recs.map fun p => (⟨p.toArray⟩ : ByteArray)).map Value.string = strs L.recs := by simp [strs]
      refine (slices_Clone_string g 0 L.recs.length cap (L.recs.map fun p => (⟨p.toArray⟩ : ByteArray)) w (by simp) (by have := hk.recs; omega) (fun j hj => ?_)).mono ?_
      · have hj' : j < L.recs.length := by simpa using hj
        have := h.row.cellAt j (by omega)
        rw [Nat.zero_add, this]
        simp [strs, List.getD_eq_getElem?_getD, hj']
      · rintro e w' ⟨v', rfl, hown, _, hb⟩
        refine ⟨v', rfl, ?_, hb⟩
        rw [← hz]
        rwa [List.take_of_length_le (by simp)] at hown
  have HC := Lib.hid hC
  clear h hC hk
  go_enter Try.func12, Try.ntmps12
  go_wp2_with fail
  (with_reducible refine H.out.mono ?_)
  rintro e w1 ⟨rfl, rfl⟩
  go_wp2_with fail
  (with_reducible refine HC.out.mono ?_)
  rintro e w1 ⟨v, rfl, ho⟩
  go_wp2_with fail
  go_ret
  exact ⟨_, rfl, ho⟩
end
end Go.Proofs.Ytokkifiakmplgaa
