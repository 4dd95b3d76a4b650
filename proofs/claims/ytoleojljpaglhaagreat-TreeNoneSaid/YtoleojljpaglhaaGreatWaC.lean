/- A disk and a log over it in memory; the contracts of Free, Generation, Reset, Records. -/
import Derived.Test.YtoleojljpaglhaaGreatWaA
import Derived.Test.YtoleojljpaglhaaGreatVdL
namespace Go.Proofs.YtoleojljpaglhaaGreat
open Go.RowKit
set_option maxRecDepth 20000
/-- all blocks that were there, but for those of a kind, are as they were -/
structure KeepS (S : Nat → Prop) (w w' : World) : Prop where
  os : w'.os = w.os
  tape : w'.tape = w.tape
  output : w'.output = w.output
  size : w.heap.size ≤ w'.heap.size
  block : ∀ k, k < w.heap.size → ¬ S k → w'.heap[k]? = w.heap[k]?
theorem KeepS.refl (S : Nat → Prop) (w : World) : KeepS S w w := ⟨rfl, rfl, rfl, Nat.le_refl _, fun _ _ _ => rfl⟩
theorem KeepS.only {S : Nat → Prop} {a w w' : World} {fp : List Nat} (h : KeepS S a w) (ho : Only fp w w') (hf : ∀ b ∈ fp, S b) : KeepS S a w' :=
  ⟨ho.os.trans h.os, ho.tape.trans h.tape, ho.output.trans h.output, Nat.le_trans h.size ho.size, fun k hk hn => (ho.block k (Nat.lt_of_lt_of_le hk h.size) (fun hm => hn (hf k hm))).trans (h.block k hk hn)⟩
theorem KeepS.below {S : Nat → Prop} {a w w' : World} (h : KeepS S a w) (hb : Below w.heap.size w w') : KeepS S a w' := h.only ((Only.refl [] w).below hb) (by simp)
theorem KeepS.alloc {S : Nat → Prop} {a w : World} (h : KeepS S a w) (o : Obj) : KeepS S a (w.alloc o) := h.only ((Only.refl [] w).alloc o) (by simp)
/-- everything from a place on -/
def Up (B k : Nat) : Prop := B ≤ k
theorem KeepS.toBelow {B : Nat} {w w' : World} (h : KeepS (Up B) w w') (hB : B ≤ w.heap.size) : Below B w w' := ⟨h.os, h.tape, h.output, h.size, fun k hk => h.block k (by omega) (by unfold Up; omega)⟩
theorem KeepS.ofBelow {B : Nat} {w w' : World} (h : Below B w w') : KeepS (Up B) w w' := ⟨h.os, h.tape, h.output, h.size, fun k _ hn => h.block k (by unfold Up at hn; omega)⟩
/-- a disk and a log over it, wholly among blocks of a kind -/
structure LG (S : Nat → Prop) (w0 w : World) (dg : Nat) (d : Vd.VD) (lg : Nat) (L : Wa.WL) (fp : List Nat) (rv : Value) : Prop where
  bel : KeepS S w0 w
  up : ∀ k, w0.heap.size ≤ k → S k
  disk : DF w dg d fp
  low : ∀ b ∈ fp, S b
  lb : S lg
  blk : Blk w lg 112 (lcells (.pointer (some ⟨dg, 0, none⟩)) L rv)
  out : lg ∉ fp
  row : w.ownsRow 0 9 1 rv L.recs.length (strs L.recs)
  rs : ∀ q, rv.ownBlock = some q → S q
  sep : ∀ q, rv.ownBlock = some q → q ∉ fp
theorem row0 {w : World} {B : Nat} {e : TypeId} {size n : Nat} {v : Value} {xs : List Value} (h : w.ownsRow B e size v n xs) : w.ownsRow 0 e size v n xs := by
  refine ⟨h.1, ?_⟩
  rcases h.2 with h1 | ⟨g, cap, cur, hv, _, hr⟩
  · exact .inl h1
  · exact .inr ⟨g, cap, cur, hv, Nat.zero_le _, hr⟩
section
variable {S : Nat → Prop} {w0 w w' : World} {dg : Nat} {d d' : Vd.VD} {lg : Nat} {L : Wa.WL} {fp : List Nat} {rv : Value}
theorem LG.later (h : LG S w0 w dg d lg L fp rv) (hb : Below w.heap.size w w') : LG S w0 w' dg d lg L fp rv :=
  ⟨h.bel.below hb, h.up, h.disk.below hb, h.low, h.lb, h.blk.below hb h.blk.lt, h.out, ownsRow_only h.row ((Only.refl [] w).below hb) (by simp), h.rs, h.sep⟩
/-- a call of the disk -/
theorem LG.called {v : Value} {e : Ending} (h : LG S w0 w dg d lg L fp rv) (hp : DPost v dg d' fp w e w') : e = .returned v ∧ ∃ fp', LG S w0 w' dg d' lg L fp' rv ∧ Fr fp w w' fp' := by
  obtain ⟨he, fp', hF, hO⟩ := hp
  refine ⟨he, fp', ⟨h.bel.only hO.1 h.low, h.up, hF, fun b hb => ?_, h.lb, h.blk.only hO.1 h.out, fun hm => ?_, ownsRow_only h.row hO.1 h.sep, h.rs, fun q hq hm => ?_⟩, hO⟩
  · rcases hO.2 b hb with h1 | h1
    · exact h.low b h1
    · exact h.up b (Nat.le_trans h.bel.size h1)
  · rcases hO.2 lg hm with h1 | h1
    · exact h.out h1
    · have := h.blk.lt; omega
  · rcases hO.2 q hm with h1 | h1
    · exact h.sep q hq h1
    · have := ownBlock_lt h.row hq; omega
/-- a field of the log is written -/
theorem LG.store (h : LG S w0 w dg d lg L fp rv) (j : Nat) (u : Value) (L' : Wa.WL) (he : (lcells (.pointer (some ⟨dg, 0, none⟩)) L rv).setIfInBounds j u = lcells (.pointer (some ⟨dg, 0, none⟩)) L' rv) (hr : L'.recs = L.recs) :
    LG S w0 (w.setCell ⟨lg, j, none⟩ u) dg d lg L' fp rv := by
  have ho : Only [lg] w (w.setCell ⟨lg, j, none⟩ u) := (Only.refl [lg] w).setCell (.inl (by simp)) u
  refine ⟨h.bel.only ho (by simpa using h.lb), h.up, h.disk.only ho (fun b hb hm => ?_), h.low, h.lb, ?_, h.out, ?_, h.rs, h.sep⟩
  · rw [List.mem_singleton] at hm
    exact h.out (hm ▸ hb)
  · rw [← he]
    exact heap_setCell_same w lg j _ _ u h.blk
  · rw [hr]
    exact ownsRow_only h.row ho (fun q hq hm => by rw [List.mem_singleton] at hm; subst hm; exact own_ne_blk h.row h.blk (by decide) hq)
/-- the log's list is another -/
theorem LG.relist (h : LG S w0 w dg d lg L fp rv) (rv' : Value) (rs : List (List UInt8)) (hrow : w.ownsRow 0 9 1 rv' rs.length (strs rs)) (hrs : ∀ q, rv'.ownBlock = some q → S q) (hsep : ∀ q, rv'.ownBlock = some q → q ∉ fp) :
    LG S w0 (w.setCell ⟨lg, 6, none⟩ rv') dg d lg { L with recs := rs } fp rv' := by
  have ho : Only [lg] w (w.setCell ⟨lg, 6, none⟩ rv') := (Only.refl [lg] w).setCell (.inl (by simp)) rv'
  refine ⟨h.bel.only ho (by simpa using h.lb), h.up, h.disk.only ho (fun b hb hm => ?_), h.low, h.lb, ?_, h.out, ?_, hrs, hsep⟩
  · rw [List.mem_singleton] at hm
    exact h.out (hm ▸ hb)
  · exact heap_setCell_same w lg 6 _ _ rv' h.blk
  · exact ownsRow_only hrow ho (fun q hq hm => by rw [List.mem_singleton] at hm; subst hm; exact own_ne_blk hrow h.blk (by decide) hq)
/-- the log's cells -/
structure Cells7 (w : World) (lg dg : Nat) (L : Wa.WL) (rv : Value) : Prop where
  c0 : w.cell? ⟨lg, 0, none⟩ = some (.pointer (some ⟨dg, 0, none⟩))
  c1 : w.cell? ⟨lg, 1, none⟩ = some (.int .i64 (L.fr : Int))
  c2 : w.cell? ⟨lg, 2, none⟩ = some (.int .i64 (L.n : Int))
  c3 : w.cell? ⟨lg, 3, none⟩ = some (.int .i64 (L.gen : Int))
  c4 : w.cell? ⟨lg, 4, none⟩ = some (.bool L.op)
  c5 : w.cell? ⟨lg, 5, none⟩ = some (.int .i64 (L.used : Int))
  c6 : w.cell? ⟨lg, 6, none⟩ = some rv
  fz : ∀ i, w.frozen? ⟨lg, i, none⟩ = false
theorem LG.cells (h : LG S w0 w dg d lg L fp rv) : Cells7 w lg dg L rv := ⟨h.blk.cell 0, h.blk.cell 1, h.blk.cell 2, h.blk.cell 3, h.blk.cell 4, h.blk.cell 5, h.blk.cell 6, h.blk.frozen⟩
/-- the numbers of a log -/
structure Wok (L : Wa.WL) : Prop where
  n : L.n ≤ 65536
  fr : L.fr ≤ 65536
  used : L.used ≤ L.n
  gen : L.gen ≤ 4294967295
  recs : L.recs.length ≤ 65536
theorem free_any (h : LG S w0 w dg d lg L fp rv) (hk : Wok L) : Calls Tryz.prog 123 #[.pointer (some ⟨lg, 0, none⟩)] w fun e w' => e = .returned (.int .i64 ((L.n : Int) - (L.used : Int))) ∧ Below w.heap.size w w' := by
  obtain ⟨c0, c1, c2, c3, c4, c5, c6, fz⟩ := h.cells
  have k1 := hk.n
  have k2 := hk.used
  have H := Lib.hid (none_any h.blk)
  clear h hk
  go_enter Tryz.func123, Tryz.ntmps123
  go_wp2_with fail
  (with_reducible refine H.out.mono ?_)
  rintro e w1 ⟨rfl, rfl⟩
  go_wp2_with fail
  go_quiet (fail)
  go_wp2_with fail
  go_ret
  exact ⟨rfl, below_drewN (Below.refl _ _) _⟩
set_option maxRecDepth 20000 in
theorem reset_any (h : LG S w0 w dg d lg L fp rv) (hon : d.on = true) (hg : L.gen < 4294967295) :
    Calls Tryz.prog 97 #[.pointer (some ⟨lg, 0, none⟩)] w fun e w' => e = .returned (.int .i64 0) ∧ LG S w0 w' dg d lg { L with gen := L.gen + 1, op := true, used := 0, recs := [] } fp (.slice none 0 0) := by
  obtain ⟨c0, c1, c2, c3, c4, c5, c6, fz⟩ := h.cells
  have H := Lib.hid (none_any h.blk)
  have HO := on_df h.disk
  rw [hon] at HO
  have HO := Lib.hid HO
  have HH := Lib.hid h
  have g1 : ((L.gen : Int) == 4294967295) = false := by rw [beq_eq_false_iff_ne]; omega
  clear h hon
  go_enter Tryz.func97, Tryz.ntmps97
  go_wp2_with fail
  (with_reducible refine H.out.mono ?_)
  rintro e w1 ⟨rfl, rfl⟩
  go_wp2_with fail
  (with_reducible refine HO.out.mono ?_)
  rintro e w1 ⟨rfl, rfl⟩
  go_wp2_with fail
  go_ret
  refine ⟨rfl, ?_⟩
  have h1 := HH.out.store 3 (.int .i64 ((L.gen : Int) + 1)) { L with gen := L.gen + 1 } rfl rfl
  have h2 := h1.store 4 (.bool true) { L with gen := L.gen + 1, op := true } rfl rfl
  have h3 := h2.store 5 (.int .i64 0) { L with gen := L.gen + 1, op := true, used := 0 } rfl rfl
  exact h3.relist (.slice none 0 0) [] (World.ownsRow_nil _ _ _ _) (by simp [Value.ownBlock]) (by simp [Value.ownBlock])
theorem records_any (h : LG S w0 w dg d lg L fp rv) (hk : Wok L) :
    Calls Tryz.prog 23 #[.pointer (some ⟨lg, 0, none⟩)] w fun e w' => ∃ v, e = .returned v ∧ OwnS w.heap.size w w' v L.recs := by
  obtain ⟨c0, c1, c2, c3, c4, c5, c6, fz⟩ := h.cells
  have H := Lib.hid (none_any h.blk)
  have hC : Calls Tryz.prog 69 #[rv] w fun e w' => ∃ v, e = .returned v ∧ OwnS w.heap.size w w' v L.recs := by
    rcases h.row.2 with ⟨rfl, h0⟩ | ⟨g, cap, cur, rfl, hB, hh, hnc, hcm, hcur, htk⟩
    · refine (slices_Clone_string_nil 0 0 w).mono ?_
      rintro e w' ⟨rfl, rfl⟩
      exact ⟨_, rfl, by rw [h0, List.eq_nil_of_length_eq_zero h0]; exact World.ownsRow_nil _ _ _ _, Below.refl _ _⟩
    · have hz : (L.recs.map fun p => (⟨p.toArray⟩ : ByteArray)).map Value.string = strs L.recs := by simp [strs]
      refine (slices_Clone_string g 0 L.recs.length cap (L.recs.map fun p => (⟨p.toArray⟩ : ByteArray)) w (by simp) (by have := hk.recs; omega) (fun j hj => ?_)).mono ?_
      · have hj' : j < L.recs.length := by simpa using hj
        have := h.row.cellAt j (by omega)
        rw [Nat.zero_add, this]
        simp [strs, List.getD_eq_getElem?_getD, hj']
      · rintro e w' ⟨v', rfl, hown, _, hb⟩
        refine ⟨v', rfl, ?_, hb⟩
        rw [← hz]
        rwa [List.take_of_length_le (by simp)] at hown
  have HC := Lib.hid hC
  clear h hC hk
  go_enter Tryz.func23, Tryz.ntmps23
  go_wp2_with fail
  (with_reducible refine H.out.mono ?_)
  rintro e w1 ⟨rfl, rfl⟩
  go_wp2_with fail
  (with_reducible refine HC.out.mono ?_)
  rintro e w1 ⟨v, rfl, ho⟩
  go_wp2_with fail
  go_ret
  exact ⟨_, rfl, ho⟩
/-- a text is put behind the log's list -/
theorem LG.pushed (h : LG S w0 w dg d lg L fp rv) (s : ByteArray) {w6 : World} {v' : Value} (hown : w6.ownsRow 0 9 1 v' (L.recs.length + 1) (strs L.recs ++ [.string s])) (hgrow : (w.alloc (.cells #[.string s] 9)).grownBy w6 rv.ownBlock) (hat : v'.ownBlock = rv.ownBlock ∨ v'.ownBlock = some (w.heap.size + 1)) :
    Cells7 w6 lg dg L rv ∧ LG S w0 (w6.setCell ⟨lg, 6, none⟩ v') dg d lg { L with recs := L.recs ++ [s.data.toList] } fp v' := by
  have h5a := h.later ((Below.refl _ _).alloc (Nat.le_refl _) (.cells #[.string s] 9))
  have hne : rv.ownBlock ≠ some lg := own_ne_blk h5a.row h5a.blk (by decide)
  have hbk : Blk w6 lg 112 (lcells (.pointer (some ⟨dg, 0, none⟩)) L rv) := (hgrow.block lg h5a.blk.lt (fun e => hne e.symm)).trans h5a.blk
  have ho6 : Only (rv.ownBlock.toList) (w.alloc (.cells #[.string s] 9)) w6 := (Only.refl _ _).grown hgrow (fun q hq => .inl (by simp [hq]))
  have hfpq : ∀ b ∈ fp, b ∉ rv.ownBlock.toList := fun b hb hm => by
    rw [Option.mem_toList] at hm
    exact h5a.sep b hm hb
  have hdisk : DF w6 dg d fp := h5a.disk.only ho6 hfpq
  have hbel : KeepS S w0 w6 := h5a.bel.only ho6 (fun b hb => by rw [Option.mem_toList] at hb; exact h5a.rs b hb)
  have hown' : w6.ownsRow 0 9 1 v' (L.recs ++ [s.data.toList]).length (strs (L.recs ++ [s.data.toList])) := by
    have e : strs (L.recs ++ [s.data.toList]) = strs L.recs ++ [.string s] := by rw [strs_append]; rfl
    rw [e, List.length_append]
    exact hown
  have hrs' : ∀ q, v'.ownBlock = some q → S q := fun q hq => by
    rcases hat with h1 | h1
    · exact h5a.rs q (h1 ▸ hq)
    · rw [h1] at hq
      injection hq with hq
      subst hq
      exact h.up _ (by have := h.bel.size; omega)
  have hsep' : ∀ q, v'.ownBlock = some q → q ∉ fp := fun q hq hm => by
    rcases hat with h1 | h1
    · exact h5a.sep q (h1 ▸ hq) hm
    · rw [h1] at hq
      injection hq with hq
      subst hq
      have := h5a.disk.lt _ hm
      rw [World.size_alloc] at this
      omega
  have hoS : Only [lg] w6 (w6.setCell ⟨lg, 6, none⟩ v') := (Only.refl [lg] w6).setCell (.inl (by simp)) v'
  refine ⟨⟨hbk.cell 0, hbk.cell 1, hbk.cell 2, hbk.cell 3, hbk.cell 4, hbk.cell 5, hbk.cell 6, hbk.frozen⟩, hbel.only hoS (by simpa using h.lb), h5a.up, hdisk.only hoS (fun b hb hm => ?_), h5a.low, h5a.lb, ?_, h5a.out, ?_, hrs', hsep'⟩
  · rw [List.mem_singleton] at hm
    exact h5a.out (hm ▸ hb)
  · exact heap_setCell_same w6 lg 6 _ _ v' hbk
  · exact ownsRow_only hown' hoS (fun q hq hm => by rw [List.mem_singleton] at hm; subst hm; exact own_ne_blk hown' hbk (by decide) hq)
end
end Go.Proofs.YtoleojljpaglhaaGreat
