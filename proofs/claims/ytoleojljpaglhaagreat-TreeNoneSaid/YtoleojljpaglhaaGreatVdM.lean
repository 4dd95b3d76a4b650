/- Words for the disk's memory: what a block outside a list of blocks keeps; a map of integers as a function. No conditions. -/
import Derived.Test.YtoleojljpaglhaaGreatWords
import Derived.Test.YtoleojljpaglhaaGreatVdP
import Derived.Test.YtoleojljpaglhaaGreatProg
import Derived.Maps.Own
import Derived.Maps.OwnSet
import Derived.Maps.Views
namespace Go.Proofs.YtoleojljpaglhaaGreat
open Go.RowKit Go.Maps
set_option maxRecDepth 20000
/-- all blocks that were there, but for those of the list, are as they were -/
structure Only (fp : List Nat) (w w' : World) : Prop where
  os : w'.os = w.os
  tape : w'.tape = w.tape
  output : w'.output = w.output
  size : w.heap.size ≤ w'.heap.size
  block : ∀ k, k < w.heap.size → k ∉ fp → w'.heap[k]? = w.heap[k]?
section
variable {fp fp' : List Nat} {a w w' : World}
theorem Only.refl (fp : List Nat) (w : World) : Only fp w w := ⟨rfl, rfl, rfl, Nat.le_refl _, fun _ _ _ => rfl⟩
theorem Only.alloc (h : Only fp a w) (o : Obj) : Only fp a (w.alloc o) :=
  ⟨h.os, h.tape, h.output, Nat.le_trans h.size (by simp), fun k hk hn => (Below.heap_alloc w o k (Nat.lt_of_lt_of_le hk h.size)).trans (h.block k hk hn)⟩
theorem Only.drew (h : Only fp a w) : Only fp a w.drew := ⟨h.os, h.tape, h.output, h.size, h.block⟩
theorem Only.drewN (h : Only fp a w) (n : Nat) : Only fp a (w.drewN n) := ⟨h.os, h.tape, h.output, h.size, h.block⟩
theorem Only.setCell (h : Only fp a w) {p : Addr} (hp : p.block ∈ fp ∨ a.heap.size ≤ p.block) (u : Value) : Only fp a (w.setCell p u) :=
  ⟨h.os, h.tape, h.output, by simpa [World.setCell] using h.size, fun k hk hn => (Below.heap_setCell w p u k (by
    rintro rfl
    rcases hp with hp | hp
    · exact hn hp
    · omega)).trans (h.block k hk hn)⟩
theorem Only.grown {row : Option Nat} (h : Only fp a w) (hg : w.grownBy w' row) (hr : ∀ g, row = some g → g ∈ fp ∨ a.heap.size ≤ g) : Only fp a w' :=
  ⟨hg.os.trans h.os, hg.tape.trans h.tape, hg.output.trans h.output, Nat.le_trans h.size hg.size, fun k hk hn => (hg.block k (Nat.lt_of_lt_of_le hk h.size) (by
    intro e
    rcases hr k e.symm with h1 | h1
    · exact hn h1
    · omega)).trans (h.block k hk hn)⟩
theorem Only.below (h : Only fp a w) (hb : Below w.heap.size w w') : Only fp a w' :=
  ⟨hb.os.trans h.os, hb.tape.trans h.tape, hb.output.trans h.output, Nat.le_trans h.size hb.size, fun k hk hn => (hb.block k (Nat.lt_of_lt_of_le hk h.size)).trans (h.block k hk hn)⟩
theorem Only.trans (h : Only fp a w) (k : Only fp' w w') (hs : ∀ b ∈ fp', b ∈ fp ∨ a.heap.size ≤ b) : Only fp a w' :=
  ⟨k.os.trans h.os, k.tape.trans h.tape, k.output.trans h.output, Nat.le_trans h.size k.size, fun b hb hn => (k.block b (Nat.lt_of_lt_of_le hb h.size) (fun hm => by
    rcases hs b hm with h1 | h1
    · exact hn h1
    · omega)).trans (h.block b hb hn)⟩
theorem Only.to_below (h : Only fp a w) {B : Nat} (hB : B ≤ a.heap.size) (hf : ∀ b ∈ fp, B ≤ b) : Below B a w :=
  ⟨h.os, h.tape, h.output, h.size, fun k hk => h.block k (by omega) (fun hm => by have := hf k hm; omega)⟩
theorem Blk.only {g : Nat} {t : TypeId} {cs : Array Value} (h : Blk a g t cs) (ho : Only fp a w) (hn : g ∉ fp) : Blk w g t cs := (ho.block g h.lt hn).trans h
end
/-- the key's law of an integer -/
theorem intKey : Keyed Tryz.prog 3 := int_keyed Tryz.underlying3
/-- block M is a map of integers that holds just f -/
def MapIs (w : World) (M : Nat) (n : Nat) (f : Int → Option Int) : Prop :=
  ∃ D : DataW Unit, w.ownsMap Tryz.prog 3 (plainElem Tryz.prog 3) M n D ∧ IsMap D ∧ (∀ k z, D.atKey (.int .i64 k) z = match f k with | some v => .lit (.int .i64 v) | none => z) ∧ (∀ k, Maps.has D (.int .i64 k) = (f k).isSome)
theorem wf64 {n : Int} (h0 : -9223372036854775808 ≤ n) (h1 : n ≤ 9223372036854775807) : (Lit.int .i64 n).wf = true := WalkArith.wf_i64 (by omega)
theorem zeroInt (w : World) : (zeroValue 3).run Tryz.prog w = .ok (.int .i64 0) w := by kernel_rfl
theorem MapIs.made (w : World) : MapIs (w.alloc (.map #[] 0)) w.heap.size 0 (fun _ => none) :=
  ⟨.map [], World.ownsMap_made w _ _ _, isMap_empty, fun _ _ => rfl, fun _ => rfl⟩
theorem MapIs.lt {w : World} {M n : Nat} {f : Int → Option Int} (h : MapIs w M n f) : M < w.heap.size := let ⟨_, ho, _⟩ := h; ho.lt
theorem MapIs.only {w w' : World} {M n : Nat} {f : Int → Option Int} {fp : List Nat} (h : MapIs w M n f) (ho : Only fp w w') (hn : M ∉ fp) : MapIs w' M n f := by
  obtain ⟨D, ⟨es, clock, hb, r⟩, r2⟩ := h
  have hlt : M < w.heap.size := (Array.getElem?_eq_some_iff.1 hb).1
  exact ⟨D, ⟨es, clock, (ho.block M hlt hn).trans hb, r⟩, r2⟩
theorem MapIs.update {w : World} {M n : Nat} {f : Int → Option Int} (h : MapIs w M n f) (hn : n < maxLen) (k v : Int) (hk : (Lit.int .i64 k).wf = true) (hv : (Lit.int .i64 v).wf = true) :
    ∃ w', (Instr.mapUpdate 64 (.map (some M)) (.int .i64 k) (.int .i64 v)).run Tryz.prog w = .ok () w' ∧ MapIs w' M (n + 1) (fun x => if x = k then some v else f x) ∧ w.grownBy w' (some M) := by
  obtain ⟨D, ho, hm, ha, hh⟩ := h
  obtain ⟨w', hrun, ho', hg⟩ := ho.update intKey Tryz.underlying64 hn (keyOf_int_mk Tryz.underlying3 hk) (plainElem_int Tryz.underlying3 hv)
  refine ⟨w', hrun, ⟨_, ho', hm.put _ _, fun x z => ?_, fun x => ?_⟩, hg⟩
  · show _ = match (if x = k then some v else f x) with | some v => DataW.lit (Lit.int .i64 v) | none => z
    by_cases hx : x = k
    · subst hx
      rw [if_pos rfl, atKey_put_same hm (by trivial)]
    · rw [if_neg hx, atKey_put_other (by intro e; exact hx (by injection e))]
      exact ha x z
  · show _ = (if x = k then some v else f x).isSome
    by_cases hx : x = k
    · subst hx
      rw [if_pos rfl, has_put_same hm (by trivial)]
      rfl
    · rw [if_neg hx, has_put_other (by intro e; exact hx (by injection e))]
      exact hh x
theorem MapIs.lookup {w : World} {M n : Nat} {f : Int → Option Int} (h : MapIs w M n f) (k : Int) (hk : (Lit.int .i64 k).wf = true) :
    (Instr.lookup 64 (.map (some M)) (.int .i64 k) true).run Tryz.prog w = .ok (.tuple #[.int .i64 ((f k).getD 0), .bool (f k).isSome]) w := by
  obtain ⟨D, ho, hm, ha, hh⟩ := h
  obtain ⟨v, ps, hrun, hv⟩ := ho.look_ok intKey Tryz.underlying64 (zeroInt w) (plainElem_int Tryz.underlying3 (by decide)) (keyOf_int_mk Tryz.underlying3 hk)
  obtain ⟨c, rfl, hc, _⟩ := plainElem_int_inv Tryz.underlying3 hv
  rw [hrun, hh k]
  have e := congrArg Prod.fst hc
  simp only at e
  rw [ha k] at e
  cases hf : f k with
  | none =>
    rw [hf] at e
    injection e with e
    injection e with _ e
    rw [← e]
    rfl
  | some v =>
    rw [hf] at e
    injection e with e
    injection e with _ e
    rw [← e]
    rfl
end Go.Proofs.YtoleojljpaglhaaGreat
