/- Words for memory: a block that is known whole, a row of bytes, what make and string(b) do with it. The first section's lemmas began as blocks of the kit's page extra-words.md, which gives them to be copied. No conditions. -/
import Derived.Below
import Derived.Laws.OwnMore
import Derived.Deep.Draws
import Derived.Laws.Rows
import Derived.Laws.MakeOwn
import Derived.Laws.Entries
import Derived.Laws.IdiomStrings
import Derived.Laws.BytesArg
import Derived.WalkKit
namespace Go.Proofs.YtlkdbopdmieojaaGreat
open Go.RowKit
set_option maxRecDepth 20000
def Blk (w : World) (g : Nat) (t : TypeId) (cs : Array Value) : Prop := w.heap[g]? = some (.cells cs t (0, 0))
section
variable {w w' : World} {g : Nat} {t : TypeId} {cs : Array Value}
theorem Blk.lt (h : Blk w g t cs) : g < w.heap.size := by
  rcases Nat.lt_or_ge g w.heap.size with hlt | hge
  · exact hlt
  · unfold Blk at h; rw [Array.getElem?_eq_none hge] at h; cases h
theorem Blk.cell (h : Blk w g t cs) (i : Nat) : w.cell? ⟨g, i, none⟩ = cs[i]? := cell_of_row w g i cs t (0, 0) h
theorem Blk.frozen (h : Blk w g t cs) (i : Nat) : w.frozen? ⟨g, i, none⟩ = false := by
  unfold Blk at h
  simp [World.frozen?, h]
theorem Blk.new (w : World) (t : TypeId) (cs : Array Value) : Blk (w.alloc (.cells cs t)) w.heap.size t cs := heap_alloc_new w _
theorem Blk.drew (h : Blk w g t cs) : Blk w.drew g t cs := h
theorem Blk.drewN (h : Blk w g t cs) (n : Nat) : Blk (w.drewN n) g t cs := h
theorem Blk.alloc (h : Blk w g t cs) (o : Obj) : Blk (w.alloc o) g t cs := (Below.heap_alloc w o g h.lt).trans h
theorem Blk.set_ (h : Blk w g t cs) (i : Nat) (u : Value) : Blk (w.setCell ⟨g, i, none⟩ u) g t (cs.setIfInBounds i u) := by
  unfold Blk at h ⊢
  simp [World.setCell, Array.getElem?_modify, h]
theorem Blk.far (h : Blk w g t cs) {p : Addr} (hp : g ≠ p.block) (u : Value) : Blk (w.setCell p u) g t cs := (Below.heap_setCell w p u g hp).trans h
theorem Blk.below {B : Nat} (h : Blk w g t cs) (hb : Below B w w') (hg : g < B) : Blk w' g t cs := (hb.block g hg).trans h
theorem Blk.grown {row : Option Nat} (h : Blk w g t cs) (hb : w.grownBy w' row) (hg : some g ≠ row) : Blk w' g t cs := (hb.block g h.lt hg).trans h
theorem Blk.some_ (h : Blk w g t cs) {i : Nat} (hi : i < cs.size) : ∃ u, w.cell? ⟨g, i, none⟩ = some u := ⟨cs[i], by rw [h.cell, Array.getElem?_eq_getElem hi]⟩
theorem Blk.eq_ {cs' : Array Value} (h : Blk w g t cs) (e : cs = cs') : Blk w g t cs' := e ▸ h
end
theorem below_drewN {B : Nat} {a w : World} (h : Below B a w) (n : Nat) : Below B a (w.drewN n) := ⟨h.os, h.tape, h.output, h.size, h.block⟩
/-- bytes as cells -/
def bvs (l : List UInt8) : Array Value := (l.map fun c => Value.int .u8 (c.toNat : Int)).toArray
theorem bvs_size (l : List UInt8) : (bvs l).size = l.length := by simp [bvs]
theorem bvs_at (l : List UInt8) (i : Nat) (h : i < l.length) : (bvs l)[i]? = some (.int .u8 (l[i].toNat : Int)) := by simp [bvs, h]
theorem bvs_set (l : List UInt8) (i : Nat) (c : UInt8) : (bvs l).setIfInBounds i (.int .u8 (c.toNat : Int)) = bvs (l.set i c) := by
  simp [bvs, List.map_set]
theorem made_bvs (n : Nat) : madeCells (Value.int .u8 0).cells n = bvs (List.replicate n 0) := by
  apply Array.ext_getElem?
  intro i
  by_cases h : i < n
  · simp [bvs, madeCells, h, Value.cells, Nat.mod_one]
  · simp [bvs, madeCells, h]
theorem string_of_blk {P : Program} {w : World} {g : Nat} {t : TypeId} {l : List UInt8} (h : Blk w g t (bvs l)) (src dst e : TypeId) (n cap : Nat) (hn : n = l.length)
    (hs : P.underlying src = some (.slice e)) (he : P.underlying e = some (.int .u8)) (hd : P.underlying dst = some .string) :
    (convert src dst (.slice (some ⟨g, 0, none⟩) n cap)).run P w = .ok (.string ⟨l.toArray⟩) w := by
  subst hn
  refine run_convert_bytes_back w src dst e ⟨g, 0, none⟩ cap l hs he hd fun j hj => ?_
  rw [show (⟨g, 0, none⟩ : Addr).add j = ⟨g, j, none⟩ from by unfold Addr.add; split <;> simp_all, h.cell, bvs_at l j hj]
theorem make_bytes {P : Program} (t e : TypeId) (i : TypeInfo) (ht : P.underlying t = some (.slice e)) (hi : P.info? e = some i) (hz : i.zero = some (.int .u8 0)) (h1 : i.size = 1) (h2 : i.bytes = 1)
    (kl kc : IntKind) (n c : Nat) (hnc : n ≤ c) (hb : c ≤ 281474976710656) (w : World) :
    (Instr.makeSlice t (.int kl (n : Int)) (.int kc (c : Int))).run P w = .ok (.slice (some ⟨w.heap.size, 0, none⟩) n c) (w.alloc (.cells (bvs (List.replicate c 0)) e)) := by
  have hr := run_make (P := P) w t e i _ ht hi hz kl kc n c (by omega) (by omega) (by rw [h2]; omega) (by omega)
  simp only [Int.toNat_natCast, h1, Nat.mul_one, made_bvs] at hr
  exact hr
theorem make_bytes' {P : Program} (t e : TypeId) (i : TypeInfo) (ht : P.underlying t = some (.slice e)) (hi : P.info? e = some i) (hz : i.zero = some (.int .u8 0)) (h1 : i.size = 1) (h2 : i.bytes = 1)
    (kl kc : IntKind) (L C : Int) (n c : Nat) (hL : L = (n : Int)) (hC : C = (c : Int)) (hnc : n ≤ c) (hb : c ≤ 281474976710656) (w : World) :
    (Instr.makeSlice t (.int kl L) (.int kc C)).run P w = .ok (.slice (some ⟨w.heap.size, 0, none⟩) n c) (w.alloc (.cells (bvs (List.replicate c 0)) e)) := by
  subst hL hC
  exact make_bytes t e i ht hi hz h1 h2 kl kc n c hnc hb w
theorem own_new (w : World) (e : TypeId) (c : Nat) (hc : c ≤ maxLen) : (w.alloc (.cells (bvs (List.replicate c 0)) e)).ownsRow w.heap.size e 1 (.slice (some ⟨w.heap.size, 0, none⟩) 0 c) 0 [] :=
  ⟨by simp, .inr ⟨w.heap.size, c, _, rfl, Nat.le_refl _, Blk.new w e _, Nat.zero_le _, hc, by simp [bvs], by simp⟩⟩
/-- bytes as a list of cells -/
def bl (l : List UInt8) : List Value := l.map fun c => Value.int .u8 (c.toNat : Int)
theorem bl_append (a b : List UInt8) : bl (a ++ b) = bl a ++ bl b := by simp [bl]
theorem bl_length (l : List UInt8) : (bl l).length = l.length := by simp [bl]
theorem bl_at (l : List UInt8) (i : Nat) (h : i < l.length) : (bl l)[i]? = some (.int .u8 (l[i].toNat : Int)) := by simp [bl, h]
theorem bl_one (l : List UInt8) : ∀ u ∈ bl l, u.oneCell' = true := by
  intro u hu
  simp [bl] at hu
  obtain ⟨c, _, rfl⟩ := hu
  rfl
theorem string_of_own {P : Program} {w : World} {base : Nat} {e : TypeId} {v : Value} {n : Nat} {l : List UInt8} (h : w.ownsRow base e 1 v n (bl l)) (src dst : TypeId)
    (hs : P.underlying src = some (.slice e)) (he : P.underlying e = some (.int .u8)) (hd : P.underlying dst = some .string) :
    (convert src dst v).run P w = .ok (.string ⟨l.toArray⟩) w := by
  have hl : l.length = n := by have := h.1; rw [bl_length] at this; omega
  rcases h.2 with ⟨rfl, rfl⟩ | ⟨g, cap, cur, rfl, _, hh, hnc, _, hcur, htk⟩
  · have : l = [] := List.eq_nil_of_length_eq_zero hl
    subst this
    exact run_convert_bytes_nil w src e hs he 0 0 dst hd
  · subst hl
    refine run_convert_bytes_back w src dst e ⟨g, 0, none⟩ cap l hs he hd fun j hj => ?_
    rw [h.cells (g := g) rfl j _ (bl_at l j hj)]
end Go.Proofs.YtlkdbopdmieojaaGreat
