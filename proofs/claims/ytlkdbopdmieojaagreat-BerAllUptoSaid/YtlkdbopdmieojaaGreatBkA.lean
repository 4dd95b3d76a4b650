/- The book of lists of elements: what it keeps. -/
import Derived.Test.YtlkdbopdmieojaaGreatBerG
import Derived.Test.YtlkdbopdmieojaaGreatBerQ
set_option maxRecDepth 20000
namespace Go.Proofs.YtlkdbopdmieojaaGreat
open Go.RowKit Ber
set_option maxRecDepth 20000
/-- a list that is kept: its elements, itself, its copy -/
structure Rc where
  ks : List El
  v : Value
  was : Value
/-- the cells of a book that keeps elements alone -/
def bkc (ev wv : Value) : List Value :=
  [.slice none 0 0, .slice none 0 0, .slice none 0 0, .slice none 0 0, .slice none 0 0, .slice none 0 0, .slice none 0 0, .slice none 0 0, .slice none 0 0, .slice none 0 0, .slice none 0 0, .slice none 0 0, .slice none 0 0, .slice none 0 0,
   ev, wv,
   .slice none 0 0, .slice none 0 0, .slice none 0 0, .slice none 0 0, .slice none 0 0, .slice none 0 0, .slice none 0 0, .slice none 0 0, .slice none 0 0, .slice none 0 0, .slice none 0 0, .slice none 0 0, .slice none 0 0, .slice none 0 0, .slice none 0 0, .slice none 0 0, .slice none 0 0, .slice none 0 0, .slice none 0 0, .slice none 0 0]
/-- all blocks but those of a book and of rows of lists stay -/
structure EK (w w' : World) : Prop where
  size : w.heap.size ≤ w'.heap.size
  blk : ∀ (g : Nat) (o : Obj), w.heap[g]? = some o → (∀ cs fz, o ≠ Obj.cells cs 44 fz) → (∀ cs fz, o ≠ Obj.cells cs 45 fz) → w'.heap[g]? = some o
theorem EK.refl (w : World) : EK w w := ⟨Nat.le_refl _, fun _ _ h _ _ => h⟩
theorem EK.trans {a b c : World} (h : EK a b) (k : EK b c) : EK a c := ⟨Nat.le_trans h.size k.size, fun g o h1 h2 h3 => k.blk g o (h.blk g o h1 h2 h3) h2 h3⟩
theorem EK.of_below {w w' : World} (h : Below w.heap.size w w') : EK w w' := ⟨h.size, fun g _ h1 _ _ => (h.block g (Array.getElem?_eq_some_iff.1 h1).1).trans h1⟩
theorem EK.elem {w w' : World} (h : EK w w') {g : Nat} {cs : Array Value} {fz : Nat × Nat} (hg : w.heap[g]? = some (.cells cs 47 fz)) : w'.heap[g]? = some (.cells cs 47 fz) :=
  h.blk g _ hg (fun cs' fz' e => by injection e with _ e _; exact absurd e (by decide)) (fun cs' fz' e => by injection e with _ e _; exact absurd e (by decide))
theorem row_ek {w w' : World} {B n : Nat} {v : Value} {xs : List Value} (k : EK w w') (h : w.ownsRow B 47 5 v n xs) : w'.ownsRow B 47 5 v n xs := by
  refine ⟨h.1, ?_⟩
  rcases h.2 with h0 | ⟨g', cap, cur, rfl, hB, hh, r⟩
  · exact .inl h0
  · exact .inr ⟨g', cap, cur, rfl, hB, k.elem hh, r⟩
theorem KsQ.ek {S : Nat → Prop} {w w' : World} {ks : List El} {kv : Value} (h : KsQ w S ks kv) (k : EK w w') : KsQ w' S ks kv := by
  induction h with
  | mk S L v C own h2 few so sub disj kids ih => exact .mk S L v C (row_ek k own) h2 few so sub disj ih
/-- a book's block and its two rows of lists -/
structure BkR (w0 w : World) (b : Nat) (ev wv : Value) (A B : List Value) : Prop where
  blk : Blk w b 44 (bkc ev wv).toArray
  e : w.ownsRow w0.heap.size 45 1 ev A.length A
  v : w.ownsRow w0.heap.size 45 1 wv B.length B
  sep : ∀ q, ev.ownBlock = some q → wv.ownBlock ≠ some q
  base : w0.heap.size ≤ b
theorem own_ty {w : World} {B n s q : Nat} {e : TypeId} {v : Value} {xs : List Value} (h : w.ownsRow B e s v n xs) (hq : v.ownBlock = some q) : B ≤ q ∧ ∃ cs, w.heap[q]? = some (.cells cs e (0, 0)) := by
  rcases h.2 with ⟨rfl, _⟩ | ⟨g, cap, cur, rfl, hB, hh, _⟩
  · cases hq
  · injection hq with hq
    subst hq
    exact ⟨hB, cur, hh⟩
theorem row_keep {w w' : World} {B n s : Nat} {e : TypeId} {v : Value} {xs : List Value} (h : w.ownsRow B e s v n xs) (k : ∀ q, v.ownBlock = some q → w'.heap[q]? = w.heap[q]?) : w'.ownsRow B e s v n xs := by
  refine ⟨h.1, ?_⟩
  rcases h.2 with h0 | ⟨g', cap, cur, rfl, hB, hh, r⟩
  · exact .inl h0
  · exact .inr ⟨g', cap, cur, rfl, hB, (k g' rfl).trans hh, r⟩
theorem rowS_later {w w' : World} {B n size : Nat} {e : TypeId} {v : Value} {xs : List Value} (hb : Below w.heap.size w w') (h : w.ownsRow B e size v n xs) : w'.ownsRow B e size v n xs :=
  row_keep h fun q hq => hb.block q (h.lt q hq).2
section
variable {w0 w w1 w' : World} {b : Nat} {ev wv : Value} {A B : List Value}
theorem BkR.later (h : BkR w0 w b ev wv A B) (hb : Below w.heap.size w w') : BkR w0 w' b ev wv A B :=
  ⟨h.blk.below hb h.blk.lt, rowS_later hb h.e, rowS_later hb h.v, h.sep, h.base⟩
theorem BkR.offE (h : BkR w0 w b ev wv A B) {q : Nat} (hq : ev.ownBlock = some q) : q ≠ b := by
  rintro rfl
  obtain ⟨_, cs, hh⟩ := own_ty h.e hq
  have hb : w.heap[q]? = _ := h.blk
  rw [hh] at hb
  injection hb with hb
  injection hb with _ hb _
  exact absurd hb (by decide)
theorem BkR.offV (h : BkR w0 w b ev wv A B) {q : Nat} (hq : wv.ownBlock = some q) : q ≠ b := by
  rintro rfl
  obtain ⟨_, cs, hh⟩ := own_ty h.v hq
  have hb : w.heap[q]? = _ := h.blk
  rw [hh] at hb
  injection hb with hb
  injection hb with _ hb _
  exact absurd hb (by decide)
theorem BkR.pushE (h : BkR w0 w b ev wv A B) {o : Obj} (hw0 : w0.heap.size ≤ w.heap.size) (hg : (w.alloc o).grownBy w1 ev.ownBlock) {ev' v : Value} (hr : w1.ownsRow w0.heap.size 45 1 ev' (A.length + 1) (A ++ [v])) (hat : ev'.ownBlock = ev.ownBlock ∨ ev'.ownBlock = some (w.heap.size + 1)) :
    w1.cell? ⟨b, 14, none⟩ = some ev ∧ w1.frozen? ⟨b, 14, none⟩ = false ∧ BkR w0 (w1.setCell ⟨b, 14, none⟩ ev') b ev' wv (A ++ [v]) B ∧ EK w (w1.setCell ⟨b, 14, none⟩ ev') ∧ Below w0.heap.size w (w1.setCell ⟨b, 14, none⟩ ev') := by
  have hbl := h.blk.lt
  have hs := hg.size
  simp only [World.size_alloc] at hs
  have hold : ∀ q, q < w.heap.size → ev.ownBlock ≠ some q → w1.heap[q]? = w.heap[q]? := fun q hq hn => (hg.block q (by simp; omega) (fun e => hn e.symm)).trans (Below.heap_alloc w o q hq)
  have hb1 : Blk w1 b 44 (bkc ev wv).toArray := (hold b hbl (fun e => h.offE e rfl)).trans h.blk
  have hset : ∀ q, q ≠ b → (w1.setCell ⟨b, 14, none⟩ ev').heap[q]? = w1.heap[q]? := fun q hq => Below.heap_setCell _ _ _ _ hq
  have hne : ∀ q, ev'.ownBlock = some q → q ≠ b := fun q hq => by
    rcases hat with e | e
    · exact h.offE (e ▸ hq)
    · rw [e] at hq; injection hq with hq; omega
  refine ⟨hb1.cell 14, hb1.frozen 14, ⟨(hb1.set_ 14 ev').eq_ rfl, ?_, ?_, ?_, h.base⟩, ⟨by simp; omega, fun g o' hg1 hn1 hn2 => ?_⟩, ?_⟩
  · rw [List.length_append, List.length_singleton]
    exact row_keep hr fun q hq => hset q (hne q hq)
  · refine row_keep h.v fun q hq => (hset q (h.offV hq)).trans (hold q (h.v.lt q hq).2 (fun e => h.sep q e hq))
  · intro q hq hv
    rcases hat with e | e
    · exact h.sep q (e ▸ hq) hv
    · rw [e] at hq; injection hq with hq; have := (h.v.lt q hv).2; omega
  · have hgl := (Array.getElem?_eq_some_iff.1 hg1).1
    have hgb : g ≠ b := by
      rintro rfl
      have hb : w.heap[g]? = _ := h.blk
      rw [hg1] at hb
      injection hb with hb
      exact hn1 _ _ hb
    have hge : ev.ownBlock ≠ some g := fun e => by
      obtain ⟨_, cs, hh⟩ := own_ty h.e e
      rw [hg1] at hh
      injection hh with hh
      exact hn2 _ _ hh
    exact ((hset g hgb).trans (hold g hgl hge)).trans hg1
  · exact ((((Below.refl w.heap.size w).mono hw0).alloc (by omega) o).grown hg (by simp; omega) (fun q hq => (h.e.lt q hq).1)).setCell (p := ⟨b, 14, none⟩) h.base _
theorem BkR.pushV (h : BkR w0 w b ev wv A B) {o : Obj} (hw0 : w0.heap.size ≤ w.heap.size) (hg : (w.alloc o).grownBy w1 wv.ownBlock) {wv' v : Value} (hr : w1.ownsRow w0.heap.size 45 1 wv' (B.length + 1) (B ++ [v])) (hat : wv'.ownBlock = wv.ownBlock ∨ wv'.ownBlock = some (w.heap.size + 1)) :
    w1.cell? ⟨b, 15, none⟩ = some wv ∧ w1.frozen? ⟨b, 15, none⟩ = false ∧ BkR w0 (w1.setCell ⟨b, 15, none⟩ wv') b ev wv' A (B ++ [v]) ∧ EK w (w1.setCell ⟨b, 15, none⟩ wv') ∧ Below w0.heap.size w (w1.setCell ⟨b, 15, none⟩ wv') := by
  have hbl := h.blk.lt
  have hs := hg.size
  simp only [World.size_alloc] at hs
  have hold : ∀ q, q < w.heap.size → wv.ownBlock ≠ some q → w1.heap[q]? = w.heap[q]? := fun q hq hn => (hg.block q (by simp; omega) (fun e => hn e.symm)).trans (Below.heap_alloc w o q hq)
  have hb1 : Blk w1 b 44 (bkc ev wv).toArray := (hold b hbl (fun e => h.offV e rfl)).trans h.blk
  have hset : ∀ q, q ≠ b → (w1.setCell ⟨b, 15, none⟩ wv').heap[q]? = w1.heap[q]? := fun q hq => Below.heap_setCell _ _ _ _ hq
  have hne : ∀ q, wv'.ownBlock = some q → q ≠ b := fun q hq => by
    rcases hat with e | e
    · exact h.offV (e ▸ hq)
    · rw [e] at hq; injection hq with hq; omega
  refine ⟨hb1.cell 15, hb1.frozen 15, ⟨(hb1.set_ 15 wv').eq_ rfl, ?_, ?_, ?_, h.base⟩, ⟨by simp; omega, fun g o' hg1 hn1 hn2 => ?_⟩, ?_⟩
  · refine row_keep h.e fun q hq => (hset q (h.offE hq)).trans (hold q (h.e.lt q hq).2 (fun e => h.sep q hq e))
  · rw [List.length_append, List.length_singleton]
    exact row_keep hr fun q hq => hset q (hne q hq)
  · intro q hq hv
    rcases hat with e | e
    · exact h.sep q hq (e ▸ hv)
    · rw [e] at hv; injection hv with hv; have := (h.e.lt q hq).2; omega
  · have hgl := (Array.getElem?_eq_some_iff.1 hg1).1
    have hgb : g ≠ b := by
      rintro rfl
      have hb : w.heap[g]? = _ := h.blk
      rw [hg1] at hb
      injection hb with hb
      exact hn1 _ _ hb
    have hge : wv.ownBlock ≠ some g := fun e => by
      obtain ⟨_, cs, hh⟩ := own_ty h.v e
      rw [hg1] at hh
      injection hh with hh
      exact hn2 _ _ hh
    exact ((hset g hgb).trans (hold g hgl hge)).trans hg1
  · exact ((((Below.refl w.heap.size w).mono hw0).alloc (by omega) o).grown hg (by simp; omega) (fun q hq => (h.v.lt q hq).1)).setCell (p := ⟨b, 15, none⟩) h.base _
end
/-- the book -/
structure Bk (w0 : World) (w : World) (b : Nat) (RL : List Rc) : Prop where
  ex : ∃ ev wv, BkR w0 w b ev wv (RL.map (·.v)) (RL.map (·.was))
  ks : ∀ r ∈ RL, (∃ S, KsQ w S r.ks r.v) ∧ ∃ S, KsQ w S r.ks r.was
  apart : ∀ (i j : Nat) (ri rj : Rc) (g : Nat), RL[i]? = some ri → RL[j]? = some rj → ri.v.ownBlock = some g → rj.v.ownBlock = some g → i = j
  len : RL.length ≤ 250
  low : w0.heap.size ≤ w.heap.size
  new : ∀ r ∈ RL, ∀ g, r.v.ownBlock = some g → w0.heap.size ≤ g
section
variable {w0 w w' : World} {b : Nat} {RL : List Rc} {S : Nat → Prop} {ks : List El} {v : Value}
theorem Bk.later (h : Bk w0 w b RL) (hb : Below w.heap.size w w') : Bk w0 w' b RL := by
  obtain ⟨ev, wv, h1⟩ := h.ex
  have k := EK.of_below hb
  exact ⟨⟨ev, wv, h1.later hb⟩, fun r hr => ⟨(h.ks r hr).1.imp (fun _ x => x.ek k), (h.ks r hr).2.imp (fun _ x => x.ek k)⟩, h.apart, h.len, Nat.le_trans h.low hb.size, h.new⟩
end
end Go.Proofs.YtlkdbopdmieojaaGreat
