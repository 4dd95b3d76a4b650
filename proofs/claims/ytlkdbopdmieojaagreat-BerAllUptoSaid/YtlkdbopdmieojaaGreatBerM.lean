/- Elements in memory: a list of elements as a slice of structs, whatever its depth. -/
import Derived.Test.YtlkdbopdmieojaaGreatProg
import Derived.Test.YtlkdbopdmieojaaGreatBerP
import Derived.Test.YtlkdbopdmieojaaGreatWords
import Derived.WalkKit
import Derived.ProofKit
import Derived.Lib.Hide
import Derived.LoopTactic
import Derived.Outline
import Derived.Maps.AppendAt
namespace Go.Proofs.YtlkdbopdmieojaaGreat
open Go.RowKit Ber
set_option maxRecDepth 20000
/-- an element's five values -/
def ev (c t : Int) (k : Bool) (b : ByteArray) (kv : Value) : Array Value := #[.int .i64 c, .int .i64 t, .bool k, .string b, kv]
/-- an element's five cells -/
structure C5 (w : World) (g o : Nat) (c t : Int) (k : Bool) (b : ByteArray) (kv : Value) : Prop where
  c0 : w.cell? ⟨g, o, none⟩ = some (.int .i64 c)
  c1 : w.cell? ⟨g, o + 1, none⟩ = some (.int .i64 t)
  c2 : w.cell? ⟨g, o + 2, none⟩ = some (.bool k)
  c3 : w.cell? ⟨g, o + 3, none⟩ = some (.string b)
  c4 : w.cell? ⟨g, o + 4, none⟩ = some kv
/-- how large a text or a list may be -/
def Few (n : Nat) : Prop := n ≤ 140737488351232
def FewK (n : Nat) : Prop := n * 64 ≤ 140737488340000
theorem Few.le {n : Nat} (h : Few n) : n ≤ 140737488351232 := h
theorem FewK.le {n : Nat} (h : FewK n) : n * 64 ≤ 140737488351232 := Nat.le_trans h (by decide)
/-- a list of elements in memory -/
inductive KsAt (w : World) : List El → Value → Prop
  | mk (ks : List El) (a : Option Addr) (cap g o : Nat) (f : Nat → Value) (h1 : ks.length ≤ cap ∧ cap ≤ maxLen) (h2 : FewK ks.length)
      (h3 : ∀ i (h : i < ks.length), a = some ⟨g, o, none⟩ ∧ g < w.heap.size ∧ C5 w g (o + i * 5) ks[i].c ks[i].t ks[i].k ks[i].b (f i) ∧ Few ks[i].b.size)
      (h4 : ∀ i (h : i < ks.length), KsAt w ks[i].ks (f i)) : KsAt w ks (.slice a ks.length cap)
/-- an element in memory -/
def ElAt (w : World) (e : El) (v : Value) : Prop := ∃ kv, v = .agg (ev e.c e.t e.k e.b kv) ∧ Few e.b.size ∧ KsAt w e.ks kv
theorem C5.below {w w' : World} {B g o : Nat} {c t : Int} {k : Bool} {b : ByteArray} {kv : Value} (h : C5 w g o c t k b kv) (hb : Below B w w') (hg : g < B) : C5 w' g o c t k b kv :=
  ⟨(hb.cell (p := ⟨g, _, none⟩) hg).trans h.c0, (hb.cell (p := ⟨g, _, none⟩) hg).trans h.c1, (hb.cell (p := ⟨g, _, none⟩) hg).trans h.c2, (hb.cell (p := ⟨g, _, none⟩) hg).trans h.c3, (hb.cell (p := ⟨g, _, none⟩) hg).trans h.c4⟩
theorem KsAt.later {w w' : World} (hb : Below w.heap.size w w') {ks : List El} {kv : Value} (h : KsAt w ks kv) : KsAt w' ks kv := by
  induction h with
  | mk ks a cap g o f h1 h2 h3 h4 ih =>
    exact .mk ks a cap g o f h1 h2 (fun i hi => ⟨(h3 i hi).1, Nat.lt_of_lt_of_le (h3 i hi).2.1 hb.size, (h3 i hi).2.2.1.below hb (h3 i hi).2.1, (h3 i hi).2.2.2⟩) ih
theorem ElAt.later {w w' : World} (hb : Below w.heap.size w w') {e : El} {v : Value} (h : ElAt w e v) : ElAt w' e v := by
  obtain ⟨kv, h1, h2, h3⟩ := h
  exact ⟨kv, h1, h2, h3.later hb⟩
theorem KsAt.len {w : World} {ks : List El} {kv : Value} (h : KsAt w ks kv) : ∃ a cap, kv = .slice a ks.length cap ∧ (ks.length ≤ cap ∧ cap ≤ maxLen) ∧ FewK ks.length := by
  cases h
  exact ⟨_, _, rfl, by assumption, by assumption⟩
theorem KsAt.nil (w : World) : KsAt w [] (.slice none 0 0) := .mk [] none 0 0 0 (fun _ => .slice none 0 0) ⟨Nat.le_refl _, Nat.zero_le _⟩ (by unfold FewK; simp) (fun i h => absurd h (by simp)) (fun i h => absurd h (by simp))
/-- the kid at a place -/
theorem kid_at {w : World} {ks : List El} {a : Option Addr} {g o : Nat} {f : Nat → Value} (h3 : ∀ i (h : i < ks.length), a = some ⟨g, o, none⟩ ∧ g < w.heap.size ∧ C5 w g (o + i * 5) ks[i].c ks[i].t ks[i].k ks[i].b (f i) ∧ Few ks[i].b.size)
    (h4 : ∀ i (h : i < ks.length), KsAt w ks[i].ks (f i)) (j : Nat) (h : j < ks.length) :
    ∃ (kc kt : Int) (kk : Bool) (kb : ByteArray) (a2 : Option Addr) (n2 cap2 : Nat), a = some ⟨g, o, none⟩ ∧ g < w.heap.size ∧ Few kb.size ∧ ks[j] = .mk kc kt kk kb ks[j].ks ∧ f j = .slice a2 n2 cap2 ∧ n2 = ks[j].ks.length ∧ C5 w g (o + j * 5) kc kt kk kb (.slice a2 n2 cap2) := by
  obtain ⟨a2, cap2, hf, _, _⟩ := (h4 j h).len
  obtain ⟨ha, hg, hc, hb⟩ := h3 j h
  rw [hf] at hc
  exact ⟨_, _, _, _, a2, _, cap2, ha, hg, hb, El.eta _, hf, rfl, hc⟩
/-- the kid at a place, seen from a later world -/
theorem C5.later {w w' : World} (hb : Below w.heap.size w w') {g o : Nat} {c t : Int} {k : Bool} {b : ByteArray} {kv : Value} (h : C5 w g o c t k b kv) (hg : g < w.heap.size) : C5 w' g o c t k b kv := h.below hb hg
/-- elements with their lists as cells -/
def cells1 (p : El × Value) : List Value := [.int .i64 p.1.c, .int .i64 p.1.t, .bool p.1.k, .string p.1.b, p.2]
def rowE (L : List (El × Value)) : List Value := L.flatMap cells1
theorem rowE_length (L : List (El × Value)) : (rowE L).length = L.length * 5 := by
  induction L with
  | nil => rfl
  | cons p L ih => simp only [rowE, List.flatMap_cons, List.length_append] at ih ⊢; rw [ih]; simp [cells1]; omega
theorem rowE_append (L M : List (El × Value)) : rowE (L ++ M) = rowE L ++ rowE M := by simp [rowE]
theorem rowE_at (L : List (El × Value)) (i : Nat) (h : i < L.length) (j : Nat) (hj : j < 5) : (rowE L)[i * 5 + j]? = (cells1 L[i])[j]? := by
  induction L generalizing i with
  | nil => simp at h
  | cons p L ih =>
    have e : rowE (p :: L) = cells1 p ++ rowE L := rfl
    have hl : (cells1 p).length = 5 := rfl
    rw [e]
    cases i with
    | zero => rw [List.getElem?_append_left (by omega)]; simp
    | succ i =>
      rw [List.getElem?_append_right (by omega), hl, show (i + 1) * 5 + j - 5 = i * 5 + j from by omega, ih i (by simpa using h)]
      simp
theorem C5.block {w w' : World} {g o : Nat} {c t : Int} {k : Bool} {b : ByteArray} {kv : Value} (h : C5 w g o c t k b kv) (hb : w'.heap[g]? = w.heap[g]?) : C5 w' g o c t k b kv := by
  have e : ∀ j, w'.cell? ⟨g, j, none⟩ = w.cell? ⟨g, j, none⟩ := fun j => by simp only [World.cell?, hb]
  exact ⟨(e _).trans h.c0, (e _).trans h.c1, (e _).trans h.c2, (e _).trans h.c3, (e _).trans h.c4⟩
theorem row_base {w : World} {B : Nat} {e : TypeId} {size n : Nat} {v : Value} {xs : List Value} (h : w.ownsRow B e size v n xs) : w.ownsRow 0 e size v n xs :=
  ⟨h.1, h.2.imp id fun ⟨g, cap, cur, h1, _, h3⟩ => ⟨g, cap, cur, h1, Nat.zero_le _, h3⟩⟩
/-- a list of elements in memory, each list in a block of its own, no two alike; the blocks are of a kind -/
inductive KsQ (w : World) : (Nat → Prop) → List El → Value → Prop
  | mk (S : Nat → Prop) (L : List (El × Value)) (v : Value) (C : Nat → Nat → Prop) (own : w.ownsRow 0 47 5 v L.length (rowE L)) (h2 : FewK L.length) (few : ∀ p ∈ L, Few p.1.b.size)
      (so : ∀ g, v.ownBlock = some g → S g) (sub : ∀ i b, C i b → S b ∧ v.ownBlock ≠ some b) (disj : ∀ i j b, C i b → C j b → i = j)
      (kids : ∀ i (h : i < L.length), KsQ w (C i) L[i].1.ks L[i].2) : KsQ w S (L.map (·.1)) v
def KsP (S : Nat → Prop) (w : World) (ks : List El) (v : Value) : Prop := KsQ w S ks v
theorem row_cells {w : World} {B g cap n : Nat} {L : List (El × Value)} (h2 : w.ownsRow B 47 5 (.slice (some ⟨g, 0, none⟩) n cap) L.length (rowE L)) (i : Nat) (hi : i < L.length) : C5 w g (0 + i * 5) L[i].1.c L[i].1.t L[i].1.k L[i].1.b L[i].2 := by
  have hn : n = L.length := by
    rcases h2.2 with ⟨h0, _⟩ | ⟨g', cap', cur, he, _⟩
    · cases h0
    · injection he
  subst hn
  have hc : ∀ j, j < 5 → w.cell? ⟨g, 0 + i * 5 + j, none⟩ = (cells1 L[i])[j]? := by
    intro j hj
    have hr := rowE_at L i hi j hj
    have hx : (rowE L)[i * 5 + j]? = some ((cells1 L[i])[j]'(by simpa [cells1] using hj)) := by rw [hr]; exact List.getElem?_eq_getElem _
    have := h2.cells (g := g) rfl _ _ hx
    rw [show (⟨g, 0 + i * 5 + j, none⟩ : Addr) = (⟨g, 0, none⟩ : Addr).add (i * 5 + j) from by unfold Addr.add; split <;> simp_all <;> omega, this, ← hx, hr]
  exact ⟨hc 0 (by omega), hc 1 (by omega), hc 2 (by omega), hc 3 (by omega), hc 4 (by omega)⟩
theorem KsQ.at {S : Nat → Prop} {w : World} {ks : List El} {kv : Value} (h : KsQ w S ks kv) : KsAt w ks kv := by
  induction h with
  | mk S L v C own h2 few so sub disj kids ih =>
    rcases own.2 with ⟨rfl, h0⟩ | ⟨g, cap, cur, rfl, hB, hh, hnc, hcm, hcur, htk⟩
    · have : L = [] := List.eq_nil_of_length_eq_zero h0
      subst this
      exact KsAt.nil _
    · have hgl : g < w.heap.size := (Array.getElem?_eq_some_iff.1 hh).1
      have hlen : (L.map (·.1)).length = L.length := by simp
      rw [← hlen]
      have hz : ∀ i (h : i < L.length), (L.getD i (zeroE, .slice none 0 0)) = L[i] := fun i h => by simp [List.getD_eq_getElem?_getD, h]
      refine .mk _ (some ⟨g, 0, none⟩) cap g 0 (fun i => (L.getD i (zeroE, .slice none 0 0)).2) ⟨by omega, hcm⟩ (by rw [hlen]; exact h2) ?_ ?_
      · intro i hi
        have hi' : i < L.length := by simpa using hi
        rw [hz i hi', List.getElem_map]
        exact ⟨rfl, hgl, row_cells own i hi', few _ (List.getElem_mem hi')⟩
      · intro i hi
        have hi' : i < L.length := by simpa using hi
        simp only [hz i hi', List.getElem_map]
        exact ih i hi'
theorem KsP.at {S : Nat → Prop} {w : World} {ks : List El} {kv : Value} (h : KsP S w ks kv) : KsAt w ks kv := KsQ.at h
theorem KsQ.keep {S : Nat → Prop} {w w' : World} {ks : List El} {kv : Value} (h : KsQ w S ks kv) (hs : w.heap.size ≤ w'.heap.size) : ∀ T : Nat → Prop, (∀ g, g < w.heap.size → S g → w'.heap[g]? = w.heap[g]? ∧ T g) → KsQ w' T ks kv := by
  induction h with
  | mk S L v C own h2 few so sub disj kids ih =>
    intro T hb
    refine .mk T L v (fun i b => C i b ∧ b < w.heap.size) ⟨own.1, ?_⟩ h2 few (fun g hg => ?_) (fun i b hc => ⟨(hb b hc.2 (sub i b hc.1).1).2, (sub i b hc.1).2⟩) (fun i j b h1 h2 => disj i j b h1.1 h2.1) (fun i hi => ih i hi _ (fun g hg hS => ⟨(hb g hg (sub i g hS).1).1, hS, hg⟩))
    · rcases own.2 with h0 | ⟨g', cap, cur, rfl, hB, hh, r⟩
      · exact .inl h0
      · exact .inr ⟨g', cap, cur, rfl, hB, (hb g' (Array.getElem?_eq_some_iff.1 hh).1 (so g' rfl)).1.trans hh, r⟩
    · exact (hb g (own.lt g hg).2 (so g hg)).2
theorem KsP.keep {S T : Nat → Prop} {w w' : World} {ks : List El} {kv : Value} (h : KsP S w ks kv) (hs : w.heap.size ≤ w'.heap.size) (hb : ∀ g, g < w.heap.size → S g → w'.heap[g]? = w.heap[g]? ∧ T g) : KsP T w' ks kv := KsQ.keep h hs T hb
theorem KsP.later {S : Nat → Prop} {w w' : World} {ks : List El} {kv : Value} (h : KsP S w ks kv) (hb : Below w.heap.size w w') : KsP S w' ks kv :=
  h.keep hb.size fun g hg hS => ⟨hb.block g hg, hS⟩
theorem KsP.mono {S T : Nat → Prop} {w : World} {ks : List El} {kv : Value} (h : KsP S w ks kv) (hST : ∀ g, g < w.heap.size → S g → T g) : KsP T w ks kv :=
  h.keep (Nat.le_refl _) fun g hg hS => ⟨rfl, hST g hg hS⟩
theorem KsP.nil (S : Nat → Prop) (w : World) : KsP S w [] (.slice none 0 0) := KsQ.mk S [] (.slice none 0 0) (fun _ _ => False) (World.ownsRow_nil _ _ _ _) (by unfold FewK; simp) (fun p hp => by cases hp) (fun g hg => by cases hg) (fun i b h => h.elim) (fun i j b h => h.elim) (fun i h => absurd h (by simp))
end Go.Proofs.YtlkdbopdmieojaaGreat
