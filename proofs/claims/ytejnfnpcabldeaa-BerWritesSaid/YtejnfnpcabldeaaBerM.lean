/- Elements in memory: a list of elements as a slice of structs, whatever its depth. -/
import Derived.Test.YtejnfnpcabldeaaProg
import Derived.Test.YtejnfnpcabldeaaBerP
import Derived.Test.YtejnfnpcabldeaaWords
import Derived.WalkKit
import Derived.ProofKit
import Derived.Lib.Hide
import Derived.LoopTactic
import Derived.Outline
namespace Go.Proofs.Ytejnfnpcabldeaa
open Go.RowKit Ber
/-- an element's five values -/
def ev (c t : Int) (k : Bool) (b : ByteArray) (kv : Value) : Array Value := #[.int .i64 c, .int .i64 t, .bool k, .string b, kv]
/-- an element's five cells -/
structure C5 (w : World) (g o : Nat) (c t : Int) (k : Bool) (b : ByteArray) (kv : Value) : Prop where
  c0 : w.cell? ⟨g, o, none⟩ = some (.int .i64 c)
  c1 : w.cell? ⟨g, o + 1, none⟩ = some (.int .i64 t)
  c2 : w.cell? ⟨g, o + 2, none⟩ = some (.bool k)
  c3 : w.cell? ⟨g, o + 3, none⟩ = some (.string b)
  c4 : w.cell? ⟨g, o + 4, none⟩ = some kv
/-- how large a text or a list may be -/
def Few (n : Nat) : Prop := n ≤ 140737488351232
def FewK (n : Nat) : Prop := n * 64 ≤ 140737488351232
theorem Few.le {n : Nat} (h : Few n) : n ≤ 140737488351232 := h
theorem FewK.le {n : Nat} (h : FewK n) : n * 64 ≤ 140737488351232 := h
/-- a list of elements in memory -/
inductive KsAt (w : World) : List El → Value → Prop
  | mk (ks : List El) (a : Option Addr) (cap g o : Nat) (f : Nat → Value) (h1 : ks.length ≤ cap ∧ cap ≤ maxLen) (h2 : FewK ks.length)
      (h3 : ∀ i (h : i < ks.length), a = some ⟨g, o, none⟩ ∧ g < w.heap.size ∧ C5 w g (o + i * 5) ks[i].c ks[i].t ks[i].k ks[i].b (f i) ∧ Few ks[i].b.size)
      (h4 : ∀ i (h : i < ks.length), KsAt w ks[i].ks (f i)) : KsAt w ks (.slice a ks.length cap)
/-- an element in memory -/
def ElAt (w : World) (e : El) (v : Value) : Prop := ∃ kv, v = .agg (ev e.c e.t e.k e.b kv) ∧ Few e.b.size ∧ KsAt w e.ks kv
theorem C5.below {w w' : World} {B g o : Nat} {c t : Int} {k : Bool} {b : ByteArray} {kv : Value} (h : C5 w g o c t k b kv) (hb : Below B w w') (hg : g < B) : C5 w' g o c t k b kv :=
  ⟨(hb.cell (p := ⟨g, _, none⟩) hg).trans h.c0, (hb.cell (p := ⟨g, _, none⟩) hg).trans h.c1, (hb.cell (p := ⟨g, _, none⟩) hg).trans h.c2, (hb.cell (p := ⟨g, _, none⟩) hg).trans h.c3, (hb.cell (p := ⟨g, _, none⟩) hg).trans h.c4⟩
theorem KsAt.later {w w' : World} (hb : Below w.heap.size w w') {ks : List El} {kv : Value} (h : KsAt w ks kv) : KsAt w' ks kv := by
  induction h with
  | mk ks a cap g o f h1 h2 h3 h4 ih =>
    exact .mk ks a cap g o f h1 h2 (fun i hi => ⟨(h3 i hi).1, Nat.lt_of_lt_of_le (h3 i hi).2.1 hb.size, (h3 i hi).2.2.1.below hb (h3 i hi).2.1, (h3 i hi).2.2.2⟩) ih
theorem ElAt.later {w w' : World} (hb : Below w.heap.size w w') {e : El} {v : Value} (h : ElAt w e v) : ElAt w' e v := by
  obtain ⟨kv, h1, h2, h3⟩ := h
  exact ⟨kv, h1, h2, h3.later hb⟩
theorem KsAt.len {w : World} {ks : List El} {kv : Value} (h : KsAt w ks kv) : ∃ a cap, kv = .slice a ks.length cap ∧ (ks.length ≤ cap ∧ cap ≤ maxLen) ∧ FewK ks.length := by
  cases h
  exact ⟨_, _, rfl, by assumption, by assumption⟩
theorem KsAt.nil (w : World) : KsAt w [] (.slice none 0 0) := .mk [] none 0 0 0 (fun _ => .slice none 0 0) ⟨Nat.le_refl _, Nat.zero_le _⟩ (by unfold FewK; simp) (fun i h => absurd h (by simp)) (fun i h => absurd h (by simp))
/-- the kid at a place -/
theorem kid_at {w : World} {ks : List El} {a : Option Addr} {g o : Nat} {f : Nat → Value} (h3 : ∀ i (h : i < ks.length), a = some ⟨g, o, none⟩ ∧ g < w.heap.size ∧ C5 w g (o + i * 5) ks[i].c ks[i].t ks[i].k ks[i].b (f i) ∧ Few ks[i].b.size)
    (h4 : ∀ i (h : i < ks.length), KsAt w ks[i].ks (f i)) (j : Nat) (h : j < ks.length) :
    ∃ (kc kt : Int) (kk : Bool) (kb : ByteArray) (a2 : Option Addr) (n2 cap2 : Nat), a = some ⟨g, o, none⟩ ∧ g < w.heap.size ∧ Few kb.size ∧ ks[j] = .mk kc kt kk kb ks[j].ks ∧ f j = .slice a2 n2 cap2 ∧ n2 = ks[j].ks.length ∧ C5 w g (o + j * 5) kc kt kk kb (.slice a2 n2 cap2) := by
  obtain ⟨a2, cap2, hf, _, _⟩ := (h4 j h).len
  obtain ⟨ha, hg, hc, hb⟩ := h3 j h
  rw [hf] at hc
  exact ⟨_, _, _, _, a2, _, cap2, ha, hg, hb, El.eta _, hf, rfl, hc⟩
/-- the kid at a place, seen from a later world -/
theorem C5.later {w w' : World} (hb : Below w.heap.size w w') {g o : Nat} {c t : Int} {k : Bool} {b : ByteArray} {kv : Value} (h : C5 w g o c t k b kv) (hg : g < w.heap.size) : C5 w' g o c t k b kv := h.below hb hg
/-- a list of elements in memory whose lists lie in blocks of a kind -/
inductive KsP (S : Nat → Prop) (w : World) : List El → Value → Prop
  | mk (ks : List El) (a : Option Addr) (cap g o : Nat) (f : Nat → Value) (h1 : ks.length ≤ cap ∧ cap ≤ maxLen) (h2 : FewK ks.length)
      (h3 : ∀ i (h : i < ks.length), a = some ⟨g, o, none⟩ ∧ (g < w.heap.size ∧ S g) ∧ C5 w g (o + i * 5) ks[i].c ks[i].t ks[i].k ks[i].b (f i) ∧ Few ks[i].b.size)
      (h4 : ∀ i (h : i < ks.length), KsP S w ks[i].ks (f i)) : KsP S w ks (.slice a ks.length cap)
theorem KsP.at {S : Nat → Prop} {w : World} {ks : List El} {kv : Value} (h : KsP S w ks kv) : KsAt w ks kv := by
  induction h with
  | mk ks a cap g o f h1 h2 h3 h4 ih => exact .mk ks a cap g o f h1 h2 (fun i hi => ⟨(h3 i hi).1, (h3 i hi).2.1.1, (h3 i hi).2.2.1, (h3 i hi).2.2.2⟩) ih
theorem C5.block {w w' : World} {g o : Nat} {c t : Int} {k : Bool} {b : ByteArray} {kv : Value} (h : C5 w g o c t k b kv) (hb : w'.heap[g]? = w.heap[g]?) : C5 w' g o c t k b kv := by
  have e : ∀ j, w'.cell? ⟨g, j, none⟩ = w.cell? ⟨g, j, none⟩ := fun j => by simp only [World.cell?, hb]
  exact ⟨(e _).trans h.c0, (e _).trans h.c1, (e _).trans h.c2, (e _).trans h.c3, (e _).trans h.c4⟩
theorem KsP.keep {S T : Nat → Prop} {w w' : World} {ks : List El} {kv : Value} (h : KsP S w ks kv) (hs : w.heap.size ≤ w'.heap.size) (hb : ∀ g, g < w.heap.size → S g → w'.heap[g]? = w.heap[g]? ∧ T g) : KsP T w' ks kv := by
  induction h with
  | mk ks a cap g o f h1 h2 h3 h4 ih => exact .mk ks a cap g o f h1 h2 (fun i hi => ⟨(h3 i hi).1, ⟨Nat.lt_of_lt_of_le (h3 i hi).2.1.1 hs, (hb g (h3 i hi).2.1.1 (h3 i hi).2.1.2).2⟩, (h3 i hi).2.2.1.block (hb g (h3 i hi).2.1.1 (h3 i hi).2.1.2).1, (h3 i hi).2.2.2⟩) ih
theorem KsP.later {S : Nat → Prop} {w w' : World} {ks : List El} {kv : Value} (h : KsP S w ks kv) (hb : Below w.heap.size w w') : KsP S w' ks kv :=
  h.keep hb.size fun g hg hS => ⟨hb.block g hg, hS⟩
theorem KsP.mono {S T : Nat → Prop} {w : World} {ks : List El} {kv : Value} (h : KsP S w ks kv) (hST : ∀ g, g < w.heap.size → S g → T g) : KsP T w ks kv :=
  h.keep (Nat.le_refl _) fun g hg hS => ⟨rfl, hST g hg hS⟩
theorem KsP.nil (S : Nat → Prop) (w : World) : KsP S w [] (.slice none 0 0) := .mk [] none 0 0 0 (fun _ => .slice none 0 0) ⟨Nat.le_refl _, Nat.zero_le _⟩ (by unfold FewK; simp) (fun i h => absurd h (by simp)) (fun i h => absurd h (by simp))
end Go.Proofs.Ytejnfnpcabldeaa
