/- Plain mathematics of chapter 12: what Open makes of a disk. No program, no conditions. -/
import Derived.Test.YtoleojljpaglhaaGreatPbT
namespace Go.Proofs.YtoleojljpaglhaaGreat.Pb
open Go Go.RowKit Vd Wa
/-- what stands on a disk that is opened: what is to be written first -/
structure Cold (d : VD) (n : Nat) (f : Int → Option ByteArray) (roots : List Int) (sz : Nat) (l : List (Nat × List UInt8)) (ga : Nat) : Prop where
  on : d.on = true
  q : d.q = []
  hn : 8 ≤ n
  hn2 : n ≤ 5000
  wf : Wf n f roots sz
  len : 12 * n ≤ d.secs.length
  z : ∀ s ∈ d.secs, s.length = 64
  body : (l = [] ∧ Fnd d.secs n none ga ∧ Holds d.secs n f roots) ∨ ∃ ch, l = targL n f roots ch ∧ Fnd d.secs n (some (recL n f roots ch)) ga ∧ Near d.secs f ch ∧ ∀ p ∈ ch, ∃ b, f p = some b
theorem cold_of {d : VD} {n : Nat} {f : Int → Option ByteArray} {roots : List Int} {sz : Nat} (hon : d.on = true) (hq : d.q = []) (hn : 8 ≤ n) (hn2 : n ≤ 5000) (hw : Wf n f roots sz) (hl : 12 * n ≤ d.secs.length) (hz : ∀ s ∈ d.secs, s.length = 64) (h : Rec d.secs n f roots) : ∃ l ga, Cold d n f roots sz l ga := by
  rcases h with ⟨ga, h1, h2⟩ | ⟨ga, ch, h1, h2, h3⟩
  · exact ⟨[], ga, hon, hq, hn, hn2, hw, hl, hz, .inl ⟨rfl, h1, h2⟩⟩
  · exact ⟨_, ga, hon, hq, hn, hn2, hw, hl, hz, .inr ⟨ch, rfl, h1, h2, h3⟩⟩
theorem Cold.places {d : VD} {n : Nat} {f : Int → Option ByteArray} {roots : List Int} {sz : Nat} {l : List (Nat × List UInt8)} {ga : Nat} (h : Cold d n f roots sz l ga) : ∀ x ∈ l, x.1 < d.secs.length ∧ x.2.length = 64 := by
  intro x hx
  rcases h.body with ⟨rfl, _⟩ | ⟨ch, rfl, _, _, hc⟩
  · cases hx
  · have := (targ_place h.wf h.hn ch hc x hx).1
    have := h.len
    exact ⟨by omega, targ_64 h.wf h.hn2 ch hc x hx⟩
/-- what settle makes of it -/
theorem Cold.settle {d : VD} {n : Nat} {f : Int → Option ByteArray} {roots : List Int} {sz : Nat} {l : List (Nat × List UInt8)} {ga : Nat} (h : Cold d n f roots sz l ga) :
    Rel d (settleV d l).2 l.length ∧ (((settleV d l).1 = 0 ∧ (settleV d l).2.on = true ∧ (settleV d l).2.q = [] ∧ Holds (settleV d l).2.secs n f roots ∧ Safe (fun s => Rec s n f roots) (settleV d l).2 ∧ (∀ i, 4 * n ≤ i → (settleV d l).2.secs.getD i [] = d.secs.getD i []) ∧ (∀ s ∈ (settleV d l).2.secs, s.length = 64)) ∨ ((settleV d l).1 = 83 ∧ d.room ≠ -1) ∨ ((settleV d l).1 = 80 ∧ Off (fun s => Rec s n f roots) (settleV d l).2 ∧ d.fuse ≠ none)) := by
  have hpl := h.places
  have hlq : lay d.secs d.q = d.secs := by rw [h.q]; rfl
  rcases h.body with ⟨rfl, hF, hH⟩ | ⟨ch, hl, hF, hN, hc⟩
  · have hs : (settleV d []) = (0, d) := rfl
    rw [hs]
    exact ⟨Rel.refl d, .inl ⟨rfl, h.on, h.q, hH, safe_idle h.on h.q (.inl ⟨ga, hF, hH⟩), fun _ _ => rfl, h.z⟩⟩
  · have hS : Safe (fun s => Fnd s n (some (recL n f roots ch)) ga ∧ Near s f ch) d := safe_idle h.on h.q ⟨hF, hN⟩
    have hall : ∀ s, (∀ x ∈ s, x.length = 64) → (Fnd s n (some (recL n f roots ch)) ga ∧ Near s f ch) → ∀ x ∈ l, ∀ y : List UInt8, y.length = 64 → (Fnd (s.set x.1 y) n (some (recL n f roots ch)) ga ∧ Near (s.set x.1 y) f ch) := fun s hz hs x hx y hy => by
      rw [hl] at hx
      have h1 := (targ_place h.wf h.hn ch hc x hx).1
      exact ⟨hs.1.far (high_set h1 y (fun _ _ => rfl)), near_set h.wf h.hn ch hc hs.2 x hx y⟩
    obtain ⟨hr, h2⟩ := safe_settle l hS hpl (by rw [hlq]; exact h.z) hall
    refine ⟨hr, ?_⟩
    rcases h2 with ⟨e0, hs2, hq, hx⟩ | ⟨e0, _, _, _, hrm⟩ | ⟨e0, ho, hfu⟩
    · have hq0 : (settleV d l).2.q = [] := by
        rcases hx with e | e
        · rw [e]; exact h.q
        · exact e
      rw [hq0, hlq] at hq
      have hq : (settleV d l).2.secs = lay d.secs l := hq
      refine .inl ⟨e0, hs2.1, hq0, ?_, hs2.imp (fun s hs => .inr ⟨ga, ch, hs.1, hs.2, hc⟩), fun i hi => ?_, ?_⟩
      · rw [hq, hl]
        exact lay_targ h.wf h.hn h.hn2 ch _ (by have := h.len; omega) hc hN
      · rw [hq]
        exact lay_far l _ i (fun x hx => by
          rw [hl] at hx
          have := (targ_place h.wf h.hn ch hc x hx).1
          omega)
      · rw [hq]
        exact lay_z _ _ h.z (fun x hx => (hpl x hx).2)
    · exact .inr (.inl ⟨e0, hrm⟩)
    · exact .inr (.inr ⟨e0, ho.imp (fun s hs => .inr ⟨ga, ch, hs.1, hs.2, hc⟩), hfu⟩)
theorem recL_len {n : Nat} {f : Int → Option ByteArray} {roots : List Int} {sz : Nat} (k : Wf n f roots sz) (hn2 : n ≤ 5000) : ∀ ch : List Int, (∀ p ∈ ch, ∃ b, f p = some b) → (recL n f roots ch).length = 2048 + 260 * ch.length := by
  intro ch hc
  unfold recL
  rw [List.length_append, metaL_length n f roots k.len hn2]
  congr 1
  induction ch with
  | nil => rfl
  | cons p l ih =>
    obtain ⟨b, hb⟩ := hc p List.mem_cons_self
    have hz : b.data.toList.length = 256 := by rw [Array.length_toList]; exact k.size p b hb
    rw [List.flatMap_cons, List.length_append, ih (fun x hx => hc x (List.mem_cons_of_mem _ hx)), List.length_append, Oct.beB_length, hb, List.length_cons]
    show 4 + b.data.toList.length + _ = _
    omega
theorem allP_rec (rec : List UInt8) : (allP [rec]).length = max 1 ((rec.length + 47) / 48) := by rw [allP_one, kinded_length, pieces_len]
/-- a record that is found is not longer than the log -/
theorem found_short {s : List (List UInt8)} {n : Nat} {rec : List UInt8} {ga : Nat} (h : Fnd s n (some rec) ga) : (allP [rec]).length ≤ 8 * n := by
  rcases h with ⟨h, _⟩ | ⟨r, T, _, _, hA, ⟨h1, h2⟩ | ⟨h1, _⟩⟩
  · cases h
  · injection h1 with h1
    rw [h1, ← h2]
    exact hA.tn
  · cases h1
theorem Cold.short {d : VD} {n : Nat} {f : Int → Option ByteArray} {roots : List Int} {sz : Nat} {l : List (Nat × List UInt8)} {ga : Nat} (h : Cold d n f roots sz l ga) : l.length ≤ 40000 := by
  rcases h.body with ⟨rfl, _⟩ | ⟨ch, rfl, hF, _, hc⟩
  · exact Nat.zero_le _
  · have h1 := found_short hF
    rw [allP_rec, recL_len h.wf h.hn2 ch hc] at h1
    have h2 := h.hn2
    have hs : ∀ (k a : Nat) (b : List UInt8), (secL a k b).length = k := by
      intro k
      induction k with
      | zero => intro _ _; rfl
      | succ k ih => intro a b; rw [secL, List.length_cons, ih]
    have e : ∀ l : List Int, (l.flatMap fun p => secL ((p.toNat - 1) * 4) 4 ((f p).getD ⟨#[]⟩).data.toList).length = 4 * l.length := by
      intro l
      induction l with
      | nil => rfl
      | cons p l ih => rw [List.flatMap_cons, List.length_append, ih, hs, List.length_cons]; omega
    unfold targL
    rw [List.length_append, hs, e]
    omega
end Go.Proofs.YtoleojljpaglhaaGreat.Pb
/- Plain mathematics of chapter 12: a transaction that changes nothing; a record fits. No program, no conditions. -/
namespace Go.Proofs.YtoleojljpaglhaaGreat.Pb
open Go Go.RowKit Vd Wa
theorem same_of_meta {n : Nat} {f f' : Int → Option ByteArray} {roots : List Int} {sz sz' : Nat} (k : Wf n f roots sz) (k' : Wf n f' roots sz') (hn : 8 ≤ n) (hsub : ∀ x b, f' x = some b → f x = some b) (hm : metaL n f' roots = metaL n f roots) : f' = f ∧ sz' = sz := by
  have hu : ∀ q, q < n - 8 → usedP f' q = usedP f q := fun q hq => by
    rw [← bit_read n f' roots k'.len q (by omega), ← bit_read n f roots k.len q (by omega), hm]
  have hf : f' = f := by
    funext x
    cases h1 : f' x with
    | some b => exact (hsub x b h1).symm
    | none =>
      cases h2 : f x with
      | none => rfl
      | some b =>
        exfalso
        have hd := k.dom x b h2
        have hd' := hd.2
        obtain ⟨q, rfl⟩ : ∃ q : Nat, x = (q : Int) + 1 := ⟨(x - 1).toNat, by omega⟩
        have := hu q (by omega)
        unfold usedP at this
        rw [h1, h2] at this
        cases this
  subst hf
  exact ⟨rfl, by rw [k'.sz, k.sz]⟩
theorem rec_fits {n : Nat} {f : Int → Option ByteArray} {roots : List Int} {sz : Nat} (k : Wf n f roots sz) (hn : 8 ≤ n) (hn2 : n ≤ 5000) (ch : List Int) (hc : ∀ p ∈ ch, ∃ b, f p = some b) (hl : ch.length ≤ n - 8) : (allP [recL n f roots ch]).length ≤ 8 * n := by
  rw [allP_rec, recL_len k hn2 ch hc]
  omega
end Go.Proofs.YtoleojljpaglhaaGreat.Pb
