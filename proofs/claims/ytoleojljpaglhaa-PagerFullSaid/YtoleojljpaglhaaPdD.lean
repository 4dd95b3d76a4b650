/- A list of changes opened. The lemma open_slice_fields began as a block of the kit's page extra-structs.md, which gives it to be copied. -/
import Derived.Test.YtoleojljpaglhaaPdC
import Derived.Test.YtoleojljpaglhaaPostB
import Derived.Deep.Slices
import Derived.Deep.Fields
import Derived.ChangeSame
namespace Go.Proofs.Ytoleojljpaglhaa
open Go.ChangeShapes Go.WideShapes Go.Deep Go.RowKit
set_option maxRecDepth 20000
section
variable {H : Type} {enc : TypeId × Value → H} {P : Program} {w : World} {base : Nat} {spare : Nat → Bool} {held : Bool}
theorem open_slice_fields {t e : TypeId} {fs : Array Field} {fuel : Nat} {cs : List Value} {x : DataW H × List MemPlace} (ht : P.underlying t = some (.slice e)) (he : P.underlying e = some (.struct fs))
    (hone : oneCellFields P fs = true) (hC : P.cellsOf e = fs.size) (h : DataW.trod enc P w base spare held fuel t cs = some x) :
    (cs = [.slice none 0 0] ∧ x = (.nil, [])) ∨
    ∃ (a : Addr) (len cap m : Nat) (D : Nat → DataW H) (Pl : Nat → List MemPlace), cs = [.slice (some a) len cap] ∧ base ≤ a.block ∧ len ≤ cap ∧ cap ≤ maxLen ∧ m = (if spare a.block then cap else len) ∧
      x = (.slice ((List.range len).map D) ((List.range (m - len)).map fun j => D (len + j)), MemPlace.row a (m * fs.size) ++ (List.range m).flatMap Pl) ∧
      ∀ i, i < m → ∃ (ys : List (DataW H × List MemPlace)) (n : Nat), D i = .agg (ys.map (·.1)) ∧ Pl i = ys.flatMap (·.2) ∧ ys.length = fs.size ∧
        ∀ (j : Nat) (f : Field), fs[j]? = some f → ∃ (v : Value) (y : DataW H × List MemPlace), w.cell? (a.add (i * fs.size + j)) = some v ∧ ys[j]? = some y ∧ DataW.trod enc P w base spare held n f.type [v] = some y := by
  rcases open_slice ht h with h0 | ⟨a, len, cap, m, n, D, Pl, hcs, hb, hl, hm, hmm, hx, hi⟩
  · exact .inl h0
  · refine .inr ⟨a, len, cap, m, D, Pl, hcs, hb, hl, hm, hmm, by rw [hC] at hx; exact hx, fun i him => ?_⟩
    obtain ⟨cs', hc, ht'⟩ := hi i him
    rw [hC] at hc
    obtain ⟨ys, n', hn', hy, hlen, hyl, hf⟩ := DataW.trod_struct he ht'
    obtain ⟨_, hcl, hat⟩ := World.cells?_some hc
    simp only [Prod.mk.injEq] at hy
    refine ⟨ys, n', hy.1, hy.2, hyl, fun j f hj => ?_⟩
    obtain ⟨ho, hk⟩ := hone_of hone j f hj
    have hjl : j < fs.size := (Array.getElem?_eq_some_iff.1 hj).1
    have hcell := hat j hjl
    have hv : cs'[j]? = some (cs'[j]'(by omega)) := List.getElem?_eq_getElem (by omega)
    have h1 := hf j f hj
    rw [ho, hk] at h1
    have hone' : (cs'.drop j).take 1 = [cs'[j]'(by omega)] := by
      rw [List.drop_eq_getElem_cons (by omega)]
      rfl
    rw [hone'] at h1
    have hys : ys[j]? = some (ys[j]'(by omega)) := List.getElem?_eq_getElem (by omega)
    refine ⟨_, _, ?_, hys, h1.trans hys⟩
    rw [← Go.Deep.add_add, hcell, hv]
end
theorem choose_chs {n : Nat} {p : Nat → ChV → Prop} (h : ∀ i, i < n → ∃ x, p i x) : ∃ f : Nat → ChV, ∀ i, i < n → p i (f i) := by
  classical
  refine ⟨fun i => if hi : i < n then Classical.choose (h i hi) else ⟨0, 0, 0, 0⟩, fun i hi => ?_⟩
  simp only [dif_pos hi]
  exact Classical.choose_spec (h i hi)
theorem wf_i64_le {n : Int} (h : (Lit.int .i64 n).wf = true) : n ≤ 9223372036854775807 := by
  have h2 : n ≤ IntKind.i64.max := by simp [Lit.wf] at h; exact h.2
  have e : IntKind.i64.max = 9223372036854775807 := by decide
  omega
theorem ch_one : oneCellFields Try.prog (match Try.prog.underlying 61 with | some (.struct fs) => fs | _ => #[]) = true := by kernel_rfl
theorem ch_cells : Try.prog.cellsOf 61 = 4 := by kernel_rfl
theorem open_chsAt {H : Type} {enc : TypeId × Value → H} {W : World} {b0 : Nat} {v : Value} {d : DataW H} {ps : List MemPlace} (hv : Value.okWide Try.prog W .any b0 56 v) (h : DataW.Trod enc Try.prog W 0 (fun _ => true) true 56 v d ps) :
    ∃ A n cap cs, v = .slice A n cap ∧ ChsAt W A n cs := by
  obtain ⟨A, n, cap, rfl⟩ := okWide_slice Try.underlying56 hv
  obtain ⟨fuel, hf⟩ := h
  rcases open_slice_fields Try.underlying56 Try.underlying61 ch_one ch_cells hf with ⟨hcs, _⟩ | ⟨a, len, cap', m, D, Pl, hcs, _, hl, hm, hmm, _, hi⟩
  · simp [Value.cells] at hcs
    obtain ⟨rfl, rfl, rfl⟩ := hcs
    exact ⟨none, 0, 0, [], rfl, rfl, Nat.zero_le _, fun t ht => by simp at ht⟩
  · simp [Value.cells] at hcs
    obtain ⟨rfl, rfl, rfl⟩ := hcs
    simp only [if_true] at hmm
    have hone : ∀ t, t < n → ∃ o : ChV, ∀ j u, (o.cells)[j]? = some u → W.cell? (a.add (t * 4 + j)) = some u := by
      intro t ht
      obtain ⟨ys, nn, _, _, _, hfld⟩ := hi t (by omega)
      obtain ⟨v0, y0, c0, _, t0⟩ := hfld 0 _ rfl
      obtain ⟨v1, y1, c1, _, t1⟩ := hfld 1 _ rfl
      obtain ⟨v2, y2, c2, _, t2⟩ := hfld 2 _ rfl
      obtain ⟨v3, y3, c3, _, t3⟩ := hfld 3 _ rfl
      obtain ⟨x0, e0, _, _⟩ := DataW.trod_int Try.underlying3 t0
      obtain ⟨x1, e1, _, _⟩ := DataW.trod_int Try.underlying3 t1
      obtain ⟨x2, e2, _, _⟩ := DataW.trod_int Try.underlying3 t2
      obtain ⟨x3, e3, _, _⟩ := DataW.trod_int Try.underlying3 t3
      injection e0 with e0 _
      injection e1 with e1 _
      injection e2 with e2 _
      injection e3 with e3 _
      subst e0 e1 e2 e3
      refine ⟨⟨x0, x1, x2, x3⟩, fun j u hu => ?_⟩
      unfold ChV.cells at hu
      match j, hu with
      | 0, hu => simp at hu; subst hu; exact c0
      | 1, hu => simp at hu; subst hu; exact c1
      | 2, hu => simp at hu; subst hu; exact c2
      | 3, hu => simp at hu; subst hu; exact c3
      | j + 4, hu => simp at hu
    obtain ⟨f, hf2⟩ := (choose_chs hone)
    refine ⟨some a, n, cap, (List.range n).map f, rfl, by simp, by omega, fun t ht => ?_⟩
    have ht' : t < n := by simpa using ht
    have hft := hf2 t ht'
    have e : ((List.range n).map f)[t] = f t := by simp
    rw [e]
    have hcell := hft 0 _ rfl
    have hlt := World.block_lt_of_cell? _ _ hcell
    rw [addr_add_block] at hlt
    exact ⟨a, rfl, hlt, hft⟩
end Go.Proofs.Ytoleojljpaglhaa
