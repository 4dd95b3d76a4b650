/- Plain mathematics of chapter 12: what the calls of a transaction make of its state. No program, no conditions. -/
import Derived.Test.YtoleojljpaglhaaGreatPaB
import Derived.Test.YtoleojljpaglhaaGreatPbT
namespace Go.Proofs.YtoleojljpaglhaaGreat
/-- a page is written -/
def writeT (t : PT) (k : Int) (s : ByteArray) : PT := { t with pages := putF t.pages k s, sz := putSz t.pages t.sz k, dirty := fun x => x == k || t.dirty x, dz := if t.dirty k = true then t.dz else t.dz + 1 }
/-- a page is taken back -/
def freeT (t : PT) (k : Int) : PT := { t with pages := delF t.pages k, sz := delSz t.pages t.sz k }
def rootT (t : PT) (i : Nat) (v : Int) : PT := { t with roots := t.roots.set i v }
namespace Pb
open Go Go.RowKit Vd Wa
def cnt (n : Nat) (g : Nat → Bool) : Nat := ((List.range n).filter g).length
theorem cnt_succ (n : Nat) (g : Nat → Bool) : cnt (n + 1) g = cnt n g + (if g n = true then 1 else 0) := by
  unfold cnt
  rw [List.range_succ, List.filter_append, List.length_append]
  congr 1
  by_cases h : g n = true
  · rw [if_pos h, List.filter_cons_of_pos h]; rfl
  · rw [if_neg h, List.filter_cons_of_neg h]; rfl
theorem cnt_congr (n : Nat) (g g' : Nat → Bool) (h : ∀ q, q < n → g q = g' q) : cnt n g = cnt n g' := by
  unfold cnt
  congr 1
  exact List.filter_congr (fun q hq => h q (List.mem_range.1 hq))
theorem cnt_le (n : Nat) (g : Nat → Bool) : cnt n g ≤ n := by
  unfold cnt
  exact Nat.le_trans (List.length_filter_le _ _) (by simp)
theorem cnt_put (g : Nat → Bool) (a : Nat) : ∀ n, a < n → cnt n (fun q => q == a || g q) = if g a = true then cnt n g else cnt n g + 1 := by
  intro n
  induction n with
  | zero => intro h; omega
  | succ n ih =>
    intro h
    rw [cnt_succ, cnt_succ]
    by_cases e : n = a
    · subst e
      rw [cnt_congr n (fun q => q == n || g q) g (fun q hq => by
        have : (q == n) = false := by rw [beq_eq_false_iff_ne]; omega
        simp [this])]
      by_cases hg : g n = true
      · simp [hg]
      · simp [hg]
    · rw [ih (by omega)]
      have : (n == a) = false := by rw [beq_eq_false_iff_ne]; exact e
      by_cases hg : g a = true
      · rw [if_pos hg, if_pos hg]; simp [this]
      · rw [if_neg hg, if_neg hg]; simp [this]; omega
theorem cnt_del (g : Nat → Bool) (a : Nat) : ∀ n, a < n → cnt n (fun q => !(q == a) && g q) + (if g a = true then 1 else 0) = cnt n g := by
  intro n
  induction n with
  | zero => intro h; omega
  | succ n ih =>
    intro h
    rw [cnt_succ, cnt_succ]
    by_cases e : n = a
    · subst e
      rw [cnt_congr n (fun q => !(q == n) && g q) g (fun q hq => by
        have : (q == n) = false := by rw [beq_eq_false_iff_ne]; omega
        simp [this])]
      simp
    · have := ih (by omega)
      have h2 : (n == a) = false := by rw [beq_eq_false_iff_ne]; exact e
      simp only [h2, Bool.not_false, Bool.true_and]
      omega
theorem eqk (q : Nat) (k : Int) (h : 1 ≤ k) : (((q : Int) + 1) = k) ↔ q = (k - 1).toNat := by omega
theorem wf_put {n : Nat} {f : Int → Option ByteArray} {roots : List Int} {sz : Nat} (h : Wf n f roots sz) (k : Int) (s : ByteArray) (hk : 1 ≤ k ∧ k ≤ (n : Int) - 8) (hs : s.size = 256) : Wf n (putF f k s) roots (putSz f sz k) := by
  refine ⟨fun x b hx => ?_, fun x b hx => ?_, h.len, h.rt, ?_⟩
  · unfold putF at hx
    split at hx
    · rename_i e; subst e; exact hk
    · exact h.dom x b hx
  · unfold putF at hx
    split at hx
    · injection hx with hx; subst hx; exact hs
    · exact h.size x b hx
  · have e : ∀ q, usedP (putF f k s) q = (q == (k - 1).toNat || usedP f q) := fun q => by
      unfold usedP putF
      by_cases hq : q = (k - 1).toNat
      · rw [if_pos ((eqk q k hk.1).2 hq)]
        rw [hq]; simp
      · rw [if_neg (fun c => hq ((eqk q k hk.1).1 c))]
        have : (q == (k - 1).toNat) = false := by rw [beq_eq_false_iff_ne]; exact hq
        rw [this, Bool.false_or]
    have h1 := cnt_put (usedP f) (k - 1).toNat (n - 8) (by omega)
    rw [← cnt_congr (n - 8) _ _ (fun q _ => e q)] at h1
    have h2 := h.sz
    have e2 : usedP f (k - 1).toNat = (f k).isSome := by
      unfold usedP
      rw [show (((k - 1).toNat : Int) + 1) = k from by omega]
    rw [e2] at h1
    unfold putSz
    show _ = cnt (n - 8) (usedP (putF f k s))
    rw [h1, h2]
    rfl
theorem wf_del {n : Nat} {f : Int → Option ByteArray} {roots : List Int} {sz : Nat} (h : Wf n f roots sz) (k : Int) (hk : 1 ≤ k ∧ k ≤ (n : Int) - 8) : Wf n (delF f k) roots (delSz f sz k) := by
  refine ⟨fun x b hx => ?_, fun x b hx => ?_, h.len, h.rt, ?_⟩
  · unfold delF at hx
    split at hx
    · cases hx
    · exact h.dom x b hx
  · unfold delF at hx
    split at hx
    · cases hx
    · exact h.size x b hx
  · have e : ∀ q, usedP (delF f k) q = (!(q == (k - 1).toNat) && usedP f q) := fun q => by
      unfold usedP delF
      by_cases hq : q = (k - 1).toNat
      · rw [if_pos ((eqk q k hk.1).2 hq)]
        rw [hq]; simp
      · rw [if_neg (fun c => hq ((eqk q k hk.1).1 c))]
        have : (q == (k - 1).toNat) = false := by rw [beq_eq_false_iff_ne]; exact hq
        rw [this, Bool.not_false, Bool.true_and]
    have h1 := cnt_del (usedP f) (k - 1).toNat (n - 8) (by omega)
    rw [← cnt_congr (n - 8) _ _ (fun q _ => e q)] at h1
    have h2 : sz = cnt (n - 8) (usedP f) := h.sz
    have e2 : usedP f (k - 1).toNat = (f k).isSome := by
      unfold usedP
      rw [show (((k - 1).toNat : Int) + 1) = k from by omega]
    rw [e2] at h1
    unfold delSz
    show _ = cnt (n - 8) (usedP (delF f k))
    split <;> rename_i h3
    · rw [if_pos h3] at h1; omega
    · rw [if_neg h3] at h1; omega
theorem wf_root {n : Nat} {f : Int → Option ByteArray} {roots : List Int} {sz : Nat} (h : Wf n f roots sz) (i : Nat) (v : Int) (hv : 0 ≤ v ∧ v ≤ 5000) : Wf n f (roots.set i v) sz :=
  ⟨h.dom, h.size, by rw [List.length_set]; exact h.len, fun r hr => by
    rcases List.mem_or_eq_of_mem_set hr with h1 | h1
    · exact h.rt r h1
    · rw [h1]; exact hv, h.sz⟩
/-- a transaction's state over the pager's -/
structure TxI (P : PP) (t : PT) : Prop where
  ok : TxOk P t
  dd : ∀ k, t.dirty k = true → 1 ≤ k ∧ k ≤ (P.n : Int) - 8
  dz : t.dz = cnt (P.n - 8) (fun q => t.dirty ((q : Int) + 1))
theorem TxI.dz_le {P : PP} {t : PT} (h : TxI P t) : t.dz ≤ P.n := by rw [h.dz]; exact Nat.le_trans (cnt_le _ _) (by omega)
theorem wf_sz_le {n : Nat} {f : Int → Option ByteArray} {roots : List Int} {sz : Nat} (h : Wf n f roots sz) : sz ≤ n - 8 := by
  have : sz = cnt (n - 8) (usedP f) := h.sz
  rw [this]
  exact cnt_le _ _
theorem TxI.fresh {P : PP} (h : Wf P.n P.pages P.roots P.sz) : TxI P { pages := P.pages, sz := P.sz, roots := P.roots, dirty := fun _ => false, dz := 0 } :=
  ⟨⟨h, fun _ _ hk _ => hk⟩, fun _ h => by simp at h, by
    show 0 = cnt _ _
    unfold cnt
    rw [List.filter_eq_nil_iff.2 (by simp)]; rfl⟩
theorem TxI.write {P : PP} {t : PT} (h : TxI P t) (k : Int) (s : ByteArray) (hk : 1 ≤ k ∧ k ≤ (P.n : Int) - 8) (hs : s.size = 256) : TxI P (writeT t k s) := by
  refine ⟨⟨wf_put h.ok.wf k s hk hs, fun x b hx hd => ?_⟩, fun x hx => ?_, ?_⟩
  · have hd : (x == k || t.dirty x) = false := hd
    rw [Bool.or_eq_false_iff, beq_eq_false_iff_ne] at hd
    have hx : putF t.pages k s x = some b := hx
    unfold putF at hx
    rw [if_neg hd.1] at hx
    exact h.ok.same x b hx hd.2
  · have hx : (x == k || t.dirty x) = true := hx
    rw [Bool.or_eq_true, beq_iff_eq] at hx
    rcases hx with rfl | hx
    · exact hk
    · exact h.dd x hx
  · have h1 := cnt_put (fun q => t.dirty ((q : Int) + 1)) (k - 1).toNat (P.n - 8) (by omega)
    have e : ∀ q : Nat, ((((q : Int) + 1) == k) || t.dirty ((q : Int) + 1)) = (q == (k - 1).toNat || t.dirty ((q : Int) + 1)) := fun q => by
      congr 1
      rw [Bool.eq_iff_iff, beq_iff_eq, beq_iff_eq]
      exact eqk q k hk.1
    rw [← cnt_congr (P.n - 8) _ _ (fun q _ => e q)] at h1
    have e2 : (((k - 1).toNat : Int) + 1) = k := by omega
    show (if t.dirty k = true then t.dz else t.dz + 1) = _
    rw [e2] at h1
    rw [h.dz]
    exact h1.symm
theorem TxI.free {P : PP} {t : PT} (h : TxI P t) (k : Int) (hk : 1 ≤ k ∧ k ≤ (P.n : Int) - 8) : TxI P (freeT t k) :=
  ⟨⟨wf_del h.ok.wf k hk, fun x b hx hd => by
    have hx : delF t.pages k x = some b := hx
    unfold delF at hx
    split at hx
    · cases hx
    · exact h.ok.same x b hx hd⟩, h.dd, h.dz⟩
theorem TxI.root {P : PP} {t : PT} (h : TxI P t) (i : Nat) (v : Int) (hv : 0 ≤ v ∧ v ≤ 5000) : TxI P (rootT t i v) := ⟨⟨wf_root h.ok.wf i v hv, h.ok.same⟩, h.dd, h.dz⟩
end Pb
end Go.Proofs.YtoleojljpaglhaaGreat
