/- Plain mathematics of chapter 12: the bytes of roots and pages, and what stands on the disk. No program, no conditions. -/
import Derived.Test.YtoleojljpaglhaaGreatWbP
namespace Go.Proofs.YtoleojljpaglhaaGreat.Pb
open Go Go.RowKit Vd Wa
/-- eight bits -/
def b8 (a0 a1 a2 a3 a4 a5 a6 a7 : Bool) : Nat := (cond a0 1 0) + (cond a1 2 0) + (cond a2 4 0) + (cond a3 8 0) + (cond a4 16 0) + (cond a5 32 0) + (cond a6 64 0) + (cond a7 128 0)
theorem b8_lt (a0 a1 a2 a3 a4 a5 a6 a7 : Bool) : b8 a0 a1 a2 a3 a4 a5 a6 a7 < 256 := by
  cases a0 <;> cases a1 <;> cases a2 <;> cases a3 <;> cases a4 <;> cases a5 <;> cases a6 <;> cases a7 <;> decide
theorem b8_bit : ∀ (a0 a1 a2 a3 a4 a5 a6 a7 : Bool) (i : Fin 8), ((b8 a0 a1 a2 a3 a4 a5 a6 a7 / 2 ^ i.val) % 2 == 1) = [a0, a1, a2, a3, a4, a5, a6, a7].getD i.val false := by decide +kernel
theorem b8_set : ∀ (a0 a1 a2 a3 a4 a5 a6 a7 : Bool) (i : Fin 8), b8 a0 a1 a2 a3 a4 a5 a6 a7 ||| 2 ^ i.val = b8 (a0 || i.val == 0) (a1 || i.val == 1) (a2 || i.val == 2) (a3 || i.val == 3) (a4 || i.val == 4) (a5 || i.val == 5) (a6 || i.val == 6) (a7 || i.val == 7) := by decide +kernel
/-- a byte of bits -/
def byteN (g : Nat → Bool) (b : Nat) : Nat := b8 (g (8 * b)) (g (8 * b + 1)) (g (8 * b + 2)) (g (8 * b + 3)) (g (8 * b + 4)) (g (8 * b + 5)) (g (8 * b + 6)) (g (8 * b + 7))
theorem byteN_lt (g : Nat → Bool) (b : Nat) : byteN g b < 256 := b8_lt _ _ _ _ _ _ _ _
theorem byteN_bit (g : Nat → Bool) (q : Nat) : ((byteN g (q / 8) / 2 ^ (q % 8)) % 2 == 1) = g q := by
  have h8 : q % 8 < 8 := Nat.mod_lt _ (by omega)
  have h := b8_bit (g (8 * (q / 8))) (g (8 * (q / 8) + 1)) (g (8 * (q / 8) + 2)) (g (8 * (q / 8) + 3)) (g (8 * (q / 8) + 4)) (g (8 * (q / 8) + 5)) (g (8 * (q / 8) + 6)) (g (8 * (q / 8) + 7)) ⟨q % 8, h8⟩
  unfold byteN
  rw [h]
  have e : q = 8 * (q / 8) + q % 8 := by omega
  generalize hr : q % 8 = r at *
  generalize q / 8 = b at *
  subst e
  match r, h8 with
  | 0, _ | 1, _ | 2, _ | 3, _ | 4, _ | 5, _ | 6, _ | 7, _ => rfl
theorem byteN_set (g : Nat → Bool) (q : Nat) : byteN g (q / 8) ||| 2 ^ (q % 8) = byteN (fun x => g x || x == q) (q / 8) := by
  have h8 : q % 8 < 8 := Nat.mod_lt _ (by omega)
  have h := b8_set (g (8 * (q / 8))) (g (8 * (q / 8) + 1)) (g (8 * (q / 8) + 2)) (g (8 * (q / 8) + 3)) (g (8 * (q / 8) + 4)) (g (8 * (q / 8) + 5)) (g (8 * (q / 8) + 6)) (g (8 * (q / 8) + 7)) ⟨q % 8, h8⟩
  unfold byteN
  rw [h]
  have k : ∀ i, i < 8 → (q % 8 == i) = (8 * (q / 8) + i == q) := fun i hi => by
    rw [Bool.eq_iff_iff, beq_iff_eq, beq_iff_eq]
    omega
  have k0 := k 0 (by omega)
  rw [Nat.add_zero] at k0
  rw [k0, k 1 (by omega), k 2 (by omega), k 3 (by omega), k 4 (by omega), k 5 (by omega), k 6 (by omega), k 7 (by omega)]
theorem byteN_far (g : Nat → Bool) (q b : Nat) (h : b ≠ q / 8) : byteN (fun x => g x || x == q) b = byteN g b := by
  have k : ∀ i, i < 8 → (8 * b + i == q) = false := fun i hi => by
    rw [beq_eq_false_iff_ne]
    omega
  have k0 := k 0 (by omega)
  rw [Nat.add_zero] at k0
  unfold byteN
  simp only [k0, k 1 (by omega), k 2 (by omega), k 3 (by omega), k 4 (by omega), k 5 (by omega), k 6 (by omega), k 7 (by omega), Bool.or_false]
def bitsL (g : Nat → Bool) (m : Nat) : List UInt8 := (List.range m).map fun b => UInt8.ofNat (byteN g b)
theorem bitsL_length (g : Nat → Bool) (m : Nat) : (bitsL g m).length = m := by simp [bitsL]
theorem bitsL_zero (m : Nat) : bitsL (fun _ => false) m = List.replicate m 0 := by
  apply List.ext_getElem
  · simp [bitsL]
  · intro i h1 h2
    simp only [bitsL, List.getElem_map, List.getElem_replicate]
    rfl
theorem bitsL_set (g : Nat → Bool) (m q : Nat) (_h : q / 8 < m) : (bitsL g m).set (q / 8) (UInt8.ofNat (byteN g (q / 8) ||| 2 ^ (q % 8))) = bitsL (fun x => g x || x == q) m := by
  apply List.ext_getElem
  · simp [bitsL]
  · intro i h1 h2
    rw [List.getElem_set]
    simp only [bitsL, List.getElem_map, List.getElem_range]
    by_cases e : q / 8 = i
    · subst e
      rw [if_pos rfl, byteN_set]
    · rw [if_neg e, byteN_far g q i (fun k => e k.symm)]
theorem bitsL_congr (g g' : Nat → Bool) (m : Nat) (h : ∀ q, g q = g' q) : bitsL g m = bitsL g' m := by rw [show g = g' from funext h]
/-- is the page with this number less one used -/
def usedP (f : Int → Option ByteArray) (q : Nat) : Bool := (f ((q : Int) + 1)).isSome
/-- the roots and which pages are used, in bytes -/
def metaL (n : Nat) (f : Int → Option ByteArray) (roots : List Int) : List UInt8 := roots.flatMap (Oct.beB 4) ++ bitsL (usedP f) ((n - 1) / 8) ++ List.replicate (2016 - (n - 1) / 8) 0
theorem flat_len (roots : List Int) : (roots.flatMap (Oct.beB 4)).length = 4 * roots.length := by
  induction roots with
  | nil => rfl
  | cons r l ih => rw [List.flatMap_cons, List.length_append, ih, Oct.beB_length, List.length_cons]; omega
theorem metaL_length (n : Nat) (f : Int → Option ByteArray) (roots : List Int) (hr : roots.length = 8) (hn : n ≤ 5000) : (metaL n f roots).length = 2048 := by
  unfold metaL
  simp only [List.length_append, flat_len, bitsL_length, List.length_replicate]
  omega
/-- a state that may be -/
structure Wf (n : Nat) (f : Int → Option ByteArray) (roots : List Int) (sz : Nat) : Prop where
  dom : ∀ k b, f k = some b → 1 ≤ k ∧ k ≤ (n : Int) - 8
  size : ∀ k b, f k = some b → b.size = 256
  len : roots.length = 8
  rt : ∀ r ∈ roots, 0 ≤ r ∧ r ≤ 5000
  sz : sz = ((List.range (n - 8)).filter (usedP f)).length
def rootOf (l : List UInt8) (i : Nat) : Int := Oct.getFrom 0 ((l.drop (4 * i)).take 4)
theorem root_read (roots : List Int) (R : List UInt8) (hr : ∀ r ∈ roots, 0 ≤ r ∧ r ≤ 5000) : ∀ i, i < roots.length → rootOf (roots.flatMap (Oct.beB 4) ++ R) i = roots.getD i 0 := by
  induction roots with
  | nil => intro i h; simp at h
  | cons r l ih =>
    intro i h
    cases i with
    | zero =>
      have e : (Oct.beB 4 r).length = 4 := Oct.beB_length 4 r
      have := hr r List.mem_cons_self
      unfold rootOf
      rw [List.flatMap_cons, Nat.mul_zero, List.drop_zero, List.append_assoc, List.take_append_of_le_length (by omega), List.take_of_length_le (by omega)]
      rw [Oct.get_put 4 r this.1 (by have : r ≤ 5000 := this.2; show r < 256 ^ 4; omega)]
      rfl
    | succ i =>
      have e : (Oct.beB 4 r).length = 4 := Oct.beB_length 4 r
      have := ih (fun x hx => hr x (List.mem_cons_of_mem _ hx)) i (by simpa using h)
      unfold rootOf at this ⊢
      rw [List.flatMap_cons, List.append_assoc, List.drop_append, List.drop_of_length_le (by omega), List.nil_append, e, show 4 * (i + 1) - 4 = 4 * i from by omega, this]
      rfl
def bitOf (l : List UInt8) (q : Nat) : Bool := ((l.getD (32 + q / 8) 0).toNat / 2 ^ (q % 8)) % 2 == 1
theorem bit_read (n : Nat) (f : Int → Option ByteArray) (roots : List Int) (hl : roots.length = 8) (q : Nat) (hq : q / 8 < (n - 1) / 8) : bitOf (metaL n f roots) q = usedP f q := by
  have h1 : (metaL n f roots).getD (32 + q / 8) 0 = UInt8.ofNat (byteN (usedP f) (q / 8)) := by
    have e := flat_len roots
    rw [hl] at e
    unfold metaL
    rw [List.append_assoc, List.getD_eq_getElem?_getD, List.getElem?_append_right (by omega), List.getElem?_append_left (by rw [bitsL_length]; omega), e]
    unfold bitsL
    rw [List.getElem?_map, show 32 + q / 8 - 4 * 8 = q / 8 from by omega, List.getElem?_range hq]
    rfl
  have h2 := byteN_lt (usedP f) (q / 8)
  unfold bitOf
  have h3 : byteN (usedP f) (q / 8) % 2 ^ 8 = byteN (usedP f) (q / 8) := Nat.mod_eq_of_lt h2
  rw [h1, UInt8.toNat_ofNat', h3]
  exact byteN_bit _ q
/-- sectors one behind the other -/
def cat (s : List (List UInt8)) (at_ k : Nat) : List UInt8 := (List.range k).flatMap fun i => s.getD (at_ + i) []
/-- what stands on the disk is this state -/
structure Holds (s : List (List UInt8)) (n : Nat) (f : Int → Option ByteArray) (roots : List Int) : Prop where
  top : cat s ((n - 8) * 4) 32 = metaL n f roots
  page : ∀ (q : Nat) b, f ((q : Int) + 1) = some b → cat s (q * 4) 4 = b.data.toList
/-- but for the roots' bytes and some pages -/
def Near (s : List (List UInt8)) (f : Int → Option ByteArray) (ch : List Int) : Prop := ∀ (q : Nat) b, f ((q : Int) + 1) = some b → ((q : Int) + 1) ∉ ch → cat s (q * 4) 4 = b.data.toList
/-- bytes in sectors -/
def secL : Nat → Nat → List UInt8 → List (Nat × List UInt8)
  | _, 0, _ => []
  | at_, k + 1, b => (at_, b.take 64) :: secL (at_ + 1) k (b.drop 64)
/-- what is to stand where -/
def targL (n : Nat) (f : Int → Option ByteArray) (roots : List Int) (ch : List Int) : List (Nat × List UInt8) :=
  secL ((n - 8) * 4) 32 (metaL n f roots) ++ ch.flatMap fun p => secL ((p.toNat - 1) * 4) 4 ((f p).getD ⟨#[]⟩).data.toList
/-- a transaction's record -/
def recL (n : Nat) (f : Int → Option ByteArray) (roots : List Int) (ch : List Int) : List UInt8 := metaL n f roots ++ ch.flatMap fun p => Oct.beB 4 p ++ ((f p).getD ⟨#[]⟩).data.toList
theorem secL_places : ∀ (k at_ : Nat) (b : List UInt8) (x : Nat × List UInt8), x ∈ secL at_ k b → at_ ≤ x.1 ∧ x.1 < at_ + k := by
  intro k
  induction k with
  | zero => intro at_ b x h; cases h
  | succ k ih =>
    intro at_ b x h
    rcases List.mem_cons.1 h with rfl | h
    · exact ⟨Nat.le_refl _, by simp⟩
    · have := ih (at_ + 1) _ x h; omega
theorem secL_64 : ∀ (k at_ : Nat) (b : List UInt8) (x : Nat × List UInt8), b.length = 64 * k → x ∈ secL at_ k b → x.2.length = 64 := by
  intro k
  induction k with
  | zero => intro at_ b x _ h; cases h
  | succ k ih =>
    intro at_ b x hb h
    rcases List.mem_cons.1 h with rfl | h
    · simp; omega
    · exact ih (at_ + 1) _ x (by simp; omega) h
theorem cat_succ (s : List (List UInt8)) (at_ k : Nat) : cat s at_ (k + 1) = s.getD at_ [] ++ cat s (at_ + 1) k := by
  unfold cat
  rw [List.range_succ_eq_map, List.flatMap_cons, List.flatMap_map, Nat.add_zero]
  congr 2
  funext i
  rw [show at_ + (i + 1) = at_ + 1 + i from by omega]
theorem cat_congr (s s' : List (List UInt8)) : ∀ k at_, (∀ i, at_ ≤ i → i < at_ + k → s'.getD i [] = s.getD i []) → cat s' at_ k = cat s at_ k := by
  intro k
  induction k with
  | zero => intro _ _; rfl
  | succ k ih =>
    intro at_ h
    rw [cat_succ, cat_succ, h at_ (Nat.le_refl _) (by omega), ih (at_ + 1) (fun i h1 h2 => h i (by omega) (by omega))]
theorem lay_far (q : List (Nat × List UInt8)) : ∀ (s : List (List UInt8)) (i : Nat), (∀ x ∈ q, x.1 ≠ i) → (lay s q).getD i [] = s.getD i [] := by
  induction q with
  | nil => intro s i _; rfl
  | cons x q ih =>
    intro s i h
    show (lay (s.set x.1 x.2) q).getD i [] = _
    rw [ih _ i (fun y hy => h y (List.mem_cons_of_mem _ hy)), List.getD_eq_getElem?_getD, List.getD_eq_getElem?_getD, List.getElem?_set_ne (h x List.mem_cons_self)]
theorem lay_secL : ∀ (k at_ : Nat) (b : List UInt8) (s : List (List UInt8)), b.length = 64 * k → at_ + k ≤ s.length → cat (lay s (secL at_ k b)) at_ k = b := by
  intro k
  induction k with
  | zero => intro at_ b s hb _; have : b = [] := List.eq_nil_of_length_eq_zero (by omega)
            subst this; rfl
  | succ k ih =>
    intro at_ b s hb hs
    have e : lay s (secL at_ (k + 1) b) = lay (s.set at_ (b.take 64)) (secL (at_ + 1) k (b.drop 64)) := rfl
    rw [cat_succ, e, ih (at_ + 1) (b.drop 64) _ (by simp; omega) (by rw [List.length_set]; omega)]
    rw [lay_far _ _ _ (fun x hx => by have := secL_places _ _ _ x hx; omega), List.getD_eq_getElem?_getD, List.getElem?_set_self (by omega)]
    exact List.take_append_drop 64 b
end Go.Proofs.YtoleojljpaglhaaGreat.Pb
/- Plain mathematics of chapter 12: what is loaded is what stands on the disk; what a record's writes make of it. No program, no conditions. -/
namespace Go.Proofs.YtoleojljpaglhaaGreat.Pb
open Go Go.RowKit Vd Wa
/-- what is loaded -/
def loadFn (s : List (List UInt8)) (l : List UInt8) (j : Nat) (x : Int) : Option ByteArray := if 1 ≤ x ∧ x < (j : Int) ∧ bitOf l (x.toNat - 1) = true then some ⟨(cat s ((x.toNat - 1) * 4) 4).toArray⟩ else none
def loadSz (l : List UInt8) (j : Nat) : Nat := ((List.range (j - 1)).filter fun q => bitOf l q).length
def rootsOf (l : List UInt8) : List Int := (List.range 8).map fun i => rootOf l i
theorem load_fn {s : List (List UInt8)} {n : Nat} {f : Int → Option ByteArray} {roots : List Int} {sz : Nat} (h : Holds s n f roots) (k : Wf n f roots sz) (hn : 8 ≤ n) : loadFn s (cat s ((n - 8) * 4) 32) (n - 7) = f := by
  funext x
  unfold loadFn
  rw [h.top]
  by_cases hx : 1 ≤ x ∧ x < ((n - 7 : Nat) : Int)
  · obtain ⟨q, rfl⟩ : ∃ q : Nat, x = (q : Int) + 1 := ⟨(x - 1).toNat, by omega⟩
    rw [show ((q : Int) + 1).toNat - 1 = q from by omega, bit_read n f roots k.len q (by omega)]
    unfold usedP
    cases hf : f ((q : Int) + 1) with
    | none => rw [if_neg (by simp)]
    | some b =>
      rw [if_pos ⟨hx.1, hx.2, rfl⟩, h.page q b hf]
  · rw [if_neg (fun hc => hx ⟨hc.1, hc.2.1⟩)]
    cases hf : f x with
    | none => rfl
    | some b => have := k.dom x b hf; omega
theorem load_sz {n : Nat} {f : Int → Option ByteArray} {roots : List Int} {sz : Nat} (k : Wf n f roots sz) : loadSz (metaL n f roots) (n - 7) = sz := by
  rw [k.sz]
  unfold loadSz
  rw [show n - 7 - 1 = n - 8 from by omega]
  congr 1
  apply List.filter_congr
  intro q hq
  rw [List.mem_range] at hq
  exact bit_read n f roots k.len q (by omega)
theorem load_roots {n : Nat} {f : Int → Option ByteArray} {roots : List Int} {sz : Nat} (k : Wf n f roots sz) : rootsOf (metaL n f roots) = roots := by
  apply List.ext_getElem
  · simp [rootsOf, k.len]
  · intro i h1 h2
    simp only [rootsOf, List.getElem_map, List.getElem_range]
    unfold metaL
    rw [List.append_assoc, root_read roots _ k.rt i h2, List.getD_eq_getElem?_getD, List.getElem?_eq_getElem h2]
    rfl
theorem top_far (n q : Nat) (h : q < n - 8) : ∀ i, (n - 8) * 4 ≤ i → i < (n - 8) * 4 + 32 → ¬ (q * 4 ≤ i ∧ i < q * 4 + 4) := fun i h1 h2 h3 => by omega
theorem cat_lay (s : List (List UInt8)) (q : List (Nat × List UInt8)) (a k : Nat) (h : ∀ x ∈ q, ¬ (a ≤ x.1 ∧ x.1 < a + k)) : cat (lay s q) a k = cat s a k :=
  cat_congr _ _ k a (fun i h1 h2 => lay_far q s i (fun x hx e => h x hx (by omega)))
theorem cat_set (s : List (List UInt8)) (p : Nat) (y : List UInt8) (a k : Nat) (h : ¬ (a ≤ p ∧ p < a + k)) : cat (s.set p y) a k = cat s a k := cat_lay s [(p, y)] a k (fun x hx => by rw [List.mem_singleton] at hx; subst hx; exact h)
/-- the pages' writes -/
theorem lay_pages {n : Nat} {f : Int → Option ByteArray} {roots : List Int} {sz : Nat} (k : Wf n f roots sz) : ∀ (ch : List Int) (s : List (List UInt8)), 4 * n ≤ s.length → (∀ p ∈ ch, ∃ b, f p = some b) → Near s f ch →
    Near (lay s (ch.flatMap fun p => secL ((p.toNat - 1) * 4) 4 ((f p).getD ⟨#[]⟩).data.toList)) f [] ∧ cat (lay s (ch.flatMap fun p => secL ((p.toNat - 1) * 4) 4 ((f p).getD ⟨#[]⟩).data.toList)) ((n - 8) * 4) 32 = cat s ((n - 8) * 4) 32 := by
  intro ch
  induction ch with
  | nil => intro s _ _ h; exact ⟨h, rfl⟩
  | cons p l ih =>
    intro s hs hc h
    obtain ⟨b, hb⟩ := hc p List.mem_cons_self
    have hd := k.dom p b hb
    have hz := k.size p b hb
    obtain ⟨r, rfl⟩ : ∃ r : Nat, p = (r : Int) + 1 := ⟨(p - 1).toNat, by omega⟩
    rw [List.flatMap_cons, lay_append]
    have e1 : ((r : Int) + 1).toNat - 1 = r := by omega
    have e2 : ((f ((r : Int) + 1)).getD ⟨#[]⟩).data.toList = b.data.toList := by rw [hb]; rfl
    rw [e1, e2]
    have hbl : b.data.toList.length = 64 * 4 := by rw [Array.length_toList]; exact hz
    have hpl := fun x hx => secL_places 4 (r * 4) b.data.toList x hx
    have hn := ih (lay s (secL (r * 4) 4 b.data.toList)) (by rw [lay_length]; exact hs) (fun q hq => hc q (List.mem_cons_of_mem _ hq)) (fun q c hq hnl => ?_)
    · refine ⟨hn.1, hn.2.trans ?_⟩
      exact cat_lay _ _ _ _ (fun x hx => by have := hpl x hx; omega)
    · by_cases hqr : q = r
      · subst hqr
        rw [hb] at hq
        injection hq with hq
        subst hq
        exact lay_secL 4 (q * 4) _ s hbl (by omega)
      · rw [cat_lay _ _ _ _ (fun x hx => by have := hpl x hx; omega)]
        exact h q c hq (fun hm => by
          rcases List.mem_cons.1 hm with h1 | h1
          · omega
          · exact hnl h1)
/-- all of a record's writes -/
theorem lay_targ {n : Nat} {f : Int → Option ByteArray} {roots : List Int} {sz : Nat} (k : Wf n f roots sz) (hn : 8 ≤ n) (hn2 : n ≤ 5000) (ch : List Int) (s : List (List UInt8)) (hs : 4 * n ≤ s.length) (hc : ∀ p ∈ ch, ∃ b, f p = some b) (h : Near s f ch) : Holds (lay s (targL n f roots ch)) n f roots := by
  unfold targL
  rw [lay_append]
  have hml : (metaL n f roots).length = 64 * 32 := metaL_length n f roots k.len hn2
  have hpl := fun x hx => secL_places 32 ((n - 8) * 4) (metaL n f roots) x hx
  have hp := lay_pages k ch (lay s (secL ((n - 8) * 4) 32 (metaL n f roots))) (by rw [lay_length]; exact hs) hc (fun q b hq hm => ?_)
  · refine ⟨?_, fun q b hq => hp.1 q b hq (by simp)⟩
    rw [hp.2]
    exact lay_secL 32 _ _ s hml (by omega)
  · rw [cat_lay _ _ _ _ (fun x hx => by have := hpl x hx; have := k.dom _ b hq; omega)]
    exact h q b hq hm
/-- where a record's writes go -/
theorem targ_place {n : Nat} {f : Int → Option ByteArray} {roots : List Int} {sz : Nat} (k : Wf n f roots sz) (hn : 8 ≤ n) (ch : List Int) (hc : ∀ p ∈ ch, ∃ b, f p = some b) (x : Nat × List UInt8) (hx : x ∈ targL n f roots ch) :
    x.1 < 4 * n ∧ ∀ (q : Nat) b, f ((q : Int) + 1) = some b → ((q : Int) + 1) ∉ ch → ¬ (q * 4 ≤ x.1 ∧ x.1 < q * 4 + 4) := by
  unfold targL at hx
  rcases List.mem_append.1 hx with h | h
  · have := secL_places _ _ _ x h
    refine ⟨by omega, fun q b hq _ => ?_⟩
    have := k.dom _ b hq
    omega
  · rw [List.mem_flatMap] at h
    obtain ⟨p, hp, hx⟩ := h
    obtain ⟨c, hb⟩ := hc p hp
    have hd := k.dom p c hb
    have := secL_places _ _ _ x hx
    refine ⟨by omega, fun q b hq hn' hh => ?_⟩
    have e : p = (q : Int) + 1 := by omega
    exact hn' (e ▸ hp)
theorem targ_64 {n : Nat} {f : Int → Option ByteArray} {roots : List Int} {sz : Nat} (k : Wf n f roots sz) (hn2 : n ≤ 5000) (ch : List Int) (hc : ∀ p ∈ ch, ∃ b, f p = some b) (x : Nat × List UInt8) (hx : x ∈ targL n f roots ch) : x.2.length = 64 := by
  unfold targL at hx
  rcases List.mem_append.1 hx with h | h
  · exact secL_64 32 _ _ x (metaL_length n f roots k.len hn2) h
  · rw [List.mem_flatMap] at h
    obtain ⟨p, hp, hx⟩ := h
    obtain ⟨c, hb⟩ := hc p hp
    have := k.size p c hb
    exact secL_64 4 _ _ x (by rw [hb]; show c.data.toList.length = _; rw [Array.length_toList]; exact this) hx
/-- a write of the record's, torn or whole, spoils nothing else -/
theorem near_set {n : Nat} {f : Int → Option ByteArray} {roots : List Int} {sz : Nat} (k : Wf n f roots sz) (hn : 8 ≤ n) (ch : List Int) (hc : ∀ p ∈ ch, ∃ b, f p = some b) {s : List (List UInt8)} (h : Near s f ch) (x : Nat × List UInt8) (hx : x ∈ targL n f roots ch) (y : List UInt8) : Near (s.set x.1 y) f ch := by
  intro q b hq hm
  rw [cat_set _ _ _ _ _ ((targ_place k hn ch hc x hx).2 q b hq hm)]
  exact h q b hq hm
theorem holds_near {n : Nat} {f g : Int → Option ByteArray} {roots : List Int} {s : List (List UInt8)} (h : Holds s n f roots) (ch : List Int) (hk : ∀ (q : Nat) b, g ((q : Int) + 1) = some b → ((q : Int) + 1) ∉ ch → f ((q : Int) + 1) = some b) : Near s g ch :=
  fun q b hq hm => h.page q b (hk q b hq hm)
/-- writes elsewhere -/
theorem holds_far {n : Nat} {f : Int → Option ByteArray} {roots : List Int} {sz : Nat} {s s' : List (List UInt8)} (k : Wf n f roots sz) (hn : 8 ≤ n) (h : Holds s n f roots) (hs : ∀ i, i < 4 * n → s'.getD i [] = s.getD i []) : Holds s' n f roots := by
  refine ⟨?_, fun q b hq => ?_⟩
  · rw [cat_congr s s' 32 _ (fun i h1 h2 => hs i (by omega))]
    exact h.top
  · have := k.dom _ b hq
    rw [cat_congr s s' 4 _ (fun i h1 h2 => hs i (by omega))]
    exact h.page q b hq
theorem near_far {n : Nat} {f : Int → Option ByteArray} {roots : List Int} {sz : Nat} {s s' : List (List UInt8)} (k : Wf n f roots sz) (_hn : 8 ≤ n) {ch : List Int} (h : Near s f ch) (hs : ∀ i, i < 4 * n → s'.getD i [] = s.getD i []) : Near s' f ch := by
  intro q b hq hm
  have := k.dom _ b hq
  rw [cat_congr s s' 4 _ (fun i h1 h2 => hs i (by omega))]
  exact h q b hq hm
/-- a record's length -/
theorem recL_length {n : Nat} {f : Int → Option ByteArray} {roots : List Int} {sz : Nat} (k : Wf n f roots sz) (hn2 : n ≤ 5000) (ch : List Int) (hc : ∀ p ∈ ch, ∃ b, f p = some b) : (recL n f roots ch).length = 2048 + 260 * ch.length := by
  unfold recL
  rw [List.length_append, metaL_length n f roots k.len hn2]
  congr 1
  induction ch with
  | nil => rfl
  | cons p l ih =>
    obtain ⟨b, hb⟩ := hc p List.mem_cons_self
    have := k.size p b hb
    rw [List.flatMap_cons, List.length_append, ih (fun q hq => hc q (List.mem_cons_of_mem _ hq)), List.length_append, Oct.beB_length, hb]
    show 4 + b.data.toList.length + _ = _
    rw [Array.length_toList, show b.data.size = 256 from this, List.length_cons]
    omega
end Go.Proofs.YtoleojljpaglhaaGreat.Pb
/- Plain mathematics of chapter 12: rows of writes on a disk whose power or room may end, wherever. No program, no conditions. -/
namespace Go.Proofs.YtoleojljpaglhaaGreat.Pb
open Go Go.RowKit Vd Wa
/-- what a crash leaves in the sectors -/
def cutS (s : List (List UInt8)) (q : List (Nat × List UInt8)) (k t : Nat) : List (List UInt8) :=
  match q.drop k with
  | [] => lay s (q.take k)
  | x :: _ => (lay s (q.take k)).set x.1 (x.2.take t ++ ((lay s (q.take k)).getD x.1 []).drop t)
/-- wherever the power fails now, this is true of the sectors -/
def Safe (Φ : List (List UInt8) → Prop) (d : VD) : Prop := d.on = true ∧ ∀ k t, k ≤ d.q.length → t ≤ 64 → Φ (cutS d.secs d.q k t)
/-- the power has failed -/
def Off (Φ : List (List UInt8) → Prop) (d : VD) : Prop := d.on = false ∧ d.q = [] ∧ Φ d.secs
/-- what no write alters -/
structure Rel (d d' : VD) (m : Nat) : Prop where
  len : d'.secs.length = d.secs.length
  wr : d'.writes ≤ d.writes + m
  fuse : d.fuse = none → d'.fuse = none
  room : d.room = -1 → d'.room = -1
theorem Rel.refl (d : VD) : Rel d d 0 := ⟨rfl, by simp, id, id⟩
theorem Rel.trans {a b c : VD} {m k : Nat} (h : Rel a b m) (h' : Rel b c k) : Rel a c (m + k) :=
  ⟨h'.len.trans h.len, by have := h.wr; have := h'.wr; push_cast; omega, fun e => h'.fuse (h.fuse e), fun e => h'.room (h.room e)⟩
theorem Rel.more {a b : VD} {m k : Nat} (h : Rel a b m) (hk : m ≤ k) : Rel a b k := ⟨h.len, by have := h.wr; omega, h.fuse, h.room⟩
variable {Φ Ψ : List (List UInt8) → Prop} {d : VD}
theorem Safe.imp (h : Safe Φ d) (k : ∀ s, Φ s → Ψ s) : Safe Ψ d := ⟨h.1, fun a t h1 h2 => k _ (h.2 a t h1 h2)⟩
theorem Off.imp (h : Off Φ d) (k : ∀ s, Φ s → Ψ s) : Off Ψ d := ⟨h.1, h.2.1, k _ h.2.2⟩
theorem crash_cut (hon : d.on = true) (keep torn : Int) : crash d keep torn = { d with secs := cutS d.secs d.q (clamp keep 0 d.q.length).toNat (clamp torn 0 64).toNat, q := [], on := false } := by
  unfold crash
  rw [if_pos hon]
  simp only
  congr 1
theorem cut_len (s : List (List UInt8)) (q : List (Nat × List UInt8)) (k t : Nat) : (cutS s q k t).length = s.length := by
  unfold cutS
  split
  · exact lay_length _ _
  · rw [List.length_set]; exact lay_length _ _
theorem Safe.crash (h : Safe Φ d) (keep torn : Int) : Off Φ (crash d keep torn) ∧ Rel d (Vd.crash d keep torn) 0 := by
  rw [crash_cut h.1]
  refine ⟨⟨rfl, rfl, h.2 _ _ (by unfold clamp; omega) (by unfold clamp; omega)⟩, cut_len _ _ _ _, by simp, id, id⟩
theorem cut_end (s : List (List UInt8)) (q : List (Nat × List UInt8)) (t : Nat) : cutS s q q.length t = lay s q := by
  unfold cutS
  rw [List.drop_length, List.take_length]
theorem cut_nil (s : List (List UInt8)) (k t : Nat) : cutS s [] k t = s := by
  unfold cutS
  simp [lay]
theorem Safe.now (h : Safe Φ d) : Φ (lay d.secs d.q) := by
  have := h.2 d.q.length 0 (Nat.le_refl _) (by omega)
  rwa [cut_end] at this
theorem set_self (s : List (List UInt8)) (a : Nat) : s.set a (s.getD a []) = s := by
  apply List.ext_getElem?
  intro i
  by_cases h : a = i
  · subst h
    by_cases hl : a < s.length
    · rw [List.getElem?_set_self hl, List.getD_eq_getElem?_getD, List.getElem?_eq_getElem hl]; rfl
    · rw [List.getElem?_eq_none (by rw [List.length_set]; omega), List.getElem?_eq_none (by omega)]
  · rw [List.getElem?_set_ne h]
theorem Safe.secs (h : Safe Φ d) : Φ d.secs := by
  have h0 := h.2 0 0 (Nat.zero_le _) (by omega)
  have e : cutS d.secs d.q 0 0 = d.secs := by
    unfold cutS
    cases d.q with
    | nil => rfl
    | cons x l =>
      simp only [List.drop_zero, List.take_zero, List.nil_append]
      exact set_self _ _
  rwa [e] at h0
theorem safe_idle (hon : d.on = true) (hq : d.q = []) (h : Φ d.secs) : Safe Φ d := ⟨hon, fun k t _ _ => by rw [hq, cut_nil]; exact h⟩
theorem burns_none (h : d.fuse = none) : burns d = (false, d) := by unfold burns; rw [h]
theorem Safe.burns (h : Safe Φ d) : (burns d).1 = false ∧ (∃ f, (Vd.burns d).2 = { d with fuse := f } ∧ (d.fuse = none → f = none)) ∨ (Vd.burns d).1 = true ∧ Off Φ (Vd.burns d).2 ∧ Rel d (Vd.burns d).2 0 ∧ d.fuse ≠ none := by
  cases hf : d.fuse with
  | none => exact .inl ⟨by rw [burns_none hf], none, by rw [burns_none hf, ← hf], fun _ => rfl⟩
  | some x =>
    obtain ⟨n, keep, torn⟩ := x
    unfold Vd.burns
    rw [hf]
    simp only
    by_cases hn : 0 < n
    · rw [if_pos hn]
      exact .inl ⟨rfl, some (n - 1, keep, torn), rfl, fun e => by cases e⟩
    · rw [if_neg hn]
      have h' : Safe Φ { d with fuse := none } := h
      have := h'.crash keep torn
      refine .inr ⟨rfl, this.1, ⟨this.2.len, this.2.wr, (fun e => by rw [hf] at e; cases e), this.2.room⟩, by simp⟩
/-- how a row of writes ends -/
def Out (Φ : List (List UInt8) → Prop) (d : VD) (m : Nat) (K : VD → Prop) (K3 : VD → Prop) (r : Int × VD) : Prop :=
  Rel d r.2 m ∧ ((r.1 = 0 ∧ Safe Φ r.2 ∧ K r.2) ∨ (r.1 = 83 ∧ Safe Φ r.2 ∧ r.2.secs = d.secs ∧ K3 r.2 ∧ d.room ≠ -1) ∨ (r.1 = 80 ∧ Off Φ r.2 ∧ d.fuse ≠ none))
theorem Out.imp {m : Nat} {K K' K3 : VD → Prop} {r : Int × VD} (h : Out Φ d m K K3 r) (k : ∀ x, Safe Φ x → K x → K' x) : Out Φ d m K' K3 r := by
  obtain ⟨h1, h2⟩ := h
  refine ⟨h1, ?_⟩
  rcases h2 with ⟨a, b, c⟩ | h2 | h2
  · exact .inl ⟨a, b, k _ b c⟩
  · exact .inr (.inl h2)
  · exact .inr (.inr h2)
theorem cut_snoc (s : List (List UInt8)) (q : List (Nat × List UInt8)) (x : Nat × List UInt8) (k t : Nat) (hk : k ≤ q.length + 1) :
    (k ≤ q.length ∧ k < q.length ∧ cutS s (q ++ [x]) k t = cutS s q k t) ∨ (k = q.length ∧ cutS s (q ++ [x]) k t = (lay s q).set x.1 (x.2.take t ++ ((lay s q).getD x.1 []).drop t)) ∨ (k = q.length + 1 ∧ cutS s (q ++ [x]) k t = (lay s q).set x.1 x.2) := by
  rcases Nat.lt_trichotomy k q.length with h | h | h
  · refine .inl ⟨by omega, h, ?_⟩
    unfold cutS
    rw [List.drop_append_of_le_length (by omega), List.take_append_of_le_length (by omega)]
    obtain ⟨y, l, hy⟩ : ∃ y l, q.drop k = y :: l := ⟨q[k], q.drop (k + 1), List.drop_eq_getElem_cons h⟩
    rw [hy]
    rfl
  · refine .inr (.inl ⟨h, ?_⟩)
    subst h
    unfold cutS
    rw [List.drop_left, List.take_left]
  · refine .inr (.inr ⟨by omega, ?_⟩)
    have e : k = (q ++ [x]).length := by simp; omega
    rw [e, cut_end, lay_snoc]
theorem safe_push (h : Safe Φ d) (a : Nat) (data : List UInt8) (hd : data.length = 64) (hall : ∀ t, t ≤ 64 → Φ ((lay d.secs d.q).set a (data.take t ++ ((lay d.secs d.q).getD a []).drop t))) (hs : ∀ s ∈ lay d.secs d.q, s.length = 64) (f : Option (Int × Int × Int)) (r w : Int) :
    Safe Φ { d with q := d.q ++ [(a, data)], fuse := f, room := r, writes := w } := by
  refine ⟨h.1, fun k t hk ht => ?_⟩
  simp only [List.length_append, List.length_singleton] at hk
  rcases cut_snoc d.secs d.q (a, data) k t hk with ⟨h1, _, e⟩ | ⟨h1, e⟩ | ⟨h1, e⟩
  · show Φ (cutS d.secs (d.q ++ [(a, data)]) k t)
    rw [e]
    exact h.2 k t h1 ht
  · show Φ (cutS d.secs (d.q ++ [(a, data)]) k t)
    rw [e]
    exact hall t ht
  · show Φ (cutS d.secs (d.q ++ [(a, data)]) k t)
    rw [e]
    have := hall 64 (Nat.le_refl _)
    have e1 : data.take 64 = data := List.take_of_length_le (by omega)
    have e2 : ((lay d.secs d.q).getD a []).drop 64 = [] := by
      rw [List.drop_eq_nil_iff, List.getD_eq_getElem?_getD]
      cases hg : (lay d.secs d.q)[a]? with
      | none => simp
      | some y => exact Nat.le_of_eq (hs y (List.mem_of_getElem? hg))
    rwa [e1, e2, List.append_nil] at this
/-- one write -/
theorem safe_write (h : Safe Φ d) (a : Nat) (data : List UInt8) (ha : a < d.secs.length) (hd : data.length = 64) (hs : ∀ s ∈ lay d.secs d.q, s.length = 64) (hall : ∀ t, t ≤ 64 → Φ ((lay d.secs d.q).set a (data.take t ++ ((lay d.secs d.q).getD a []).drop t))) :
    Out Φ d 1 (fun x => x.secs = d.secs ∧ x.q = d.q ++ [(a, data)]) (fun x => x = d) (Vd.write d (a : Int) data) := by
  have h0 : asked d a = 0 := by unfold asked; rw [if_pos h.1, if_neg (by omega)]
  unfold Vd.write
  rw [if_neg (by simp [h0]), if_neg (by omega)]
  by_cases hr : d.room = 0
  · rw [if_pos hr]
    exact ⟨(Rel.refl d).more (by omega), .inr (.inl ⟨rfl, h, rfl, rfl, by omega⟩)⟩
  · rw [if_neg hr]
    rcases h.burns with ⟨hb, f, he, hf⟩ | ⟨hb, ho, hrel, hfu⟩
    · rw [if_neg (by rw [hb]; simp), he]
      simp only [Int.toNat_natCast]
      refine ⟨⟨rfl, by simp, hf, fun e => ?_⟩, .inl ⟨rfl, safe_push h a data hd hall hs _ _ _, rfl, rfl⟩⟩
      show (if 0 < d.room then d.room - 1 else d.room) = -1
      rw [e]; rfl
    · rw [if_pos hb]
      exact ⟨hrel.more (by omega), .inr (.inr ⟨rfl, ho, hfu⟩)⟩
/-- a sync -/
theorem safe_sync (h : Safe Φ d) : Out Φ d 0 (fun x => x.secs = lay d.secs d.q ∧ x.q = []) (fun _ => False) (Vd.sync d) := by
  unfold Vd.sync
  rw [if_pos h.1]
  rcases h.burns with ⟨hb, f, he, hf⟩ | ⟨hb, ho, hrel, hfu⟩
  · rw [if_neg (by rw [hb]; simp), he]
    exact ⟨⟨lay_length _ _, by simp, hf, id⟩, .inl ⟨rfl, safe_idle h.1 rfl h.now, rfl, rfl⟩⟩
  · rw [if_pos hb]
    exact ⟨hrel, .inr (.inr ⟨rfl, ho, hfu⟩)⟩
/-- writes, one behind the other, up to the first that is refused -/
def wrSeq : VD → List (Nat × List UInt8) → Int × VD
  | d, [] => (0, d)
  | d, x :: l => if (Vd.write d (x.1 : Int) x.2).1 = 0 then wrSeq (Vd.write d (x.1 : Int) x.2).2 l else Vd.write d (x.1 : Int) x.2
theorem set_z {s : List (List UInt8)} (h : ∀ x ∈ s, x.length = 64) (a : Nat) (y : List UInt8) (hy : y.length = 64) : ∀ x ∈ s.set a y, x.length = 64 := fun x hx => by
  rcases List.mem_or_eq_of_mem_set hx with h1 | h1
  · exact h x h1
  · rw [h1]; exact hy
theorem torn_z {s : List (List UInt8)} (h : ∀ x ∈ s, x.length = 64) (a : Nat) (ha : a < s.length) (data : List UInt8) (hd : data.length = 64) (t : Nat) (ht : t ≤ 64) : (data.take t ++ (s.getD a []).drop t).length = 64 := by
  have e : (s.getD a []).length = 64 := by
    rw [List.getD_eq_getElem?_getD, List.getElem?_eq_getElem ha]
    exact h _ (List.getElem_mem ha)
  rw [List.length_append, List.length_take, List.length_drop, e]
  omega
theorem safe_seq : ∀ (l : List (Nat × List UInt8)) (d : VD), Safe Φ d → (∀ x ∈ l, x.1 < d.secs.length ∧ x.2.length = 64) → (∀ s ∈ lay d.secs d.q, s.length = 64) →
    (∀ j (hj : j < l.length) t, t ≤ 64 → Φ ((lay (lay d.secs d.q) (l.take j)).set l[j].1 (l[j].2.take t ++ ((lay (lay d.secs d.q) (l.take j)).getD l[j].1 []).drop t))) →
    Out Φ d l.length (fun x => x.secs = d.secs ∧ x.q = d.q ++ l) (fun x => ∃ k, k < l.length ∧ x.q = d.q ++ l.take k) (wrSeq d l) := by
  intro l
  induction l with
  | nil => intro d h _ _ _; exact ⟨Rel.refl d, .inl ⟨rfl, h, rfl, by simp [wrSeq]⟩⟩
  | cons x l ih =>
    intro d h hp hs hall
    have hx := hp x List.mem_cons_self
    have h1 := safe_write h x.1 x.2 hx.1 hx.2 hs (fun t ht => hall 0 (by simp) t ht)
    obtain ⟨hr, h2⟩ := h1
    unfold wrSeq
    rcases h2 with ⟨e0, hS, hse, hqe⟩ | ⟨e0, hS, hse, hxd, hrm⟩ | ⟨e0, hO, hfu⟩
    · rw [if_pos e0]
      have hlay : lay (Vd.write d (x.1 : Int) x.2).2.secs (Vd.write d (x.1 : Int) x.2).2.q = (lay d.secs d.q).set x.1 x.2 := by rw [hse, hqe, lay_snoc]
      have h3 := ih (Vd.write d (x.1 : Int) x.2).2 hS (fun y hy => by rw [hr.len]; exact hp y (List.mem_cons_of_mem _ hy)) (by rw [hlay]; exact set_z hs _ _ hx.2) (fun j hj t ht => by
        have := hall (j + 1) (by simpa using hj) t ht
        rw [List.take_succ_cons] at this
        rw [hlay]
        exact this)
      obtain ⟨hr3, h4⟩ := h3
      refine ⟨by have := hr.trans hr3; rw [List.length_cons]; exact this.more (by omega), ?_⟩
      rcases h4 with ⟨a, b, c1, c2⟩ | ⟨a, b, c, ⟨k, hk, c2⟩, c'⟩ | ⟨a, b, c⟩
      · exact .inl ⟨a, b, c1.trans hse, by rw [c2, hqe, List.append_assoc]; rfl⟩
      · exact .inr (.inl ⟨a, b, c.trans hse, ⟨k + 1, by rw [List.length_cons]; omega, by rw [c2, hqe, List.append_assoc]; rfl⟩, fun e => c' (hr.room e)⟩)
      · exact .inr (.inr ⟨a, b, fun e => c (hr.fuse e)⟩)
    · rw [if_neg (by omega)]
      exact ⟨hr.more (by simp), .inr (.inl ⟨e0, hS, hse, ⟨0, by simp, by rw [hxd, List.take_zero, List.append_nil]⟩, hrm⟩)⟩
    · rw [if_neg (by omega)]
      exact ⟨hr.more (by simp), .inr (.inr ⟨e0, hO, hfu⟩)⟩
/-- what is to stand somewhere is written where it does not stand yet -/
def setSeq : VD → List (Nat × List UInt8) → Bool → Int × Bool × VD
  | d, [], b => (0, b, d)
  | d, x :: l, b => if Vd.look d x.1 = x.2 then setSeq d l b else if (Vd.write d (x.1 : Int) x.2).1 = 0 then setSeq (Vd.write d (x.1 : Int) x.2).2 l true else ((Vd.write d (x.1 : Int) x.2).1, true, (Vd.write d (x.1 : Int) x.2).2)
/-- what settle makes of a disk -/
def settleV (d : VD) (l : List (Nat × List UInt8)) : Int × VD :=
  if (setSeq d l false).1 ≠ 0 then ((setSeq d l false).1, (setSeq d l false).2.2)
  else if (setSeq d l false).2.1 = true then Vd.sync (setSeq d l false).2.2 else (0, (setSeq d l false).2.2)
theorem safe_set : ∀ (l : List (Nat × List UInt8)) (d : VD) (b : Bool), Safe Φ d → (∀ x ∈ l, x.1 < d.secs.length ∧ x.2.length = 64) → (∀ s ∈ lay d.secs d.q, s.length = 64) →
    (∀ s, (∀ x ∈ s, x.length = 64) → Φ s → ∀ x ∈ l, ∀ y : List UInt8, y.length = 64 → Φ (s.set x.1 y)) →
    Out Φ d l.length (fun x => x.secs = d.secs ∧ lay x.secs x.q = lay (lay d.secs d.q) l ∧ ((setSeq d l b).2.1 = false → x = d ∧ b = false)) (fun x => ∃ l', x.q = d.q ++ l' ∧ ∀ y ∈ l', y ∈ l) ((setSeq d l b).1, (setSeq d l b).2.2) := by
  intro l
  induction l with
  | nil => intro d b h _ _ _; exact ⟨Rel.refl d, .inl ⟨rfl, h, rfl, rfl, fun e => ⟨rfl, e⟩⟩⟩
  | cons x l ih =>
    intro d b h hp hs hall
    have hx := hp x List.mem_cons_self
    unfold setSeq
    by_cases hl : Vd.look d x.1 = x.2
    · rw [if_pos hl]
      have h3 := ih d b h (fun y hy => hp y (List.mem_cons_of_mem _ hy)) hs (fun s hz hΦ y hy => hall s hz hΦ y (List.mem_cons_of_mem _ hy))
      have e : lay (lay d.secs d.q) (x :: l) = lay (lay d.secs d.q) l := by
        show lay ((lay d.secs d.q).set x.1 x.2) l = _
        rw [← hl]
        unfold Vd.look
        rw [set_self]
      rw [e]
      refine ⟨h3.1.more (by simp), ?_⟩
      rcases h3.2 with h4 | ⟨a, b, c, ⟨l', c1, c2⟩, c'⟩ | h4
      · exact .inl h4
      · exact .inr (.inl ⟨a, b, c, ⟨l', c1, fun y hy => List.mem_cons_of_mem _ (c2 y hy)⟩, c'⟩)
      · exact .inr (.inr h4)
    · rw [if_neg hl]
      have hall' : ∀ t, t ≤ 64 → Φ ((lay d.secs d.q).set x.1 (x.2.take t ++ ((lay d.secs d.q).getD x.1 []).drop t)) := fun t ht => hall _ hs h.now x List.mem_cons_self _ (torn_z hs x.1 (by rw [lay_length]; exact hx.1) x.2 hx.2 t ht)
      obtain ⟨hr, h2⟩ := safe_write h x.1 x.2 hx.1 hx.2 hs hall'
      rcases h2 with ⟨e0, hS, hse, hqe⟩ | ⟨e0, hS, hse, hxd, hrm⟩ | ⟨e0, hO, hfu⟩
      · rw [if_pos e0]
        have hlay : lay (Vd.write d (x.1 : Int) x.2).2.secs (Vd.write d (x.1 : Int) x.2).2.q = (lay d.secs d.q).set x.1 x.2 := by rw [hse, hqe, lay_snoc]
        have h3 := ih (Vd.write d (x.1 : Int) x.2).2 true hS (fun y hy => by rw [hr.len]; exact hp y (List.mem_cons_of_mem _ hy)) (by rw [hlay]; exact set_z hs _ _ hx.2) (fun s hz hΦ y hy => hall s hz hΦ y (List.mem_cons_of_mem _ hy))
        obtain ⟨hr3, h4⟩ := h3
        refine ⟨by have := hr.trans hr3; rw [List.length_cons]; exact this.more (by omega), ?_⟩
        rcases h4 with ⟨a, b, c0, c1, c2⟩ | ⟨a, b, c, ⟨l', d1, d2⟩, c'⟩ | ⟨a, b, c⟩
        · refine .inl ⟨a, b, c0.trans hse, by rw [c1, hlay]; rfl, fun e => ?_⟩
          have := (c2 e).2
          cases this
        · exact .inr (.inl ⟨a, b, c.trans hse, ⟨(x.1, x.2) :: l', by rw [d1, hqe, List.append_assoc]; rfl, fun y hy => by
          rcases List.mem_cons.1 hy with rfl | hy
          · exact List.mem_cons_self
          · exact List.mem_cons_of_mem _ (d2 y hy)⟩, fun e => c' (hr.room e)⟩)
        · exact .inr (.inr ⟨a, b, fun e => c (hr.fuse e)⟩)
      · rw [if_neg (by omega)]
        exact ⟨hr.more (by simp), .inr (.inl ⟨e0, hS, hse, ⟨[], by rw [hxd, List.append_nil], by simp⟩, hrm⟩)⟩
      · rw [if_neg (by omega)]
        exact ⟨hr.more (by simp), .inr (.inr ⟨e0, hO, hfu⟩)⟩
/-- settle -/
theorem safe_settle (l : List (Nat × List UInt8)) (h : Safe Φ d) (hp : ∀ x ∈ l, x.1 < d.secs.length ∧ x.2.length = 64) (hs : ∀ s ∈ lay d.secs d.q, s.length = 64)
    (hall : ∀ s, (∀ x ∈ s, x.length = 64) → Φ s → ∀ x ∈ l, ∀ y : List UInt8, y.length = 64 → Φ (s.set x.1 y)) :
    Out Φ d l.length (fun x => lay x.secs x.q = lay (lay d.secs d.q) l ∧ (x = d ∨ x.q = [])) (fun x => ∃ l', x.q = d.q ++ l' ∧ ∀ y ∈ l', y ∈ l) (settleV d l) := by
  obtain ⟨hr, h2⟩ := safe_set l d false h hp hs hall
  simp only at hr h2
  unfold settleV
  rcases h2 with ⟨e0, hS, hse, hq, hk⟩ | ⟨e0, hS, hse, hx3, hrm⟩ | ⟨e0, hO, hfu⟩
  · rw [if_neg (by simp only [ne_eq]; omega)]
    by_cases hb : (setSeq d l false).2.1 = true
    · rw [if_pos hb]
      obtain ⟨hr', h3⟩ := safe_sync hS
      refine ⟨(hr.trans hr').more (by omega), ?_⟩
      rcases h3 with ⟨a, b, c1, c2⟩ | ⟨a, b, c, c', _⟩ | ⟨a, b, c⟩
      · refine .inl ⟨a, b, ?_, .inr c2⟩
        rw [c2, c1]
        exact hq
      · exact c'.elim
      · exact .inr (.inr ⟨a, b, fun e => c (hr.fuse e)⟩)
    · rw [if_neg hb]
      have := hk (by simpa using hb)
      refine ⟨hr, .inl ⟨rfl, hS, hq, .inl this.1⟩⟩
  · rw [if_pos (by simp only [ne_eq]; omega)]
    exact ⟨hr, .inr (.inl ⟨e0, hS, hse, hx3, hrm⟩)⟩
  · rw [if_pos (by simp only [ne_eq]; omega)]
    exact ⟨hr, .inr (.inr ⟨e0, hO, hfu⟩)⟩
end Go.Proofs.YtoleojljpaglhaaGreat.Pb
/- Plain mathematics of chapter 12: the log's sectors while a record is put there, and what is found in them, wherever the power fails. No program, no conditions. -/
namespace Go.Proofs.YtoleojljpaglhaaGreat.Pb
open Go Go.RowKit Vd Wa
/-- every sector of the log is of a generation up to g -/
def Stamps (s : List (List UInt8)) (n g : Nat) : Prop := ∀ p, p < 8 * n → OldS (g + 1) (sec s (4 * n) p)
/-- what is found in the log -/
def Fnd (s : List (List UInt8)) (n : Nat) (o : Option (List UInt8)) (ga : Nat) : Prop :=
  (o = none ∧ ga = 0 ∧ sec s (4 * n) 0 = List.replicate 64 0) ∨
  ∃ rec T, 0 < ga ∧ ga < 256 ∧ ArP s (4 * n) (8 * n) ga (allP [rec]) T ∧ (o = some rec ∧ T = (allP [rec]).length ∨ o = none ∧ T < (allP [rec]).length)
theorem Stamps.more {s : List (List UInt8)} {n g : Nat} (h : Stamps s n g) : Stamps s n (g + 1) := fun p hp => (h p hp).more (by omega)
theorem sec_far {s s' : List (List UInt8)} {n : Nat} (hs : ∀ i, 4 * n ≤ i → s'.getD i [] = s.getD i []) (p : Nat) : sec s' (4 * n) p = sec s (4 * n) p := hs _ (by omega)
theorem Stamps.far {s s' : List (List UInt8)} {n g : Nat} (h : Stamps s n g) (hs : ∀ i, 4 * n ≤ i → s'.getD i [] = s.getD i []) : Stamps s' n g := fun p hp => by rw [sec_far hs]; exact h p hp
theorem arp_far {s s' : List (List UInt8)} {n gen T : Nat} {P : List (List UInt8 × Nat)} (h : ArP s (4 * n) (8 * n) gen P T) (hs : ∀ i, 4 * n ≤ i → s'.getD i [] = s.getD i []) : ArP s' (4 * n) (8 * n) gen P T :=
  ⟨h.le, h.tn, fun p hp => by rw [sec_far hs]; exact h.at_ p hp, fun hT => by rw [sec_far hs]; exact h.stop hT, by rw [sec_far hs]; exact h.first⟩
theorem Fnd.far {s s' : List (List UInt8)} {n : Nat} {o : Option (List UInt8)} {ga : Nat} (h : Fnd s n o ga) (hs : ∀ i, 4 * n ≤ i → s'.getD i [] = s.getD i []) : Fnd s' n o ga := by
  rcases h with ⟨a, b, c⟩ | ⟨rec, T, a, b, c, d⟩
  · exact .inl ⟨a, b, by rw [sec_far hs]; exact c⟩
  · exact .inr ⟨rec, T, a, b, arp_far c hs, d⟩
theorem one_len (rec : List UInt8) : 1 ≤ (allP [rec]).length := by rw [allP_one, kinded_length]; exact pieces_pos rec
theorem sq_get (fr gen : Nat) : ∀ (l : List (List UInt8 × Nat)) (u j : Nat) (h : j < (sq fr gen u l).length) (h' : j < l.length), (sq fr gen u l)[j] = (fr + (u + j), formL l[j].1 l[j].2 gen (u + j)) := by
  intro l
  induction l with
  | nil => intro u j h h'; simp at h'
  | cons x l ih =>
    intro u j h h'
    cases j with
    | zero => rfl
    | succ j =>
      simp only [sq, List.getElem_cons_succ]
      rw [ih (u + 1) j (by simpa [sq] using h) (by simpa using h'), show u + 1 + j = u + (j + 1) from by omega]
section
variable {s : List (List UInt8)} {n g : Nat} {P : List (List UInt8 × Nat)}
theorem lay_here (hl : 12 * n ≤ s.length) (hn : P.length ≤ 8 * n) (T : Nat) (hT : T ≤ P.length) (p : Nat) :
    (p < T → ∃ x, P[p]? = some x ∧ sec (lay s (sq (4 * n) (g + 1) 0 (P.take T))) (4 * n) p = formL x.1 x.2 (g + 1) p) ∧ (¬ p < T → sec (lay s (sq (4 * n) (g + 1) 0 (P.take T))) (4 * n) p = sec s (4 * n) p) := by
  have hlen : (P.take T).length = T := by simp; omega
  have h := lay_sq (4 * n) (g + 1) p (P.take T) 0 s (by rw [hlen]; omega)
  rw [hlen] at h
  refine ⟨fun hp => ?_, fun hp => h.2 (by omega)⟩
  obtain ⟨x, hx, he⟩ := h.1 (by omega)
  rw [Nat.sub_zero, List.getElem?_take, if_pos hp] at hx
  exact ⟨x, hx, he⟩
theorem laid (hst : Stamps s n g) (hg : g + 1 < 256) (hP : PiOk P) (hn : P.length ≤ 8 * n) (hl : 12 * n ≤ s.length) (T : Nat) (hT : T ≤ P.length) (h1 : 1 ≤ T) : ArP (lay s (sq (4 * n) (g + 1) 0 (P.take T))) (4 * n) (8 * n) (g + 1) P T := by
  have hh := fun p => lay_here (g := g) hl hn T hT p
  refine ⟨hT, by omega, fun p hp => (hh p).1 hp, fun hTn => ?_, ?_⟩
  · rw [(hh T).2 (by omega)]
    exact ⟨(hst T hTn).1, old_ne (hst T hTn) hg⟩
  · obtain ⟨x, hx, he⟩ := (hh 0).1 h1
    have hx48 := (hP x (List.mem_of_getElem? hx)).1
    rw [he]
    exact ⟨formL_length _ _ _ _ hx48, genB_form _ _ _ _ hx48 hg⟩
theorem stamps_laid (hst : Stamps s n g) (hg : g + 1 < 256) (hP : PiOk P) (hn : P.length ≤ 8 * n) (hl : 12 * n ≤ s.length) (T : Nat) (hT : T ≤ P.length) : Stamps (lay s (sq (4 * n) (g + 1) 0 (P.take T))) n (g + 1) := by
  intro p hp
  have hh := lay_here (g := g) hl hn T hT p
  by_cases h : p < T
  · obtain ⟨x, hx, he⟩ := hh.1 h
    rw [he]
    exact formL_old _ _ _ _ _ (hP x (List.mem_of_getElem? hx)).1 hg (by omega)
  · rw [hh.2 h]
    exact (hst p hp).more (by omega)
/-- a piece that is torn -/
theorem torn_piece (hst : Stamps s n g) (hg : g + 1 < 256) (hP : PiOk P) (hn : P.length ≤ 8 * n) (hl : 12 * n ≤ s.length) (j : Nat) (hj : j < P.length) (t : Nat) (ht : t < 64) :
    (∃ T, T ≤ j ∧ ArP ((lay s (sq (4 * n) (g + 1) 0 (P.take j))).set (4 * n + j) ((formL P[j].1 P[j].2 (g + 1) j).take t ++ ((lay s (sq (4 * n) (g + 1) 0 (P.take j))).getD (4 * n + j) []).drop t)) (4 * n) (8 * n) (g + 1) P T) ∨
    (j = 0 ∧ (lay s (sq (4 * n) (g + 1) 0 (P.take j))).set (4 * n + j) ((formL P[j].1 P[j].2 (g + 1) j).take t ++ ((lay s (sq (4 * n) (g + 1) 0 (P.take j))).getD (4 * n + j) []).drop t) = s) := by
  have hh := fun p => lay_here (g := g) hl hn j (by omega) p
  have hold : (lay s (sq (4 * n) (g + 1) 0 (P.take j))).getD (4 * n + j) [] = sec s (4 * n) j := (hh j).2 (by omega)
  rw [hold]
  have hx48 := (hP P[j] (List.getElem_mem hj)).1
  obtain ⟨ho64, y, hy, hy4, hy60⟩ := hst j (by omega)
  have hf64 := formL_length P[j].1 P[j].2 (g + 1) j hx48
  have hf4 := formL_take P[j].1 P[j].2 (g + 1) j hg
  have hf60 := formL_drop P[j].1 P[j].2 (g + 1) j hx48 hg
  have hlen : ((formL P[j].1 P[j].2 (g + 1) j).take t ++ (sec s (4 * n) j).drop t).length = 64 := by simp [hf64, ho64]; omega
  have hend := torn_end hf64 hf60 hy60 t ht
  have hne : ((formL P[j].1 P[j].2 (g + 1) j).take t ++ (sec s (4 * n) j).drop t).drop 60 ≠ [0, 0, 0, UInt8.ofNat (g + 1)] := by
    rw [hend]
    intro e
    have e : y = UInt8.ofNat (g + 1) := by simpa using e
    subst e
    rw [UInt8.toNat_ofNat'] at hy
    omega
  have hls : (lay s (sq (4 * n) (g + 1) 0 (P.take j))).length = s.length := lay_length _ _
  have hat : sec ((lay s (sq (4 * n) (g + 1) 0 (P.take j))).set (4 * n + j) ((formL P[j].1 P[j].2 (g + 1) j).take t ++ (sec s (4 * n) j).drop t)) (4 * n) j = (formL P[j].1 P[j].2 (g + 1) j).take t ++ (sec s (4 * n) j).drop t := sec_set_eq _ _ _ _ (by rw [hls]; omega)
  have hat0 : ∀ p, p = j → sec ((lay s (sq (4 * n) (g + 1) 0 (P.take j))).set (4 * n + j) ((formL P[j].1 P[j].2 (g + 1) j).take t ++ (sec s (4 * n) j).drop t)) (4 * n) p = (formL P[j].1 P[j].2 (g + 1) j).take t ++ (sec s (4 * n) j).drop t := fun p hp => by rw [hp]; exact hat
  by_cases h0 : j = 0
  · by_cases h4 : t < 4
    · right
      refine ⟨h0, ?_⟩
      rw [torn_none hf4 hy4 t h4]
      subst h0
      rw [List.take_zero]
      exact set_sec s (4 * n) 0 (by omega)
    · left
      refine ⟨0, by omega, by omega, by omega, fun p hp => by omega, fun _ => ?_, ?_⟩
      · rw [hat0 0 h0.symm]
        exact ⟨hlen, hne⟩
      · rw [hat0 0 h0.symm]
        refine ⟨hlen, ?_⟩
        unfold genB
        rw [torn_head hf64 hf4 t (by omega) ht, hend, get4, get4, UInt8.toNat_ofNat']
        omega
  · left
    have hA := laid hst hg hP hn hl j (by omega) (by omega)
    refine ⟨j, Nat.le_refl _, by omega, by omega, fun p hp => ?_, fun _ => ?_, ?_⟩
    · obtain ⟨z, hz, he⟩ := hA.at_ p hp
      exact ⟨z, hz, by rw [sec_set_ne _ _ _ _ _ (by omega)]; exact he⟩
    · rw [hat]
      exact ⟨hlen, hne⟩
    · rw [sec_set_ne _ _ _ _ _ (by omega)]
      exact hA.first
end
/-- what is opened is this state -/
def Rec (s : List (List UInt8)) (n : Nat) (f : Int → Option ByteArray) (roots : List Int) : Prop :=
  (∃ ga, Fnd s n none ga ∧ Holds s n f roots) ∨ ∃ ga ch, Fnd s n (some (recL n f roots ch)) ga ∧ Near s f ch ∧ ∀ p ∈ ch, ∃ b, f p = some b
theorem lay_sq_low (n gen : Nat) (P : List (List UInt8 × Nat)) (s : List (List UInt8)) (i : Nat) (h : i < 4 * n) : ∀ u, (lay s (sq (4 * n) gen u P)).getD i [] = s.getD i [] := by
  intro u
  apply lay_far
  intro x hx
  have : ∀ (P : List (List UInt8 × Nat)) u, ∀ x ∈ sq (4 * n) gen u P, 4 * n ≤ x.1 := by
    intro P
    induction P with
    | nil => intro u x hx; cases hx
    | cons y P ih =>
      intro u x hx
      rcases List.mem_cons.1 hx with rfl | hx
      · show 4 * n ≤ 4 * n + u
        omega
      · exact ih _ x hx
  have := this P u x hx
  omega
/-- a record is put into the log -/
structure Put (s0 : List (List UInt8)) (n g : Nat) (f : Int → Option ByteArray) (roots : List Int) (sz : Nat) (f' : Int → Option ByteArray) (roots' : List Int) (sz' : Nat) (ch : List Int) : Prop where
  hn : 8 ≤ n
  hn2 : n ≤ 5000
  k : Wf n f roots sz
  k' : Wf n f' roots' sz'
  holds : Holds s0 n f roots
  rec0 : Rec s0 n f roots
  st : Stamps s0 n g
  hg : g + 1 < 256
  chok : ∀ p ∈ ch, ∃ b, f' p = some b
  same : ∀ (q : Nat) b, f' ((q : Int) + 1) = some b → ((q : Int) + 1) ∉ ch → f ((q : Int) + 1) = some b
  fits : (allP [recL n f' roots' ch]).length ≤ 8 * n
  hl : 12 * n ≤ s0.length
  z : ∀ x ∈ s0, x.length = 64
section
variable {s0 : List (List UInt8)} {n g : Nat} {f : Int → Option ByteArray} {roots : List Int} {sz : Nat} {f' : Int → Option ByteArray} {roots' : List Int} {sz' : Nat} {ch : List Int}
theorem Put.part (h : Put s0 n g f roots sz f' roots' sz' ch) {s : List (List UInt8)} (hs : ∀ i, i < 4 * n → s.getD i [] = s0.getD i []) {T : Nat} (hT : T < (allP [recL n f' roots' ch]).length) (hA : ArP s (4 * n) (8 * n) (g + 1) (allP [recL n f' roots' ch]) T) : Rec s n f roots :=
  .inl ⟨g + 1, .inr ⟨_, T, by omega, h.hg, hA, .inr ⟨rfl, hT⟩⟩, holds_far h.k h.hn h.holds hs⟩
theorem Put.low (_h : Put s0 n g f roots sz f' roots' sz' ch) (j : Nat) : ∀ i, i < 4 * n → (lay s0 (sq (4 * n) (g + 1) 0 ((allP [recL n f' roots' ch]).take j))).getD i [] = s0.getD i [] := fun i hi => lay_sq_low n (g + 1) _ s0 i hi 0
/-- while pieces are written -/
theorem Put.some_ (h : Put s0 n g f roots sz f' roots' sz' ch) (j : Nat) (hj : j < (allP [recL n f' roots' ch]).length) : Rec (lay s0 (sq (4 * n) (g + 1) 0 ((allP [recL n f' roots' ch]).take j))) n f roots := by
  by_cases h0 : j = 0
  · subst h0
    exact h.rec0
  · exact h.part (h.low j) hj (laid h.st h.hg (allP_ok _) h.fits h.hl j (by omega) (by omega))
theorem Put.all (h : Put s0 n g f roots sz f' roots' sz' ch) : Fnd (lay s0 (sq (4 * n) (g + 1) 0 (allP [recL n f' roots' ch]))) n (some (recL n f' roots' ch)) (g + 1) := by
  have h1 := one_len (recL n f' roots' ch)
  have hA := laid h.st h.hg (allP_ok _) h.fits h.hl (allP [recL n f' roots' ch]).length (Nat.le_refl _) h1
  rw [List.take_length] at hA
  exact .inr ⟨_, _, by omega, h.hg, hA, .inl ⟨rfl, rfl⟩⟩
theorem Put.near (h : Put s0 n g f roots sz f' roots' sz' ch) : Near (lay s0 (sq (4 * n) (g + 1) 0 (allP [recL n f' roots' ch]))) f' ch :=
  near_far h.k' h.hn (holds_near h.holds ch h.same) (fun i hi => lay_sq_low n (g + 1) _ s0 i hi 0)
theorem Put.next (h : Put s0 n g f roots sz f' roots' sz' ch) : Rec (lay s0 (sq (4 * n) (g + 1) 0 (allP [recL n f' roots' ch]))) n f' roots' := .inr ⟨g + 1, ch, h.all, h.near, h.chok⟩
theorem Put.torn (h : Put s0 n g f roots sz f' roots' sz' ch) (j : Nat) (hj : j < (sq (4 * n) (g + 1) 0 (allP [recL n f' roots' ch])).length) (t : Nat) (ht : t ≤ 64) (hlast : t < 64 ∨ j + 1 < (allP [recL n f' roots' ch]).length) :
    Rec ((lay s0 ((sq (4 * n) (g + 1) 0 (allP [recL n f' roots' ch])).take j)).set (sq (4 * n) (g + 1) 0 (allP [recL n f' roots' ch]))[j].1 ((sq (4 * n) (g + 1) 0 (allP [recL n f' roots' ch]))[j].2.take t ++ ((lay s0 ((sq (4 * n) (g + 1) 0 (allP [recL n f' roots' ch])).take j)).getD (sq (4 * n) (g + 1) 0 (allP [recL n f' roots' ch]))[j].1 []).drop t)) n f roots := by
  have hj' : j < (allP [recL n f' roots' ch]).length := by rwa [sq_length] at hj
  have hx48 := (allP_ok _ _ (List.getElem_mem hj')).1
  rw [sq_get _ _ _ _ _ hj hj', sq_take]
  simp only [Nat.zero_add]
  have hlow : ∀ y, ∀ i, i < 4 * n → ((lay s0 (sq (4 * n) (g + 1) 0 ((allP [recL n f' roots' ch]).take j))).set (4 * n + j) y).getD i [] = s0.getD i [] := fun y i hi => by
    rw [List.getD_eq_getElem?_getD, List.getElem?_set_ne (by omega), ← List.getD_eq_getElem?_getD]
    exact h.low j i hi
  by_cases h64 : t < 64
  · rcases torn_piece h.st h.hg (allP_ok _) h.fits h.hl j hj' t h64 with ⟨T, hT, hA⟩ | ⟨_, e⟩
    · exact h.part (hlow _) (by omega) hA
    · rw [e]; exact h.rec0
  · obtain rfl : t = 64 := by omega
    have e1 : (formL (allP [recL n f' roots' ch])[j].1 (allP [recL n f' roots' ch])[j].2 (g + 1) j).take 64 = formL (allP [recL n f' roots' ch])[j].1 (allP [recL n f' roots' ch])[j].2 (g + 1) j := List.take_of_length_le (by rw [formL_length _ _ _ _ hx48]; exact Nat.le_refl _)
    have hz := lay_z s0 (sq (4 * n) (g + 1) 0 ((allP [recL n f' roots' ch]).take j)) h.z (sq_z _ _ _ _ (fun x hx => allP_ok _ x (List.mem_of_mem_take hx)))
    have e2 : ((lay s0 (sq (4 * n) (g + 1) 0 ((allP [recL n f' roots' ch]).take j))).getD (4 * n + j) []).drop 64 = [] := by
      rw [List.drop_eq_nil_iff, List.getD_eq_getElem?_getD]
      cases hg : (lay s0 (sq (4 * n) (g + 1) 0 ((allP [recL n f' roots' ch]).take j)))[4 * n + j]? with
      | none => simp
      | some y => exact Nat.le_of_eq (hz y (List.mem_of_getElem? hg))
    rw [e1, e2, List.append_nil]
    have := h.some_ (j + 1) (by omega)
    rw [List.take_succ_eq_append_getElem hj', sq_append, lay_append] at this
    have e : ((allP [recL n f' roots' ch]).take j).length = j := by simp; omega
    rw [e, Nat.zero_add] at this
    exact this
theorem Put.torn' (h : Put s0 n g f roots sz f' roots' sz' ch) (j : Nat) (hj : j < (sq (4 * n) (g + 1) 0 (allP [recL n f' roots' ch])).length) (t : Nat) (ht : t ≤ 64) :
    (fun s => Rec s n f roots ∨ Rec s n f' roots') ((lay s0 ((sq (4 * n) (g + 1) 0 (allP [recL n f' roots' ch])).take j)).set (sq (4 * n) (g + 1) 0 (allP [recL n f' roots' ch]))[j].1 ((sq (4 * n) (g + 1) 0 (allP [recL n f' roots' ch]))[j].2.take t ++ ((lay s0 ((sq (4 * n) (g + 1) 0 (allP [recL n f' roots' ch])).take j)).getD (sq (4 * n) (g + 1) 0 (allP [recL n f' roots' ch]))[j].1 []).drop t)) := by
  have hj' : j < (allP [recL n f' roots' ch]).length := by rwa [sq_length] at hj
  by_cases hlast : t < 64 ∨ j + 1 < (allP [recL n f' roots' ch]).length
  · exact .inl (h.torn j hj t ht hlast)
  · right
    obtain rfl : t = 64 := by omega
    have hx48 := (allP_ok _ _ (List.getElem_mem hj')).1
    rw [sq_get _ _ _ _ _ hj hj', sq_take]
    simp only [Nat.zero_add]
    have e1 : (formL (allP [recL n f' roots' ch])[j].1 (allP [recL n f' roots' ch])[j].2 (g + 1) j).take 64 = formL (allP [recL n f' roots' ch])[j].1 (allP [recL n f' roots' ch])[j].2 (g + 1) j := List.take_of_length_le (by rw [formL_length _ _ _ _ hx48]; exact Nat.le_refl _)
    have hz := lay_z s0 (sq (4 * n) (g + 1) 0 ((allP [recL n f' roots' ch]).take j)) h.z (sq_z _ _ _ _ (fun x hx => allP_ok _ x (List.mem_of_mem_take hx)))
    have e2 : ((lay s0 (sq (4 * n) (g + 1) 0 ((allP [recL n f' roots' ch]).take j))).getD (4 * n + j) []).drop 64 = [] := by
      rw [List.drop_eq_nil_iff, List.getD_eq_getElem?_getD]
      cases hg : (lay s0 (sq (4 * n) (g + 1) 0 ((allP [recL n f' roots' ch]).take j)))[4 * n + j]? with
      | none => simp
      | some y => exact Nat.le_of_eq (hz y (List.mem_of_getElem? hg))
    rw [e1, e2, List.append_nil]
    have hnx := h.next
    have e0 : (allP [recL n f' roots' ch]) = (allP [recL n f' roots' ch]).take (j + 1) := (List.take_of_length_le (by omega)).symm
    rw [e0, List.take_succ_eq_append_getElem hj', sq_append, lay_append] at hnx
    have e : ((allP [recL n f' roots' ch]).take j).length = j := by simp; omega
    rw [e, Nat.zero_add] at hnx
    exact hnx
end
end Go.Proofs.YtoleojljpaglhaaGreat.Pb
/- Plain mathematics of chapter 12: a pager's state over its disk; settle and Commit. No program, no conditions. -/
namespace Go.Proofs.YtoleojljpaglhaaGreat
/-- an open transaction's state -/
structure PT where
  pages : Int → Option ByteArray
  sz : Nat
  roots : List Int
  dirty : Int → Bool
  dz : Nat
/-- a pager's state -/
structure PP where
  n : Nat
  pages : Int → Option ByteArray
  sz : Nat
  roots : List Int
  tx : Option PT
  up : Bool
  todo : List (Int × ByteArray)
end Go.Proofs.YtoleojljpaglhaaGreat
namespace Go.Proofs.YtoleojljpaglhaaGreat.Pb
open Go Go.RowKit Vd Wa
/-- targets as the program has them -/
def tod (l : List (Nat × List UInt8)) : List (Int × ByteArray) := l.map fun x => ((x.1 : Int), ⟨x.2.toArray⟩)
theorem safe_pushes {Ψ : List (List UInt8) → Prop} {d : VD} (l : List (Nat × List UInt8)) (hl : ∀ x ∈ l, x.1 < d.secs.length ∧ x.2.length = 64) (hs : ∀ s ∈ lay d.secs d.q, s.length = 64) (h : Safe Ψ d) : ∀ k, k ≤ l.length →
    (∀ j (hj : j < l.length) t, j < k → t ≤ 64 → Ψ ((lay (lay d.secs d.q) (l.take j)).set l[j].1 (l[j].2.take t ++ ((lay (lay d.secs d.q) (l.take j)).getD l[j].1 []).drop t))) →
    ∀ x : VD, x.on = true → x.secs = d.secs → x.q = d.q ++ l.take k → Safe Ψ x := by
  intro k
  induction k with
  | zero =>
    intro _ _ x h1 h2 h3
    rw [List.take_zero, List.append_nil] at h3
    exact ⟨h1, fun a t ha ht => by rw [h2, h3]; exact h.2 a t (by rw [← h3]; exact ha) ht⟩
  | succ k ih =>
    intro hk hall x h1 h2 h3
    have hkl : k < l.length := by omega
    have hy := ih (by omega) (fun j hj t hjk ht => hall j hj t (by omega) ht) { x with q := d.q ++ l.take k } h1 h2 rfl
    have hlay : lay x.secs (d.q ++ l.take k) = lay (lay d.secs d.q) (l.take k) := by rw [h2, lay_append]
    have hp := safe_push hy l[k].1 l[k].2 (hl _ (List.getElem_mem hkl)).2 (fun t ht => by
      show Ψ ((lay x.secs (d.q ++ l.take k)).set _ _)
      have := hall k hkl t (by omega) ht
      simp only [hlay]
      exact this) (by
      show ∀ s ∈ lay x.secs (d.q ++ l.take k), s.length = 64
      rw [hlay]
      exact lay_z _ _ hs (fun y hy => (hl y (List.mem_of_mem_take hy)).2)) x.fuse x.room x.writes
    have e : x = { x with q := d.q ++ l.take (k + 1) } := by rw [← h3]
    rw [e, List.take_succ_eq_append_getElem hkl, ← List.append_assoc]
    exact hp
/-- a pager over its disk, with power -/
structure Inv (d : VD) (L : WL) (P : PP) (l : List (Nat × List UInt8)) : Prop where
  hn : 8 ≤ P.n
  hn2 : P.n ≤ 5000
  up : P.up = true
  wf : Wf P.n P.pages P.roots P.sz
  len : 12 * P.n ≤ d.secs.length
  z : ∀ s ∈ lay d.secs d.q, s.length = 64
  fr : L.fr = 4 * P.n
  ln : L.n = 8 * P.n
  used : L.used ≤ L.n
  recs : L.recs.length ≤ 1
  st : Stamps (lay d.secs d.q) P.n L.gen
  todo : P.todo = tod l
  body : (l = [] ∧ Holds (lay d.secs d.q) P.n P.pages P.roots ∧ Safe (fun s => Rec s P.n P.pages P.roots) d) ∨
    (∃ ch ga, (∀ p ∈ ch, ∃ b, P.pages p = some b) ∧ l = targL P.n P.pages P.roots ch ∧ Safe (fun s => Fnd s P.n (some (recL P.n P.pages P.roots ch)) ga ∧ Near s P.pages ch) d)
theorem Inv.on {d : VD} {L : WL} {P : PP} {l : List (Nat × List UInt8)} (h : Inv d L P l) : d.on = true := by
  rcases h.body with ⟨_, _, k⟩ | ⟨_, _, _, _, k⟩
  · exact k.1
  · exact k.1
theorem Inv.places {d : VD} {L : WL} {P : PP} {l : List (Nat × List UInt8)} (h : Inv d L P l) : ∀ x ∈ l, x.1 < d.secs.length ∧ x.2.length = 64 := by
  intro x hx
  rcases h.body with ⟨rfl, _⟩ | ⟨ch, _, hc, rfl, _⟩
  · cases hx
  · have := (targ_place h.wf h.hn ch hc x hx).1
    have := h.len
    exact ⟨by omega, targ_64 h.wf h.hn2 ch hc x hx⟩
/-- it may be cut at any time -/
theorem Inv.safe {d : VD} {L : WL} {P : PP} {l : List (Nat × List UInt8)} (h : Inv d L P l) : Safe (fun s => Rec s P.n P.pages P.roots) d := by
  rcases h.body with ⟨_, _, k⟩ | ⟨ch, ga, hc, _, k⟩
  · exact k
  · exact k.imp (fun s hs => .inr ⟨ga, ch, hs.1, hs.2, hc⟩)
theorem high_set {s s0 : List (List UInt8)} {n p : Nat} (hp : p < 4 * n) (y : List UInt8) (h : ∀ i, 4 * n ≤ i → s.getD i [] = s0.getD i []) : ∀ i, 4 * n ≤ i → (s.set p y).getD i [] = s0.getD i [] := fun i hi => by
  rw [List.getD_eq_getElem?_getD, List.getElem?_set_ne (by omega), ← List.getD_eq_getElem?_getD]
  exact h i hi
/-- settle -/
theorem Inv.settle {d : VD} {L : WL} {P : PP} {l : List (Nat × List UInt8)} (h : Inv d L P l) :
    Rel d (settleV d l).2 l.length ∧ (((settleV d l).1 = 0 ∧ Inv (settleV d l).2 L { P with todo := [] } []) ∨ ((settleV d l).1 = 83 ∧ Inv (settleV d l).2 L P l ∧ (settleV d l).2.secs = d.secs ∧ d.room ≠ -1) ∨ ((settleV d l).1 = 80 ∧ Off (fun s => Rec s P.n P.pages P.roots) (settleV d l).2 ∧ d.fuse ≠ none)) := by
  have hpl := h.places
  rcases h.body with ⟨rfl, hH, hS⟩ | ⟨ch, ga, hc, hl, hS⟩
  · refine ⟨Rel.refl d, .inl ⟨rfl, ⟨h.hn, h.hn2, h.up, h.wf, h.len, h.z, h.fr, h.ln, h.used, h.recs, h.st, rfl, .inl ⟨rfl, hH, hS⟩⟩⟩⟩
  · have hall : ∀ s, (∀ x ∈ s, x.length = 64) → (Fnd s P.n (some (recL P.n P.pages P.roots ch)) ga ∧ Near s P.pages ch) → ∀ x ∈ l, ∀ y : List UInt8, y.length = 64 → (Fnd (s.set x.1 y) P.n (some (recL P.n P.pages P.roots ch)) ga ∧ Near (s.set x.1 y) P.pages ch) := fun s hz hs x hx y hy => by
      rw [hl] at hx
      have h1 := (targ_place h.wf h.hn ch hc x hx).1
      exact ⟨hs.1.far (high_set h1 y (fun _ _ => rfl)), near_set h.wf h.hn ch hc hs.2 x hx y⟩
    obtain ⟨hr, h2⟩ := safe_settle l hS hpl h.z hall
    refine ⟨hr, ?_⟩
    have hhigh : ∀ i, 4 * P.n ≤ i → (lay (lay d.secs d.q) l).getD i [] = (lay d.secs d.q).getD i [] := fun i hi => lay_far l _ i (fun x hx => by
      rw [hl] at hx
      have := (targ_place h.wf h.hn ch hc x hx).1
      omega)
    rcases h2 with ⟨e0, hs2, hq, _⟩ | ⟨e0, hs2, hse, ⟨l', hq', hm'⟩, hrm⟩ | ⟨e0, ho, hfu⟩
    · refine .inl ⟨e0, h.hn, h.hn2, h.up, h.wf, by rw [hr.len]; exact h.len, by rw [hq]; exact lay_z _ _ h.z (fun x hx => (hpl x hx).2), h.fr, h.ln, h.used, h.recs, by rw [hq]; exact h.st.far hhigh, rfl, .inl ⟨rfl, ?_, hs2.imp (fun s hs => .inr ⟨ga, ch, hs.1, hs.2, hc⟩)⟩⟩
      rw [hq, hl]
      exact lay_targ h.wf h.hn h.hn2 ch _ (by rw [lay_length]; have := h.len; omega) hc hS.now.2
    · refine .inr (.inl ⟨e0, ?_, hse, hrm⟩)
      have hlay : lay (settleV d l).2.secs (settleV d l).2.q = lay (lay d.secs d.q) l' := by rw [hse, hq', lay_append]
      have hst : Stamps (lay (lay d.secs d.q) l') P.n L.gen := h.st.far (fun i hi => lay_far l' _ i (fun x hx => by
        have hx' := hm' x hx
        rw [hl] at hx'
        have := (targ_place h.wf h.hn ch hc x hx').1
        omega))
      exact ⟨h.hn, h.hn2, h.up, h.wf, by rw [hr.len]; exact h.len, by rw [hlay]; exact lay_z _ _ h.z (fun x hx => (hpl x (hm' x hx)).2), h.fr, h.ln, h.used, h.recs, by rw [hlay]; exact hst, h.todo, .inr ⟨ch, ga, hc, hl, hs2⟩⟩
    · exact .inr (.inr ⟨e0, ho.imp (fun s hs => .inr ⟨ga, ch, hs.1, hs.2, hc⟩), hfu⟩)
/-- what Commit makes of a disk, a log and a pager where something changed -/
def commitV (d : VD) (L : WL) (P : PP) (t : PT) (ch : List Int) : Int × VD × WL × PP :=
  if (wrSeq d (sq L.fr (L.gen + 1) 0 (allP [recL P.n t.pages t.roots ch]))).1 ≠ 0 then
    ((wrSeq d (sq L.fr (L.gen + 1) 0 (allP [recL P.n t.pages t.roots ch]))).1, (wrSeq d (sq L.fr (L.gen + 1) 0 (allP [recL P.n t.pages t.roots ch]))).2, { L with gen := L.gen + 1, op := false, used := 0, recs := [] }, { P with tx := none })
  else if (Vd.sync (wrSeq d (sq L.fr (L.gen + 1) 0 (allP [recL P.n t.pages t.roots ch]))).2).1 ≠ 0 then
    ((Vd.sync (wrSeq d (sq L.fr (L.gen + 1) 0 (allP [recL P.n t.pages t.roots ch]))).2).1, (Vd.sync (wrSeq d (sq L.fr (L.gen + 1) 0 (allP [recL P.n t.pages t.roots ch]))).2).2, { L with gen := L.gen + 1, op := true, used := (pieces (recL P.n t.pages t.roots ch)).length, recs := [recL P.n t.pages t.roots ch] }, { P with tx := none })
  else
    (if (settleV (Vd.sync (wrSeq d (sq L.fr (L.gen + 1) 0 (allP [recL P.n t.pages t.roots ch]))).2).2 (targL P.n t.pages t.roots ch)).1 = 80 then 80 else 0,
      (settleV (Vd.sync (wrSeq d (sq L.fr (L.gen + 1) 0 (allP [recL P.n t.pages t.roots ch]))).2).2 (targL P.n t.pages t.roots ch)).2, { L with gen := L.gen + 1, op := true, used := (pieces (recL P.n t.pages t.roots ch)).length, recs := [recL P.n t.pages t.roots ch] },
      { P with pages := t.pages, sz := t.sz, roots := t.roots, tx := none, todo := if (settleV (Vd.sync (wrSeq d (sq L.fr (L.gen + 1) 0 (allP [recL P.n t.pages t.roots ch]))).2).2 (targL P.n t.pages t.roots ch)).1 = 0 then [] else tod (targL P.n t.pages t.roots ch) })
/-- what an open transaction is -/
structure TxOk (P : PP) (t : PT) : Prop where
  wf : Wf P.n t.pages t.roots t.sz
  same : ∀ k b, t.pages k = some b → t.dirty k = false → P.pages k = some b
/-- the pages that are to be recorded -/
structure Chg (P : PP) (t : PT) (ch : List Int) : Prop where
  ok : ∀ p ∈ ch, ∃ b, t.pages p = some b
  all : ∀ k b, t.pages k = some b → k ∉ ch → P.pages k = some b
theorem Inv.put {d : VD} {L : WL} {P : PP} {t : PT} {ch : List Int} (h : Inv d L P []) (ht : TxOk P t) (hc : Chg P t ch) (hg : L.gen + 1 < 256) (hf : (allP [recL P.n t.pages t.roots ch]).length ≤ 8 * P.n) :
    Put (lay d.secs d.q) P.n L.gen P.pages P.roots P.sz t.pages t.roots t.sz ch := by
  have hH : Holds (lay d.secs d.q) P.n P.pages P.roots := by
    rcases h.body with ⟨_, k, _⟩ | ⟨ch', ga, hc', hl, hS⟩
    · exact k
    · exfalso
      have := congrArg List.length hl
      unfold targL at this
      simp [secL] at this
  exact ⟨h.hn, h.hn2, h.wf, ht.wf, hH, h.safe.now, h.st, hg, hc.ok, fun q b h1 h2 => hc.all _ b h1 h2, hf, by rw [lay_length]; exact h.len, h.z⟩
theorem sq_bounds (fr gen : Nat) : ∀ (l : List (List UInt8 × Nat)) (u : Nat), PiOk l → ∀ x ∈ sq fr gen u l, fr + u ≤ x.1 ∧ x.1 < fr + u + l.length ∧ x.2.length = 64 := by
  intro l
  induction l with
  | nil => intro u _ x hx; cases hx
  | cons y l ih =>
    intro u h x hx
    rcases List.mem_cons.1 hx with rfl | hx
    · exact ⟨Nat.le_refl _, by simp, formL_length _ _ _ _ (h y List.mem_cons_self).1⟩
    · have := ih (u + 1) (fun z hz => h z (List.mem_cons_of_mem _ hz)) x hx
      rw [List.length_cons]
      exact ⟨by omega, by omega, this.2.2⟩
/-- Commit -/
theorem Inv.commit {d : VD} {L : WL} {P : PP} {t : PT} {ch : List Int} (h : Inv d L P []) (ht : TxOk P t) (hc : Chg P t ch) (hg : L.gen + 1 < 256) (hf : (allP [recL P.n t.pages t.roots ch]).length ≤ 8 * P.n) :
    Rel d (commitV d L P t ch).2.1 ((allP [recL P.n t.pages t.roots ch]).length + (targL P.n t.pages t.roots ch).length) ∧
    (((commitV d L P t ch).1 = 0 ∧ (commitV d L P t ch).2.2.2.pages = t.pages ∧ (commitV d L P t ch).2.2.2.roots = t.roots ∧ (commitV d L P t ch).2.2.2.sz = t.sz ∧ (∃ l, Inv (commitV d L P t ch).2.1 (commitV d L P t ch).2.2.1 (commitV d L P t ch).2.2.2 l ∧ (d.room = -1 → l = []))) ∨
     ((commitV d L P t ch).1 = 83 ∧ (commitV d L P t ch).2.2.2 = { P with tx := none } ∧ Inv (commitV d L P t ch).2.1 (commitV d L P t ch).2.2.1 { P with tx := none } [] ∧ d.room ≠ -1) ∨
     ((commitV d L P t ch).1 = 80 ∧ Off (fun s => Rec s P.n P.pages P.roots ∨ Rec s P.n t.pages t.roots) (commitV d L P t ch).2.1 ∧ d.fuse ≠ none)) := by
  have hput := h.put ht hc hg hf
  obtain ⟨rc, hrc⟩ : ∃ rc, recL P.n t.pages t.roots ch = rc := ⟨_, rfl⟩
  obtain ⟨W, hW⟩ : ∃ W, sq L.fr (L.gen + 1) 0 (allP [rc]) = W := ⟨_, rfl⟩
  have hWb : ∀ x ∈ W, x.1 < d.secs.length ∧ x.2.length = 64 := fun x hx => by
    rw [← hW] at hx
    have := sq_bounds _ _ _ _ (allP_ok _) x hx
    have := h.len
    have := h.fr
    rw [hrc] at hf
    exact ⟨by omega, by omega⟩
  have hWl : W.length = (allP [rc]).length := by rw [← hW, sq_length]
  have hW4 : W = sq (4 * P.n) (L.gen + 1) 0 (allP [recL P.n t.pages t.roots ch]) := by rw [← hW, h.fr, hrc]
  unfold commitV
  rw [hrc, hW]
  obtain ⟨hr1, h1⟩ := safe_seq W d (Φ := fun s => Rec s P.n P.pages P.roots ∨ Rec s P.n t.pages t.roots) (h.safe.imp (fun s hs => .inl hs)) hWb h.z (fun j hj t' ht' => by
    subst hW4
    exact hput.torn' j hj t' ht')
  rcases h1 with ⟨e0, hs1, hse1, hq1⟩ | ⟨e0, hs1, hse1, ⟨k, hk, hq1⟩, hrm⟩ | ⟨e0, ho, hfu⟩
  · rw [if_neg (by simp only [ne_eq]; omega)]
    have hlay1 : lay (wrSeq d W).2.secs (wrSeq d W).2.q = lay (lay d.secs d.q) W := by rw [hse1, hq1, lay_append]
    obtain ⟨hr2, h2⟩ := safe_sync hs1
    rcases h2 with ⟨e2, hs2, hse2, hq2⟩ | ⟨_, _, _, h', _⟩ | ⟨e2, ho, hfu⟩
    · rw [if_neg (by simp only [ne_eq]; omega)]
      obtain ⟨d2, hd2⟩ : ∃ d2, (Vd.sync (wrSeq d W).2).2 = d2 := ⟨_, rfl⟩
      rw [hd2] at hs2 hse2 hq2 hr2 ⊢
      have hsec2 : d2.secs = lay (lay d.secs d.q) W := hse2.trans hlay1
      have hlay2 : lay d2.secs d2.q = lay (lay d.secs d.q) W := by rw [hq2]; exact hsec2
      have hrel := hr1.trans hr2
      have hi : Inv d2 { L with gen := L.gen + 1, op := true, used := (pieces rc).length, recs := [rc] } { P with pages := t.pages, sz := t.sz, roots := t.roots, tx := none, todo := tod (targL P.n t.pages t.roots ch) } (targL P.n t.pages t.roots ch) := by
        refine ⟨h.hn, h.hn2, h.up, ht.wf, by rw [hrel.len]; exact h.len, by rw [hlay2]; exact lay_z _ _ h.z (fun x hx => (hWb x hx).2), h.fr, h.ln, ?_, by simp, ?_, rfl, .inr ⟨ch, L.gen + 1, hc.ok, rfl, ?_⟩⟩
        · show (pieces rc).length ≤ L.n
          rw [h.ln]
          rw [hrc, allP_one, kinded_length] at hf
          exact hf
        · rw [hlay2, hW4]
          have := stamps_laid hput.st hput.hg (allP_ok _) hput.fits hput.hl (allP [recL P.n t.pages t.roots ch]).length (Nat.le_refl _)
          rwa [List.take_length] at this
        · refine safe_idle hs2.1 hq2 ?_
          rw [hsec2, hW4]
          exact ⟨hput.all, hput.near⟩
      obtain ⟨hr3, h3⟩ := hi.settle
      have hr3 : Rel d2 (settleV d2 (targL P.n t.pages t.roots ch)).2 (targL P.n t.pages t.roots ch).length := hr3
      refine ⟨(hrel.trans hr3).more (by rw [hWl]; omega), ?_⟩
      rcases h3 with ⟨e3, hI⟩ | ⟨e3, hI, _, hrm⟩ | ⟨e3, ho, hfu⟩
      · left
        refine ⟨by rw [if_neg (by omega)], rfl, rfl, rfl, [], ?_, fun _ => rfl⟩
        simp only [if_pos e3]
        exact hI
      · left
        refine ⟨by rw [if_neg (by omega)], rfl, rfl, rfl, targL P.n t.pages t.roots ch, ?_, fun e => absurd (hrel.room e) hrm⟩
        simp only [if_neg (show ¬ (settleV d2 (targL P.n t.pages t.roots ch)).1 = 0 by omega)]
        exact hI
      · right; right
        exact ⟨by rw [if_pos e3], ho.imp (fun s hs => .inr hs), fun e => hfu (hrel.fuse e)⟩
    · exact h'.elim
    · rw [if_pos (by simp only [ne_eq]; omega)]
      exact ⟨(hr1.trans hr2).more (by omega), .inr (.inr ⟨e2, ho, fun e => hfu (hr1.fuse e)⟩)⟩
  · rw [if_pos (by simp only [ne_eq]; omega)]
    refine ⟨hr1.more (by omega), .inr (.inl ⟨e0, rfl, ?_, hrm⟩)⟩
    have hlay1 : lay (wrSeq d W).2.secs (wrSeq d W).2.q = lay (lay d.secs d.q) (W.take k) := by rw [hse1, hq1, lay_append]
    have hk' : k ≤ (allP [recL P.n t.pages t.roots ch]).length := by rw [hrc]; omega
    have hWk : W.take k = sq (4 * P.n) (L.gen + 1) 0 ((allP [recL P.n t.pages t.roots ch]).take k) := by rw [hW4, sq_take]
    refine ⟨h.hn, h.hn2, h.up, h.wf, by rw [hr1.len]; exact h.len, by rw [hlay1]; exact lay_z _ _ h.z (fun x hx => (hWb x (List.mem_of_mem_take hx)).2), h.fr, h.ln, Nat.zero_le _, by simp, ?_, h.todo, .inl ⟨rfl, ?_, ?_⟩⟩
    · rw [hlay1, hWk]
      exact stamps_laid hput.st hput.hg (allP_ok _) hput.fits hput.hl k hk'
    · rw [hlay1, hWk]
      exact holds_far h.wf h.hn hput.holds (hput.low k)
    · refine safe_pushes W hWb h.z h.safe k (by omega) (fun j hj t' hjk ht' => ?_) (wrSeq d W).2 hs1.1 hse1 hq1
      subst hW4
      refine hput.torn j hj t' ht' (.inr ?_)
      rw [hrc]
      omega
  · rw [if_pos (by simp only [ne_eq]; omega)]
    exact ⟨hr1.more (by omega), .inr (.inr ⟨e0, ho, hfu⟩)⟩
end Go.Proofs.YtoleojljpaglhaaGreat.Pb
