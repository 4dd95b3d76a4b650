/- Plain mathematics of LogWhole: what stands in a log's sectors, wherever the power fails. No program, no conditions. -/
import Derived.Test.YtoleojljpaglhaaWaP
namespace Go.Proofs.Ytoleojljpaglhaa.Wa
open Go Go.RowKit Vd
/-- pieces with their kinds -/
def kinded : List (List UInt8) → List (List UInt8 × Nat)
  | [] => []
  | [s] => [(s, 2)]
  | s :: t :: l => (s, 1) :: kinded (t :: l)
theorem kinded_length : ∀ l, (kinded l).length = l.length
  | [] => rfl
  | [_] => rfl
  | _ :: t :: l => by rw [kinded, List.length_cons, kinded_length (t :: l)]; rfl
theorem kinded_at : ∀ (l : List (List UInt8)) (j : Nat) (h : j < l.length), (kinded l)[j]? = some (l[j], if j + 1 = l.length then 2 else 1)
  | [s], 0, _ => rfl
  | [s], j + 1, h => by simp at h
  | s :: t :: l, 0, _ => by simp [kinded]
  | s :: t :: l, j + 1, h => by
    have := kinded_at (t :: l) j (by simpa using h)
    rw [kinded, List.getElem?_cons_succ, this]
    simp
/-- all pieces of records -/
def allP (rs : List (List UInt8)) : List (List UInt8 × Nat) := rs.flatMap fun r => kinded (pieces r)
theorem allP_append (a b : List (List UInt8)) : allP (a ++ b) = allP a ++ allP b := by simp [allP]
theorem allP_one (r : List UInt8) : allP [r] = kinded (pieces r) := by simp [allP]
theorem pieces_pos (r : List UInt8) : 1 ≤ (pieces r).length := by rw [pieces_len]; omega
/-- writes of pieces, one behind the other -/
def sq (fr gen : Nat) : Nat → List (List UInt8 × Nat) → List (Nat × List UInt8)
  | _, [] => []
  | u, x :: l => (fr + u, formL x.1 x.2 gen u) :: sq fr gen (u + 1) l
theorem sq_length (fr gen : Nat) : ∀ (l : List (List UInt8 × Nat)) (u : Nat), (sq fr gen u l).length = l.length := by
  intro l
  induction l with
  | nil => intro u; rfl
  | cons x l ih => intro u; simp only [sq, List.length_cons, ih]
theorem sq_append (fr gen : Nat) (B : List (List UInt8 × Nat)) : ∀ (A : List (List UInt8 × Nat)) (u : Nat), sq fr gen u (A ++ B) = sq fr gen u A ++ sq fr gen (u + A.length) B := by
  intro A
  induction A with
  | nil => intro u; simp [sq]
  | cons x A ih => intro u; simp only [List.cons_append, sq, ih, List.length_cons]; rw [show u + 1 + A.length = u + (A.length + 1) from by omega]
theorem sq_take (fr gen : Nat) : ∀ (l : List (List UInt8 × Nat)) (u k : Nat), (sq fr gen u l).take k = sq fr gen u (l.take k) := by
  intro l
  induction l with
  | nil => intro u k; simp [sq]
  | cons x l ih =>
    intro u k
    cases k with
    | zero => rfl
    | succ k => simp only [sq, List.take_succ_cons, ih]
theorem sq_drop (fr gen : Nat) : ∀ (l : List (List UInt8 × Nat)) (u k : Nat), k ≤ l.length → (sq fr gen u l).drop k = sq fr gen (u + k) (l.drop k) := by
  intro l
  induction l with
  | nil => intro u k h; have : k = 0 := by simpa using h
           subst this; rfl
  | cons x l ih =>
    intro u k h
    cases k with
    | zero => rfl
    | succ k => simp only [sq, List.drop_succ_cons]; rw [ih (u + 1) k (by simpa using h), show u + 1 + k = u + (k + 1) from by omega]
theorem wrs_kinded (fr gen used tot : Nat) : ∀ (l : List (List UInt8)) (i : Nat), i + l.length = tot → wrs fr gen used tot i l = sq fr gen (used + i) (kinded l)
  | [], _, _ => rfl
  | [s], i, h => by
    simp only [List.length_cons, List.length_nil] at h
    simp only [wrs, kinded, sq]
    rw [if_pos (by omega)]
  | s :: t :: l, i, h => by
    have ih := wrs_kinded fr gen used tot (t :: l) (i + 1) (by simp only [List.length_cons] at h ⊢; omega)
    rw [wrs, ih, kinded, sq, if_neg (by simp only [List.length_cons] at h; omega)]
    rfl
/-- the sector of a place -/
def sec (secs : List (List UInt8)) (fr p : Nat) : List UInt8 := secs.getD (fr + p) []
theorem lay_sq (fr gen p : Nat) : ∀ (l : List (List UInt8 × Nat)) (u : Nat) (base : List (List UInt8)), fr + (u + l.length) ≤ base.length →
    (u ≤ p ∧ p < u + l.length → ∃ x, l[p - u]? = some x ∧ sec (lay base (sq fr gen u l)) fr p = formL x.1 x.2 gen p) ∧ (¬ (u ≤ p ∧ p < u + l.length) → sec (lay base (sq fr gen u l)) fr p = sec base fr p) := by
  intro l
  induction l with
  | nil => intro u base _; exact ⟨fun h => by simp at h; omega, fun _ => rfl⟩
  | cons x l ih =>
    intro u base hb
    simp only [List.length_cons] at hb
    have hl : lay base (sq fr gen u (x :: l)) = lay (base.set (fr + u) (formL x.1 x.2 gen u)) (sq fr gen (u + 1) l) := rfl
    have hi := ih (u + 1) (base.set (fr + u) (formL x.1 x.2 gen u)) (by rw [List.length_set]; omega)
    rw [hl]
    constructor
    · intro h
      by_cases e : p = u
      · subst e
        refine ⟨x, by simp, ?_⟩
        rw [hi.2 (by omega)]
        unfold sec
        rw [List.getD_eq_getElem?_getD, List.getElem?_set_self (by omega)]
        rfl
      · obtain ⟨y, h1, h2⟩ := hi.1 (by simp only [List.length_cons] at h; omega)
        refine ⟨y, ?_, h2⟩
        rw [show p - u = (p - (u + 1)) + 1 from by omega, List.getElem?_cons_succ]
        exact h1
    · intro h
      simp only [List.length_cons] at h
      rw [hi.2 (by omega)]
      unfold sec
      rw [List.getD_eq_getElem?_getD, List.getD_eq_getElem?_getD, List.getElem?_set_ne (by omega)]
/-- a sector of an elder generation, or of none -/
def OldS (g : Nat) (l : List UInt8) : Prop := l.length = 64 ∧ ∃ h : UInt8, h.toNat < g ∧ l.take 4 = [0, 0, 0, h] ∧ l.drop 60 = [0, 0, 0, h]
theorem be4 (g : Nat) (h : g < 256) : Oct.beB 4 (g : Int) = [0, 0, 0, UInt8.ofNat g] := by
  have e1 : (g : Int) / 16777216 % 256 = 0 := by omega
  have e2 : (g : Int) / 65536 % 256 = 0 := by omega
  have e3 : (g : Int) / 256 % 256 = 0 := by omega
  have e4 : (g : Int) % 256 = g := by omega
  simp [Oct.beB, e1, e2, e3, e4]
theorem formL_take (s : List UInt8) (k g p : Nat) (hg : g < 256) : (formL s k g p).take 4 = [0, 0, 0, UInt8.ofNat g] := by
  have e : (Oct.beB 4 (g : Int)).length = 4 := Oct.beB_length 4 _
  unfold formL
  simp only [List.append_assoc]
  rw [List.take_append_of_le_length (by omega), List.take_of_length_le (by omega), be4 g hg]
theorem formL_drop (s : List UInt8) (k g p : Nat) (hs : s.length ≤ 48) (hg : g < 256) : (formL s k g p).drop 60 = [0, 0, 0, UInt8.ofNat g] := by
  have e : (Oct.beB 4 (g : Int)).length = 4 := Oct.beB_length 4 _
  have hl := formL_length s k g p hs
  unfold formL at hl ⊢
  rw [List.length_append, e] at hl
  rw [List.drop_append_of_le_length (by omega), List.drop_of_length_le (by omega), be4 g hg]
  rfl
theorem formL_old (s : List UInt8) (k g p g' : Nat) (hs : s.length ≤ 48) (hg : g < 256) (h : g < g') : OldS g' (formL s k g p) :=
  ⟨formL_length s k g p hs, UInt8.ofNat g, by rw [UInt8.toNat_ofNat']; omega, formL_take s k g p hg, formL_drop s k g p hs hg⟩
theorem OldS.more {g g' : Nat} {l : List UInt8} (h : OldS g l) (hg : g ≤ g') : OldS g' l := by
  obtain ⟨h1, x, h2, h3⟩ := h
  exact ⟨h1, x, by omega, h3⟩
theorem OldS.zero {g : Nat} (h : 1 ≤ g) : OldS g (List.replicate 64 0) := ⟨by simp, 0, by show 0 < g; omega, by decide, by decide⟩
/-- the generation that stands in a sector -/
def genB (l : List UInt8) : Int := max (Oct.getFrom 0 (l.take 4)) (Oct.getFrom 0 (l.drop 60))
theorem get4 (h : UInt8) : Oct.getFrom 0 [0, 0, 0, h] = (h.toNat : Int) := by simp [Oct.getFrom, Oct.stepZ]
theorem genB_form (s : List UInt8) (k g p : Nat) (hs : s.length ≤ 48) (hg : g < 256) : genB (formL s k g p) = (g : Int) := by
  unfold genB
  rw [formL_take s k g p hg, formL_drop s k g p hs hg, get4, UInt8.toNat_ofNat']
  omega
/-- what a list of pieces looks like -/
def PiOk (P : List (List UInt8 × Nat)) : Prop := ∀ x ∈ P, x.1.length ≤ 48 ∧ (x.2 = 1 ∧ x.1.length = 48 ∨ x.2 = 2)
/-- the first T pieces of a generation stand in the log's sectors, and no more of it -/
structure ArP (secs : List (List UInt8)) (fr n gen : Nat) (P : List (List UInt8 × Nat)) (T : Nat) : Prop where
  le : T ≤ P.length
  tn : T ≤ n
  at_ : ∀ p, p < T → ∃ x, P[p]? = some x ∧ sec secs fr p = formL x.1 x.2 gen p
  stop : T < n → (sec secs fr T).length = 64 ∧ (sec secs fr T).drop 60 ≠ [0, 0, 0, UInt8.ofNat gen]
  first : (sec secs fr 0).length = 64 ∧ genB (sec secs fr 0) = (gen : Int)
/-- the sectors ahead of a generation -/
structure BaseI (secs : List (List UInt8)) (g : Nat) (ahead : List (List UInt8)) (ga : Nat) : Prop where
  len : secs.length = 40
  z : ∀ s ∈ secs, s.length = 64
  old : ∀ p, p < 30 → OldS g (sec secs 3 p)
  lt : ga < g
  none : ga = 0 → ahead = [] ∧ sec secs 3 0 = List.replicate 64 0
  some : 0 < ga → ahead ≠ [] ∧ ArP secs 3 30 ga (allP ahead) (allP ahead).length
theorem lay_z (secs : List (List UInt8)) (q : List (Nat × List UInt8)) (h : ∀ s ∈ secs, s.length = 64) (hq : ∀ x ∈ q, x.2.length = 64) : ∀ s ∈ lay secs q, s.length = 64 := by
  induction q generalizing secs with
  | nil => exact h
  | cons x q ih =>
    refine ih (secs.set x.1 x.2) (fun s hs => ?_) (fun y hy => hq y (List.mem_cons_of_mem _ hy))
    rcases List.mem_or_eq_of_mem_set hs with h1 | h1
    · exact h s h1
    · rw [h1]; exact hq x List.mem_cons_self
theorem sq_z (fr gen : Nat) : ∀ (l : List (List UInt8 × Nat)) (u : Nat), PiOk l → ∀ x ∈ sq fr gen u l, x.2.length = 64 := by
  intro l
  induction l with
  | nil => intro u _ x hx; cases hx
  | cons y l ih =>
    intro u h x hx
    rcases List.mem_cons.1 hx with rfl | hx
    · exact formL_length _ _ _ _ (h y List.mem_cons_self).1
    · exact ih (u + 1) (fun z hz => h z (List.mem_cons_of_mem _ hz)) x hx
theorem old_ne {g : Nat} {l : List UInt8} (h : OldS g l) (hg : g < 256) : l.drop 60 ≠ [0, 0, 0, UInt8.ofNat g] := by
  obtain ⟨_, x, h2, _, h4⟩ := h
  rw [h4]
  intro e
  have e : x = UInt8.ofNat g := by simpa using e
  subst e
  rw [UInt8.toNat_ofNat'] at h2
  omega
/-- the first T pieces of generation g laid on elder sectors -/
theorem ArP.laid {base : List (List UInt8)} {g : Nat} {ahead : List (List UInt8)} {ga : Nat} (h : BaseI base g ahead ga) (hg : g < 256) (P : List (List UInt8 × Nat)) (hP : PiOk P) (hn : P.length ≤ 30) (T : Nat) (hT : T ≤ P.length) (h1 : 1 ≤ T) :
    ArP (lay base (sq 3 g 0 (P.take T))) 3 30 g P T := by
  have hlen : (P.take T).length = T := by simp; omega
  have hl := fun p => lay_sq 3 g p (P.take T) 0 base (by rw [h.len, hlen]; omega)
  have hat : ∀ p, p < T → ∃ x, P[p]? = some x ∧ sec (lay base (sq 3 g 0 (P.take T))) 3 p = formL x.1 x.2 g p := fun p hp => by
    obtain ⟨x, hx, he⟩ := (hl p).1 (by omega)
    rw [Nat.sub_zero, List.getElem?_take, if_pos hp] at hx
    exact ⟨x, hx, he⟩
  refine ⟨hT, by omega, hat, fun hT30 => ?_, ?_⟩
  · rw [(hl T).2 (by omega)]
    exact ⟨(h.old T hT30).1, old_ne (h.old T hT30) hg⟩
  · obtain ⟨x, hx, he⟩ := hat 0 h1
    have hx48 := (hP x (List.mem_of_getElem? hx)).1
    rw [he]
    exact ⟨formL_length _ _ _ _ hx48, genB_form _ _ _ _ hx48 hg⟩
/-- a generation is over: all of it stands -/
theorem BaseI.next {base : List (List UInt8)} {g : Nat} {ahead now : List (List UInt8)} {ga : Nat} (h : BaseI base g ahead ga) (hg1 : 1 ≤ g) (hg : g < 256) (hP : PiOk (allP now)) (hn : (allP now).length ≤ 30) (hne : now ≠ []) :
    BaseI (lay base (sq 3 g 0 (allP now))) (g + 1) now g := by
  have hpos : 1 ≤ (allP now).length := by
    cases now with
    | nil => exact absurd rfl hne
    | cons r l =>
      have e : allP (r :: l) = kinded (pieces r) ++ allP l := by simp [allP]
      rw [e, List.length_append, kinded_length]
      have := pieces_pos r
      omega
  have hA := ArP.laid h hg (allP now) hP hn (allP now).length (Nat.le_refl _) hpos
  rw [List.take_length] at hA
  have hl := fun p => lay_sq 3 g p (allP now) 0 base (by rw [h.len]; omega)
  refine ⟨by rw [lay_length]; exact h.len, lay_z _ _ h.z (sq_z _ _ _ _ hP), fun p hp => ?_, by omega, fun e => by omega, fun _ => ⟨hne, hA⟩⟩
  by_cases hpl : p < (allP now).length
  · obtain ⟨x, hx, he⟩ := hA.at_ p hpl
    rw [he]
    exact formL_old _ _ _ _ _ (hP x (List.mem_of_getElem? hx)).1 hg (by omega)
  · rw [(hl p).2 (by omega)]
    exact (h.old p hp).more (by omega)
theorem BaseI.idle {base : List (List UInt8)} {g : Nat} {ahead : List (List UInt8)} {ga : Nat} (h : BaseI base g ahead ga) : BaseI base (g + 1) ahead ga :=
  ⟨h.len, h.z, fun p hp => (h.old p hp).more (by omega), by have := h.lt; omega, h.none, h.some⟩
theorem BaseI.start : BaseI (List.replicate 40 (List.replicate 64 0)) 1 [] 0 := by
  have e : ∀ p, p < 30 → sec (List.replicate 40 (List.replicate 64 (0 : UInt8))) 3 p = List.replicate 64 0 := fun p hp => by
    unfold sec
    rw [List.getD_eq_getElem?_getD, List.getElem?_replicate, if_pos (by omega)]
    rfl
  exact ⟨by simp, fun s hs => by rw [(List.mem_replicate.1 hs).2]; simp, fun p hp => by rw [e p hp]; exact OldS.zero (by omega), by omega, fun _ => ⟨rfl, e 0 (by omega)⟩, fun h => by omega⟩
/-- a torn sector -/
theorem torn_end {a b : List UInt8} {x y : UInt8} (ha : a.length = 64) (ha4 : a.drop 60 = [0, 0, 0, x]) (hb4 : b.drop 60 = [0, 0, 0, y]) (t : Nat) (ht : t < 64) : (a.take t ++ b.drop t).drop 60 = [0, 0, 0, y] := by
  by_cases h : t ≤ 60
  · have hl : (a.take t).length = t := by simp; omega
    rw [List.drop_append, List.drop_of_length_le (by omega), List.nil_append, hl, List.drop_drop, show t + (60 - t) = 60 from by omega, hb4]
  · have hl : (a.take t).length = t := by simp; omega
    have e1 : (a.take t).drop 60 = (a.drop 60).take (t - 60) := by rw [List.drop_take]
    have e2 : b.drop t = (b.drop 60).drop (t - 60) := by rw [List.drop_drop]; congr 1; omega
    rw [List.drop_append_of_le_length (by omega), e1, e2, ha4, hb4]
    have : t - 60 = 1 ∨ t - 60 = 2 ∨ t - 60 = 3 := by omega
    rcases this with h | h | h <;> rw [h] <;> rfl
theorem torn_head {a b : List UInt8} {x : UInt8} (ha : a.length = 64) (ha4 : a.take 4 = [0, 0, 0, x]) (t : Nat) (h4 : 4 ≤ t) (ht : t < 64) : (a.take t ++ b.drop t).take 4 = [0, 0, 0, x] := by
  have hl : (a.take t).length = t := by simp; omega
  rw [List.take_append_of_le_length (by omega), List.take_take, show min 4 t = 4 from by omega, ha4]
theorem torn_none {a b : List UInt8} {x y : UInt8} (ha4 : a.take 4 = [0, 0, 0, x]) (hb4 : b.take 4 = [0, 0, 0, y]) (t : Nat) (ht : t < 4) : a.take t ++ b.drop t = b := by
  have e : a.take t = b.take t := by
    have h1 : a.take t = (a.take 4).take t := by rw [List.take_take, show min t 4 = t from by omega]
    have h2 : b.take t = (b.take 4).take t := by rw [List.take_take, show min t 4 = t from by omega]
    rw [h1, h2, ha4, hb4]
    have : t = 0 ∨ t = 1 ∨ t = 2 ∨ t = 3 := by omega
    rcases this with h | h | h | h <;> rw [h] <;> rfl
  rw [e, List.take_append_drop]
end Go.Proofs.Ytoleojljpaglhaa.Wa
