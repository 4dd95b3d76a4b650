/- Plain mathematics of LogWhole: what stands in a log's sectors, wherever the power fails. No program, no conditions. -/
import Derived.Test.YtoleojljpaglhaaGreatWaP
namespace Go.Proofs.YtoleojljpaglhaaGreat.Wa
open Go Go.RowKit Vd
/-- pieces with their kinds -/
def kinded : List (List UInt8) → List (List UInt8 × Nat)
  | [] => []
  | [s] => [(s, 2)]
  | s :: t :: l => (s, 1) :: kinded (t :: l)
theorem kinded_length : ∀ l, (kinded l).length = l.length
  | [] => rfl
  | [_] => rfl
  | _ :: t :: l => by rw [kinded, List.length_cons, kinded_length (t :: l)]; rfl
theorem kinded_at : ∀ (l : List (List UInt8)) (j : Nat) (h : j < l.length), (kinded l)[j]? = some (l[j], if j + 1 = l.length then 2 else 1)
  | [s], 0, _ => rfl
  | [s], j + 1, h => by simp at h
  | s :: t :: l, 0, _ => by simp [kinded]
  | s :: t :: l, j + 1, h => by
    have := kinded_at (t :: l) j (by simpa using h)
    rw [kinded, List.getElem?_cons_succ, this]
    simp
/-- all pieces of records -/
def allP (rs : List (List UInt8)) : List (List UInt8 × Nat) := rs.flatMap fun r => kinded (pieces r)
theorem allP_append (a b : List (List UInt8)) : allP (a ++ b) = allP a ++ allP b := by simp [allP]
theorem allP_one (r : List UInt8) : allP [r] = kinded (pieces r) := by simp [allP]
theorem pieces_pos (r : List UInt8) : 1 ≤ (pieces r).length := by rw [pieces_len]; omega
/-- writes of pieces, one behind the other -/
def sq (fr gen : Nat) : Nat → List (List UInt8 × Nat) → List (Nat × List UInt8)
  | _, [] => []
  | u, x :: l => (fr + u, formL x.1 x.2 gen u) :: sq fr gen (u + 1) l
theorem sq_length (fr gen : Nat) : ∀ (l : List (List UInt8 × Nat)) (u : Nat), (sq fr gen u l).length = l.length := by
  intro l
  induction l with
  | nil => intro u; rfl
  | cons x l ih => intro u; simp only [sq, List.length_cons, ih]
theorem sq_append (fr gen : Nat) (B : List (List UInt8 × Nat)) : ∀ (A : List (List UInt8 × Nat)) (u : Nat), sq fr gen u (A ++ B) = sq fr gen u A ++ sq fr gen (u + A.length) B := by
  intro A
  induction A with
  | nil => intro u; simp [sq]
  | cons x A ih => intro u; simp only [List.cons_append, sq, ih, List.length_cons]; rw [show u + 1 + A.length = u + (A.length + 1) from by omega]
theorem sq_take (fr gen : Nat) : ∀ (l : List (List UInt8 × Nat)) (u k : Nat), (sq fr gen u l).take k = sq fr gen u (l.take k) := by
  intro l
  induction l with
  | nil => intro u k; simp [sq]
  | cons x l ih =>
    intro u k
    cases k with
    | zero => rfl
    | succ k => simp only [sq, List.take_succ_cons, ih]
theorem sq_drop (fr gen : Nat) : ∀ (l : List (List UInt8 × Nat)) (u k : Nat), k ≤ l.length → (sq fr gen u l).drop k = sq fr gen (u + k) (l.drop k) := by
  intro l
  induction l with
  | nil => intro u k h; have : k = 0 := by simpa using h
           subst this; rfl
  | cons x l ih =>
    intro u k h
    cases k with
    | zero => rfl
    | succ k => simp only [sq, List.drop_succ_cons]; rw [ih (u + 1) k (by simpa using h), show u + 1 + k = u + (k + 1) from by omega]
theorem wrs_kinded (fr gen used tot : Nat) : ∀ (l : List (List UInt8)) (i : Nat), i + l.length = tot → wrs fr gen used tot i l = sq fr gen (used + i) (kinded l)
  | [], _, _ => rfl
  | [s], i, h => by
    simp only [List.length_cons, List.length_nil] at h
    simp only [wrs, kinded, sq]
    rw [if_pos (by omega)]
  | s :: t :: l, i, h => by
    have ih := wrs_kinded fr gen used tot (t :: l) (i + 1) (by simp only [List.length_cons] at h ⊢; omega)
    rw [wrs, ih, kinded, sq, if_neg (by simp only [List.length_cons] at h; omega)]
    rfl
/-- the sector of a place -/
def sec (secs : List (List UInt8)) (fr p : Nat) : List UInt8 := secs.getD (fr + p) []
theorem lay_sq (fr gen p : Nat) : ∀ (l : List (List UInt8 × Nat)) (u : Nat) (base : List (List UInt8)), fr + (u + l.length) ≤ base.length →
    (u ≤ p ∧ p < u + l.length → ∃ x, l[p - u]? = some x ∧ sec (lay base (sq fr gen u l)) fr p = formL x.1 x.2 gen p) ∧ (¬ (u ≤ p ∧ p < u + l.length) → sec (lay base (sq fr gen u l)) fr p = sec base fr p) := by
  intro l
  induction l with
  | nil => intro u base _; exact ⟨fun h => by simp at h; omega, fun _ => rfl⟩
  | cons x l ih =>
    intro u base hb
    simp only [List.length_cons] at hb
    have hl : lay base (sq fr gen u (x :: l)) = lay (base.set (fr + u) (formL x.1 x.2 gen u)) (sq fr gen (u + 1) l) := rfl
    have hi := ih (u + 1) (base.set (fr + u) (formL x.1 x.2 gen u)) (by rw [List.length_set]; omega)
    rw [hl]
    constructor
    · intro h
      by_cases e : p = u
      · subst e
        refine ⟨x, by simp, ?_⟩
        rw [hi.2 (by omega)]
        unfold sec
        rw [List.getD_eq_getElem?_getD, List.getElem?_set_self (by omega)]
        rfl
      · obtain ⟨y, h1, h2⟩ := hi.1 (by simp only [List.length_cons] at h; omega)
        refine ⟨y, ?_, h2⟩
        rw [show p - u = (p - (u + 1)) + 1 from by omega, List.getElem?_cons_succ]
        exact h1
    · intro h
      simp only [List.length_cons] at h
      rw [hi.2 (by omega)]
      unfold sec
      rw [List.getD_eq_getElem?_getD, List.getD_eq_getElem?_getD, List.getElem?_set_ne (by omega)]
/-- a sector of an elder generation, or of none -/
def OldS (g : Nat) (l : List UInt8) : Prop := l.length = 64 ∧ ∃ h : UInt8, h.toNat < g ∧ l.take 4 = [0, 0, 0, h] ∧ l.drop 60 = [0, 0, 0, h]
theorem be4 (g : Nat) (h : g < 256) : Oct.beB 4 (g : Int) = [0, 0, 0, UInt8.ofNat g] := by
  have e1 : (g : Int) / 16777216 % 256 = 0 := by omega
  have e2 : (g : Int) / 65536 % 256 = 0 := by omega
  have e3 : (g : Int) / 256 % 256 = 0 := by omega
  have e4 : (g : Int) % 256 = g := by omega
  simp [Oct.beB, e1, e2, e3, e4]
theorem formL_take (s : List UInt8) (k g p : Nat) (hg : g < 256) : (formL s k g p).take 4 = [0, 0, 0, UInt8.ofNat g] := by
  have e : (Oct.beB 4 (g : Int)).length = 4 := Oct.beB_length 4 _
  unfold formL
  simp only [List.append_assoc]
  rw [List.take_append_of_le_length (by omega), List.take_of_length_le (by omega), be4 g hg]
theorem formL_drop (s : List UInt8) (k g p : Nat) (hs : s.length ≤ 48) (hg : g < 256) : (formL s k g p).drop 60 = [0, 0, 0, UInt8.ofNat g] := by
  have e : (Oct.beB 4 (g : Int)).length = 4 := Oct.beB_length 4 _
  have hl := formL_length s k g p hs
  unfold formL at hl ⊢
  rw [List.length_append, e] at hl
  rw [List.drop_append_of_le_length (by omega), List.drop_of_length_le (by omega), be4 g hg]
  rfl
theorem formL_old (s : List UInt8) (k g p g' : Nat) (hs : s.length ≤ 48) (hg : g < 256) (h : g < g') : OldS g' (formL s k g p) :=
  ⟨formL_length s k g p hs, UInt8.ofNat g, by rw [UInt8.toNat_ofNat']; omega, formL_take s k g p hg, formL_drop s k g p hs hg⟩
theorem OldS.more {g g' : Nat} {l : List UInt8} (h : OldS g l) (hg : g ≤ g') : OldS g' l := by
  obtain ⟨h1, x, h2, h3⟩ := h
  exact ⟨h1, x, by omega, h3⟩
theorem OldS.zero {g : Nat} (h : 1 ≤ g) : OldS g (List.replicate 64 0) := ⟨by simp, 0, by show 0 < g; omega, by decide, by decide⟩
/-- the generation that stands in a sector -/
def genB (l : List UInt8) : Int := max (Oct.getFrom 0 (l.take 4)) (Oct.getFrom 0 (l.drop 60))
theorem get4 (h : UInt8) : Oct.getFrom 0 [0, 0, 0, h] = (h.toNat : Int) := by simp [Oct.getFrom, Oct.stepZ]
theorem genB_form (s : List UInt8) (k g p : Nat) (hs : s.length ≤ 48) (hg : g < 256) : genB (formL s k g p) = (g : Int) := by
  unfold genB
  rw [formL_take s k g p hg, formL_drop s k g p hs hg, get4, UInt8.toNat_ofNat']
  omega
/-- what a list of pieces looks like -/
def PiOk (P : List (List UInt8 × Nat)) : Prop := ∀ x ∈ P, x.1.length ≤ 48 ∧ (x.2 = 1 ∧ x.1.length = 48 ∨ x.2 = 2)
/-- the first T pieces of a generation stand in the log's sectors, and no more of it -/
structure ArP (secs : List (List UInt8)) (fr n gen : Nat) (P : List (List UInt8 × Nat)) (T : Nat) : Prop where
  le : T ≤ P.length
  tn : T ≤ n
  at_ : ∀ p, p < T → ∃ x, P[p]? = some x ∧ sec secs fr p = formL x.1 x.2 gen p
  stop : T < n → (sec secs fr T).length = 64 ∧ (sec secs fr T).drop 60 ≠ [0, 0, 0, UInt8.ofNat gen]
  first : (sec secs fr 0).length = 64 ∧ genB (sec secs fr 0) = (gen : Int)
/-- the sectors ahead of a generation -/
structure BaseI (secs : List (List UInt8)) (g : Nat) (ahead : List (List UInt8)) (ga : Nat) : Prop where
  len : secs.length = 40
  z : ∀ s ∈ secs, s.length = 64
  old : ∀ p, p < 30 → OldS g (sec secs 3 p)
  lt : ga < g
  none : ga = 0 → ahead = [] ∧ sec secs 3 0 = List.replicate 64 0
  some : 0 < ga → ahead ≠ [] ∧ ArP secs 3 30 ga (allP ahead) (allP ahead).length
theorem lay_z (secs : List (List UInt8)) (q : List (Nat × List UInt8)) (h : ∀ s ∈ secs, s.length = 64) (hq : ∀ x ∈ q, x.2.length = 64) : ∀ s ∈ lay secs q, s.length = 64 := by
  induction q generalizing secs with
  | nil => exact h
  | cons x q ih =>
    refine ih (secs.set x.1 x.2) (fun s hs => ?_) (fun y hy => hq y (List.mem_cons_of_mem _ hy))
    rcases List.mem_or_eq_of_mem_set hs with h1 | h1
    · exact h s h1
    · rw [h1]; exact hq x List.mem_cons_self
theorem sq_z (fr gen : Nat) : ∀ (l : List (List UInt8 × Nat)) (u : Nat), PiOk l → ∀ x ∈ sq fr gen u l, x.2.length = 64 := by
  intro l
  induction l with
  | nil => intro u _ x hx; cases hx
  | cons y l ih =>
    intro u h x hx
    rcases List.mem_cons.1 hx with rfl | hx
    · exact formL_length _ _ _ _ (h y List.mem_cons_self).1
    · exact ih (u + 1) (fun z hz => h z (List.mem_cons_of_mem _ hz)) x hx
theorem old_ne {g : Nat} {l : List UInt8} (h : OldS g l) (hg : g < 256) : l.drop 60 ≠ [0, 0, 0, UInt8.ofNat g] := by
  obtain ⟨_, x, h2, _, h4⟩ := h
  rw [h4]
  intro e
  have e : x = UInt8.ofNat g := by simpa using e
  subst e
  rw [UInt8.toNat_ofNat'] at h2
  omega
/-- the first T pieces of generation g laid on elder sectors -/
theorem ArP.laid {base : List (List UInt8)} {g : Nat} {ahead : List (List UInt8)} {ga : Nat} (h : BaseI base g ahead ga) (hg : g < 256) (P : List (List UInt8 × Nat)) (hP : PiOk P) (hn : P.length ≤ 30) (T : Nat) (hT : T ≤ P.length) (h1 : 1 ≤ T) :
    ArP (lay base (sq 3 g 0 (P.take T))) 3 30 g P T := by
  have hlen : (P.take T).length = T := by simp; omega
  have hl := fun p => lay_sq 3 g p (P.take T) 0 base (by rw [h.len, hlen]; omega)
  have hat : ∀ p, p < T → ∃ x, P[p]? = some x ∧ sec (lay base (sq 3 g 0 (P.take T))) 3 p = formL x.1 x.2 g p := fun p hp => by
    obtain ⟨x, hx, he⟩ := (hl p).1 (by omega)
    rw [Nat.sub_zero, List.getElem?_take, if_pos hp] at hx
    exact ⟨x, hx, he⟩
  refine ⟨hT, by omega, hat, fun hT30 => ?_, ?_⟩
  · rw [(hl T).2 (by omega)]
    exact ⟨(h.old T hT30).1, old_ne (h.old T hT30) hg⟩
  · obtain ⟨x, hx, he⟩ := hat 0 h1
    have hx48 := (hP x (List.mem_of_getElem? hx)).1
    rw [he]
    exact ⟨formL_length _ _ _ _ hx48, genB_form _ _ _ _ hx48 hg⟩
/-- a generation is over: all of it stands -/
theorem BaseI.next {base : List (List UInt8)} {g : Nat} {ahead now : List (List UInt8)} {ga : Nat} (h : BaseI base g ahead ga) (hg1 : 1 ≤ g) (hg : g < 256) (hP : PiOk (allP now)) (hn : (allP now).length ≤ 30) (hne : now ≠ []) :
    BaseI (lay base (sq 3 g 0 (allP now))) (g + 1) now g := by
  have hpos : 1 ≤ (allP now).length := by
    cases now with
    | nil => exact absurd rfl hne
    | cons r l =>
      have e : allP (r :: l) = kinded (pieces r) ++ allP l := by simp [allP]
      rw [e, List.length_append, kinded_length]
      have := pieces_pos r
      omega
  have hA := ArP.laid h hg (allP now) hP hn (allP now).length (Nat.le_refl _) hpos
  rw [List.take_length] at hA
  have hl := fun p => lay_sq 3 g p (allP now) 0 base (by rw [h.len]; omega)
  refine ⟨by rw [lay_length]; exact h.len, lay_z _ _ h.z (sq_z _ _ _ _ hP), fun p hp => ?_, by omega, fun e => by omega, fun _ => ⟨hne, hA⟩⟩
  by_cases hpl : p < (allP now).length
  · obtain ⟨x, hx, he⟩ := hA.at_ p hpl
    rw [he]
    exact formL_old _ _ _ _ _ (hP x (List.mem_of_getElem? hx)).1 hg (by omega)
  · rw [(hl p).2 (by omega)]
    exact (h.old p hp).more (by omega)
theorem BaseI.idle {base : List (List UInt8)} {g : Nat} {ahead : List (List UInt8)} {ga : Nat} (h : BaseI base g ahead ga) : BaseI base (g + 1) ahead ga :=
  ⟨h.len, h.z, fun p hp => (h.old p hp).more (by omega), by have := h.lt; omega, h.none, h.some⟩
theorem BaseI.start : BaseI (List.replicate 40 (List.replicate 64 0)) 1 [] 0 := by
  have e : ∀ p, p < 30 → sec (List.replicate 40 (List.replicate 64 (0 : UInt8))) 3 p = List.replicate 64 0 := fun p hp => by
    unfold sec
    rw [List.getD_eq_getElem?_getD, List.getElem?_replicate, if_pos (by omega)]
    rfl
  exact ⟨by simp, fun s hs => by rw [(List.mem_replicate.1 hs).2]; simp, fun p hp => by rw [e p hp]; exact OldS.zero (by omega), by omega, fun _ => ⟨rfl, e 0 (by omega)⟩, fun h => by omega⟩
/-- a torn sector -/
theorem torn_end {a b : List UInt8} {x y : UInt8} (ha : a.length = 64) (ha4 : a.drop 60 = [0, 0, 0, x]) (hb4 : b.drop 60 = [0, 0, 0, y]) (t : Nat) (ht : t < 64) : (a.take t ++ b.drop t).drop 60 = [0, 0, 0, y] := by
  by_cases h : t ≤ 60
  · have hl : (a.take t).length = t := by simp; omega
    rw [List.drop_append, List.drop_of_length_le (by omega), List.nil_append, hl, List.drop_drop, show t + (60 - t) = 60 from by omega, hb4]
  · have hl : (a.take t).length = t := by simp; omega
    have e1 : (a.take t).drop 60 = (a.drop 60).take (t - 60) := by rw [List.drop_take]
    have e2 : b.drop t = (b.drop 60).drop (t - 60) := by rw [List.drop_drop]; congr 1; omega
    rw [List.drop_append_of_le_length (by omega), e1, e2, ha4, hb4]
    have : t - 60 = 1 ∨ t - 60 = 2 ∨ t - 60 = 3 := by omega
    rcases this with h | h | h <;> rw [h] <;> rfl
theorem torn_head {a b : List UInt8} {x : UInt8} (ha : a.length = 64) (ha4 : a.take 4 = [0, 0, 0, x]) (t : Nat) (h4 : 4 ≤ t) (ht : t < 64) : (a.take t ++ b.drop t).take 4 = [0, 0, 0, x] := by
  have hl : (a.take t).length = t := by simp; omega
  rw [List.take_append_of_le_length (by omega), List.take_take, show min 4 t = 4 from by omega, ha4]
theorem torn_none {a b : List UInt8} {x y : UInt8} (ha4 : a.take 4 = [0, 0, 0, x]) (hb4 : b.take 4 = [0, 0, 0, y]) (t : Nat) (ht : t < 4) : a.take t ++ b.drop t = b := by
  have e : a.take t = b.take t := by
    have h1 : a.take t = (a.take 4).take t := by rw [List.take_take, show min t 4 = t from by omega]
    have h2 : b.take t = (b.take 4).take t := by rw [List.take_take, show min t 4 = t from by omega]
    rw [h1, h2, ha4, hb4]
    have : t = 0 ∨ t = 1 ∨ t = 2 ∨ t = 3 := by omega
    rcases this with h | h | h | h <;> rw [h] <;> rfl
  rw [e, List.take_append_drop]
end Go.Proofs.YtoleojljpaglhaaGreat.Wa
/- Plain mathematics of LogWhole: what a crash leaves, and the records that pieces make. No program, no conditions. -/
namespace Go.Proofs.YtoleojljpaglhaaGreat.Wa
open Go Go.RowKit Vd
theorem lay_append (s : List (List UInt8)) (a b : List (Nat × List UInt8)) : lay s (a ++ b) = lay (lay s a) b := by unfold lay; rw [List.foldl_append]
theorem sec_set_ne (s : List (List UInt8)) (fr a p : Nat) (x : List UInt8) (h : a ≠ p) : sec (s.set (fr + a) x) fr p = sec s fr p := by
  unfold sec
  rw [List.getD_eq_getElem?_getD, List.getD_eq_getElem?_getD, List.getElem?_set_ne (by omega)]
theorem sec_set_eq (s : List (List UInt8)) (fr a : Nat) (x : List UInt8) (h : fr + a < s.length) : sec (s.set (fr + a) x) fr a = x := by
  unfold sec
  rw [List.getD_eq_getElem?_getD, List.getElem?_set_self h]
  rfl
theorem set_sec (s : List (List UInt8)) (fr a : Nat) (h : fr + a < s.length) : s.set (fr + a) (sec s fr a) = s := by
  unfold sec
  rw [List.getD_eq_getElem?_getD, List.getElem?_eq_getElem h]
  exact List.set_getElem_self h
/-- what the power leaves of a generation that is under way -/
theorem crash_found {base : List (List UInt8)} {g : Nat} {ahead : List (List UInt8)} {ga : Nat} (h : BaseI base g ahead ga) (hg : g < 256) (A B : List (List UInt8 × Nat)) (hP : PiOk (A ++ B)) (hn : (A ++ B).length ≤ 30)
    (d : VD) (hon : d.on = true) (hs : d.secs = lay base (sq 3 g 0 A)) (hq : d.q = sq 3 g A.length B) (keep torn : Int) :
    ∃ T, A.length ≤ T ∧ T ≤ (A ++ B).length ∧ ((ArP (crash d keep torn).secs 3 30 g (A ++ B) T ∧ 1 ≤ (A ++ B).length) ∨ (A = [] ∧ (crash d keep torn).secs = base)) ∧ (crash d keep torn).q = [] ∧ (crash d keep torn).secs.length = 40 := by
  have hcr : (crash d keep torn).q = [] := by unfold crash; rw [if_pos hon]
  obtain ⟨k, hk⟩ : ∃ k, (clamp keep 0 d.q.length).toNat = k := ⟨_, rfl⟩
  obtain ⟨t, ht⟩ : ∃ t, (clamp torn 0 64).toNat = t := ⟨_, rfl⟩
  have hkB : k ≤ B.length := by
    rw [← hk]; unfold clamp; rw [hq, sq_length]; omega
  have ht64 : t ≤ 64 := by rw [← ht]; unfold clamp; omega
  have e1 : lay d.secs (d.q.take k) = lay base (sq 3 g 0 ((A ++ B).take (A.length + k))) := by
    rw [hs, hq, sq_take, ← lay_append]
    congr 1
    have eA : A.take (A.length + k) = A := List.take_of_length_le (by omega)
    rw [List.take_append, eA, show A.length + k - A.length = k from by omega, sq_append, Nat.zero_add]
  have hsecs : (crash d keep torn).secs = match d.q.drop k with
      | [] => lay base (sq 3 g 0 ((A ++ B).take (A.length + k)))
      | x :: _ => (lay base (sq 3 g 0 ((A ++ B).take (A.length + k)))).set x.1 (x.2.take t ++ ((lay base (sq 3 g 0 ((A ++ B).take (A.length + k)))).getD x.1 []).drop t) := by
    unfold crash
    rw [if_pos hon]
    simp only [hk, ht, e1]
    rfl
  have hq2 : d.q.drop k = sq 3 g (A.length + k) (B.drop k) := by rw [hq, sq_drop _ _ _ _ _ hkB]
  have hTl : ((A ++ B).take (A.length + k)).length = A.length + k := by simp; omega
  have hl1 : (lay base (sq 3 g 0 ((A ++ B).take (A.length + k)))).length = 40 := by rw [lay_length]; exact h.len
  have hlay := fun p => lay_sq 3 g p ((A ++ B).take (A.length + k)) 0 base (by rw [h.len, hTl]; simp at hn; omega)
  rw [hTl] at hlay
  have hnn : A.length + B.length ≤ 30 := by simpa using hn
  cases hB : B.drop k with
  | nil =>
    have hkk : k = B.length := by
      have := congrArg List.length hB
      simp at this
      omega
    rw [hq2, hB] at hsecs
    have hsecs : (crash d keep torn).secs = lay base (sq 3 g 0 ((A ++ B).take (A.length + k))) := hsecs
    refine ⟨A.length + k, by omega, by simp; omega, ?_, hcr, by rw [hsecs]; exact hl1⟩
    rw [hsecs]
    by_cases h0 : A.length + k = 0
    · right
      have hA : A = [] := List.eq_nil_of_length_eq_zero (by omega)
      refine ⟨hA, ?_⟩
      rw [h0, List.take_zero]
      rfl
    · left
      exact ⟨ArP.laid h hg (A ++ B) hP hn (A.length + k) (by simp; omega) (by omega), by simp; omega⟩
  | cons x l =>
    have hkk : k < B.length := by
      have := congrArg List.length hB
      simp at this
      omega
    have hx : (A ++ B)[A.length + k]? = some x := by
      rw [List.getElem?_append_right (by omega), show A.length + k - A.length = k from by omega]
      have := congrArg (fun m => m[0]?) hB
      simpa using this
    have hx48 := (hP x (List.mem_of_getElem? hx)).1
    rw [hq2, hB] at hsecs
    have hold : OldS g (sec base 3 (A.length + k)) := h.old _ (by omega)
    have hso : sec (lay base (sq 3 g 0 ((A ++ B).take (A.length + k)))) 3 (A.length + k) = sec base 3 (A.length + k) := (hlay (A.length + k)).2 (by omega)
    have hsecs : (crash d keep torn).secs = (lay base (sq 3 g 0 ((A ++ B).take (A.length + k)))).set (3 + (A.length + k)) ((formL x.1 x.2 g (A.length + k)).take t ++ (sec base 3 (A.length + k)).drop t) := by
      rw [← hso]; exact hsecs
    obtain ⟨hol, y, hy, hy4, hy60⟩ := hold
    have hnl := formL_length x.1 x.2 g (A.length + k) hx48
    have hn4 := formL_take x.1 x.2 g (A.length + k) hg
    have hn60 := formL_drop x.1 x.2 g (A.length + k) hx48 hg
    have hl2 : (crash d keep torn).secs.length = 40 := by rw [hsecs, List.length_set]; exact hl1
    by_cases h64 : t = 64
    · refine ⟨A.length + k + 1, by omega, by simp; omega, .inl ⟨?_, by simp; omega⟩, hcr, hl2⟩
      have e2 : (crash d keep torn).secs = lay base (sq 3 g 0 ((A ++ B).take (A.length + k + 1))) := by
        have ex : (A ++ B).take (A.length + k + 1) = (A ++ B).take (A.length + k) ++ [x] := by
          rw [List.take_add_one, hx]
          rfl
        have et : (formL x.1 x.2 g (A.length + k)).take 64 = formL x.1 x.2 g (A.length + k) := List.take_of_length_le (by rw [hnl]; exact Nat.le_refl _)
        have ed : (sec base 3 (A.length + k)).drop 64 = [] := List.drop_of_length_le (by rw [hol]; exact Nat.le_refl _)
        rw [hsecs, ex, sq_append, lay_append, hTl, Nat.zero_add, h64, et, ed, List.append_nil]
        rfl
      rw [e2]
      exact ArP.laid h hg (A ++ B) hP hn (A.length + k + 1) (by simp; omega) (by omega)
    · have htl : t < 64 := by omega
      have hxl : ((formL x.1 x.2 g (A.length + k)).take t ++ (sec base 3 (A.length + k)).drop t).length = 64 := by simp [hnl, hol]; omega
      have hx60 := torn_end hnl hn60 hy60 t htl
      have hne : ((formL x.1 x.2 g (A.length + k)).take t ++ (sec base 3 (A.length + k)).drop t).drop 60 ≠ [0, 0, 0, UInt8.ofNat g] := by
        rw [hx60]
        intro e
        have e : y = UInt8.ofNat g := by simpa using e
        subst e
        rw [UInt8.toNat_ofNat'] at hy
        omega
      have e0 : sec (crash d keep torn).secs 3 (A.length + k) = (formL x.1 x.2 g (A.length + k)).take t ++ (sec base 3 (A.length + k)).drop t := by
        rw [hsecs, sec_set_eq _ _ _ _ (by rw [hl1]; omega)]
      by_cases h0 : A.length + k = 0
      · have hA : A = [] := List.eq_nil_of_length_eq_zero (by omega)
        have e00 : sec (crash d keep torn).secs 3 0 = sec (crash d keep torn).secs 3 (A.length + k) := by rw [h0]
        by_cases h4 : t < 4
        · refine ⟨0, by omega, by omega, .inr ⟨hA, ?_⟩, hcr, hl2⟩
          rw [hsecs, torn_none hn4 hy4 t h4, h0, List.take_zero]
          exact set_sec base 3 0 (by rw [h.len]; omega)
        · refine ⟨0, by omega, by omega, .inl ⟨⟨by omega, by omega, fun p hp => by omega, fun _ => ?_, ?_⟩, by simp; omega⟩, hcr, hl2⟩
          · rw [e00, e0]
            exact ⟨hxl, hne⟩
          · rw [e00, e0]
            refine ⟨hxl, ?_⟩
            unfold genB
            rw [torn_head hnl hn4 t (by omega) htl, hx60, get4, get4, UInt8.toNat_ofNat']
            omega
      · have hA := ArP.laid h hg (A ++ B) hP hn (A.length + k) (by simp; omega) (by omega)
        refine ⟨A.length + k, by omega, by simp; omega, .inl ⟨⟨by simp; omega, by omega, fun p hp => ?_, fun _ => ?_, ?_⟩, by simp; omega⟩, hcr, hl2⟩
        · obtain ⟨z, hz, he⟩ := hA.at_ p hp
          exact ⟨z, hz, by rw [hsecs, sec_set_ne _ _ _ _ _ (by omega)]; exact he⟩
        · rw [e0]
          exact ⟨hxl, hne⟩
        · rw [hsecs, sec_set_ne _ _ _ _ _ (by omega)]
          exact hA.first
/-- the pieces of a record, together -/
theorem pieces_flat : ∀ (n : Nat) (r : List UInt8), r.length ≤ n → (pieces r).flatten = r := by
  intro n
  induction n with
  | zero => intro r h; rw [pieces_small r (by omega)]; simp
  | succ n ih =>
    intro r h
    by_cases hb : 48 < r.length
    · rw [pieces_big r hb, List.flatten_cons, ih (r.drop 48) (by simp; omega), List.take_append_drop]
    · rw [pieces_small r hb]; simp
theorem pieces_flat' (r : List UInt8) : (pieces r).flatten = r := pieces_flat r.length r (Nat.le_refl _)
/-- a record whose last piece is empty is empty -/
theorem pieces_last : ∀ (n : Nat) (r : List UInt8), r.length ≤ n → ∀ j (h : j < (pieces r).length), j + 1 = (pieces r).length → (pieces r)[j] = [] → r = [] ∧ j = 0 := by
  intro n
  induction n with
  | zero =>
    intro r h j hj hl he
    have : r = [] := List.eq_nil_of_length_eq_zero (by omega)
    subst this
    have : (pieces ([] : List UInt8)).length = 1 := by decide
    exact ⟨rfl, by omega⟩
  | succ n ih =>
    intro r h j hj hl he
    by_cases hb : 48 < r.length
    · have hp := pieces_big r hb
      cases j with
      | zero =>
        simp only [hp, List.length_cons] at hl
        have := pieces_pos (r.drop 48)
        omega
      | succ j =>
        simp only [hp, List.length_cons] at hl hj
        have he' : (pieces (r.drop 48))[j]'(by omega) = [] := by
          simp only [hp, List.getElem_cons_succ] at he
          exact he
        have := ih (r.drop 48) (by simp; omega) j (by omega) (by omega) he'
        have := congrArg List.length this.1
        simp at this
        omega
    · have hp := pieces_small r hb
      simp only [hp, List.length_singleton] at hl hj
      have : j = 0 := by omega
      subst this
      simp only [hp, List.getElem_cons_zero] at he
      exact ⟨he, rfl⟩
theorem kinded_ok : ∀ (n : Nat) (r : List UInt8), r.length ≤ n → PiOk (kinded (pieces r)) := by
  intro n
  induction n with
  | zero =>
    intro r h x hx
    rw [pieces_small r (by omega)] at hx
    simp only [kinded, List.mem_singleton] at hx
    subst hx
    exact ⟨by show r.length ≤ 48; omega, .inr rfl⟩
  | succ n ih =>
    intro r h x hx
    by_cases hb : 48 < r.length
    · rw [pieces_big r hb] at hx
      obtain ⟨s, l, hsl⟩ : ∃ s l, pieces (r.drop 48) = s :: l := by
        cases hp : pieces (r.drop 48) with
        | nil => have := pieces_pos (r.drop 48); rw [hp] at this; simp at this
        | cons s l => exact ⟨s, l, rfl⟩
      rw [hsl, kinded, ← hsl] at hx
      rcases List.mem_cons.1 hx with rfl | hx
      · exact ⟨by simp; omega, .inl ⟨rfl, by simp; omega⟩⟩
      · exact ih (r.drop 48) (by simp; omega) x hx
    · rw [pieces_small r hb] at hx
      simp only [kinded, List.mem_singleton] at hx
      subst hx
      exact ⟨by show r.length ≤ 48; omega, .inr rfl⟩
theorem allP_ok (rs : List (List UInt8)) : PiOk (allP rs) := by
  intro x hx
  simp only [allP, List.mem_flatMap] at hx
  obtain ⟨r, _, hx⟩ := hx
  exact kinded_ok r.length r (Nat.le_refl _) x hx
/-- a place among the pieces: r records are whole, and j pieces more -/
structure Sc (rs : List (List UInt8)) (p r j : Nat) : Prop where
  le : r ≤ rs.length
  pl : p = (allP (rs.take r)).length + j
  in_ : j = 0 ∨ ∃ h : r < rs.length, j < (pieces rs[r]).length
theorem Sc.start (rs : List (List UInt8)) : Sc rs 0 0 0 := ⟨Nat.zero_le _, by simp [allP], .inl rfl⟩
theorem allP_split (rs : List (List UInt8)) (r : Nat) (h : r < rs.length) : allP rs = allP (rs.take r) ++ (kinded (pieces rs[r]) ++ allP (rs.drop (r + 1))) := by
  conv => lhs; rw [← List.take_append_drop r rs]
  rw [allP_append, List.drop_eq_getElem_cons h]
  unfold allP
  rw [List.flatMap_cons]
theorem allP_take (rs : List (List UInt8)) (r : Nat) (h : r < rs.length) : (allP (rs.take (r + 1))).length = (allP (rs.take r)).length + (pieces rs[r]).length := by
  rw [List.take_succ_eq_append_getElem h, allP_append, allP_one, List.length_append, kinded_length]
theorem Sc.get {rs : List (List UInt8)} {p r j : Nat} (h : Sc rs p r j) (hp : p < (allP rs).length) : ∃ hr : r < rs.length, ∃ hj : j < (pieces rs[r]).length, (allP rs)[p]? = some ((pieces rs[r])[j], if j + 1 = (pieces rs[r]).length then 2 else 1) := by
  have hr : r < rs.length := by
    rcases Nat.lt_or_ge r rs.length with h1 | h1
    · exact h1
    · have hrl : r = rs.length := by have := h.le; omega
      have hpl := h.pl
      rw [hrl, List.take_length] at hpl
      omega
  have hj : j < (pieces rs[r]).length := by
    rcases h.in_ with h1 | ⟨_, h1⟩
    · have := pieces_pos rs[r]; omega
    · exact h1
  refine ⟨hr, hj, ?_⟩
  rw [allP_split rs r hr, List.getElem?_append_right (by have := h.pl; omega), show p - (allP (rs.take r)).length = j from by have := h.pl; omega, List.getElem?_append_left (by rw [kinded_length]; exact hj)]
  exact kinded_at _ j hj
theorem Sc.last {rs : List (List UInt8)} {p r j : Nat} (h : Sc rs p r j) (hr : r < rs.length) (hl : j + 1 = (pieces rs[r]).length) : Sc rs (p + 1) (r + 1) 0 :=
  ⟨by omega, by rw [allP_take rs r hr]; have := h.pl; omega, .inl rfl⟩
theorem Sc.more {rs : List (List UInt8)} {p r j : Nat} (h : Sc rs p r j) (hr : r < rs.length) (hj : j < (pieces rs[r]).length) (hl : j + 1 ≠ (pieces rs[r]).length) : Sc rs (p + 1) r (j + 1) :=
  ⟨h.le, by have := h.pl; omega, .inr ⟨hr, by omega⟩⟩
theorem allP_mono (rs : List (List UInt8)) (a b : Nat) (h : a ≤ b) : (allP (rs.take a)).length ≤ (allP (rs.take b)).length := by
  have e : rs.take b = rs.take a ++ (rs.drop a).take (b - a) := by
    have := List.take_add (l := rs) (i := a) (j := b - a)
    rw [show a + (b - a) = b from by omega] at this
    exact this
  rw [e, allP_append, List.length_append]
  omega
/-- what was synced is found -/
theorem Sc.sure {rs : List (List UInt8)} {p r j m : Nat} (h : Sc rs p r j) (hm : m ≤ rs.length) (hs : (allP (rs.take m)).length ≤ p) : m ≤ r := by
  rcases Nat.lt_or_ge r m with h1 | h1
  · have hr : r < rs.length := by omega
    have h2 := allP_mono rs (r + 1) m (by omega)
    rw [allP_take rs r hr] at h2
    have := h.pl
    rcases h.in_ with h3 | ⟨_, h3⟩
    · have := pieces_pos rs[r]; omega
    · omega
  · exact h1
/-- all pieces: all records -/
theorem Sc.all {rs : List (List UInt8)} {r j : Nat} (h : Sc rs (allP rs).length r j) : r = rs.length := by
  have := h.sure (m := rs.length) (Nat.le_refl _) (by rw [List.take_length]; exact Nat.le_refl _)
  have := h.le
  omega
end Go.Proofs.YtoleojljpaglhaaGreat.Wa
