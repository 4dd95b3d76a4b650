/- Plain mathematics of LogWhole: what a crash leaves, and the records that pieces make. No program, no conditions. -/
import Derived.Test.YtoleojljpaglhaaWbP
namespace Go.Proofs.Ytoleojljpaglhaa.Wa
open Go Go.RowKit Vd
theorem lay_append (s : List (List UInt8)) (a b : List (Nat × List UInt8)) : lay s (a ++ b) = lay (lay s a) b := by unfold lay; rw [List.foldl_append]
theorem sec_set_ne (s : List (List UInt8)) (fr a p : Nat) (x : List UInt8) (h : a ≠ p) : sec (s.set (fr + a) x) fr p = sec s fr p := by
  unfold sec
  rw [List.getD_eq_getElem?_getD, List.getD_eq_getElem?_getD, List.getElem?_set_ne (by omega)]
theorem sec_set_eq (s : List (List UInt8)) (fr a : Nat) (x : List UInt8) (h : fr + a < s.length) : sec (s.set (fr + a) x) fr a = x := by
  unfold sec
  rw [List.getD_eq_getElem?_getD, List.getElem?_set_self h]
  rfl
theorem set_sec (s : List (List UInt8)) (fr a : Nat) (h : fr + a < s.length) : s.set (fr + a) (sec s fr a) = s := by
  unfold sec
  rw [List.getD_eq_getElem?_getD, List.getElem?_eq_getElem h]
  exact List.set_getElem_self h
/-- what the power leaves of a generation that is under way -/
theorem crash_found {base : List (List UInt8)} {g : Nat} {ahead : List (List UInt8)} {ga : Nat} (h : BaseI base g ahead ga) (hg : g < 256) (A B : List (List UInt8 × Nat)) (hP : PiOk (A ++ B)) (hn : (A ++ B).length ≤ 30)
    (d : VD) (hon : d.on = true) (hs : d.secs = lay base (sq 3 g 0 A)) (hq : d.q = sq 3 g A.length B) (keep torn : Int) :
    ∃ T, A.length ≤ T ∧ T ≤ (A ++ B).length ∧ ((ArP (crash d keep torn).secs 3 30 g (A ++ B) T ∧ 1 ≤ (A ++ B).length) ∨ (A = [] ∧ (crash d keep torn).secs = base)) ∧ (crash d keep torn).q = [] ∧ (crash d keep torn).secs.length = 40 := by
  have hcr : (crash d keep torn).q = [] := by unfold crash; rw [if_pos hon]
  obtain ⟨k, hk⟩ : ∃ k, (clamp keep 0 d.q.length).toNat = k := ⟨_, rfl⟩
  obtain ⟨t, ht⟩ : ∃ t, (clamp torn 0 64).toNat = t := ⟨_, rfl⟩
  have hkB : k ≤ B.length := by
    rw [← hk]; unfold clamp; rw [hq, sq_length]; omega
  have ht64 : t ≤ 64 := by rw [← ht]; unfold clamp; omega
  have e1 : lay d.secs (d.q.take k) = lay base (sq 3 g 0 ((A ++ B).take (A.length + k))) := by
    rw [hs, hq, sq_take, ← lay_append]
    congr 1
    have eA : A.take (A.length + k) = A := List.take_of_length_le (by omega)
    rw [List.take_append, eA, show A.length + k - A.length = k from by omega, sq_append, Nat.zero_add]
  have hsecs : (crash d keep torn).secs = match d.q.drop k with
      | [] => lay base (sq 3 g 0 ((A ++ B).take (A.length + k)))
      | x :: _ => (lay base (sq 3 g 0 ((A ++ B).take (A.length + k)))).set x.1 (x.2.take t ++ ((lay base (sq 3 g 0 ((A ++ B).take (A.length + k)))).getD x.1 []).drop t) := by
    unfold crash
    rw [if_pos hon]
    simp only [hk, ht, e1]
    rfl
  have hq2 : d.q.drop k = sq 3 g (A.length + k) (B.drop k) := by rw [hq, sq_drop _ _ _ _ _ hkB]
  have hTl : ((A ++ B).take (A.length + k)).length = A.length + k := by simp; omega
  have hl1 : (lay base (sq 3 g 0 ((A ++ B).take (A.length + k)))).length = 40 := by rw [lay_length]; exact h.len
  have hlay := fun p => lay_sq 3 g p ((A ++ B).take (A.length + k)) 0 base (by rw [h.len, hTl]; simp at hn; omega)
  rw [hTl] at hlay
  have hnn : A.length + B.length ≤ 30 := by simpa using hn
  cases hB : B.drop k with
  | nil =>
    have hkk : k = B.length := by
      have := congrArg List.length hB
      simp at this
      omega
    rw [hq2, hB] at hsecs
    have hsecs : (crash d keep torn).secs = lay base (sq 3 g 0 ((A ++ B).take (A.length + k))) := hsecs
    refine ⟨A.length + k, by omega, by simp; omega, ?_, hcr, by rw [hsecs]; exact hl1⟩
    rw [hsecs]
    by_cases h0 : A.length + k = 0
    · right
      have hA : A = [] := List.eq_nil_of_length_eq_zero (by omega)
      refine ⟨hA, ?_⟩
      rw [h0, List.take_zero]
      rfl
    · left
      exact ⟨ArP.laid h hg (A ++ B) hP hn (A.length + k) (by simp; omega) (by omega), by simp; omega⟩
  | cons x l =>
    have hkk : k < B.length := by
      have := congrArg List.length hB
      simp at this
      omega
    have hx : (A ++ B)[A.length + k]? = some x := by
      rw [List.getElem?_append_right (by omega), show A.length + k - A.length = k from by omega]
      have := congrArg (fun m => m[0]?) hB
      simpa using this
    have hx48 := (hP x (List.mem_of_getElem? hx)).1
    rw [hq2, hB] at hsecs
    have hold : OldS g (sec base 3 (A.length + k)) := h.old _ (by omega)
    have hso : sec (lay base (sq 3 g 0 ((A ++ B).take (A.length + k)))) 3 (A.length + k) = sec base 3 (A.length + k) := (hlay (A.length + k)).2 (by omega)
    have hsecs : (crash d keep torn).secs = (lay base (sq 3 g 0 ((A ++ B).take (A.length + k)))).set (3 + (A.length + k)) ((formL x.1 x.2 g (A.length + k)).take t ++ (sec base 3 (A.length + k)).drop t) := by
      rw [← hso]; exact hsecs
    obtain ⟨hol, y, hy, hy4, hy60⟩ := hold
    have hnl := formL_length x.1 x.2 g (A.length + k) hx48
    have hn4 := formL_take x.1 x.2 g (A.length + k) hg
    have hn60 := formL_drop x.1 x.2 g (A.length + k) hx48 hg
    have hl2 : (crash d keep torn).secs.length = 40 := by rw [hsecs, List.length_set]; exact hl1
    by_cases h64 : t = 64
    · refine ⟨A.length + k + 1, by omega, by simp; omega, .inl ⟨?_, by simp; omega⟩, hcr, hl2⟩
      have e2 : (crash d keep torn).secs = lay base (sq 3 g 0 ((A ++ B).take (A.length + k + 1))) := by
        have ex : (A ++ B).take (A.length + k + 1) = (A ++ B).take (A.length + k) ++ [x] := by
          rw [List.take_add_one, hx]
          rfl
        have et : (formL x.1 x.2 g (A.length + k)).take 64 = formL x.1 x.2 g (A.length + k) := List.take_of_length_le (by rw [hnl]; exact Nat.le_refl _)
        have ed : (sec base 3 (A.length + k)).drop 64 = [] := List.drop_of_length_le (by rw [hol]; exact Nat.le_refl _)
        rw [hsecs, ex, sq_append, lay_append, hTl, Nat.zero_add, h64, et, ed, List.append_nil]
        rfl
      rw [e2]
      exact ArP.laid h hg (A ++ B) hP hn (A.length + k + 1) (by simp; omega) (by omega)
    · have htl : t < 64 := by omega
      have hxl : ((formL x.1 x.2 g (A.length + k)).take t ++ (sec base 3 (A.length + k)).drop t).length = 64 := by simp [hnl, hol]; omega
      have hx60 := torn_end hnl hn60 hy60 t htl
      have hne : ((formL x.1 x.2 g (A.length + k)).take t ++ (sec base 3 (A.length + k)).drop t).drop 60 ≠ [0, 0, 0, UInt8.ofNat g] := by
        rw [hx60]
        intro e
        have e : y = UInt8.ofNat g := by simpa using e
        subst e
        rw [UInt8.toNat_ofNat'] at hy
        omega
      have e0 : sec (crash d keep torn).secs 3 (A.length + k) = (formL x.1 x.2 g (A.length + k)).take t ++ (sec base 3 (A.length + k)).drop t := by
        rw [hsecs, sec_set_eq _ _ _ _ (by rw [hl1]; omega)]
      by_cases h0 : A.length + k = 0
      · have hA : A = [] := List.eq_nil_of_length_eq_zero (by omega)
        have e00 : sec (crash d keep torn).secs 3 0 = sec (crash d keep torn).secs 3 (A.length + k) := by rw [h0]
        by_cases h4 : t < 4
        · refine ⟨0, by omega, by omega, .inr ⟨hA, ?_⟩, hcr, hl2⟩
          rw [hsecs, torn_none hn4 hy4 t h4, h0, List.take_zero]
          exact set_sec base 3 0 (by rw [h.len]; omega)
        · refine ⟨0, by omega, by omega, .inl ⟨⟨by omega, by omega, fun p hp => by omega, fun _ => ?_, ?_⟩, by simp; omega⟩, hcr, hl2⟩
          · rw [e00, e0]
            exact ⟨hxl, hne⟩
          · rw [e00, e0]
            refine ⟨hxl, ?_⟩
            unfold genB
            rw [torn_head hnl hn4 t (by omega) htl, hx60, get4, get4, UInt8.toNat_ofNat']
            omega
      · have hA := ArP.laid h hg (A ++ B) hP hn (A.length + k) (by simp; omega) (by omega)
        refine ⟨A.length + k, by omega, by simp; omega, .inl ⟨⟨by simp; omega, by omega, fun p hp => ?_, fun _ => ?_, ?_⟩, by simp; omega⟩, hcr, hl2⟩
        · obtain ⟨z, hz, he⟩ := hA.at_ p hp
          exact ⟨z, hz, by rw [hsecs, sec_set_ne _ _ _ _ _ (by omega)]; exact he⟩
        · rw [e0]
          exact ⟨hxl, hne⟩
        · rw [hsecs, sec_set_ne _ _ _ _ _ (by omega)]
          exact hA.first
/-- the pieces of a record, together -/
theorem pieces_flat : ∀ (n : Nat) (r : List UInt8), r.length ≤ n → (pieces r).flatten = r := by
  intro n
  induction n with
  | zero => intro r h; rw [pieces_small r (by omega)]; simp
  | succ n ih =>
    intro r h
    by_cases hb : 48 < r.length
    · rw [pieces_big r hb, List.flatten_cons, ih (r.drop 48) (by simp; omega), List.take_append_drop]
    · rw [pieces_small r hb]; simp
theorem pieces_flat' (r : List UInt8) : (pieces r).flatten = r := pieces_flat r.length r (Nat.le_refl _)
/-- a record whose last piece is empty is empty -/
theorem pieces_last : ∀ (n : Nat) (r : List UInt8), r.length ≤ n → ∀ j (h : j < (pieces r).length), j + 1 = (pieces r).length → (pieces r)[j] = [] → r = [] ∧ j = 0 := by
  intro n
  induction n with
  | zero =>
    intro r h j hj hl he
    have : r = [] := List.eq_nil_of_length_eq_zero (by omega)
    subst this
    have : (pieces ([] : List UInt8)).length = 1 := by decide
    exact ⟨rfl, by omega⟩
  | succ n ih =>
    intro r h j hj hl he
    by_cases hb : 48 < r.length
    · have hp := pieces_big r hb
      cases j with
      | zero =>
        simp only [hp, List.length_cons] at hl
        have := pieces_pos (r.drop 48)
        omega
      | succ j =>
        simp only [hp, List.length_cons] at hl hj
        have he' : (pieces (r.drop 48))[j]'(by omega) = [] := by
          simp only [hp, List.getElem_cons_succ] at he
          exact he
        have := ih (r.drop 48) (by simp; omega) j (by omega) (by omega) he'
        have := congrArg List.length this.1
        simp at this
        omega
    · have hp := pieces_small r hb
      simp only [hp, List.length_singleton] at hl hj
      have : j = 0 := by omega
      subst this
      simp only [hp, List.getElem_cons_zero] at he
      exact ⟨he, rfl⟩
theorem kinded_ok : ∀ (n : Nat) (r : List UInt8), r.length ≤ n → PiOk (kinded (pieces r)) := by
  intro n
  induction n with
  | zero =>
    intro r h x hx
    rw [pieces_small r (by omega)] at hx
    simp only [kinded, List.mem_singleton] at hx
    subst hx
    exact ⟨by show r.length ≤ 48; omega, .inr rfl⟩
  | succ n ih =>
    intro r h x hx
    by_cases hb : 48 < r.length
    · rw [pieces_big r hb] at hx
      obtain ⟨s, l, hsl⟩ : ∃ s l, pieces (r.drop 48) = s :: l := by
        cases hp : pieces (r.drop 48) with
        | nil => have := pieces_pos (r.drop 48); rw [hp] at this; simp at this
        | cons s l => exact ⟨s, l, rfl⟩
      rw [hsl, kinded, ← hsl] at hx
      rcases List.mem_cons.1 hx with rfl | hx
      · exact ⟨by simp; omega, .inl ⟨rfl, by simp; omega⟩⟩
      · exact ih (r.drop 48) (by simp; omega) x hx
    · rw [pieces_small r hb] at hx
      simp only [kinded, List.mem_singleton] at hx
      subst hx
      exact ⟨by show r.length ≤ 48; omega, .inr rfl⟩
theorem allP_ok (rs : List (List UInt8)) : PiOk (allP rs) := by
  intro x hx
  simp only [allP, List.mem_flatMap] at hx
  obtain ⟨r, _, hx⟩ := hx
  exact kinded_ok r.length r (Nat.le_refl _) x hx
/-- a place among the pieces: r records are whole, and j pieces more -/
structure Sc (rs : List (List UInt8)) (p r j : Nat) : Prop where
  le : r ≤ rs.length
  pl : p = (allP (rs.take r)).length + j
  in_ : j = 0 ∨ ∃ h : r < rs.length, j < (pieces rs[r]).length
theorem Sc.start (rs : List (List UInt8)) : Sc rs 0 0 0 := ⟨Nat.zero_le _, by simp [allP], .inl rfl⟩
theorem allP_split (rs : List (List UInt8)) (r : Nat) (h : r < rs.length) : allP rs = allP (rs.take r) ++ (kinded (pieces rs[r]) ++ allP (rs.drop (r + 1))) := by
  conv => lhs; rw [← List.take_append_drop r rs]
  rw [allP_append, List.drop_eq_getElem_cons h]
  unfold allP
  rw [List.flatMap_cons]
theorem allP_take (rs : List (List UInt8)) (r : Nat) (h : r < rs.length) : (allP (rs.take (r + 1))).length = (allP (rs.take r)).length + (pieces rs[r]).length := by
  rw [List.take_succ_eq_append_getElem h, allP_append, allP_one, List.length_append, kinded_length]
theorem Sc.get {rs : List (List UInt8)} {p r j : Nat} (h : Sc rs p r j) (hp : p < (allP rs).length) : ∃ hr : r < rs.length, ∃ hj : j < (pieces rs[r]).length, (allP rs)[p]? = some ((pieces rs[r])[j], if j + 1 = (pieces rs[r]).length then 2 else 1) := by
  have hr : r < rs.length := by
    rcases Nat.lt_or_ge r rs.length with h1 | h1
    · exact h1
    · have hrl : r = rs.length := by have := h.le; omega
      have hpl := h.pl
      rw [hrl, List.take_length] at hpl
      omega
  have hj : j < (pieces rs[r]).length := by
    rcases h.in_ with h1 | ⟨_, h1⟩
    · have := pieces_pos rs[r]; omega
    · exact h1
  refine ⟨hr, hj, ?_⟩
  rw [allP_split rs r hr, List.getElem?_append_right (by have := h.pl; omega), show p - (allP (rs.take r)).length = j from by have := h.pl; omega, List.getElem?_append_left (by rw [kinded_length]; exact hj)]
  exact kinded_at _ j hj
theorem Sc.last {rs : List (List UInt8)} {p r j : Nat} (h : Sc rs p r j) (hr : r < rs.length) (hl : j + 1 = (pieces rs[r]).length) : Sc rs (p + 1) (r + 1) 0 :=
  ⟨by omega, by rw [allP_take rs r hr]; have := h.pl; omega, .inl rfl⟩
theorem Sc.more {rs : List (List UInt8)} {p r j : Nat} (h : Sc rs p r j) (hr : r < rs.length) (hj : j < (pieces rs[r]).length) (hl : j + 1 ≠ (pieces rs[r]).length) : Sc rs (p + 1) r (j + 1) :=
  ⟨h.le, by have := h.pl; omega, .inr ⟨hr, by omega⟩⟩
theorem allP_mono (rs : List (List UInt8)) (a b : Nat) (h : a ≤ b) : (allP (rs.take a)).length ≤ (allP (rs.take b)).length := by
  have e : rs.take b = rs.take a ++ (rs.drop a).take (b - a) := by
    have := List.take_add (l := rs) (i := a) (j := b - a)
    rw [show a + (b - a) = b from by omega] at this
    exact this
  rw [e, allP_append, List.length_append]
  omega
/-- what was synced is found -/
theorem Sc.sure {rs : List (List UInt8)} {p r j m : Nat} (h : Sc rs p r j) (hm : m ≤ rs.length) (hs : (allP (rs.take m)).length ≤ p) : m ≤ r := by
  rcases Nat.lt_or_ge r m with h1 | h1
  · have hr : r < rs.length := by omega
    have h2 := allP_mono rs (r + 1) m (by omega)
    rw [allP_take rs r hr] at h2
    have := h.pl
    rcases h.in_ with h3 | ⟨_, h3⟩
    · have := pieces_pos rs[r]; omega
    · omega
  · exact h1
/-- all pieces: all records -/
theorem Sc.all {rs : List (List UInt8)} {r j : Nat} (h : Sc rs (allP rs).length r j) : r = rs.length := by
  have := h.sure (m := rs.length) (Nat.le_refl _) (by rw [List.take_length]; exact Nat.le_refl _)
  have := h.le
  omega
end Go.Proofs.Ytoleojljpaglhaa.Wa
