/- Plain mathematics of the law DiskSynced: what is found behind a crash, write by write. -/
import Derived.Test.YtmkcmahfededeaaVdR
namespace Go.Proofs.Ytmkcmahfededeaa
open Go.RowKit Go.Maps
/-- the sectors behind a crash -/
def cr (secs : List (List UInt8)) (q : List (Nat × List UInt8)) (keep torn : Int) : List (List UInt8) :=
  let k := (Vd.clamp keep 0 q.length).toNat
  let t := (Vd.clamp torn 0 64).toNat
  let s1 := Vd.lay secs (q.take k)
  match q.drop k with
  | [] => s1
  | x :: _ => s1.set x.1 (x.2.take t ++ (s1.getD x.1 []).drop t)
theorem crash_cr (d : Vd.VD) (keep torn : Int) (h : d.on = true) : Vd.crash d keep torn = { d with secs := cr d.secs d.q keep torn, q := [], on := false } := by
  unfold Vd.crash
  rw [if_pos h]
  rfl
theorem cr_nil (secs : List (List UInt8)) (keep torn : Int) : cr secs [] keep torn = secs := by simp [cr, Vd.lay]
theorem cr_short (secs : List (List UInt8)) (q : List (Nat × List UInt8)) (keep torn : Int) (h : (q.length : Int) ≤ keep ∨ q.length = 0) : cr secs q keep torn = Vd.lay secs q := by
  have hk : (Vd.clamp keep 0 q.length).toNat = q.length := by unfold Vd.clamp; omega
  unfold cr
  simp only [hk, List.drop_length, List.take_length]
theorem cr_snoc1 (secs : List (List UInt8)) (q : List (Nat × List UInt8)) (x : Nat × List UInt8) (keep torn : Int) (h : (q.length : Int) < keep) : cr secs (q ++ [x]) keep torn = (cr secs q keep torn).set x.1 x.2 := by
  rw [cr_short secs q keep torn (.inl (by omega)), cr_short secs (q ++ [x]) keep torn (.inl (by simp; omega)), Vd.lay_snoc]
theorem cr_snoc2 (secs : List (List UInt8)) (q : List (Nat × List UInt8)) (x : Nat × List UInt8) (keep torn : Int) (h : (q.length : Int) = max keep 0) :
    cr secs (q ++ [x]) keep torn = (cr secs q keep torn).set x.1 (x.2.take (Vd.clamp torn 0 64).toNat ++ ((cr secs q keep torn).getD x.1 []).drop (Vd.clamp torn 0 64).toNat) := by
  rw [cr_short secs q keep torn (by omega)]
  have hk : (Vd.clamp keep 0 (q ++ [x]).length).toNat = q.length := by simp only [Vd.clamp, List.length_append, List.length_singleton]; omega
  unfold cr
  simp only [hk, List.drop_left, List.take_left]
theorem cr_snoc3 (secs : List (List UInt8)) (q : List (Nat × List UInt8)) (x : Nat × List UInt8) (keep torn : Int) (h : max keep 0 < (q.length : Int)) : cr secs (q ++ [x]) keep torn = cr secs q keep torn := by
  obtain ⟨k, hk⟩ : ∃ k : Nat, (k : Int) = max keep 0 := ⟨(max keep 0).toNat, by omega⟩
  have h1 : (Vd.clamp keep 0 (q ++ [x]).length).toNat = k := by simp only [Vd.clamp, List.length_append, List.length_singleton]; omega
  have h2 : (Vd.clamp keep 0 q.length).toNat = k := by unfold Vd.clamp; omega
  unfold cr
  simp only [h1, h2]
  rw [List.take_append_of_le_length (by omega), List.drop_append_of_le_length (by omega), List.drop_eq_getElem_cons (by omega)]
  rfl
section
variable (p : Nat → Nat) (sy : Nat) (keep torn : Int)
/-- the first i writes -/
def wsL (i : Nat) : List (Nat × List UInt8) := (List.range i).map fun j => (p j, rowL ((j : Int) + 1))
theorem wsL_length (i : Nat) : (wsL p i).length = i := by simp [wsL]
theorem wsL_succ (i : Nat) : wsL p (i + 1) = wsL p i ++ [(p i, rowL ((i : Int) + 1))] := by simp [wsL, List.range_succ]
def z8 : List (List UInt8) := (newVD 8).secs
/-- the disk behind i writes; the sync comes ahead of the write sy -/
def syD (i : Nat) : Vd.VD := if i ≤ sy then { newVD 8 with q := wsL p i, writes := i } else { newVD 8 with secs := Vd.lay z8 (wsL p sy), q := (wsL p i).drop sy, writes := i }
/-- the disk behind the sync and i writes -/
def syE (i : Nat) : Vd.VD := { newVD 8 with secs := Vd.lay z8 (wsL p sy), q := (wsL p i).drop sy, writes := i }
/-- what is wanted behind i writes -/
def syW (i : Nat) : List (List UInt8) := if i ≤ sy then Vd.lay z8 (wsL p i) else cr (Vd.lay z8 (wsL p sy)) ((wsL p i).drop sy) keep torn
theorem z8_length : z8.length = 8 := rfl
theorem syW_length (i : Nat) : (syW p sy keep torn i).length = 8 := by
  unfold syW
  split
  · rw [Vd.lay_length, z8_length]
  · unfold cr
    simp only
    split
    · rw [Vd.lay_length, Vd.lay_length, z8_length]
    · rw [List.length_set, Vd.lay_length, Vd.lay_length, z8_length]
theorem drop_succ (i : Nat) (h : sy ≤ i) : (wsL p (i + 1)).drop sy = (wsL p i).drop sy ++ [(p i, rowL ((i : Int) + 1))] := by
  rw [wsL_succ, List.drop_append_of_le_length (by rw [wsL_length]; exact h)]
theorem drop_length (i : Nat) : ((wsL p i).drop sy).length = i - sy := by rw [List.length_drop, wsL_length]
theorem syW_all (i : Nat) (h : sy ≤ i) : syW p sy keep torn i = cr (Vd.lay z8 (wsL p sy)) ((wsL p i).drop sy) keep torn := by
  unfold syW
  split
  · obtain rfl : i = sy := by omega
    rw [List.drop_eq_nil_of_le (by rw [wsL_length]; omega), cr_nil]
  · rfl
/-- the write is kept whole -/
theorem syW_one (i : Nat) (h : i < sy ∨ (i : Int) - sy < keep) : syW p sy keep torn (i + 1) = (syW p sy keep torn i).set (p i) (rowL ((i : Int) + 1)) := by
  by_cases hi : i < sy
  · unfold syW
    rw [if_pos (by omega), if_pos (by omega), wsL_succ, Vd.lay_snoc]
  · rw [syW_all p sy keep torn (i + 1) (by omega), syW_all p sy keep torn i (by omega), drop_succ p sy i (by omega), cr_snoc1 _ _ _ _ _ (by rw [drop_length]; omega)]
/-- the write is torn -/
theorem syW_two (i : Nat) (h1 : sy ≤ i) (h : (i : Int) - sy = max keep 0) :
    syW p sy keep torn (i + 1) = (syW p sy keep torn i).set (p i) ((rowL ((i : Int) + 1)).take (Vd.clamp torn 0 64).toNat ++ ((syW p sy keep torn i).getD (p i) []).drop (Vd.clamp torn 0 64).toNat) := by
  rw [syW_all p sy keep torn (i + 1) (by omega), syW_all p sy keep torn i h1, drop_succ p sy i h1, cr_snoc2 _ _ _ _ _ (by rw [drop_length]; omega)]
/-- the write is lost -/
theorem syW_three (i : Nat) (h1 : sy ≤ i) (h : max keep 0 < (i : Int) - sy) : syW p sy keep torn (i + 1) = syW p sy keep torn i := by
  rw [syW_all p sy keep torn (i + 1) (by omega), syW_all p sy keep torn i h1, drop_succ p sy i h1, cr_snoc3 _ _ _ _ _ (by rw [drop_length]; omega)]
theorem syW_zero : syW p sy keep torn 0 = z8 := by
  unfold syW
  rw [if_pos (by omega)]
  rfl
theorem syD_zero : syD p sy 0 = newVD 8 := by
  unfold syD
  rw [if_pos (by omega)]
  rfl
theorem syD_sync : Vd.sync (syD p sy sy) = (0, syE p sy sy) := by
  have e : (wsL p sy).drop sy = [] := List.drop_eq_nil_of_le (by rw [wsL_length]; omega)
  unfold syD syE
  rw [if_pos (by omega), e]
  rfl
theorem syD_E (i : Nat) (h : sy < i) : syD p sy i = syE p sy i := by
  unfold syD
  rw [if_neg (by omega)]
  rfl
theorem syD_write (i : Nat) (hp : p i < 8) (h : i < sy) : Vd.write (syD p sy i) (p i) (rowL ((i : Int) + 1)) = (0, syD p sy (i + 1)) := by
  unfold syD
  rw [if_pos (by omega), if_pos (by omega), wsL_succ]
  have ha : Vd.asked { newVD 8 with q := wsL p i, writes := i } (p i) = 0 := by simp [Vd.asked, newVD]; omega
  unfold Vd.write
  rw [if_neg (by rw [ha]; simp), if_neg (by simp [rowL]), if_neg (by simp [newVD]), if_neg (by simp [Vd.burns, newVD])]
  simp [Vd.burns, newVD]
theorem syE_write (i : Nat) (hp : p i < 8) (h : sy ≤ i) : Vd.write (syE p sy i) (p i) (rowL ((i : Int) + 1)) = (0, syE p sy (i + 1)) := by
  have e := drop_succ p sy i h
  have hl : (Vd.lay z8 (wsL p sy)).length = 8 := by rw [Vd.lay_length]; rfl
  unfold syE
  rw [e]
  obtain ⟨s, hs⟩ : ∃ s, Vd.lay z8 (wsL p sy) = s := ⟨_, rfl⟩
  rw [hs] at hl ⊢
  have ha : Vd.asked { newVD 8 with secs := s, q := (wsL p i).drop sy, writes := i } (p i) = 0 := by simp [Vd.asked, newVD, hl]; omega
  unfold Vd.write
  rw [if_neg (by rw [ha]; simp), if_neg (by simp [rowL]), if_neg (by simp [newVD]), if_neg (by simp [Vd.burns, newVD])]
  simp [Vd.burns, newVD]
/-- the last state -/
def syZ (i : Nat) : Vd.VD := { newVD 8 with secs := syW p sy keep torn i, writes := i }
theorem sy_crash (i : Nat) (h : sy ≤ i) : ({ Vd.crash (syE p sy i) keep torn with on := true } : Vd.VD) = syZ p sy keep torn i := by
  rw [crash_cr _ _ _ rfl]
  unfold syZ
  rw [syW_all p sy keep torn i h]
  rfl
theorem syZ_read (i k : Nat) (hk : k < 8) : Vd.read (syZ p sy keep torn i) k = (0, (syW p sy keep torn i).getD k []) := by
  have hl := syW_length p sy keep torn i
  have ha : Vd.asked (syZ p sy keep torn i) k = 0 := by
    simp [Vd.asked, newVD, syZ, hl]
    omega
  unfold Vd.read
  rw [if_neg (by rw [ha]; simp)]
  simp only [Int.toNat_natCast]
  rfl
theorem syD_writes (i : Nat) : (syD p sy i).writes = i := by unfold syD; split <;> rfl
end
/-- each wanted row has 64 bytes -/
theorem cr_64 (secs : List (List UInt8)) (q : List (Nat × List UInt8)) (keep torn : Int) (hs : ∀ s ∈ secs, s.length = 64) (hq : ∀ x ∈ q, x.1 < secs.length ∧ x.2.length = 64) : ∀ s ∈ cr secs q keep torn, s.length = 64 := by
  have h1 := lay_64 (q.take (Vd.clamp keep 0 q.length).toNat) secs hs (fun x hx => (hq x (List.mem_of_mem_take hx)).2)
  unfold cr
  simp only
  split
  · exact h1
  · rename_i x r he
    have hx : x ∈ q := List.mem_of_mem_drop (by rw [he]; simp)
    exact torn_64 _ _ _ _ h1 (by rw [Vd.lay_length]; exact (hq x hx).1) (by unfold Vd.clamp; omega) (hq x hx).2
theorem syW_64 (p : Nat → Nat) (hp : ∀ i, p i < 8) (sy : Nat) (keep torn : Int) (i : Nat) : ∀ s ∈ syW p sy keep torn i, s.length = 64 := by
  have hz : ∀ s ∈ z8, s.length = 64 := (newVD_ok 8 (by omega)).secs
  have hw : ∀ i, ∀ x ∈ wsL p i, x.1 < 8 ∧ x.2.length = 64 := by
    intro i x hx
    obtain ⟨j, _, rfl⟩ := List.mem_map.1 hx
    exact ⟨hp j, rowL_length _⟩
  unfold syW
  split
  · exact lay_64 _ _ hz (fun x hx => (hw _ x hx).2)
  · exact cr_64 _ _ _ _ (lay_64 _ _ hz (fun x hx => (hw _ x hx).2)) (fun x hx => by rw [Vd.lay_length]; exact hw _ x (List.mem_of_mem_drop hx))
end Go.Proofs.Ytmkcmahfededeaa
