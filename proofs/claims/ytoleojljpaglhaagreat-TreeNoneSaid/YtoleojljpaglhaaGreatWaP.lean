/- Plain mathematics of chapter 11: a record's pieces, a piece's sector, a log as a state. No program, no conditions. -/
import Derived.Test.YtoleojljpaglhaaGreatPlainC
import Derived.Test.YtoleojljpaglhaaGreatVdP
namespace Go.Proofs.YtoleojljpaglhaaGreat.Wa
open Go Go.RowKit Vd
/-- a piece's sector -/
def formL (s : List UInt8) (kind gen place : Nat) : List UInt8 :=
  Oct.beB 4 gen ++ Oct.beB 2 s.length ++ [UInt8.ofNat kind, 0] ++ s ++ List.replicate (48 - s.length) 0 ++ Oct.beB 4 place ++ Oct.beB 4 gen
theorem formL_length (s : List UInt8) (kind gen place : Nat) (h : s.length ≤ 48) : (formL s kind gen place).length = 64 := by
  unfold formL
  simp only [List.length_append, Oct.beB_length, List.length_replicate, List.length_cons, List.length_nil]
  omega
/-- the pieces of a record, one at least: f is more than there can be -/
def piecesF : Nat → List UInt8 → List (List UInt8)
  | 0, r => [r]
  | f + 1, r => if 48 < r.length then r.take 48 :: piecesF f (r.drop 48) else [r]
def pieces (r : List UInt8) : List (List UInt8) := piecesF r.length r
theorem piecesF_more : ∀ (f g : Nat) (r : List UInt8), r.length ≤ 48 + 48 * f → r.length ≤ 48 + 48 * g → piecesF f r = piecesF g r := by
  intro f
  induction f with
  | zero =>
    intro g r hf hg
    cases g with
    | zero => rfl
    | succ g => simp only [piecesF]; rw [if_neg (by omega)]
  | succ f ih =>
    intro g r hf hg
    cases g with
    | zero => simp only [piecesF]; rw [if_neg (by omega)]
    | succ g =>
      simp only [piecesF]
      by_cases h : 48 < r.length
      · rw [if_pos h, if_pos h, ih g (r.drop 48) (by simp; omega) (by simp; omega)]
      · rw [if_neg h, if_neg h]
theorem pieces_big (r : List UInt8) (h : 48 < r.length) : pieces r = r.take 48 :: pieces (r.drop 48) := by
  unfold pieces
  obtain ⟨n, hn⟩ : ∃ n, r.length = n + 1 := ⟨r.length - 1, by omega⟩
  rw [hn]
  simp only [piecesF]
  rw [if_pos h, piecesF_more n (r.drop 48).length (r.drop 48) (by simp; omega) (by simp; omega)]
theorem pieces_small (r : List UInt8) (h : ¬ 48 < r.length) : pieces r = [r] := by
  unfold pieces
  cases hn : r.length with
  | zero => rfl
  | succ n => simp only [piecesF]; rw [if_neg h]
theorem piecesF_le : ∀ (f : Nat) (r : List UInt8), r.length ≤ 48 + 48 * f → ∀ p ∈ piecesF f r, p.length ≤ 48 := by
  intro f
  induction f with
  | zero => intro r h p hp; simp only [piecesF, List.mem_singleton] at hp; subst hp; omega
  | succ f ih =>
    intro r h p hp
    simp only [piecesF] at hp
    split at hp
    · rcases List.mem_cons.1 hp with rfl | hp
      · simp; omega
      · exact ih (r.drop 48) (by simp; omega) p hp
    · simp only [List.mem_singleton] at hp; subst hp; omega
theorem pieces_le (r : List UInt8) : ∀ p ∈ pieces r, p.length ≤ 48 := piecesF_le r.length r (by omega)
theorem piecesF_len : ∀ (f : Nat) (r : List UInt8), r.length ≤ 48 + 48 * f → (piecesF f r).length = max 1 ((r.length + 47) / 48) := by
  intro f
  induction f with
  | zero => intro r h; simp only [piecesF, List.length_singleton]; omega
  | succ f ih =>
    intro r h
    simp only [piecesF]
    split
    · rw [List.length_cons, ih (r.drop 48) (by simp; omega), List.length_drop]; omega
    · rw [List.length_singleton]; omega
theorem pieces_len (r : List UInt8) : (pieces r).length = max 1 ((r.length + 47) / 48) := piecesF_len r.length r (by omega)
/-- a log -/
structure WL where
  fr : Nat
  n : Nat
  gen : Nat
  op : Bool
  used : Nat
  recs : List (List UInt8)
/-- a disk that takes every write -/
structure Takes (d : VD) : Prop where
  on : d.on = true
  room : d.room = -1
  fuse : d.fuse = none
theorem takes_write {d : VD} (h : Takes d) (a : Nat) (s : List UInt8) (ha : a < d.secs.length) (hs : s.length = 64) : Vd.write d a s = (0, { d with q := d.q ++ [(a, s)], writes := d.writes + 1 }) := by
  have h0 : asked d a = 0 := by unfold asked; rw [if_pos h.on, if_neg (by omega)]
  have hb : burns d = (false, d) := by unfold burns; rw [h.fuse]
  unfold Vd.write
  rw [if_neg (by simp [h0]), if_neg (by omega), if_neg (by rw [h.room]; omega)]
  simp only [hb]
  rw [if_neg (by simp), if_neg (by rw [h.room]; omega)]
  simp
theorem takes_sync {d : VD} (h : Takes d) : Vd.sync d = (0, { d with secs := lay d.secs d.q, q := [] }) := by
  have hb : burns d = (false, d) := by unfold burns; rw [h.fuse]
  unfold Vd.sync
  rw [if_pos h.on]
  simp only [hb]
  rw [if_neg (by simp)]
/-- what the writes of the pieces from the k-th on leave -/
def wrs (fr gen used tot : Nat) : Nat → List (List UInt8) → List (Nat × List UInt8)
  | _, [] => []
  | i, s :: l => (fr + (used + i), formL s (if i + 1 = tot then 2 else 1) gen (used + i)) :: wrs fr gen used tot (i + 1) l
theorem wrs_length (fr gen used tot : Nat) : ∀ (l : List (List UInt8)) (i : Nat), (wrs fr gen used tot i l).length = l.length := by
  intro l
  induction l with
  | nil => intro i; rfl
  | cons s l ih => intro i; simp only [wrs, List.length_cons, ih]
theorem wrs_snoc (fr gen used tot : Nat) (s : List UInt8) : ∀ (l : List (List UInt8)) (i : Nat), wrs fr gen used tot i (l ++ [s]) = wrs fr gen used tot i l ++ [(fr + (used + (i + l.length)), formL s (if i + l.length + 1 = tot then 2 else 1) gen (used + (i + l.length)))] := by
  intro l
  induction l with
  | nil => intro i; simp [wrs]
  | cons a l ih =>
    intro i
    simp only [List.cons_append, wrs, ih, List.length_cons]
    rw [show i + 1 + l.length = i + (l.length + 1) from by omega]
/-- the disk with the first j pieces of a record written -/
def wrote (d : VD) (L : WL) (ps : List (List UInt8)) (j : Nat) : VD := { d with q := d.q ++ wrs L.fr L.gen L.used ps.length 0 (ps.take j), writes := d.writes + j }
theorem wrote_zero (d : VD) (L : WL) (ps : List (List UInt8)) : wrote d L ps 0 = d := by simp [wrote, wrs]
theorem wrote_takes {d : VD} (h : Takes d) (L : WL) (ps : List (List UInt8)) (j : Nat) : Takes (wrote d L ps j) := ⟨h.on, h.room, h.fuse⟩
theorem wrote_step {d : VD} (h : Takes d) (L : WL) (ps : List (List UInt8)) (j : Nat) (hj : j < ps.length) (hp : ps[j].length ≤ 48) (hr : L.fr + (L.used + j) < d.secs.length) :
    Vd.write (wrote d L ps j) ((L.fr + (L.used + j) : Nat) : Int) (formL ps[j] (if j + 1 = ps.length then 2 else 1) L.gen (L.used + j)) = (0, wrote d L ps (j + 1)) := by
  rw [takes_write (wrote_takes h L ps j) _ _ hr (formL_length _ _ _ _ hp)]
  unfold wrote
  rw [List.take_succ_eq_append_getElem hj, wrs_snoc]
  simp only [Prod.mk.injEq, true_and]
  have e : (List.take j ps).length = j := by simp; omega
  rw [e]
  simp only [Nat.zero_add, List.append_assoc]
  congr 1
  push_cast
  omega
end Go.Proofs.YtoleojljpaglhaaGreat.Wa
