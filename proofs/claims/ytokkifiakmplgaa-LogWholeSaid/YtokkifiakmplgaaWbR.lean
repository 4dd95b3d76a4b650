/- Plain mathematics of LogWhole: a generation under way. No program, no conditions. -/
import Derived.Test.YtokkifiakmplgaaWbQ
namespace Go.Proofs.Ytokkifiakmplgaa.Wa
open Go Go.RowKit Vd
/-- a generation under way: its records, those of the one ahead, how many are synced, the disk -/
structure GS (g : Nat) (now ahead : List (List UInt8)) (sure : Nat) (d : VD) : Prop where
  takes : Takes d
  few : (allP now).length ≤ 30
  le : sure ≤ now.length
  wr : d.writes ≤ 30 * (g : Int) + (allP now).length
  st : ∃ base ga, BaseI base (if g = 0 then 1 else g) ahead ga ∧ d.secs = lay base (sq 3 g 0 (allP (now.take sure))) ∧ d.q = sq 3 g (allP (now.take sure)).length (allP (now.drop sure)) ∧ (g = 0 → now = [])
/-- the disk behind a sync -/
def synced (d : VD) : VD := { d with secs := lay d.secs d.q, q := [] }
theorem GS.len {g : Nat} {now ahead : List (List UInt8)} {sure : Nat} {d : VD} (h : GS g now ahead sure d) : d.secs.length = 40 := by
  obtain ⟨base, ga, hb, hs, _⟩ := h.st
  rw [hs, lay_length]
  exact hb.len
theorem allP_cut (now : List (List UInt8)) (s : Nat) : allP (now.take s) ++ allP (now.drop s) = allP now := by rw [← allP_append, List.take_append_drop]
theorem GS.laid {g : Nat} {now ahead : List (List UInt8)} {sure : Nat} {d : VD} (h : GS g now ahead sure d) : ∃ base ga, BaseI base (if g = 0 then 1 else g) ahead ga ∧ (synced d).secs = lay base (sq 3 g 0 (allP now)) ∧ (g = 0 → now = []) := by
  obtain ⟨base, ga, hb, hs, hq, h0⟩ := h.st
  refine ⟨base, ga, hb, ?_, h0⟩
  show lay d.secs d.q = _
  rw [hs, hq, ← lay_append, ← allP_cut now sure, sq_append, Nat.zero_add]
/-- a new generation -/
theorem GS.reset {g : Nat} {now ahead : List (List UInt8)} {sure : Nat} {d : VD} (h : GS g now ahead sure d) (hg : g < 255) : GS (g + 1) [] (if now = [] then ahead else now) 0 (synced d) := by
  obtain ⟨base, ga, hb, hs, h0⟩ := h.laid
  refine ⟨⟨h.takes.on, h.takes.room, h.takes.fuse⟩, by simp [allP], by simp, ?_, ?_⟩
  · have h1 := h.wr
    have h2 := h.few
    have e : (allP ([] : List (List UInt8))).length = 0 := rfl
    show d.writes ≤ _
    rw [e]
    push_cast
    omega
  by_cases hn : now = []
  · subst hn
    rw [if_pos rfl, if_neg (by omega)]
    have e : (synced d).secs = base := by rw [hs]; rfl
    refine ⟨base, ga, ?_, by rw [e]; rfl, rfl, fun e => by omega⟩
    by_cases hg0 : g = 0
    · subst hg0
      rw [if_pos rfl] at hb
      exact hb
    · rw [if_neg hg0] at hb
      exact hb.idle
  · rw [if_neg hn, if_neg (by omega)]
    have hg0 : g ≠ 0 := fun e => hn (h0 e)
    rw [if_neg hg0] at hb
    have hx := hb.next (by omega) (by omega) (allP_ok now) h.few hn
    exact ⟨_, g, hx, by rw [hs]; rfl, rfl, fun e => by omega⟩
/-- a sync in between -/
theorem GS.sync {g : Nat} {now ahead : List (List UInt8)} {sure : Nat} {d : VD} (h : GS g now ahead sure d) : GS g now ahead now.length (synced d) := by
  obtain ⟨base, ga, hb, hs, h0⟩ := h.laid
  refine ⟨⟨h.takes.on, h.takes.room, h.takes.fuse⟩, h.few, Nat.le_refl _, h.wr, base, ga, hb, ?_, ?_, h0⟩
  · rw [List.take_length]; exact hs
  · rw [List.drop_length]; rfl
/-- the log's own state -/
def gL (g : Nat) (now : List (List UInt8)) : WL := { fr := 3, n := 30, gen := g, op := decide (0 < g), used := (allP now).length, recs := now }
/-- a record more -/
theorem GS.push {g : Nat} {now ahead : List (List UInt8)} {sure : Nat} {d : VD} (h : GS g now ahead sure d) (hg : 0 < g) (r : List UInt8) (hf : (allP now).length + (pieces r).length ≤ 30) : GS g (now ++ [r]) ahead sure (wrote d (gL g now) (pieces r) (pieces r).length) := by
  obtain ⟨base, ga, hb, hs, hq, h0⟩ := h.st
  have hle := h.le
  have e1 : (now ++ [r]).take sure = now.take sure := by rw [List.take_append_of_le_length hle]
  have e2 : (now ++ [r]).drop sure = now.drop sure ++ [r] := by rw [List.drop_append_of_le_length hle]
  have e3 : (allP (now.take sure)).length + (allP (now.drop sure)).length = (allP now).length := by rw [← List.length_append, allP_cut]
  refine ⟨⟨h.takes.on, h.takes.room, h.takes.fuse⟩, by rw [allP_append, allP_one, List.length_append, kinded_length]; exact hf, by simp; omega, ?_, base, ga, hb, by rw [e1]; exact hs, ?_, fun e => by omega⟩
  · have h1 := h.wr
    show d.writes + ((pieces r).length : Int) ≤ _
    rw [allP_append, allP_one, List.length_append, kinded_length]
    push_cast
    omega
  show d.q ++ wrs 3 g (allP now).length (pieces r).length 0 ((pieces r).take (pieces r).length) = _
  rw [List.take_length, wrs_kinded 3 g (allP now).length (pieces r).length (pieces r) 0 (by omega), e1, e2, allP_append, allP_one, sq_append, hq, Nat.add_zero, e3]
/-- what is found behind a crash -/
theorem GS.crash {g : Nat} {now ahead : List (List UInt8)} {sure : Nat} {d : VD} (h : GS g now ahead sure d) (hg0 : 0 < g) (hg : g < 256) (keep torn : Int) :
    (crash d keep torn).q = [] ∧ (crash d keep torn).secs.length = 40 ∧
    ((now ≠ [] ∧ ∃ T, (allP (now.take sure)).length ≤ T ∧ ArP (crash d keep torn).secs 3 30 g (allP now) T) ∨
     ((now = [] ∨ sure = 0) ∧ ((ahead = [] ∧ sec (crash d keep torn).secs 3 0 = List.replicate 64 0) ∨ ∃ ga, 0 < ga ∧ ga < 256 ∧ ArP (crash d keep torn).secs 3 30 ga (allP ahead) (allP ahead).length))) := by
  obtain ⟨base, ga, hb, hs, hq, h0⟩ := h.st
  rw [if_neg (by omega)] at hb
  have hf := h.few
  rw [← allP_cut now sure] at hf
  obtain ⟨T, h1, h2, h3, h4, h5⟩ := crash_found hb hg (allP (now.take sure)) (allP (now.drop sure)) (by rw [allP_cut]; exact allP_ok now) hf d h.takes.on hs hq keep torn
  refine ⟨h4, h5, ?_⟩
  rw [allP_cut] at h3
  rcases h3 with ⟨h3, hne⟩ | ⟨hA, he⟩
  · refine .inl ⟨fun e => ?_, T, h1, h3⟩
    rw [e] at hne
    simp [allP] at hne
  · right
    constructor
    · by_cases hn : now = []
      · exact .inl hn
      · right
        rcases Nat.eq_zero_or_pos sure with h6 | h6
        · exact h6
        · exfalso
          have hl : 1 ≤ now.length := by cases now with
            | nil => exact absurd rfl hn
            | cons _ _ => simp
          have hm := allP_mono now 1 sure h6
          have hp : (allP (now.take 1)).length = (allP (now.take 0)).length + (pieces now[0]).length := allP_take now 0 (by omega)
          have hpp := pieces_pos now[0]
          rw [hA] at hm
          simp only [List.length_nil] at hm
          omega
    · rw [he]
      rcases Nat.eq_zero_or_pos ga with h6 | h6
      · exact .inl (hb.none h6)
      · exact .inr ⟨ga, h6, by have := hb.lt; omega, (hb.some h6).2⟩
/-- a new disk -/
theorem GS.start (d : VD) (ht : Takes d) (hs : d.secs = List.replicate 40 (List.replicate 64 0)) (hq : d.q = []) (hw : d.writes = 0) : GS 0 [] [] 0 d :=
  ⟨ht, by simp [allP], Nat.le_refl _, by rw [hw]; simp [allP], _, 0, BaseI.start, by rw [hs]; rfl, by rw [hq]; rfl, fun _ => rfl⟩
end Go.Proofs.Ytokkifiakmplgaa.Wa
