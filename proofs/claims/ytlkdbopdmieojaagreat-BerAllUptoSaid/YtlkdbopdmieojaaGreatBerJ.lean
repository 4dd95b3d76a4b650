/- The contracts of ber.head, whole, and ber.Frame. -/
import Derived.Test.YtlkdbopdmieojaaGreatBerI
namespace Go.Proofs.YtlkdbopdmieojaaGreat
open Go.RowKit Ber
set_option maxRecDepth 20000
theorem hd1_cons (c : UInt8) (l2 : List UInt8) : hd1 (c :: l2) = if c.toNat < 128 then (2, c.toNat, 0) else
      if c.toNat - 128 < 1 ∨ 4 < c.toNat - 128 then (0, 0, 22) else
      if l2.length < c.toNat - 128 then (0, 0, 20) else
      if 65536 < 2 + (c.toNat - 128) + (Oct.getFrom 0 (l2.take (c.toNat - 128))).toNat then (0, 0, 2) else (2 + (c.toNat - 128), (Oct.getFrom 0 (l2.take (c.toNat - 128))).toNat, 0) := rfl
theorem head_any (s : ByteArray) (w : World) : Calls Tryz.prog 103 #[.string s] w fun e w' => e = .returned (hdV s) ∧ Below w.heap.size w w' := by
  unfold hdV
  obtain ⟨⟨l⟩⟩ := s
  match l with
  | [] => exact (head_0 ⟨⟨[]⟩⟩ w rfl).mono fun e w' ⟨he, hb⟩ => ⟨he, hb ▸ Below.refl _ _⟩
  | a :: l1 =>
    show Calls _ _ _ w fun e w' => e = .returned (.tuple #[.int .i64 (hd (a :: l1)).1, .int .i64 (hd (a :: l1)).2.1, .int .i64 (hd (a :: l1)).2.2]) ∧ _
    rw [hd_cons]
    by_cases h31 : a.toNat % 32 = 31
    · rw [if_pos h31]
      exact (head_tag ⟨⟨a :: l1⟩⟩ w (Nat.succ_pos _) h31).mono fun e w' ⟨he, hb⟩ => ⟨he, hb ▸ Below.refl _ _⟩
    · rw [if_neg h31]
      match l1 with
      | [] => exact (head_1 ⟨⟨[a]⟩⟩ w (Nat.succ_pos _) h31 rfl).mono fun e w' ⟨he, hb⟩ => ⟨he, hb ▸ Below.refl _ _⟩
      | c :: l2 =>
        have hsz : 1 < (⟨⟨a :: c :: l2⟩⟩ : ByteArray).size := by show 1 < l2.length + 1 + 1; omega
        have ht : Two ⟨⟨a :: c :: l2⟩⟩ (a.toNat % 32) := Two.mk' hsz h31
        have hlt := c.toNat_lt
        have hsl : (⟨⟨a :: c :: l2⟩⟩ : ByteArray).size = l2.length + 2 := rfl
        rw [hd1_cons]
        by_cases h1 : c.toNat < 128
        · rw [if_pos h1]
          exact head_short _ _ (c.toNat : Int) w hsz ht rfl (by omega) (by omega)
        · rw [if_neg h1]
          by_cases h2 : c.toNat - 128 < 1 ∨ 4 < c.toNat - 128
          · rw [if_pos h2]
            exact head_bad _ _ (c.toNat : Int) w hsz ht rfl (by omega) (by omega) (by omega)
          · rw [if_neg h2]
            by_cases h3 : l2.length < c.toNat - 128
            · rw [if_pos h3]
              exact head_far _ _ (c.toNat : Int) w hsz ht rfl (by omega) (by omega) (by rw [hsl]; omega)
            · rw [if_neg h3]
              obtain ⟨n, hn⟩ : ∃ n, c.toNat - 128 = n := ⟨_, rfl⟩
              rw [hn] at h2 h3 ⊢
              have hex : (ByteArray.extract ⟨⟨a :: c :: l2⟩⟩ 2 (2 + n)).data.toList = l2.take n := by
                rw [Lib.extract_data]
                simp
              have hexs : (ByteArray.extract ⟨⟨a :: c :: l2⟩⟩ 2 (2 + n)).size = n := by
                have := congrArg List.length hex
                rw [List.length_take, Nat.min_eq_left (by omega)] at this
                exact this
              have hb := Oct.get_bd (l2.take n) (by rw [List.length_take]; omega)
              have hg : getV (ByteArray.extract ⟨⟨a :: c :: l2⟩⟩ 2 (2 + n)) = .tuple #[.int .i64 (Oct.getFrom 0 (l2.take n)), .int .i64 0] := by
                unfold getV
                rw [if_pos (by omega), hex]
              obtain ⟨v, hv⟩ : ∃ v, Oct.getFrom 0 (l2.take n) = v := ⟨_, rfl⟩
              rw [hv] at hb hg ⊢
              by_cases h4 : 65536 < 2 + n + v.toNat
              · rw [if_pos h4]
                exact head_long _ _ v n w hsz ht (by show (c.toNat : Int) = _; omega) (by omega) (by omega) (by rw [hsl]; omega) (Lib.hid hg) hb.1 (by omega) (by omega)
              · rw [if_neg h4]
                refine (head_good _ _ v n w hsz ht (by show (c.toNat : Int) = _; omega) (by omega) (by omega) (by rw [hsl]; omega) (Lib.hid hg) hb.1 (by omega) (by omega)).mono fun e w' ⟨he, hb2⟩ => ⟨?_, hb2⟩
                rw [he]
                show Ending.returned (.tuple #[.int .i64 (2 + (n : Int)), .int .i64 v, .int .i64 0]) = .returned (.tuple #[.int .i64 ((2 + n : Nat) : Int), .int .i64 (v.toNat : Int), .int .i64 0])
                rw [Int.toNat_of_nonneg hb.1]
                rfl
theorem head_var (s : ByteArray) (w : World) (n m : Nat) (r : Int) (h : Hid (hd s.data.toList = (n, m, r))) : Calls Tryz.prog 103 #[.string s] w fun e w' => e = .returned (.tuple #[.int .i64 n, .int .i64 m, .int .i64 r]) ∧ Below w.heap.size w w' := by
  have := head_any s w
  unfold hdV at this
  rw [h.out] at this
  exact this
theorem hd_small (l : List UInt8) : (hd l).1 ≤ 6 ∧ (hd l).2.1 ≤ 65536 := by
  by_cases h : (hd l).2.2 = 0
  · have := hd_ok (l := l) (n := (hd l).1) (m := (hd l).2.1) (by rw [← h])
    omega
  · cases l with
    | nil => simp [hd]
    | cons a l =>
      rw [hd_cons] at h ⊢
      split
      · simp
      · rename_i h3
        rw [if_neg h3] at h
        cases l with
        | nil => simp [hd1]
        | cons c l =>
          simp only [hd1] at h ⊢
          (repeat' split) <;> simp_all
          omega
/-- what Frame answers -/
def frV (s : ByteArray) : Value := .tuple #[.int .i64 ((frame s.data.toList).1 : Nat), .int .i64 (frame s.data.toList).2]
set_option maxHeartbeats 400000 in
theorem frame_any (s : ByteArray) (w : World) : Calls Tryz.prog 16 #[.string s] w fun e w' => e = .returned (frV s) ∧ Below w.heap.size w w' := by
  unfold frV frame
  have hsm := hd_small s.data.toList
  obtain ⟨⟨n, m, r⟩, hh⟩ : ∃ q, hd s.data.toList = q := ⟨_, rfl⟩
  rw [hh] at hsm ⊢
  have HH := Lib.hid hh
  have h1 : n ≤ 6 := hsm.1
  have h2 : (m : Int) ≤ 65536 := by have := hsm.2; simp only at this; omega
  clear hh hsm
  go_enter Tryz.func16, Tryz.ntmps16
  go_wp2_with fail
  (with_reducible refine (head_var _ _ n m r HH).mono ?_)
  rintro e w1 ⟨rfl, hb⟩
  go_wp2_with fail
  go_ret2
  exact ⟨rfl, hb⟩
end Go.Proofs.YtlkdbopdmieojaaGreat
