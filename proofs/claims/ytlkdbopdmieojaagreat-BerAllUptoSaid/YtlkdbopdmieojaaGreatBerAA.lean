/- The contracts of chanceryref2.head and Frame. -/
import Derived.Test.YtlkdbopdmieojaaGreatBerJ
namespace Go.Proofs.YtlkdbopdmieojaaGreat
open Go.RowKit Ber
set_option maxRecDepth 20000
/-- behind the first byte, any length -/
def rhd1 : List UInt8 → Nat × Nat × Int
  | [] => (0, 0, 20)
  | c :: l2 => if c.toNat < 128 then (2, c.toNat, 0) else
      if c.toNat - 128 < 1 ∨ 4 < c.toNat - 128 then (0, 0, 22) else
      if l2.length < c.toNat - 128 then (0, 0, 20) else (2 + (c.toNat - 128), (Oct.getFrom 0 (l2.take (c.toNat - 128))).toNat, 0)
/-- what chanceryref2.head answers -/
def rhd : List UInt8 → Nat × Nat × Int
  | [] => (0, 0, 20)
  | a :: l1 => if a.toNat % 32 = 31 then (0, 0, 21) else rhd1 l1
theorem rhd1_cons (c : UInt8) (l2 : List UInt8) : rhd1 (c :: l2) = if c.toNat < 128 then (2, c.toNat, 0) else
      if c.toNat - 128 < 1 ∨ 4 < c.toNat - 128 then (0, 0, 22) else
      if l2.length < c.toNat - 128 then (0, 0, 20) else (2 + (c.toNat - 128), (Oct.getFrom 0 (l2.take (c.toNat - 128))).toNat, 0) := rfl
theorem rhd_cons (a : UInt8) (l : List UInt8) : rhd (a :: l) = if a.toNat % 32 = 31 then (0, 0, 21) else rhd1 l := rfl
theorem hd1_rhd1 (l : List UInt8) : hd1 l = if (rhd1 l).2.2 = 0 ∧ 65536 < (rhd1 l).1 + (rhd1 l).2.1 then (0, 0, 2) else rhd1 l := by
  cases l with
  | nil => rfl
  | cons c l =>
    have := c.toNat_lt
    rw [hd1_cons, rhd1_cons]
    by_cases h1 : c.toNat < 128
    · rw [if_pos h1, if_pos h1, if_neg (by show ¬ (_ ∧ 65536 < 2 + c.toNat); omega)]
    · rw [if_neg h1, if_neg h1]
      by_cases h2 : c.toNat - 128 < 1 ∨ 4 < c.toNat - 128
      · rw [if_pos h2, if_pos h2]; rfl
      · rw [if_neg h2, if_neg h2]
        by_cases h3 : l.length < c.toNat - 128
        · rw [if_pos h3, if_pos h3]; rfl
        · rw [if_neg h3, if_neg h3]
          simp only [true_and]
theorem hd_rhd (l : List UInt8) : hd l = if (rhd l).2.2 = 0 ∧ 65536 < (rhd l).1 + (rhd l).2.1 then (0, 0, 2) else rhd l := by
  cases l with
  | nil => rfl
  | cons a l =>
    rw [hd_cons, rhd_cons]
    by_cases h : a.toNat % 32 = 31
    · rw [if_pos h, if_pos h]; rfl
    · rw [if_neg h, if_neg h]
      exact hd1_rhd1 l
theorem rhd1_bd (l : List UInt8) : (rhd1 l).1 ≤ 6 ∧ (rhd1 l).2.1 ≤ 281474976710656 := by
  cases l with
  | nil => simp [rhd1]
  | cons c l =>
    have := c.toNat_lt
    have hb : ¬ (c.toNat - 128 < 1 ∨ 4 < c.toNat - 128) → ¬ l.length < c.toNat - 128 → (Oct.getFrom 0 (l.take (c.toNat - 128))).toNat ≤ 281474976710656 := fun h1 h2 => by
      have := Oct.get_bd (l.take (c.toNat - 128)) (by rw [List.length_take]; omega)
      omega
    rw [rhd1_cons]
    by_cases h1 : c.toNat < 128
    · rw [if_pos h1]; simp only; omega
    · rw [if_neg h1]
      by_cases h2 : c.toNat - 128 < 1 ∨ 4 < c.toNat - 128
      · rw [if_pos h2]; simp
      · rw [if_neg h2]
        by_cases h3 : l.length < c.toNat - 128
        · rw [if_pos h3]; simp
        · rw [if_neg h3]; have := hb h2 h3; simp only; omega
theorem rhd_bd (l : List UInt8) : (rhd l).1 ≤ 6 ∧ (rhd l).2.1 ≤ 281474976710656 := by
  cases l with
  | nil => simp [rhd]
  | cons a l =>
    rw [rhd_cons]
    split
    · simp
    · exact rhd1_bd l
theorem rhd1_err0 (l : List UInt8) (h : (rhd1 l).2.2 ≠ 0) : (rhd1 l).1 = 0 ∧ (rhd1 l).2.1 = 0 := by
  cases l with
  | nil => exact ⟨rfl, rfl⟩
  | cons c l =>
    revert h
    rw [rhd1_cons]
    (repeat' split) <;> simp
theorem rhd_err0 (l : List UInt8) (h : (rhd l).2.2 ≠ 0) : (rhd l).1 = 0 ∧ (rhd l).2.1 = 0 := by
  cases l with
  | nil => exact ⟨rfl, rfl⟩
  | cons a l =>
    revert h
    rw [rhd_cons]
    split
    · simp
    · exact rhd1_err0 l
set_option maxHeartbeats 400000 in
theorem rhead_0 (s : ByteArray) (w : World) (h : (s.size : Int) = 0) : Calls Tryz.prog 106 #[.string s] w fun e w' => e = .returned (.tuple #[.int .i64 0, .int .i64 0, .int .i64 20]) ∧ w = w' := by
  go_enter Tryz.func106, Tryz.ntmps106
  go_wp2_with fail
  go_ret3
  exact ⟨rfl, rfl⟩
set_option maxHeartbeats 400000 in
theorem rhead_tag (s : ByteArray) (w : World) (h : 0 < s.size) (z : Int) (hz : (s[0].toNat : Int) = z) (h31 : (z % 32 == 31) = true) (h0 : 0 ≤ z) (h1 : z < 256) : Calls Tryz.prog 106 #[.string s] w fun e w' => e = .returned (.tuple #[.int .i64 0, .int .i64 0, .int .i64 21]) ∧ w = w' := by
  have hs : 1 ≤ (s.size : Int) := by omega
  go_enter Tryz.func106, Tryz.ntmps106
  go_wp2_with fail
  go_ret3
  exact ⟨rfl, rfl⟩
set_option maxHeartbeats 400000 in
theorem rhead_1 (s : ByteArray) (w : World) (h : 0 < s.size) (z : Int) (hz : (s[0].toNat : Int) = z) (h31 : (z % 32 == 31) = false) (h0 : 0 ≤ z) (h1 : z < 256) (hs : (s.size : Int) = 1) : Calls Tryz.prog 106 #[.string s] w fun e w' => e = .returned (.tuple #[.int .i64 0, .int .i64 0, .int .i64 20]) ∧ w = w' := by
  go_enter Tryz.func106, Tryz.ntmps106
  go_wp2_with fail
  go_ret3
  exact ⟨rfl, rfl⟩
theorem rget_var (s : ByteArray) (w : World) (v : Int) (h : Hid (getV s = .tuple #[.int .i64 v, .int .i64 0])) : Calls Tryz.prog 148 #[.string s] w fun e w' => e = .returned (.tuple #[.int .i64 v, .int .i64 0]) ∧ w = w' := by
  rw [← h.out]
  exact refGet_any s w
set_option maxHeartbeats 400000 in
theorem rhead_short (s : ByteArray) (w : World) (h : 1 < s.size) (z : Int) (hz : (s[0].toNat : Int) = z) (h31 : (z % 32 == 31) = false) (z0 : 0 ≤ z) (z1 : z < 256) (c : Int) (hc : (s[1].toNat : Int) = c) (h0 : 0 ≤ c) (h1 : c < 128) : Calls Tryz.prog 106 #[.string s] w fun e w' => e = .returned (.tuple #[.int .i64 2, .int .i64 c, .int .i64 0]) ∧ Below w.heap.size w w' := by
  have hs0 : 0 < s.size := by omega
  have hs : 2 ≤ (s.size : Int) := by omega
  go_enter Tryz.func106, Tryz.ntmps106
  go_wp2_with fail
  go_quiet (fail)
  go_wp2_with fail
  go_ret3
  exact ⟨rfl, below_drewN (Below.refl _ _) _⟩
set_option maxHeartbeats 400000 in
theorem rhead_bad (s : ByteArray) (w : World) (h : 1 < s.size) (z : Int) (hz : (s[0].toNat : Int) = z) (h31 : (z % 32 == 31) = false) (z0 : 0 ≤ z) (z1 : z < 256) (c : Int) (hc : (s[1].toNat : Int) = c) (h1 : ¬ c < 128) (h3 : c < 256) (h2 : c < 129 ∨ 132 < c) : Calls Tryz.prog 106 #[.string s] w fun e w' => e = .returned (.tuple #[.int .i64 0, .int .i64 0, .int .i64 22]) ∧ Below w.heap.size w w' := by
  have hs0 : 0 < s.size := by omega
  have hs : 2 ≤ (s.size : Int) := by omega
  rcases h2 with h2 | h2
  all_goals
    go_enter Tryz.func106, Tryz.ntmps106
    go_wp2_with fail
    go_ret3
    exact ⟨rfl, Below.refl _ _⟩
set_option maxHeartbeats 400000 in
theorem rhead_far (s : ByteArray) (w : World) (h : 1 < s.size) (z : Int) (hz : (s[0].toNat : Int) = z) (h31 : (z % 32 == 31) = false) (z0 : 0 ≤ z) (z1 : z < 256) (c : Int) (hc : (s[1].toNat : Int) = c) (h1 : 129 ≤ c) (h2 : c ≤ 132) (h3 : (s.size : Int) < 2 + (c - 128)) : Calls Tryz.prog 106 #[.string s] w fun e w' => e = .returned (.tuple #[.int .i64 0, .int .i64 0, .int .i64 20]) ∧ Below w.heap.size w w' := by
  have hs0 : 0 < s.size := by omega
  have hs : 2 ≤ (s.size : Int) := by omega
  go_enter Tryz.func106, Tryz.ntmps106
  go_wp2_with fail
  go_ret3
  exact ⟨rfl, Below.refl _ _⟩
set_option maxHeartbeats 1000000 in
theorem rhead_good (s : ByteArray) (w : World) (h : 1 < s.size) (z : Int) (hz : (s[0].toNat : Int) = z) (h31 : (z % 32 == 31) = false) (z0 : 0 ≤ z) (z1 : z < 256) (v : Int) (n : Nat) (hc : (s[1].toNat : Int) = (n : Int) + 128) (h1 : 1 ≤ n) (h2 : n ≤ 4) (h3 : 2 + n ≤ s.size) (hg : Hid (getV (s.extract 2 (2 + n)) = .tuple #[.int .i64 v, .int .i64 0])) (hv0 : 0 ≤ v) (hv1 : v ≤ 281474976710656) :
    Calls Tryz.prog 106 #[.string s] w fun e w' => e = .returned (.tuple #[.int .i64 (2 + (n : Int)), .int .i64 v, .int .i64 0]) ∧ Below w.heap.size w w' := by
  have hs0 : 0 < s.size := by omega
  have hs : 2 ≤ (s.size : Int) := by omega
  have hn : n = 1 ∨ n = 2 ∨ n = 3 ∨ n = 4 := by omega
  rcases hn with rfl | rfl | rfl | rfl
  · have hc' : (s[1].toNat : Int) = 129 := hc
    have hg' : Hid (getV (s.extract 2 3) = .tuple #[.int .i64 v, .int .i64 0]) := hg
    have h3' : (3 : Int) ≤ (s.size : Int) := by omega
    clear hc hg h1 h2 h3
    go_enter Tryz.func106, Tryz.ntmps106
    go_wp2_with fail
    (with_reducible refine (rget_var _ _ v hg').mono ?_)
    rintro e w1 ⟨rfl, rfl⟩
    go_wp2_with fail
    go_ret3
    exact ⟨rfl, Below.refl _ _⟩
  · have hc' : (s[1].toNat : Int) = 130 := hc
    have hg' : Hid (getV (s.extract 2 4) = .tuple #[.int .i64 v, .int .i64 0]) := hg
    have h3' : (4 : Int) ≤ (s.size : Int) := by omega
    clear hc hg h1 h2 h3
    go_enter Tryz.func106, Tryz.ntmps106
    go_wp2_with fail
    (with_reducible refine (rget_var _ _ v hg').mono ?_)
    rintro e w1 ⟨rfl, rfl⟩
    go_wp2_with fail
    go_ret3
    exact ⟨rfl, Below.refl _ _⟩
  · have hc' : (s[1].toNat : Int) = 131 := hc
    have hg' : Hid (getV (s.extract 2 5) = .tuple #[.int .i64 v, .int .i64 0]) := hg
    have h3' : (5 : Int) ≤ (s.size : Int) := by omega
    clear hc hg h1 h2 h3
    go_enter Tryz.func106, Tryz.ntmps106
    go_wp2_with fail
    (with_reducible refine (rget_var _ _ v hg').mono ?_)
    rintro e w1 ⟨rfl, rfl⟩
    go_wp2_with fail
    go_ret3
    exact ⟨rfl, Below.refl _ _⟩
  · have hc' : (s[1].toNat : Int) = 132 := hc
    have hg' : Hid (getV (s.extract 2 6) = .tuple #[.int .i64 v, .int .i64 0]) := hg
    have h3' : (6 : Int) ≤ (s.size : Int) := by omega
    clear hc hg h1 h2 h3
    go_enter Tryz.func106, Tryz.ntmps106
    go_wp2_with fail
    (with_reducible refine (rget_var _ _ v hg').mono ?_)
    rintro e w1 ⟨rfl, rfl⟩
    go_wp2_with fail
    go_ret3
    exact ⟨rfl, Below.refl _ _⟩
theorem rhead_any (s : ByteArray) (w : World) (n m : Nat) (r : Int) (hq : Hid (rhd s.data.toList = (n, m, r))) : Calls Tryz.prog 106 #[.string s] w fun e w' => e = .returned (.tuple #[.int .i64 n, .int .i64 m, .int .i64 r]) ∧ Below w.heap.size w w' := by
  have hq := hq.out
  obtain ⟨⟨l⟩⟩ := s
  match l with
  | [] =>
    obtain ⟨rfl, hq2⟩ := Prod.mk.inj hq
    obtain ⟨rfl, rfl⟩ := Prod.mk.inj hq2
    exact (rhead_0 ⟨⟨[]⟩⟩ w rfl).mono fun e w' ⟨he, hb⟩ => ⟨he, hb ▸ Below.refl _ _⟩
  | a :: l1 =>
    have hal := a.toNat_lt
    have hq : rhd (a :: l1) = (n, m, r) := hq
    rw [rhd_cons] at hq
    by_cases h31 : a.toNat % 32 = 31
    · rw [if_pos h31] at hq
      obtain ⟨rfl, hq2⟩ := Prod.mk.inj hq
      obtain ⟨rfl, rfl⟩ := Prod.mk.inj hq2
      exact (rhead_tag ⟨⟨a :: l1⟩⟩ w (Nat.succ_pos _) (a.toNat : Int) rfl (by rw [beq_iff_eq]; omega) (by omega) (by omega)).mono fun e w' ⟨he, hb⟩ => ⟨he, hb ▸ Below.refl _ _⟩
    · rw [if_neg h31] at hq
      have h31' : ((a.toNat : Int) % 32 == 31) = false := by rw [beq_eq_false_iff_ne]; omega
      match l1 with
      | [] =>
        obtain ⟨rfl, hq2⟩ := Prod.mk.inj hq
        obtain ⟨rfl, rfl⟩ := Prod.mk.inj hq2
        exact (rhead_1 ⟨⟨[a]⟩⟩ w (Nat.succ_pos _) (a.toNat : Int) rfl h31' (by omega) (by omega) rfl).mono fun e w' ⟨he, hb⟩ => ⟨he, hb ▸ Below.refl _ _⟩
      | c :: l2 =>
        have hsz : 1 < (⟨⟨a :: c :: l2⟩⟩ : ByteArray).size := by show 1 < l2.length + 1 + 1; omega
        have hlt := c.toNat_lt
        have hsl : (⟨⟨a :: c :: l2⟩⟩ : ByteArray).size = l2.length + 2 := rfl
        rw [rhd1_cons] at hq
        by_cases h1 : c.toNat < 128
        · rw [if_pos h1] at hq
          obtain ⟨rfl, hq2⟩ := Prod.mk.inj hq
          obtain ⟨rfl, rfl⟩ := Prod.mk.inj hq2
          exact rhead_short _ w hsz (a.toNat : Int) rfl h31' (by omega) (by omega) (c.toNat : Int) rfl (by omega) (by omega)
        · rw [if_neg h1] at hq
          by_cases h2 : c.toNat - 128 < 1 ∨ 4 < c.toNat - 128
          · rw [if_pos h2] at hq
            obtain ⟨rfl, hq2⟩ := Prod.mk.inj hq
            obtain ⟨rfl, rfl⟩ := Prod.mk.inj hq2
            exact rhead_bad _ w hsz (a.toNat : Int) rfl h31' (by omega) (by omega) (c.toNat : Int) rfl (by omega) (by omega) (by omega)
          · rw [if_neg h2] at hq
            by_cases h3 : l2.length < c.toNat - 128
            · rw [if_pos h3] at hq
              obtain ⟨rfl, hq2⟩ := Prod.mk.inj hq
              obtain ⟨rfl, rfl⟩ := Prod.mk.inj hq2
              exact rhead_far _ w hsz (a.toNat : Int) rfl h31' (by omega) (by omega) (c.toNat : Int) rfl (by omega) (by omega) (by rw [hsl]; omega)
            · rw [if_neg h3] at hq
              obtain ⟨k, hk⟩ : ∃ k, c.toNat - 128 = k := ⟨_, rfl⟩
              rw [hk] at h2 h3 hq
              have hex : (ByteArray.extract ⟨⟨a :: c :: l2⟩⟩ 2 (2 + k)).data.toList = l2.take k := by
                rw [Lib.extract_data]
                simp
              have hexs : (ByteArray.extract ⟨⟨a :: c :: l2⟩⟩ 2 (2 + k)).size = k := by
                have := congrArg List.length hex
                rw [List.length_take, Nat.min_eq_left (by omega)] at this
                exact this
              have hb := Oct.get_bd (l2.take k) (by rw [List.length_take]; omega)
              have hg : getV (ByteArray.extract ⟨⟨a :: c :: l2⟩⟩ 2 (2 + k)) = .tuple #[.int .i64 (Oct.getFrom 0 (l2.take k)), .int .i64 0] := by
                unfold getV
                rw [if_pos (by omega), hex]
              obtain ⟨v, hv⟩ : ∃ v, Oct.getFrom 0 (l2.take k) = v := ⟨_, rfl⟩
              rw [hv] at hb hg hq
              obtain ⟨rfl, hq2⟩ := Prod.mk.inj hq
              obtain ⟨rfl, rfl⟩ := Prod.mk.inj hq2
              refine (rhead_good _ w hsz (a.toNat : Int) rfl h31' (by omega) (by omega) v k (by show (c.toNat : Int) = _; omega) (by omega) (by omega) (by rw [hsl]; omega) (Lib.hid hg) hb.1 (by omega)).mono fun e w' ⟨he, hb2⟩ => ⟨?_, hb2⟩
              rw [he]
              show Ending.returned (.tuple #[.int .i64 (2 + (k : Int)), .int .i64 v, .int .i64 0]) = .returned (.tuple #[.int .i64 ((2 + k : Nat) : Int), .int .i64 (v.toNat : Int), .int .i64 0])
              rw [Int.toNat_of_nonneg hb.1]
              rfl
/-- of good bytes -/
theorem rhead_ok (s : ByteArray) (w : World) (n m : Nat) (h : Hid (hd s.data.toList = (n, m, 0))) : Calls Tryz.prog 106 #[.string s] w fun e w' => e = .returned (.tuple #[.int .i64 n, .int .i64 m, .int .i64 0]) ∧ Below w.heap.size w w' := by
  have hq := h.out
  rw [hd_rhd] at hq
  split at hq
  · simp at hq
  · exact rhead_any s w n m 0 (Lib.hid hq)
set_option maxHeartbeats 400000 in
theorem rframe_any (s : ByteArray) (w : World) : Calls Tryz.prog 105 #[.string s] w fun e w' => e = .returned (frV s) ∧ Below w.heap.size w w' := by
  unfold frV frame
  have hsm := rhd_bd s.data.toList
  rw [hd_rhd]
  obtain ⟨⟨n, m, r⟩, hh⟩ : ∃ q, rhd s.data.toList = q := ⟨_, rfl⟩
  rw [hh] at hsm ⊢
  have HH := Lib.hid hh
  have h1 : (n : Int) ≤ 6 := by have := hsm.1; simp only at this; omega
  have h2 : (m : Int) ≤ 281474976710656 := by have := hsm.2; simp only at this; omega
  have h10 : 0 ≤ (n : Int) := by omega
  have h20 : 0 ≤ (m : Int) := by omega
  clear hh hsm
  by_cases hr : r = 0
  · subst hr
    by_cases hl : 65536 < (n : Int) + (m : Int)
    · rw [if_pos ⟨rfl, by show 65536 < n + m; omega⟩]
      go_enter Tryz.func105, Tryz.ntmps105
      go_wp2_with fail
      (with_reducible refine (rhead_any _ _ n m 0 HH).mono ?_)
      rintro e w1 ⟨rfl, hb⟩
      go_wp2_with fail
      go_ret2
      exact ⟨rfl, hb⟩
    · rw [if_neg (by simp only; omega)]
      go_enter Tryz.func105, Tryz.ntmps105
      go_wp2_with fail
      (with_reducible refine (rhead_any _ _ n m 0 HH).mono ?_)
      rintro e w1 ⟨rfl, hb⟩
      go_wp2_with fail
      go_ret2
      exact ⟨rfl, hb⟩
  · have hr0 := rhd_err0 s.data.toList (by rw [HH.out]; exact hr)
    rw [HH.out] at hr0
    obtain ⟨rfl, rfl⟩ := hr0
    rw [if_neg (fun h => hr h.1)]
    have hr2 : (r != 0) = true := by rw [bne_iff_ne]; exact hr
    clear hr
    go_enter Tryz.func105, Tryz.ntmps105
    go_wp2_with fail
    (with_reducible refine (rhead_any _ _ 0 0 r HH).mono ?_)
    rintro e w1 ⟨rfl, hb⟩
    go_wp2_with fail
    go_ret2
    exact ⟨rfl, hb⟩
theorem rframe_var (s : ByteArray) (w : World) (n : Nat) (r : Int) (h : Hid (frame s.data.toList = (n, r))) : Calls Tryz.prog 105 #[.string s] w fun e w' => e = .returned (.tuple #[.int .i64 n, .int .i64 r]) ∧ Below w.heap.size w w' := by
  have := rframe_any s w
  unfold frV at this
  rw [h.out] at this
  exact this
end Go.Proofs.YtlkdbopdmieojaaGreat
