/- The contracts of ber.head and ber.Frame. -/
import Derived.Test.YtlkdbopdmieojaaGreatBerB
import Derived.Test.YtlkdbopdmieojaaGreatOctE
import Derived.Test.YtlkdbopdmieojaaGreatWords
import Derived.Lib.Strings
namespace Go.Proofs.YtlkdbopdmieojaaGreat
open Go.RowKit Ber
set_option maxRecDepth 20000
/-- what head answers -/
def hdV (s : ByteArray) : Value := .tuple #[.int .i64 (hd s.data.toList).1, .int .i64 (hd s.data.toList).2.1, .int .i64 (hd s.data.toList).2.2]
theorem and31 (n : Nat) (h : n < 256) : bits .and .u8 (n : Int) 31 = ((n % 32 : Nat) : Int) := by
  have : ∀ x : Fin 256, bits .and .u8 (x.val : Int) 31 = ((x.val % 32 : Nat) : Int) := by decide +kernel
  exact this ⟨n, h⟩
set_option maxHeartbeats 400000 in
theorem head_0 (s : ByteArray) (w : World) (h : s.size = 0) : Calls Tryz.prog 103 #[.string s] w fun e w' => e = .returned (.tuple #[.int .i64 0, .int .i64 0, .int .i64 20]) ∧ w = w' := by
  have hE : s.toList.isEmpty = true := by rw [isEmpty_ba]; simpa using h
  clear h
  go_enter Tryz.func103, Tryz.ntmps103
  go_wp2_with fail
  go_ret3
  exact ⟨rfl, rfl⟩
set_option maxHeartbeats 400000 in
theorem head_tag (s : ByteArray) (w : World) (h : 0 < s.size) (h31 : s[0].toNat % 32 = 31) : Calls Tryz.prog 103 #[.string s] w fun e w' => e = .returned (.tuple #[.int .i64 0, .int .i64 0, .int .i64 21]) ∧ w = w' := by
  have hE : s.toList.isEmpty = false := by rw [isEmpty_ba]; exact decide_eq_false (by omega)
  have ha := and31 s[0].toNat s[0].toNat_lt
  rw [h31] at ha
  clear h31
  go_enter Tryz.func103, Tryz.ntmps103
  go_wp2_with fail
  go_ret3
  exact ⟨rfl, rfl⟩
set_option maxHeartbeats 400000 in
theorem head_1 (s : ByteArray) (w : World) (h : 0 < s.size) (h31 : s[0].toNat % 32 ≠ 31) (h1 : s.size = 1) : Calls Tryz.prog 103 #[.string s] w fun e w' => e = .returned (.tuple #[.int .i64 0, .int .i64 0, .int .i64 20]) ∧ w = w' := by
  have hE : s.toList.isEmpty = false := by rw [isEmpty_ba]; exact decide_eq_false (by omega)
  have ha := and31 s[0].toNat s[0].toNat_lt
  obtain ⟨q, hq⟩ : ∃ q, s[0].toNat % 32 = q := ⟨_, rfl⟩
  have hq2 : q ≤ 30 := by omega
  rw [hq] at ha
  have hs : ((s.size : Int) == 1) = true := by rw [h1]; rfl
  clear h31 h1 hq
  go_enter Tryz.func103, Tryz.ntmps103
  go_wp2_with fail
  go_ret3
  exact ⟨rfl, rfl⟩
/-- what all later ways share -/
structure Two (s : ByteArray) (q : Nat) : Prop where
  h : 1 < s.size
  hq : s[0].toNat % 32 = q
  h31 : q ≤ 30
theorem Two.mk' {s : ByteArray} (h : 1 < s.size) (h31 : s[0].toNat % 32 ≠ 31) : Two s (s[0].toNat % 32) := ⟨h, rfl, by omega⟩
set_option maxHeartbeats 400000 in
theorem head_short (s : ByteArray) (q : Nat) (c : Int) (w : World) (h : 1 < s.size) (ht : Two s q) (hc : (s[1].toNat : Int) = c) (_ : 0 ≤ c) (h1 : c < 128) : Calls Tryz.prog 103 #[.string s] w fun e w' => e = .returned (.tuple #[.int .i64 2, .int .i64 c, .int .i64 0]) ∧ Below w.heap.size w w' := by
  have hE : s.toList.isEmpty = false := by rw [isEmpty_ba]; exact decide_eq_false (by omega)
  have ha := and31 s[0].toNat s[0].toNat_lt
  rw [ht.hq] at ha
  have hq2 := ht.h31
  have hs : ((s.size : Int) == 1) = false := by rw [beq_eq_false_iff_ne]; omega
  have hs0 : 0 < s.size := by omega
  clear ht
  go_enter Tryz.func103, Tryz.ntmps103
  go_wp2_with fail
  go_quiet (fail)
  go_wp2_with fail
  go_ret3
  exact ⟨rfl, below_drewN (Below.refl _ _) _⟩
set_option maxHeartbeats 400000 in
theorem head_bad (s : ByteArray) (q : Nat) (c : Int) (w : World) (h : 1 < s.size) (ht : Two s q) (hc : (s[1].toNat : Int) = c) (h1 : ¬ c < 128) (h3 : c < 256) (h2 : c < 129 ∨ 132 < c) : Calls Tryz.prog 103 #[.string s] w fun e w' => e = .returned (.tuple #[.int .i64 0, .int .i64 0, .int .i64 22]) ∧ Below w.heap.size w w' := by
  have hE : s.toList.isEmpty = false := by rw [isEmpty_ba]; exact decide_eq_false (by omega)
  have ha := and31 s[0].toNat s[0].toNat_lt
  rw [ht.hq] at ha
  have hq2 := ht.h31
  have hs : ((s.size : Int) == 1) = false := by rw [beq_eq_false_iff_ne]; omega
  have hs0 : 0 < s.size := by omega
  clear ht
  rcases h2 with h2 | h2
  all_goals
    go_enter Tryz.func103, Tryz.ntmps103
    go_wp2_with fail
    go_ret3
    exact ⟨rfl, Below.refl _ _⟩
set_option maxHeartbeats 400000 in
theorem head_far (s : ByteArray) (q : Nat) (c : Int) (w : World) (h : 1 < s.size) (ht : Two s q) (hc : (s[1].toNat : Int) = c) (h1 : 129 ≤ c) (h2 : c ≤ 132) (h3 : (s.size : Int) < 2 + (c - 128)) : Calls Tryz.prog 103 #[.string s] w fun e w' => e = .returned (.tuple #[.int .i64 0, .int .i64 0, .int .i64 20]) ∧ Below w.heap.size w w' := by
  have hE : s.toList.isEmpty = false := by rw [isEmpty_ba]; exact decide_eq_false (by omega)
  have ha := and31 s[0].toNat s[0].toNat_lt
  rw [ht.hq] at ha
  have hq2 := ht.h31
  have hs : ((s.size : Int) == 1) = false := by rw [beq_eq_false_iff_ne]; omega
  have hs0 : 0 < s.size := by omega
  clear ht
  go_enter Tryz.func103, Tryz.ntmps103
  go_wp2_with fail
  go_ret3
  exact ⟨rfl, Below.refl _ _⟩
theorem get_var (s : ByteArray) (w : World) (v : Int) (h : Hid (getV s = .tuple #[.int .i64 v, .int .i64 0])) : Calls Tryz.prog 146 #[.string s] w fun e w' => e = .returned (.tuple #[.int .i64 v, .int .i64 0]) ∧ w = w' := by
  rw [← h.out]
  exact get_any s w
set_option maxHeartbeats 1000000 in
theorem head_long (s : ByteArray) (q : Nat) (v : Int) (n : Nat) (w : World) (h : 1 < s.size) (ht : Two s q) (hc : (s[1].toNat : Int) = (n : Int) + 128) (h1 : 1 ≤ n) (h2 : n ≤ 4) (h3 : 2 + n ≤ s.size) (hg : Hid (getV (s.extract 2 (2 + n)) = .tuple #[.int .i64 v, .int .i64 0])) (hv0 : 0 ≤ v) (hv1 : v ≤ 281474976710656) (h4 : 65536 < 2 + (n : Int) + v) :
    Calls Tryz.prog 103 #[.string s] w fun e w' => e = .returned (.tuple #[.int .i64 0, .int .i64 0, .int .i64 2]) ∧ Below w.heap.size w w' := by
  have hE : s.toList.isEmpty = false := by rw [isEmpty_ba]; exact decide_eq_false (by omega)
  have ha := and31 s[0].toNat s[0].toNat_lt
  rw [ht.hq] at ha
  have hq2 := ht.h31
  have hs : ((s.size : Int) == 1) = false := by rw [beq_eq_false_iff_ne]; omega
  have hs0 : 0 < s.size := by omega
  clear ht
  have hn : n = 1 ∨ n = 2 ∨ n = 3 ∨ n = 4 := by omega
  rcases hn with rfl | rfl | rfl | rfl
  · have hc' : (s[1].toNat : Int) = 129 := hc
    have hg' : Hid (getV (s.extract 2 3) = .tuple #[.int .i64 v, .int .i64 0]) := hg
    have h4' : 65536 < 3 + v := by omega
    have h3' : (3 : Int) ≤ (s.size : Int) := by omega
    clear hc hg h4 h1 h2 h3
    go_enter Tryz.func103, Tryz.ntmps103
    go_wp2_with fail
    (with_reducible refine (get_var _ _ v hg').mono ?_)
    rintro e w1 ⟨rfl, rfl⟩
    go_wp2_with fail
    go_ret3
    exact ⟨rfl, Below.refl _ _⟩
  · have hc' : (s[1].toNat : Int) = 130 := hc
    have hg' : Hid (getV (s.extract 2 4) = .tuple #[.int .i64 v, .int .i64 0]) := hg
    have h4' : 65536 < 4 + v := by omega
    have h3' : (4 : Int) ≤ (s.size : Int) := by omega
    clear hc hg h4 h1 h2 h3
    go_enter Tryz.func103, Tryz.ntmps103
    go_wp2_with fail
    (with_reducible refine (get_var _ _ v hg').mono ?_)
    rintro e w1 ⟨rfl, rfl⟩
    go_wp2_with fail
    go_ret3
    exact ⟨rfl, Below.refl _ _⟩
  · have hc' : (s[1].toNat : Int) = 131 := hc
    have hg' : Hid (getV (s.extract 2 5) = .tuple #[.int .i64 v, .int .i64 0]) := hg
    have h4' : 65536 < 5 + v := by omega
    have h3' : (5 : Int) ≤ (s.size : Int) := by omega
    clear hc hg h4 h1 h2 h3
    go_enter Tryz.func103, Tryz.ntmps103
    go_wp2_with fail
    (with_reducible refine (get_var _ _ v hg').mono ?_)
    rintro e w1 ⟨rfl, rfl⟩
    go_wp2_with fail
    go_ret3
    exact ⟨rfl, Below.refl _ _⟩
  · have hc' : (s[1].toNat : Int) = 132 := hc
    have hg' : Hid (getV (s.extract 2 6) = .tuple #[.int .i64 v, .int .i64 0]) := hg
    have h4' : 65536 < 6 + v := by omega
    have h3' : (6 : Int) ≤ (s.size : Int) := by omega
    clear hc hg h4 h1 h2 h3
    go_enter Tryz.func103, Tryz.ntmps103
    go_wp2_with fail
    (with_reducible refine (get_var _ _ v hg').mono ?_)
    rintro e w1 ⟨rfl, rfl⟩
    go_wp2_with fail
    go_ret3
    exact ⟨rfl, Below.refl _ _⟩
set_option maxHeartbeats 1000000 in
theorem head_good (s : ByteArray) (q : Nat) (v : Int) (n : Nat) (w : World) (h : 1 < s.size) (ht : Two s q) (hc : (s[1].toNat : Int) = (n : Int) + 128) (h1 : 1 ≤ n) (h2 : n ≤ 4) (h3 : 2 + n ≤ s.size) (hg : Hid (getV (s.extract 2 (2 + n)) = .tuple #[.int .i64 v, .int .i64 0])) (hv0 : 0 ≤ v) (hv1 : v ≤ 281474976710656) (h4 : 2 + (n : Int) + v ≤ 65536) :
    Calls Tryz.prog 103 #[.string s] w fun e w' => e = .returned (.tuple #[.int .i64 (2 + (n : Int)), .int .i64 v, .int .i64 0]) ∧ Below w.heap.size w w' := by
  have hE : s.toList.isEmpty = false := by rw [isEmpty_ba]; exact decide_eq_false (by omega)
  have ha := and31 s[0].toNat s[0].toNat_lt
  rw [ht.hq] at ha
  have hq2 := ht.h31
  have hs : ((s.size : Int) == 1) = false := by rw [beq_eq_false_iff_ne]; omega
  have hs0 : 0 < s.size := by omega
  clear ht
  have hn : n = 1 ∨ n = 2 ∨ n = 3 ∨ n = 4 := by omega
  rcases hn with rfl | rfl | rfl | rfl
  · have hc' : (s[1].toNat : Int) = 129 := hc
    have hg' : Hid (getV (s.extract 2 3) = .tuple #[.int .i64 v, .int .i64 0]) := hg
    have h4' : 3 + v ≤ 65536 := by omega
    have h3' : (3 : Int) ≤ (s.size : Int) := by omega
    clear hc hg h4 h1 h2 h3
    go_enter Tryz.func103, Tryz.ntmps103
    go_wp2_with fail
    (with_reducible refine (get_var _ _ v hg').mono ?_)
    rintro e w1 ⟨rfl, rfl⟩
    go_wp2_with fail
    go_ret3
    exact ⟨rfl, Below.refl _ _⟩
  · have hc' : (s[1].toNat : Int) = 130 := hc
    have hg' : Hid (getV (s.extract 2 4) = .tuple #[.int .i64 v, .int .i64 0]) := hg
    have h4' : 4 + v ≤ 65536 := by omega
    have h3' : (4 : Int) ≤ (s.size : Int) := by omega
    clear hc hg h4 h1 h2 h3
    go_enter Tryz.func103, Tryz.ntmps103
    go_wp2_with fail
    (with_reducible refine (get_var _ _ v hg').mono ?_)
    rintro e w1 ⟨rfl, rfl⟩
    go_wp2_with fail
    go_ret3
    exact ⟨rfl, Below.refl _ _⟩
  · have hc' : (s[1].toNat : Int) = 131 := hc
    have hg' : Hid (getV (s.extract 2 5) = .tuple #[.int .i64 v, .int .i64 0]) := hg
    have h4' : 5 + v ≤ 65536 := by omega
    have h3' : (5 : Int) ≤ (s.size : Int) := by omega
    clear hc hg h4 h1 h2 h3
    go_enter Tryz.func103, Tryz.ntmps103
    go_wp2_with fail
    (with_reducible refine (get_var _ _ v hg').mono ?_)
    rintro e w1 ⟨rfl, rfl⟩
    go_wp2_with fail
    go_ret3
    exact ⟨rfl, Below.refl _ _⟩
  · have hc' : (s[1].toNat : Int) = 132 := hc
    have hg' : Hid (getV (s.extract 2 6) = .tuple #[.int .i64 v, .int .i64 0]) := hg
    have h4' : 6 + v ≤ 65536 := by omega
    have h3' : (6 : Int) ≤ (s.size : Int) := by omega
    clear hc hg h4 h1 h2 h3
    go_enter Tryz.func103, Tryz.ntmps103
    go_wp2_with fail
    (with_reducible refine (get_var _ _ v hg').mono ?_)
    rintro e w1 ⟨rfl, rfl⟩
    go_wp2_with fail
    go_ret3
    exact ⟨rfl, Below.refl _ _⟩
end Go.Proofs.YtlkdbopdmieojaaGreat
