/- The contract of chanceryref1.Rune: it tells what the model's own decoder tells. The condition: the text is within the form's own reach. -/
import Derived.Test.YteajgkjiappkiaaDoorProg
import Derived.Test.YteajgkjiappkiaaDoorPlainD
import Derived.WalkKit
import Derived.ProofKit
import Derived.Lib.Hide
import Derived.LoopTactic
import Derived.LoopN
import Derived.Outline
namespace Go.Proofs.YteajgkjiappkiaaDoor
open Go.RowKit
/-- the byte at a place; behind the end 0 -/
def at8 (s : ByteArray) (i : Nat) : Nat := (s.get! i).toNat
theorem at8_lt (s : ByteArray) (i : Nat) : at8 s i < 256 := (s.get! i).toNat_lt
theorem at8_eq (s : ByteArray) (i : Nat) (h : i < s.size) : at8 s i = s[i].toNat := by
  show (s.data[i]!).toNat = _
  rw [getElem!_pos s.data i h]
  rfl
/-- the character at a place, and how many bytes it has -/
def dec (s : ByteArray) (i : Nat) : Nat × Nat := Lib.decodeN (s.size - i) (at8 s i) (at8 s (i + 1)) (at8 s (i + 2)) (at8 s (i + 3))
theorem ret_dec {s : ByteArray} {i : Nat} {p : Nat × Nat} {a b : Int} (h : dec s i = p) (h1 : a = (p.1 : Int)) (h2 : b = (p.2 : Int)) :
    Ending.returned (.tuple #[.int .i32 a, .int .i64 b]) = .returned (.tuple #[.int .i32 (dec s i).1, .int .i64 (dec s i).2]) := by rw [h, h1, h2]
theorem wrap32_in (n : Int) (h : -2147483648 ≤ n ∧ n ≤ 2147483647) : wrap32 n = n := by unfold wrap32; omega
set_option maxHeartbeats 2000000 in
set_option maxRecDepth 100000 in
theorem refRune_ascii (s : ByteArray) (i : Nat) (w : World) (_hs : s.size ≤ 140737488351232) (hi : i < s.size) (h1 : (s[i].toNat : Int) < 128) :
    Calls Tryd.prog 29 #[.string s, .int .i64 i] w fun e w' => e = .returned (.tuple #[.int .i32 (dec s i).1, .int .i64 (dec s i).2]) ∧ w = w' := by
  have E0 := Lib.hid (at8_eq s i hi)
  have c0 : s[i].toNat < 256 := s[i].toNat_lt
  have K1 := Lib.hid (at8_lt s (i + 1))
  have K2 := Lib.hid (at8_lt s (i + 2))
  have K3 := Lib.hid (at8_lt s (i + 3))
  have HW := Lib.hid wrap32_in
  go_enter Tryd.func29, Tryd.ntmps29
  go_wp2_with fail
  go_ret2
  exact ⟨ret_dec (Oct.dec_ascii _ _ _ _ _ (by rw [E0.out]; omega)) (by rw [E0.out]) rfl, rfl⟩
set_option maxHeartbeats 2000000 in
set_option maxRecDepth 100000 in
theorem refRune_none (s : ByteArray) (i : Nat) (w : World) (_hs : s.size ≤ 140737488351232) (hi : i < s.size) (h1 : ((128 : Int) ≤ s[i].toNat ∧ (s[i].toNat : Int) < 194) ∨ (245 : Int) ≤ s[i].toNat) :
    Calls Tryd.prog 29 #[.string s, .int .i64 i] w fun e w' => e = .returned (.tuple #[.int .i32 (dec s i).1, .int .i64 (dec s i).2]) ∧ w = w' := by
  have E0 := Lib.hid (at8_eq s i hi)
  have c0 : s[i].toNat < 256 := s[i].toNat_lt
  have K1 := Lib.hid (at8_lt s (i + 1))
  have K2 := Lib.hid (at8_lt s (i + 2))
  have K3 := Lib.hid (at8_lt s (i + 3))
  have HW := Lib.hid wrap32_in
  rcases h1 with ⟨h1, h2⟩ | h1
  all_goals
    go_enter Tryd.func29, Tryd.ntmps29
    go_wp2_with fail
    go_ret2
    exact ⟨ret_dec (Oct.dec_none _ _ _ _ _ (by rw [E0.out]; omega) (by rw [E0.out]; omega) K1.out K2.out K3.out) rfl rfl, rfl⟩
set_option maxHeartbeats 2000000 in
set_option maxRecDepth 100000 in
theorem refRune_2_short (s : ByteArray) (i : Nat) (w : World) (_hs : s.size ≤ 140737488351232) (hi : i < s.size) (h1 : (194 : Int) ≤ s[i].toNat) (h2 : (s[i].toNat : Int) ≤ 223) (hn : (s.size : Int) < (i : Int) + 2) :
    Calls Tryd.prog 29 #[.string s, .int .i64 i] w fun e w' => e = .returned (.tuple #[.int .i32 (dec s i).1, .int .i64 (dec s i).2]) ∧ w = w' := by
  have E0 := Lib.hid (at8_eq s i hi)
  have c0 : s[i].toNat < 256 := s[i].toNat_lt
  have K1 := Lib.hid (at8_lt s (i + 1))
  have K2 := Lib.hid (at8_lt s (i + 2))
  have K3 := Lib.hid (at8_lt s (i + 3))
  have HW := Lib.hid wrap32_in
  go_enter Tryd.func29, Tryd.ntmps29
  go_wp2_with fail
  go_ret2
  exact ⟨ret_dec (Oct.dec2_short _ _ _ _ _ (by rw [E0.out]; omega) (by omega) K1.out K2.out K3.out) rfl rfl, rfl⟩
set_option maxHeartbeats 2000000 in
set_option maxRecDepth 100000 in
theorem refRune_2_bad1 (s : ByteArray) (i : Nat) (w : World) (_hs : s.size ≤ 140737488351232) (hi : i < s.size) (h1 : (194 : Int) ≤ s[i].toNat) (h2 : (s[i].toNat : Int) ≤ 223) (hn : (i : Int) + 2 ≤ s.size)  (g : ((s[i + 1]'(by omega)).toNat : Int) < 128 ∨ (191 : Int) < (s[i + 1]'(by omega)).toNat) :
    Calls Tryd.prog 29 #[.string s, .int .i64 i] w fun e w' => e = .returned (.tuple #[.int .i32 (dec s i).1, .int .i64 (dec s i).2]) ∧ w = w' := by
  have E0 := Lib.hid (at8_eq s i hi)
  have c0 : s[i].toNat < 256 := s[i].toNat_lt
  have K1 := Lib.hid (at8_lt s (i + 1))
  have K2 := Lib.hid (at8_lt s (i + 2))
  have K3 := Lib.hid (at8_lt s (i + 3))
  have HW := Lib.hid wrap32_in
  have E1 := Lib.hid (at8_eq s (i + 1) (by omega))
  have c1 : s[i + 1].toNat < 256 := s[i + 1].toNat_lt
  have hb : dec s i = (65533, 1) := Oct.dec2_bad1 _ _ _ _ _ (by rw [E0.out]; omega) (by rw [E1.out]; omega) K1.out K2.out K3.out
  have HB := Lib.hid hb
  clear hb
  rcases g with g | g
  all_goals
    go_enter Tryd.func29, Tryd.ntmps29
    go_wp2_with fail
    all_goals refine wp_loop_rounds 1 ?_
    all_goals (rw [rounds_succ]; go_wp2_with fail)
    all_goals go_ret2
    all_goals exact ⟨ret_dec HB.out rfl rfl, rfl⟩
set_option maxHeartbeats 2000000 in
set_option maxRecDepth 100000 in
theorem refRune_2_val (s : ByteArray) (i : Nat) (w : World) (_hs : s.size ≤ 140737488351232) (hi : i < s.size) (h1 : (194 : Int) ≤ s[i].toNat) (h2 : (s[i].toNat : Int) ≤ 223) (hn : (i : Int) + 2 ≤ s.size) (g1 : (128 : Int) ≤ (s[i + 1]'(by omega)).toNat ∧ ((s[i + 1]'(by omega)).toNat : Int) ≤ 191) (hv : (((s[i].toNat : Int) - 192) * 64 + (s[i + 1]'(by omega)).toNat - 128) < 128 ∨ (1114111 : Int) < (((s[i].toNat : Int) - 192) * 64 + (s[i + 1]'(by omega)).toNat - 128) ∨ ((55296 : Int) ≤ (((s[i].toNat : Int) - 192) * 64 + (s[i + 1]'(by omega)).toNat - 128) ∧ (((s[i].toNat : Int) - 192) * 64 + (s[i + 1]'(by omega)).toNat - 128) ≤ 57343)) :
    Calls Tryd.prog 29 #[.string s, .int .i64 i] w fun e w' => e = .returned (.tuple #[.int .i32 (dec s i).1, .int .i64 (dec s i).2]) ∧ w = w' := by
  have E0 := Lib.hid (at8_eq s i hi)
  have c0 : s[i].toNat < 256 := s[i].toNat_lt
  have K1 := Lib.hid (at8_lt s (i + 1))
  have K2 := Lib.hid (at8_lt s (i + 2))
  have K3 := Lib.hid (at8_lt s (i + 3))
  have HW := Lib.hid wrap32_in
  have E1 := Lib.hid (at8_eq s (i + 1) (by omega))
  have c1 : s[i + 1].toNat < 256 := s[i + 1].toNat_lt
  obtain ⟨ga1, gb1⟩ := g1
  have hb : dec s i = (65533, 1) := Oct.dec2_val _ _ _ _ _ (by rw [E0.out]; omega) (by omega) (by rw [E1.out]; omega) (by rw [E0.out, E1.out]; omega)
  have HB := Lib.hid hb
  clear hb
  rcases hv with hv | hv | ⟨hv, hv2⟩
  all_goals
    go_enter Tryd.func29, Tryd.ntmps29
    go_wp2_with fail
    all_goals refine wp_loop_rounds 2 ?_
    all_goals (rw [rounds_succ]; go_wp2_with fail)
    all_goals (rw [rounds_succ]; go_wp2_with fail)
    all_goals go_ret2
    all_goals exact ⟨ret_dec HB.out rfl rfl, rfl⟩
set_option maxHeartbeats 2000000 in
set_option maxRecDepth 100000 in
theorem refRune_2_ok (s : ByteArray) (i : Nat) (w : World) (_hs : s.size ≤ 140737488351232) (hi : i < s.size) (h1 : (194 : Int) ≤ s[i].toNat) (h2 : (s[i].toNat : Int) ≤ 223) (hn : (i : Int) + 2 ≤ s.size) (g1 : (128 : Int) ≤ (s[i + 1]'(by omega)).toNat ∧ ((s[i + 1]'(by omega)).toNat : Int) ≤ 191) (hv1 : (128 : Int) ≤ (((s[i].toNat : Int) - 192) * 64 + (s[i + 1]'(by omega)).toNat - 128)) (hv2 : (((s[i].toNat : Int) - 192) * 64 + (s[i + 1]'(by omega)).toNat - 128) ≤ 1114111) (hv3 : (((s[i].toNat : Int) - 192) * 64 + (s[i + 1]'(by omega)).toNat - 128) < 55296 ∨ (57343 : Int) < (((s[i].toNat : Int) - 192) * 64 + (s[i + 1]'(by omega)).toNat - 128)) :
    Calls Tryd.prog 29 #[.string s, .int .i64 i] w fun e w' => e = .returned (.tuple #[.int .i32 (dec s i).1, .int .i64 (dec s i).2]) ∧ w = w' := by
  have E0 := Lib.hid (at8_eq s i hi)
  have c0 : s[i].toNat < 256 := s[i].toNat_lt
  have K1 := Lib.hid (at8_lt s (i + 1))
  have K2 := Lib.hid (at8_lt s (i + 2))
  have K3 := Lib.hid (at8_lt s (i + 3))
  have HW := Lib.hid wrap32_in
  have E1 := Lib.hid (at8_eq s (i + 1) (by omega))
  have c1 : s[i + 1].toNat < 256 := s[i + 1].toNat_lt
  obtain ⟨ga1, gb1⟩ := g1
  have hb : dec s i = (((at8 s i - 192) * 64 + (at8 s (i + 1) - 128)), 2) := Oct.dec2_ok _ _ _ _ _ (by rw [E0.out]; omega) (by omega) (by rw [E1.out]; omega) (by rw [E0.out, E1.out]; omega) (by rw [E0.out, E1.out]; omega) (by rw [E0.out, E1.out]; omega)
  have HB := Lib.hid hb
  clear hb
  rcases hv3 with hv3 | hv3
  all_goals
    go_enter Tryd.func29, Tryd.ntmps29
    go_wp2_with fail
    all_goals refine wp_loop_rounds 2 ?_
    all_goals (rw [rounds_succ]; go_wp2_with fail)
    all_goals (rw [rounds_succ]; go_wp2_with fail)
    all_goals go_ret2
    all_goals exact ⟨ret_dec HB.out (by simp only; rw [E0.out, E1.out]; omega) rfl, rfl⟩
set_option maxHeartbeats 2000000 in
set_option maxRecDepth 100000 in
theorem refRune_3_short (s : ByteArray) (i : Nat) (w : World) (_hs : s.size ≤ 140737488351232) (hi : i < s.size) (h1 : (224 : Int) ≤ s[i].toNat) (h2 : (s[i].toNat : Int) ≤ 239) (hn : (s.size : Int) < (i : Int) + 3) :
    Calls Tryd.prog 29 #[.string s, .int .i64 i] w fun e w' => e = .returned (.tuple #[.int .i32 (dec s i).1, .int .i64 (dec s i).2]) ∧ w = w' := by
  have E0 := Lib.hid (at8_eq s i hi)
  have c0 : s[i].toNat < 256 := s[i].toNat_lt
  have K1 := Lib.hid (at8_lt s (i + 1))
  have K2 := Lib.hid (at8_lt s (i + 2))
  have K3 := Lib.hid (at8_lt s (i + 3))
  have HW := Lib.hid wrap32_in
  go_enter Tryd.func29, Tryd.ntmps29
  go_wp2_with fail
  go_ret2
  exact ⟨ret_dec (Oct.dec3_short _ _ _ _ _ (by rw [E0.out]; omega) (by omega) K1.out K2.out K3.out) rfl rfl, rfl⟩
set_option maxHeartbeats 2000000 in
set_option maxRecDepth 100000 in
theorem refRune_3_bad1 (s : ByteArray) (i : Nat) (w : World) (_hs : s.size ≤ 140737488351232) (hi : i < s.size) (h1 : (224 : Int) ≤ s[i].toNat) (h2 : (s[i].toNat : Int) ≤ 239) (hn : (i : Int) + 3 ≤ s.size)  (g : ((s[i + 1]'(by omega)).toNat : Int) < 128 ∨ (191 : Int) < (s[i + 1]'(by omega)).toNat) :
    Calls Tryd.prog 29 #[.string s, .int .i64 i] w fun e w' => e = .returned (.tuple #[.int .i32 (dec s i).1, .int .i64 (dec s i).2]) ∧ w = w' := by
  have E0 := Lib.hid (at8_eq s i hi)
  have c0 : s[i].toNat < 256 := s[i].toNat_lt
  have K1 := Lib.hid (at8_lt s (i + 1))
  have K2 := Lib.hid (at8_lt s (i + 2))
  have K3 := Lib.hid (at8_lt s (i + 3))
  have HW := Lib.hid wrap32_in
  have E1 := Lib.hid (at8_eq s (i + 1) (by omega))
  have c1 : s[i + 1].toNat < 256 := s[i + 1].toNat_lt
  have E2 := Lib.hid (at8_eq s (i + 2) (by omega))
  have c2 : s[i + 2].toNat < 256 := s[i + 2].toNat_lt
  have hb : dec s i = (65533, 1) := Oct.dec3_bad1 _ _ _ _ _ (by rw [E0.out]; omega) (by rw [E1.out]; omega) K1.out K2.out K3.out
  have HB := Lib.hid hb
  clear hb
  rcases g with g | g
  all_goals
    go_enter Tryd.func29, Tryd.ntmps29
    go_wp2_with fail
    all_goals refine wp_loop_rounds 1 ?_
    all_goals (rw [rounds_succ]; go_wp2_with fail)
    all_goals go_ret2
    all_goals exact ⟨ret_dec HB.out rfl rfl, rfl⟩
set_option maxHeartbeats 2000000 in
set_option maxRecDepth 100000 in
theorem refRune_3_bad2 (s : ByteArray) (i : Nat) (w : World) (_hs : s.size ≤ 140737488351232) (hi : i < s.size) (h1 : (224 : Int) ≤ s[i].toNat) (h2 : (s[i].toNat : Int) ≤ 239) (hn : (i : Int) + 3 ≤ s.size) (g1 : (128 : Int) ≤ (s[i + 1]'(by omega)).toNat ∧ ((s[i + 1]'(by omega)).toNat : Int) ≤ 191) (g : ((s[i + 2]'(by omega)).toNat : Int) < 128 ∨ (191 : Int) < (s[i + 2]'(by omega)).toNat) :
    Calls Tryd.prog 29 #[.string s, .int .i64 i] w fun e w' => e = .returned (.tuple #[.int .i32 (dec s i).1, .int .i64 (dec s i).2]) ∧ w = w' := by
  have E0 := Lib.hid (at8_eq s i hi)
  have c0 : s[i].toNat < 256 := s[i].toNat_lt
  have K1 := Lib.hid (at8_lt s (i + 1))
  have K2 := Lib.hid (at8_lt s (i + 2))
  have K3 := Lib.hid (at8_lt s (i + 3))
  have HW := Lib.hid wrap32_in
  have E1 := Lib.hid (at8_eq s (i + 1) (by omega))
  have c1 : s[i + 1].toNat < 256 := s[i + 1].toNat_lt
  have E2 := Lib.hid (at8_eq s (i + 2) (by omega))
  have c2 : s[i + 2].toNat < 256 := s[i + 2].toNat_lt
  obtain ⟨ga1, gb1⟩ := g1
  have hb : dec s i = (65533, 1) := Oct.dec3_bad2 _ _ _ _ _ (by rw [E0.out]; omega) (by rw [E2.out]; omega) K1.out K2.out K3.out
  have HB := Lib.hid hb
  clear hb
  rcases g with g | g
  all_goals
    go_enter Tryd.func29, Tryd.ntmps29
    go_wp2_with fail
    all_goals refine wp_loop_rounds 2 ?_
    all_goals (rw [rounds_succ]; go_wp2_with fail)
    all_goals (rw [rounds_succ]; go_wp2_with fail)
    all_goals go_ret2
    all_goals exact ⟨ret_dec HB.out rfl rfl, rfl⟩
set_option maxHeartbeats 2000000 in
set_option maxRecDepth 100000 in
theorem refRune_3_val (s : ByteArray) (i : Nat) (w : World) (_hs : s.size ≤ 140737488351232) (hi : i < s.size) (h1 : (224 : Int) ≤ s[i].toNat) (h2 : (s[i].toNat : Int) ≤ 239) (hn : (i : Int) + 3 ≤ s.size) (g1 : (128 : Int) ≤ (s[i + 1]'(by omega)).toNat ∧ ((s[i + 1]'(by omega)).toNat : Int) ≤ 191) (g2 : (128 : Int) ≤ (s[i + 2]'(by omega)).toNat ∧ ((s[i + 2]'(by omega)).toNat : Int) ≤ 191) (hv : ((((s[i].toNat : Int) - 224) * 64 + (s[i + 1]'(by omega)).toNat - 128) * 64 + (s[i + 2]'(by omega)).toNat - 128) < 2048 ∨ (1114111 : Int) < ((((s[i].toNat : Int) - 224) * 64 + (s[i + 1]'(by omega)).toNat - 128) * 64 + (s[i + 2]'(by omega)).toNat - 128) ∨ ((55296 : Int) ≤ ((((s[i].toNat : Int) - 224) * 64 + (s[i + 1]'(by omega)).toNat - 128) * 64 + (s[i + 2]'(by omega)).toNat - 128) ∧ ((((s[i].toNat : Int) - 224) * 64 + (s[i + 1]'(by omega)).toNat - 128) * 64 + (s[i + 2]'(by omega)).toNat - 128) ≤ 57343)) :
    Calls Tryd.prog 29 #[.string s, .int .i64 i] w fun e w' => e = .returned (.tuple #[.int .i32 (dec s i).1, .int .i64 (dec s i).2]) ∧ w = w' := by
  have E0 := Lib.hid (at8_eq s i hi)
  have c0 : s[i].toNat < 256 := s[i].toNat_lt
  have K1 := Lib.hid (at8_lt s (i + 1))
  have K2 := Lib.hid (at8_lt s (i + 2))
  have K3 := Lib.hid (at8_lt s (i + 3))
  have HW := Lib.hid wrap32_in
  have E1 := Lib.hid (at8_eq s (i + 1) (by omega))
  have c1 : s[i + 1].toNat < 256 := s[i + 1].toNat_lt
  have E2 := Lib.hid (at8_eq s (i + 2) (by omega))
  have c2 : s[i + 2].toNat < 256 := s[i + 2].toNat_lt
  obtain ⟨ga1, gb1⟩ := g1
  obtain ⟨ga2, gb2⟩ := g2
  have hb : dec s i = (65533, 1) := Oct.dec3_val _ _ _ _ _ (by rw [E0.out]; omega) (by omega) (by rw [E1.out]; omega) (by rw [E2.out]; omega) (by rw [E0.out, E1.out, E2.out]; omega)
  have HB := Lib.hid hb
  clear hb
  rcases hv with hv | hv | ⟨hv, hv2⟩
  all_goals
    go_enter Tryd.func29, Tryd.ntmps29
    go_wp2_with fail
    all_goals refine wp_loop_rounds 3 ?_
    all_goals (rw [rounds_succ]; go_wp2_with fail)
    all_goals (rw [rounds_succ]; go_wp2_with fail)
    all_goals (rw [rounds_succ]; go_wp2_with fail)
    all_goals go_ret2
    all_goals exact ⟨ret_dec HB.out rfl rfl, rfl⟩
set_option maxHeartbeats 2000000 in
set_option maxRecDepth 100000 in
theorem refRune_3_ok (s : ByteArray) (i : Nat) (w : World) (_hs : s.size ≤ 140737488351232) (hi : i < s.size) (h1 : (224 : Int) ≤ s[i].toNat) (h2 : (s[i].toNat : Int) ≤ 239) (hn : (i : Int) + 3 ≤ s.size) (g1 : (128 : Int) ≤ (s[i + 1]'(by omega)).toNat ∧ ((s[i + 1]'(by omega)).toNat : Int) ≤ 191) (g2 : (128 : Int) ≤ (s[i + 2]'(by omega)).toNat ∧ ((s[i + 2]'(by omega)).toNat : Int) ≤ 191) (hv1 : (2048 : Int) ≤ ((((s[i].toNat : Int) - 224) * 64 + (s[i + 1]'(by omega)).toNat - 128) * 64 + (s[i + 2]'(by omega)).toNat - 128)) (hv2 : ((((s[i].toNat : Int) - 224) * 64 + (s[i + 1]'(by omega)).toNat - 128) * 64 + (s[i + 2]'(by omega)).toNat - 128) ≤ 1114111) (hv3 : ((((s[i].toNat : Int) - 224) * 64 + (s[i + 1]'(by omega)).toNat - 128) * 64 + (s[i + 2]'(by omega)).toNat - 128) < 55296 ∨ (57343 : Int) < ((((s[i].toNat : Int) - 224) * 64 + (s[i + 1]'(by omega)).toNat - 128) * 64 + (s[i + 2]'(by omega)).toNat - 128)) :
    Calls Tryd.prog 29 #[.string s, .int .i64 i] w fun e w' => e = .returned (.tuple #[.int .i32 (dec s i).1, .int .i64 (dec s i).2]) ∧ w = w' := by
  have E0 := Lib.hid (at8_eq s i hi)
  have c0 : s[i].toNat < 256 := s[i].toNat_lt
  have K1 := Lib.hid (at8_lt s (i + 1))
  have K2 := Lib.hid (at8_lt s (i + 2))
  have K3 := Lib.hid (at8_lt s (i + 3))
  have HW := Lib.hid wrap32_in
  have E1 := Lib.hid (at8_eq s (i + 1) (by omega))
  have c1 : s[i + 1].toNat < 256 := s[i + 1].toNat_lt
  have E2 := Lib.hid (at8_eq s (i + 2) (by omega))
  have c2 : s[i + 2].toNat < 256 := s[i + 2].toNat_lt
  obtain ⟨ga1, gb1⟩ := g1
  obtain ⟨ga2, gb2⟩ := g2
  have hb : dec s i = ((((at8 s i - 224) * 64 + (at8 s (i + 1) - 128)) * 64 + (at8 s (i + 2) - 128)), 3) := Oct.dec3_ok _ _ _ _ _ (by rw [E0.out]; omega) (by omega) (by rw [E1.out]; omega) (by rw [E2.out]; omega) (by rw [E0.out, E1.out, E2.out]; omega) (by rw [E0.out, E1.out, E2.out]; omega) (by rw [E0.out, E1.out, E2.out]; omega)
  have HB := Lib.hid hb
  clear hb
  rcases hv3 with hv3 | hv3
  all_goals
    go_enter Tryd.func29, Tryd.ntmps29
    go_wp2_with fail
    all_goals refine wp_loop_rounds 3 ?_
    all_goals (rw [rounds_succ]; go_wp2_with fail)
    all_goals (rw [rounds_succ]; go_wp2_with fail)
    all_goals (rw [rounds_succ]; go_wp2_with fail)
    all_goals go_ret2
    all_goals exact ⟨ret_dec HB.out (by simp only; rw [E0.out, E1.out, E2.out]; omega) rfl, rfl⟩
set_option maxHeartbeats 2000000 in
set_option maxRecDepth 100000 in
theorem refRune_4_short (s : ByteArray) (i : Nat) (w : World) (_hs : s.size ≤ 140737488351232) (hi : i < s.size) (h1 : (240 : Int) ≤ s[i].toNat) (h2 : (s[i].toNat : Int) ≤ 244) (hn : (s.size : Int) < (i : Int) + 4) :
    Calls Tryd.prog 29 #[.string s, .int .i64 i] w fun e w' => e = .returned (.tuple #[.int .i32 (dec s i).1, .int .i64 (dec s i).2]) ∧ w = w' := by
  have E0 := Lib.hid (at8_eq s i hi)
  have c0 : s[i].toNat < 256 := s[i].toNat_lt
  have K1 := Lib.hid (at8_lt s (i + 1))
  have K2 := Lib.hid (at8_lt s (i + 2))
  have K3 := Lib.hid (at8_lt s (i + 3))
  have HW := Lib.hid wrap32_in
  go_enter Tryd.func29, Tryd.ntmps29
  go_wp2_with fail
  go_ret2
  exact ⟨ret_dec (Oct.dec4_short _ _ _ _ _ (by rw [E0.out]; omega) (by omega) K1.out K2.out K3.out) rfl rfl, rfl⟩
set_option maxHeartbeats 2000000 in
set_option maxRecDepth 100000 in
theorem refRune_4_bad1 (s : ByteArray) (i : Nat) (w : World) (_hs : s.size ≤ 140737488351232) (hi : i < s.size) (h1 : (240 : Int) ≤ s[i].toNat) (h2 : (s[i].toNat : Int) ≤ 244) (hn : (i : Int) + 4 ≤ s.size)  (g : ((s[i + 1]'(by omega)).toNat : Int) < 128 ∨ (191 : Int) < (s[i + 1]'(by omega)).toNat) :
    Calls Tryd.prog 29 #[.string s, .int .i64 i] w fun e w' => e = .returned (.tuple #[.int .i32 (dec s i).1, .int .i64 (dec s i).2]) ∧ w = w' := by
  have E0 := Lib.hid (at8_eq s i hi)
  have c0 : s[i].toNat < 256 := s[i].toNat_lt
  have K1 := Lib.hid (at8_lt s (i + 1))
  have K2 := Lib.hid (at8_lt s (i + 2))
  have K3 := Lib.hid (at8_lt s (i + 3))
  have HW := Lib.hid wrap32_in
  have E1 := Lib.hid (at8_eq s (i + 1) (by omega))
  have c1 : s[i + 1].toNat < 256 := s[i + 1].toNat_lt
  have E2 := Lib.hid (at8_eq s (i + 2) (by omega))
  have c2 : s[i + 2].toNat < 256 := s[i + 2].toNat_lt
  have E3 := Lib.hid (at8_eq s (i + 3) (by omega))
  have c3 : s[i + 3].toNat < 256 := s[i + 3].toNat_lt
  have hb : dec s i = (65533, 1) := Oct.dec4_bad1 _ _ _ _ _ (by rw [E0.out]; omega) (by rw [E1.out]; omega) K1.out K2.out K3.out
  have HB := Lib.hid hb
  clear hb
  rcases g with g | g
  all_goals
    go_enter Tryd.func29, Tryd.ntmps29
    go_wp2_with fail
    all_goals refine wp_loop_rounds 1 ?_
    all_goals (rw [rounds_succ]; go_wp2_with fail)
    all_goals go_ret2
    all_goals exact ⟨ret_dec HB.out rfl rfl, rfl⟩
set_option maxHeartbeats 2000000 in
set_option maxRecDepth 100000 in
theorem refRune_4_bad2 (s : ByteArray) (i : Nat) (w : World) (_hs : s.size ≤ 140737488351232) (hi : i < s.size) (h1 : (240 : Int) ≤ s[i].toNat) (h2 : (s[i].toNat : Int) ≤ 244) (hn : (i : Int) + 4 ≤ s.size) (g1 : (128 : Int) ≤ (s[i + 1]'(by omega)).toNat ∧ ((s[i + 1]'(by omega)).toNat : Int) ≤ 191) (g : ((s[i + 2]'(by omega)).toNat : Int) < 128 ∨ (191 : Int) < (s[i + 2]'(by omega)).toNat) :
    Calls Tryd.prog 29 #[.string s, .int .i64 i] w fun e w' => e = .returned (.tuple #[.int .i32 (dec s i).1, .int .i64 (dec s i).2]) ∧ w = w' := by
  have E0 := Lib.hid (at8_eq s i hi)
  have c0 : s[i].toNat < 256 := s[i].toNat_lt
  have K1 := Lib.hid (at8_lt s (i + 1))
  have K2 := Lib.hid (at8_lt s (i + 2))
  have K3 := Lib.hid (at8_lt s (i + 3))
  have HW := Lib.hid wrap32_in
  have E1 := Lib.hid (at8_eq s (i + 1) (by omega))
  have c1 : s[i + 1].toNat < 256 := s[i + 1].toNat_lt
  have E2 := Lib.hid (at8_eq s (i + 2) (by omega))
  have c2 : s[i + 2].toNat < 256 := s[i + 2].toNat_lt
  have E3 := Lib.hid (at8_eq s (i + 3) (by omega))
  have c3 : s[i + 3].toNat < 256 := s[i + 3].toNat_lt
  obtain ⟨ga1, gb1⟩ := g1
  have hb : dec s i = (65533, 1) := Oct.dec4_bad2 _ _ _ _ _ (by rw [E0.out]; omega) (by rw [E2.out]; omega) K1.out K2.out K3.out
  have HB := Lib.hid hb
  clear hb
  rcases g with g | g
  all_goals
    go_enter Tryd.func29, Tryd.ntmps29
    go_wp2_with fail
    all_goals refine wp_loop_rounds 2 ?_
    all_goals (rw [rounds_succ]; go_wp2_with fail)
    all_goals (rw [rounds_succ]; go_wp2_with fail)
    all_goals go_ret2
    all_goals exact ⟨ret_dec HB.out rfl rfl, rfl⟩
set_option maxHeartbeats 2000000 in
set_option maxRecDepth 100000 in
theorem refRune_4_bad3 (s : ByteArray) (i : Nat) (w : World) (_hs : s.size ≤ 140737488351232) (hi : i < s.size) (h1 : (240 : Int) ≤ s[i].toNat) (h2 : (s[i].toNat : Int) ≤ 244) (hn : (i : Int) + 4 ≤ s.size) (g1 : (128 : Int) ≤ (s[i + 1]'(by omega)).toNat ∧ ((s[i + 1]'(by omega)).toNat : Int) ≤ 191) (g2 : (128 : Int) ≤ (s[i + 2]'(by omega)).toNat ∧ ((s[i + 2]'(by omega)).toNat : Int) ≤ 191) (g : ((s[i + 3]'(by omega)).toNat : Int) < 128 ∨ (191 : Int) < (s[i + 3]'(by omega)).toNat) :
    Calls Tryd.prog 29 #[.string s, .int .i64 i] w fun e w' => e = .returned (.tuple #[.int .i32 (dec s i).1, .int .i64 (dec s i).2]) ∧ w = w' := by
  have E0 := Lib.hid (at8_eq s i hi)
  have c0 : s[i].toNat < 256 := s[i].toNat_lt
  have K1 := Lib.hid (at8_lt s (i + 1))
  have K2 := Lib.hid (at8_lt s (i + 2))
  have K3 := Lib.hid (at8_lt s (i + 3))
  have HW := Lib.hid wrap32_in
  have E1 := Lib.hid (at8_eq s (i + 1) (by omega))
  have c1 : s[i + 1].toNat < 256 := s[i + 1].toNat_lt
  have E2 := Lib.hid (at8_eq s (i + 2) (by omega))
  have c2 : s[i + 2].toNat < 256 := s[i + 2].toNat_lt
  have E3 := Lib.hid (at8_eq s (i + 3) (by omega))
  have c3 : s[i + 3].toNat < 256 := s[i + 3].toNat_lt
  obtain ⟨ga1, gb1⟩ := g1
  obtain ⟨ga2, gb2⟩ := g2
  have hb : dec s i = (65533, 1) := Oct.dec4_bad3 _ _ _ _ _ (by rw [E0.out]; omega) (by rw [E3.out]; omega) K1.out K2.out K3.out
  have HB := Lib.hid hb
  clear hb
  rcases g with g | g
  all_goals
    go_enter Tryd.func29, Tryd.ntmps29
    go_wp2_with fail
    all_goals refine wp_loop_rounds 3 ?_
    all_goals (rw [rounds_succ]; go_wp2_with fail)
    all_goals (rw [rounds_succ]; go_wp2_with fail)
    all_goals (rw [rounds_succ]; go_wp2_with fail)
    all_goals go_ret2
    all_goals exact ⟨ret_dec HB.out rfl rfl, rfl⟩
set_option maxHeartbeats 2000000 in
set_option maxRecDepth 100000 in
theorem refRune_4_val (s : ByteArray) (i : Nat) (w : World) (_hs : s.size ≤ 140737488351232) (hi : i < s.size) (h1 : (240 : Int) ≤ s[i].toNat) (h2 : (s[i].toNat : Int) ≤ 244) (hn : (i : Int) + 4 ≤ s.size) (g1 : (128 : Int) ≤ (s[i + 1]'(by omega)).toNat ∧ ((s[i + 1]'(by omega)).toNat : Int) ≤ 191) (g2 : (128 : Int) ≤ (s[i + 2]'(by omega)).toNat ∧ ((s[i + 2]'(by omega)).toNat : Int) ≤ 191) (g3 : (128 : Int) ≤ (s[i + 3]'(by omega)).toNat ∧ ((s[i + 3]'(by omega)).toNat : Int) ≤ 191) (hv : (((((s[i].toNat : Int) - 240) * 64 + (s[i + 1]'(by omega)).toNat - 128) * 64 + (s[i + 2]'(by omega)).toNat - 128) * 64 + (s[i + 3]'(by omega)).toNat - 128) < 65536 ∨ (1114111 : Int) < (((((s[i].toNat : Int) - 240) * 64 + (s[i + 1]'(by omega)).toNat - 128) * 64 + (s[i + 2]'(by omega)).toNat - 128) * 64 + (s[i + 3]'(by omega)).toNat - 128) ∨ ((55296 : Int) ≤ (((((s[i].toNat : Int) - 240) * 64 + (s[i + 1]'(by omega)).toNat - 128) * 64 + (s[i + 2]'(by omega)).toNat - 128) * 64 + (s[i + 3]'(by omega)).toNat - 128) ∧ (((((s[i].toNat : Int) - 240) * 64 + (s[i + 1]'(by omega)).toNat - 128) * 64 + (s[i + 2]'(by omega)).toNat - 128) * 64 + (s[i + 3]'(by omega)).toNat - 128) ≤ 57343)) :
    Calls Tryd.prog 29 #[.string s, .int .i64 i] w fun e w' => e = .returned (.tuple #[.int .i32 (dec s i).1, .int .i64 (dec s i).2]) ∧ w = w' := by
  have E0 := Lib.hid (at8_eq s i hi)
  have c0 : s[i].toNat < 256 := s[i].toNat_lt
  have K1 := Lib.hid (at8_lt s (i + 1))
  have K2 := Lib.hid (at8_lt s (i + 2))
  have K3 := Lib.hid (at8_lt s (i + 3))
  have HW := Lib.hid wrap32_in
  have E1 := Lib.hid (at8_eq s (i + 1) (by omega))
  have c1 : s[i + 1].toNat < 256 := s[i + 1].toNat_lt
  have E2 := Lib.hid (at8_eq s (i + 2) (by omega))
  have c2 : s[i + 2].toNat < 256 := s[i + 2].toNat_lt
  have E3 := Lib.hid (at8_eq s (i + 3) (by omega))
  have c3 : s[i + 3].toNat < 256 := s[i + 3].toNat_lt
  obtain ⟨ga1, gb1⟩ := g1
  obtain ⟨ga2, gb2⟩ := g2
  obtain ⟨ga3, gb3⟩ := g3
  have hb : dec s i = (65533, 1) := Oct.dec4_val _ _ _ _ _ (by rw [E0.out]; omega) (by omega) (by rw [E1.out]; omega) (by rw [E2.out]; omega) (by rw [E3.out]; omega) (by rw [E0.out, E1.out, E2.out, E3.out]; omega)
  have HB := Lib.hid hb
  clear hb
  rcases hv with hv | hv | ⟨hv, hv2⟩
  all_goals
    go_enter Tryd.func29, Tryd.ntmps29
    go_wp2_with fail
    all_goals refine wp_loop_rounds 4 ?_
    all_goals (rw [rounds_succ]; go_wp2_with fail)
    all_goals (rw [rounds_succ]; go_wp2_with fail)
    all_goals (rw [rounds_succ]; go_wp2_with fail)
    all_goals (rw [rounds_succ]; go_wp2_with fail)
    all_goals go_ret2
    all_goals exact ⟨ret_dec HB.out rfl rfl, rfl⟩
set_option maxHeartbeats 2000000 in
set_option maxRecDepth 100000 in
theorem refRune_4_ok (s : ByteArray) (i : Nat) (w : World) (_hs : s.size ≤ 140737488351232) (hi : i < s.size) (h1 : (240 : Int) ≤ s[i].toNat) (h2 : (s[i].toNat : Int) ≤ 244) (hn : (i : Int) + 4 ≤ s.size) (g1 : (128 : Int) ≤ (s[i + 1]'(by omega)).toNat ∧ ((s[i + 1]'(by omega)).toNat : Int) ≤ 191) (g2 : (128 : Int) ≤ (s[i + 2]'(by omega)).toNat ∧ ((s[i + 2]'(by omega)).toNat : Int) ≤ 191) (g3 : (128 : Int) ≤ (s[i + 3]'(by omega)).toNat ∧ ((s[i + 3]'(by omega)).toNat : Int) ≤ 191) (hv1 : (65536 : Int) ≤ (((((s[i].toNat : Int) - 240) * 64 + (s[i + 1]'(by omega)).toNat - 128) * 64 + (s[i + 2]'(by omega)).toNat - 128) * 64 + (s[i + 3]'(by omega)).toNat - 128)) (hv2 : (((((s[i].toNat : Int) - 240) * 64 + (s[i + 1]'(by omega)).toNat - 128) * 64 + (s[i + 2]'(by omega)).toNat - 128) * 64 + (s[i + 3]'(by omega)).toNat - 128) ≤ 1114111) (hv3 : (((((s[i].toNat : Int) - 240) * 64 + (s[i + 1]'(by omega)).toNat - 128) * 64 + (s[i + 2]'(by omega)).toNat - 128) * 64 + (s[i + 3]'(by omega)).toNat - 128) < 55296 ∨ (57343 : Int) < (((((s[i].toNat : Int) - 240) * 64 + (s[i + 1]'(by omega)).toNat - 128) * 64 + (s[i + 2]'(by omega)).toNat - 128) * 64 + (s[i + 3]'(by omega)).toNat - 128)) :
    Calls Tryd.prog 29 #[.string s, .int .i64 i] w fun e w' => e = .returned (.tuple #[.int .i32 (dec s i).1, .int .i64 (dec s i).2]) ∧ w = w' := by
  have E0 := Lib.hid (at8_eq s i hi)
  have c0 : s[i].toNat < 256 := s[i].toNat_lt
  have K1 := Lib.hid (at8_lt s (i + 1))
  have K2 := Lib.hid (at8_lt s (i + 2))
  have K3 := Lib.hid (at8_lt s (i + 3))
  have HW := Lib.hid wrap32_in
  have E1 := Lib.hid (at8_eq s (i + 1) (by omega))
  have c1 : s[i + 1].toNat < 256 := s[i + 1].toNat_lt
  have E2 := Lib.hid (at8_eq s (i + 2) (by omega))
  have c2 : s[i + 2].toNat < 256 := s[i + 2].toNat_lt
  have E3 := Lib.hid (at8_eq s (i + 3) (by omega))
  have c3 : s[i + 3].toNat < 256 := s[i + 3].toNat_lt
  obtain ⟨ga1, gb1⟩ := g1
  obtain ⟨ga2, gb2⟩ := g2
  obtain ⟨ga3, gb3⟩ := g3
  have hb : dec s i = (((((at8 s i - 240) * 64 + (at8 s (i + 1) - 128)) * 64 + (at8 s (i + 2) - 128)) * 64 + (at8 s (i + 3) - 128)), 4) := Oct.dec4_ok _ _ _ _ _ (by rw [E0.out]; omega) (by omega) (by rw [E1.out]; omega) (by rw [E2.out]; omega) (by rw [E3.out]; omega) (by rw [E0.out, E1.out, E2.out, E3.out]; omega) (by rw [E0.out, E1.out, E2.out, E3.out]; omega) (by rw [E0.out, E1.out, E2.out, E3.out]; omega)
  have HB := Lib.hid hb
  clear hb
  rcases hv3 with hv3 | hv3
  all_goals
    go_enter Tryd.func29, Tryd.ntmps29
    go_wp2_with fail
    all_goals refine wp_loop_rounds 4 ?_
    all_goals (rw [rounds_succ]; go_wp2_with fail)
    all_goals (rw [rounds_succ]; go_wp2_with fail)
    all_goals (rw [rounds_succ]; go_wp2_with fail)
    all_goals (rw [rounds_succ]; go_wp2_with fail)
    all_goals go_ret2
    all_goals exact ⟨ret_dec HB.out (by simp only; rw [E0.out, E1.out, E2.out, E3.out]; omega) rfl, rfl⟩
end Go.Proofs.YteajgkjiappkiaaDoor
