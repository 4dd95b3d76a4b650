/- The contracts of octet.Digit, octet.Unhex, chanceryref1.Digit, chanceryref1.Unhex and chanceryref1.Compare. The condition of Unhex: the text is within the form's own reach. -/
import Derived.Test.YteajgkjiappkiaaOctC
import Derived.Test.YteajgkjiappkiaaPlainB
import Derived.Deep.QuietTactic
namespace Go.Proofs.Yteajgkjiappkiaa
open Go.RowKit
theorem quiet_left {P : Program} {f : FuncId} {args : Array Value} {w : World} {n : Nat} {v : Value}
    (h : Calls P f args (w.drewN n) fun e w' => e = .returned v ∧ w.drewN n = w') : Calls P f args (w.drewN n) fun e w'' => e = .returned v ∧ ∃ m, w'' = w.drewN m :=
  h.mono fun _ _ ⟨he, hm⟩ => ⟨he, n, hm.symm⟩
namespace Oct
/-- a digit's number; -1: it is none -/
def digZ (n : Int) : Int := if 48 ≤ n ∧ n ≤ 57 then n - 48 else if 97 ≤ n ∧ n ≤ 102 then n - 87 else if 65 ≤ n ∧ n ≤ 70 then n - 55 else -1
theorem digZ_bd (n : Int) : -1 ≤ digZ n ∧ digZ n ≤ 15 := by unfold digZ; (repeat' split) <;> omega
end Oct
theorem ret_int {k : IntKind} {a b : Int} (h : a = b) : Ending.returned (.int k a) = .returned (.int k b) := by rw [h]
set_option maxHeartbeats 400000 in
theorem digit_any (n : Int) (w : World) (h0 : 0 ≤ n) (h1 : n ≤ 255) :
    Calls Try.prog 26 #[.int .u8 n] w fun e w' => e = .returned (.int .i64 (Oct.digZ n)) ∧ w = w' := by
  go_enter Try.func26, Try.ntmps26
  go_wp2
  all_goals go_ret
  all_goals exact ⟨ret_int (by unfold Oct.digZ; (repeat' split) <;> omega), rfl⟩
set_option maxHeartbeats 400000 in
theorem refDigit_any (n : Int) (w : World) (h0 : 0 ≤ n) (h1 : n ≤ 255) :
    Calls Try.prog 25 #[.int .u8 n] w fun e w' => e = .returned (.int .i64 (Oct.digZ n)) ∧ w = w' := by
  go_enter Try.func25, Try.ntmps25
  go_wp2
  all_goals go_ret
  all_goals exact ⟨ret_int (by unfold Oct.digZ; (repeat' split) <;> omega), rfl⟩
namespace Oct
/-- the digit's number at a place -/
def dg (l : List UInt8) (i : Nat) : Int := digZ ((l.getD i 0).toNat : Int)
/-- a pair of digits stands at place 2 j -/
def good (l : List UInt8) (j : Nat) : Prop := 0 ≤ dg l (2 * j) ∧ 0 ≤ dg l (2 * j + 1)
instance (l : List UInt8) (j : Nat) : Decidable (good l j) := by unfold good; infer_instance
/-- the byte of the pair at place 2 j -/
def pair (l : List UInt8) (j : Nat) : UInt8 := UInt8.ofNat (16 * dg l (2 * j) + dg l (2 * j + 1)).toNat
/-- the bytes of the first k pairs -/
def unB (l : List UInt8) (k : Nat) : List UInt8 := (List.range k).map (pair l)
theorem unB_succ (l : List UInt8) (k : Nat) : unB l (k + 1) = unB l k ++ [pair l k] := by simp [unB, List.range_succ]
theorem unB_length (l : List UInt8) (k : Nat) : (unB l k).length = k := by simp [unB]
/-- all pairs are good -/
def allGood (l : List UInt8) : Prop := ∀ j, j < l.length / 2 → good l j
instance (l : List UInt8) : Decidable (allGood l) := by unfold allGood; infer_instance
theorem dg_eq (s : ByteArray) (i : Nat) (h : i < s.size) : digZ (s[i].toNat : Int) = dg s.data.toList i := by
  have h2 : i < s.data.toList.length := by simpa using h
  unfold dg
  rw [List.getD_eq_getElem?_getD, List.getElem?_eq_getElem h2]
  rfl
end Oct
/-- what an Unhex answers -/
def unhexV (s : ByteArray) : Value :=
  if s.size % 2 = 0 ∧ Oct.allGood s.data.toList then .tuple #[.string ⟨(Oct.unB s.data.toList (s.size / 2)).toArray⟩, .int .i64 0] else .tuple #[.string ⟨#[]⟩, .int .i64 11]
theorem Oct.or_digits (a b : Int) (a0 : 0 ≤ a) (a1 : a ≤ 15) (b0 : 0 ≤ b) (b1 : b ≤ 15) : bits .or .i64 (a * 16) b = a * 16 + b := by
  refine bits_join .i64 63 (by decide) (fun n h0 h1 => ?_) 4 (a * 16) b (by omega) (by omega) (by omega) (by omega) (by omega) (by omega)
  rw [IntKind.wrap_i64]; omega
theorem unhexV_yes {s : ByteArray} (h : s.size % 2 = 0) (k : Oct.allGood s.data.toList) : unhexV s = .tuple #[.string ⟨(Oct.unB s.data.toList (s.size / 2)).toArray⟩, .int .i64 0] := if_pos ⟨h, k⟩
theorem unhexV_no {s : ByteArray} (h : ¬ (s.size % 2 = 0 ∧ Oct.allGood s.data.toList)) : unhexV s = .tuple #[.string ⟨#[]⟩, .int .i64 11] := if_neg h
theorem digit_var (n d : Int) (w : World) (h0 : 0 ≤ n) (h1 : n ≤ 255) (hd : Hid (Oct.digZ n = d)) :
    Calls Try.prog 26 #[.int .u8 n] w fun e w' => e = .returned (.int .i64 d) ∧ w = w' := hd.out ▸ digit_any n w h0 h1
theorem refDigit_var (n d : Int) (w : World) (h0 : 0 ≤ n) (h1 : n ≤ 255) (hd : Hid (Oct.digZ n = d)) :
    Calls Try.prog 25 #[.int .u8 n] w fun e w' => e = .returned (.int .i64 d) ∧ w = w' := hd.out ▸ refDigit_any n w h0 h1
section
variable {s : ByteArray} {k m : Nat} {d1 d2 : Int}
theorem unhex_bad1 (hm : m = 2 * k) (h : m + 1 < s.size) (e : Oct.digZ ((s[m]'(by omega)).toNat : Int) = d1) (hd : d1 < 0) : unhexV s = .tuple #[.string ⟨#[]⟩, .int .i64 11] := by
  refine unhexV_no fun ⟨_, ha⟩ => ?_
  have := (ha k (by simp; omega)).1
  rw [Oct.dg_eq s m (by omega)] at e
  rw [← hm] at this
  omega
theorem unhex_bad2 (hm : m = 2 * k) (h : m + 1 < s.size) (e : Oct.digZ (s[m + 1].toNat : Int) = d2) (hd : d2 < 0) : unhexV s = .tuple #[.string ⟨#[]⟩, .int .i64 11] := by
  refine unhexV_no fun ⟨_, ha⟩ => ?_
  have := (ha k (by simp; omega)).2
  rw [Oct.dg_eq s (m + 1) (by omega)] at e
  rw [← hm] at this
  omega
theorem unhex_good (hm : m = 2 * k) (h : m + 1 < s.size) (e1 : Oct.digZ ((s[m]'(by omega)).toNat : Int) = d1) (e2 : Oct.digZ (s[m + 1].toNat : Int) = d2) (g1 : ¬ d1 < 0) (g2 : ¬ d2 < 0)
    (hg : ∀ j, j < k → Oct.good s.data.toList j) : ∀ j, j < k + 1 → Oct.good s.data.toList j := by
  intro j hj
  by_cases hjk : j < k
  · exact hg j hjk
  · obtain rfl : j = k := by omega
    rw [Oct.dg_eq s m (by omega)] at e1
    rw [Oct.dg_eq s (m + 1) (by omega)] at e2
    unfold Oct.good
    rw [← hm]
    omega
theorem unhex_own {w1 : World} {B : Nat} {t : TypeId} {v : Value} {x : Int} (hm : m = 2 * k) (h : m + 1 < s.size) (e1 : Oct.digZ ((s[m]'(by omega)).toNat : Int) = d1) (e2 : Oct.digZ (s[m + 1].toNat : Int) = d2)
    (g1 : ¬ d1 < 0) (g2 : ¬ d2 < 0) (hx : x = d1 * 16 + d2) (ho : w1.ownsRow B t 1 v (k + 1) (bl (Oct.unB s.data.toList k) ++ [.int .u8 x])) : w1.ownsRow B t 1 v (k + 1) (bl (Oct.unB s.data.toList (k + 1))) := by
  have b1 := (Oct.digZ_bd ((s[m]'(by omega)).toNat : Int)).2
  have b2 := (Oct.digZ_bd (s[m + 1].toNat : Int)).2
  rw [e1] at b1
  rw [e2] at b2
  rw [Oct.dg_eq s m (by omega)] at e1
  rw [Oct.dg_eq s (m + 1) (by omega)] at e2
  rw [Oct.unB_succ, bl_append]
  have : bl [Oct.pair s.data.toList k] = [.int .u8 x] := by
    unfold Oct.pair
    rw [← hm, e1, e2]
    simp only [bl, List.map_cons, List.map_nil, UInt8.toNat_ofNat']
    congr 2
    omega
  rw [this]
  exact ho
theorem unhex_end (hm : m = 2 * k) (h0 : s.size % 2 = 0) (h1 : ¬ m < s.size) (h2 : m ≤ s.size) (hg : ∀ j, j < k → Oct.good s.data.toList j) :
    unhexV s = .tuple #[.string ⟨(Oct.unB s.data.toList k).toArray⟩, .int .i64 0] := by
  rw [unhexV_yes h0 (fun j hj => hg j (by simp at hj; omega))]
  rw [show s.size / 2 = k from by omega]
end
theorem new_cells (w : World) (t : TypeId) (x : Value) : ∀ (j : Nat) (u : Value), [x][j]? = some u → (w.alloc (.cells #[x] t)).cell? ⟨w.heap.size, j, none⟩ = some u := by
  intro j u hu
  rw [(Blk.new w t #[x]).cell j]
  simpa using hu
set_option maxHeartbeats 1000000 in
theorem unhex_any (s : ByteArray) (w : World) (hs : s.size ≤ 281474976702464) :
    Calls Try.prog 23 #[.string s] w fun e w' => e = .returned (unhexV s) ∧ Below w.heap.size w w' := by
  obtain ⟨i0, hi0, hz0, hz1, hz2⟩ := info_parts u8_info
  by_cases hodd : s.size % 2 = 0
  · have hmk := fun W => make_bytes' (P := Try.prog) 37 5 i0 Try.underlying37 hi0 hz0 hz1 hz2 .i64 .i64 0 ((s.size : Int) / 2) 0 (s.size / 2) rfl (by omega) (by omega) (by omega) W
    have ht : ((s.size : Int) % 2 != 0) = false := by rw [bne_eq_false_iff_eq]; omega
    have HO := Lib.hid hodd
    clear hodd
    go_enter Try.func23, Try.ntmps23
    go_wp2
    clear hmk ht
    go_loopw [4, 5] (fun v i wr => ∃ k m : Nat, Hid (m = 2 * k) ∧ m ≤ s.size ∧ i = .int .i64 m ∧ Hid (∀ j, j < k → Oct.good s.data.toList j) ∧ wr.ownsRow w.heap.size 5 1 v k (bl (Oct.unB s.data.toList k)) ∧ Below w.heap.size w wr) (fun _ i _ => s.size - (intOf i).toNat)
    case atStart => exact ⟨0, 0, Lib.hid rfl, Nat.zero_le _, rfl, Lib.hid (fun j hj => absurd hj (by omega)), own_new w _ _ (by unfold maxLen; omega), (Below.refl _ _).alloc (Nat.le_refl _) _⟩
    case round =>
      obtain ⟨k, m, HM, hm, rfl, HG, hown, hbel⟩ := hrel
      by_cases hlt : m < s.size
      · have hlt2 : m + 1 < s.size := by have := HM.out; have := HO.out; omega
        have q0 : (0 : Int) ≤ (m : Int) := by omega
        have q1 : (m : Int) < (s.size : Int) := by omega
        have q2 : (0 : Int) ≤ (m : Int) + 1 := by omega
        have q3 : (m : Int) + 1 < (s.size : Int) := by omega
        have q4 : IntKind.i64.wrap ((m : Int) + 1) = (m : Int) + 1 := IntWalk.i64_in _ (by omega)
        have q5 : ((m : Int) + 1).toNat = m + 1 := by omega
        obtain ⟨d1, hd1⟩ : ∃ d1, Oct.digZ (s[m].toNat : Int) = d1 := ⟨_, rfl⟩
        obtain ⟨d2, hd2⟩ : ∃ d2, Oct.digZ (s[m + 1].toNat : Int) = d2 := ⟨_, rfl⟩
        have b1 := Oct.digZ_bd (s[m].toNat : Int)
        have b2 := Oct.digZ_bd (s[m + 1].toNat : Int)
        have c1 : s[m].toNat < 256 := s[m].toNat_lt
        have c2 : s[m + 1].toNat < 256 := s[m + 1].toNat_lt
        rw [hd1] at b1
        rw [hd2] at b2
        have H1 := Lib.hid hd1
        have H2 := Lib.hid hd2
        have HW := Lib.hid hown
        clear hd1 hd2 hown
        go_wp2_with fail
        go_quiet ((first | (go_at_call 26; exact quiet_left (digit_var _ d1 _ (by omega) (by omega) H1)) | (go_at_call 26; exact quiet_left (digit_var _ d2 _ (by omega) (by omega) H2))))
        by_cases e1 : d1 < 0
        · go_wp2
          go_ret2
          exact ⟨by rw [unhex_bad1 HM.out hlt2 H1.out e1]; rfl, below_drewN hbel _⟩
        by_cases e2 : d2 < 0
        · go_wp2
          go_ret2
          exact ⟨by rw [unhex_bad2 HM.out hlt2 H2.out e2]; rfl, below_drewN hbel _⟩
        · have hor := Oct.or_digits d1 d2 (by omega) (by omega) (by omega) (by omega)
          go_wp2_with (at_builtin; refine wpList_append_own _ rfl _ _ 37 rfl w.heap.size 5 i0 (.int .u8 0) 1 1 Try.underlying37 hi0 hz0 hz1 hz2 rfl (by decide) _ k (bl (Oct.unB s.data.toList k)) rfl (HW.out.alloc _) ⟨wr.heap.size, 0, none⟩ 1 1 [.int .u8 (d1 * 16 + d2)] rfl rfl ?c1 ?c2 ?c3 ?c4 ?c5 ?_)
          case c1 => exact new_cells (wr.drewN nq) _ _
          case c2 => rfl
          case c3 => have := HM.out; unfold maxLen; omega
          case c4 => have := HM.out; omega
          case c5 => have := hbel.size; omega
          intro v1 w1 hown1 hgrow hnn
          clear hor
          go_wp2
          go_roundw
          case rel => exact ⟨k + 1, m + 2, Lib.hid (by have := HM.out; omega), by omega, by go_num, Lib.hid (unhex_good HM.out hlt2 H1.out H2.out (by omega) (by omega) HG.out), unhex_own HM.out hlt2 H1.out H2.out (by omega) (by omega) (by omega) hown1, ((below_drewN hbel nq).alloc hbel.size _).grown hgrow (by have := hbel.size; simp; omega) (fun j hj => (HW.out.lt j hj).1)⟩
          case measure => simp [intOf]; omega
      · have hcv := string_of_own (P := Try.prog) hown 37 9 Try.underlying37 Try.underlying5 Try.underlying9
        clear hown
        go_wp2
        go_ret2
        exact ⟨by rw [unhex_end HM.out HO.out hlt hm HG.out]; rfl, hbel⟩
  · have ht : ((s.size : Int) % 2 != 0) = true := by rw [bne_iff_ne]; omega
    have HN := Lib.hid (unhexV_no (s := s) (fun h => hodd h.1))
    clear hodd
    go_enter Try.func23, Try.ntmps23
    go_wp2
    go_ret2
    exact ⟨by rw [HN.out]; rfl, Below.refl _ _⟩
set_option maxHeartbeats 1000000 in
theorem refUnhex_any (s : ByteArray) (w : World) (hs : s.size ≤ 281474976702464) :
    Calls Try.prog 20 #[.string s] w fun e w' => e = .returned (unhexV s) ∧ Below w.heap.size w w' := by
  obtain ⟨i0, hi0, hz0, hz1, hz2⟩ := info_parts u8_info
  by_cases hodd : s.size % 2 = 0
  · have hmk := fun W => make_bytes' (P := Try.prog) 37 5 i0 Try.underlying37 hi0 hz0 hz1 hz2 .i64 .i64 0 ((s.size : Int) / 2) 0 (s.size / 2) rfl (by omega) (by omega) (by omega) W
    have ht : ((s.size : Int) % 2 != 0) = false := by rw [bne_eq_false_iff_eq]; omega
    have HO := Lib.hid hodd
    clear hodd
    go_enter Try.func20, Try.ntmps20
    go_wp2
    clear hmk ht
    go_loopw [4, 5] (fun v i wr => ∃ k m : Nat, Hid (m = 2 * k) ∧ m ≤ s.size ∧ i = .int .i64 m ∧ Hid (∀ j, j < k → Oct.good s.data.toList j) ∧ wr.ownsRow w.heap.size 5 1 v k (bl (Oct.unB s.data.toList k)) ∧ Below w.heap.size w wr) (fun _ i _ => s.size - (intOf i).toNat)
    case atStart => exact ⟨0, 0, Lib.hid rfl, Nat.zero_le _, rfl, Lib.hid (fun j hj => absurd hj (by omega)), own_new w _ _ (by unfold maxLen; omega), (Below.refl _ _).alloc (Nat.le_refl _) _⟩
    case round =>
      obtain ⟨k, m, HM, hm, rfl, HG, hown, hbel⟩ := hrel
      by_cases hlt : m < s.size
      · have hlt2 : m + 1 < s.size := by have := HM.out; have := HO.out; omega
        have q0 : (0 : Int) ≤ (m : Int) := by omega
        have q1 : (m : Int) < (s.size : Int) := by omega
        have q2 : (0 : Int) ≤ (m : Int) + 1 := by omega
        have q3 : (m : Int) + 1 < (s.size : Int) := by omega
        have q4 : IntKind.i64.wrap ((m : Int) + 1) = (m : Int) + 1 := IntWalk.i64_in _ (by omega)
        have q5 : ((m : Int) + 1).toNat = m + 1 := by omega
        obtain ⟨d1, hd1⟩ : ∃ d1, Oct.digZ (s[m].toNat : Int) = d1 := ⟨_, rfl⟩
        obtain ⟨d2, hd2⟩ : ∃ d2, Oct.digZ (s[m + 1].toNat : Int) = d2 := ⟨_, rfl⟩
        have b1 := Oct.digZ_bd (s[m].toNat : Int)
        have b2 := Oct.digZ_bd (s[m + 1].toNat : Int)
        have c1 : s[m].toNat < 256 := s[m].toNat_lt
        have c2 : s[m + 1].toNat < 256 := s[m + 1].toNat_lt
        rw [hd1] at b1
        rw [hd2] at b2
        have H1 := Lib.hid hd1
        have H2 := Lib.hid hd2
        have HW := Lib.hid hown
        clear hd1 hd2 hown
        go_wp2_with fail
        go_quiet ((first | (go_at_call 25; exact quiet_left (refDigit_var _ d1 _ (by omega) (by omega) H1)) | (go_at_call 25; exact quiet_left (refDigit_var _ d2 _ (by omega) (by omega) H2))))
        by_cases e1 : d1 < 0
        · go_wp2
          go_ret2
          exact ⟨by rw [unhex_bad1 HM.out hlt2 H1.out e1]; rfl, below_drewN hbel _⟩
        by_cases e2 : d2 < 0
        · go_wp2
          go_ret2
          exact ⟨by rw [unhex_bad2 HM.out hlt2 H2.out e2]; rfl, below_drewN hbel _⟩
        · go_wp2_with (at_builtin; refine wpList_append_own _ rfl _ _ 37 rfl w.heap.size 5 i0 (.int .u8 0) 1 1 Try.underlying37 hi0 hz0 hz1 hz2 rfl (by decide) _ k (bl (Oct.unB s.data.toList k)) rfl (HW.out.alloc _) ⟨wr.heap.size, 0, none⟩ 1 1 [.int .u8 (16 * d1 + d2)] rfl rfl ?c1 ?c2 ?c3 ?c4 ?c5 ?_)
          case c1 => exact new_cells (wr.drewN nq) _ _
          case c2 => rfl
          case c3 => have := HM.out; unfold maxLen; omega
          case c4 => have := HM.out; omega
          case c5 => have := hbel.size; omega
          intro v1 w1 hown1 hgrow hnn
          go_wp2
          go_roundw
          case rel => exact ⟨k + 1, m + 2, Lib.hid (by have := HM.out; omega), by omega, by go_num, Lib.hid (unhex_good HM.out hlt2 H1.out H2.out (by omega) (by omega) HG.out), unhex_own HM.out hlt2 H1.out H2.out (by omega) (by omega) (by omega) hown1, ((below_drewN hbel nq).alloc hbel.size _).grown hgrow (by have := hbel.size; simp; omega) (fun j hj => (HW.out.lt j hj).1)⟩
          case measure => simp [intOf]; omega
      · have hcv := string_of_own (P := Try.prog) hown 37 9 Try.underlying37 Try.underlying5 Try.underlying9
        clear hown
        go_wp2
        go_ret2
        exact ⟨by rw [unhex_end HM.out HO.out hlt hm HG.out]; rfl, hbel⟩
  · have ht : ((s.size : Int) % 2 != 0) = true := by rw [bne_iff_ne]; omega
    have HN := Lib.hid (unhexV_no (s := s) (fun h => hodd h.1))
    clear hodd
    go_enter Try.func20, Try.ntmps20
    go_wp2
    go_ret2
    exact ⟨by rw [HN.out]; rfl, Below.refl _ _⟩
end Go.Proofs.Yteajgkjiappkiaa
