/- The contract of ber.length. -/
import Derived.Test.YtlkdbopdmieojaaGreatBerM
import Derived.Test.YtlkdbopdmieojaaGreatOctB
namespace Go.Proofs.YtlkdbopdmieojaaGreat
open Go.RowKit Ber
set_option maxRecDepth 20000
theorem one_byte (W : World) (z : Int) (c : UInt8) (hz : z = (c.toNat : Int)) :
    (convert 112 9 (.slice (some ⟨W.heap.size, 0, none⟩) 1 1)).run Tryz.prog (W.alloc (.cells #[.int .u8 z] 5)) = .ok (.string ⟨[c].toArray⟩) (W.alloc (.cells #[.int .u8 z] 5)) := by
  subst hz
  exact string_of_blk (P := Tryz.prog) (l := [c]) (Blk.new W 5 (bvs [c])) 112 9 5 1 1 rfl Tryz.underlying112 Tryz.underlying5 Tryz.underlying9
theorem put_var (z k : Int) (m : Nat) (hk : Hid (k = (m : Int))) (l : List UInt8) (hl : Hid (Oct.beB m z = l)) (w : World) (h1 : 1 ≤ m) (h7 : m ≤ 7) (h0 : 0 ≤ z) (hv : Hid (z < 256 ^ m)) :
    Calls Tryz.prog 155 #[.int .i64 z, .int .i64 k] w fun e w' => e = .returned (.tuple #[.string ⟨l.toArray⟩, .int .i64 0]) ∧ Below w.heap.size w w' := by
  rw [hk.out, ← hl.out]
  exact put_yes z m w h1 h7 h0 hv.out
theorem lenL_short (n : Nat) (h : n < 128) : lenL n = [UInt8.ofNat n] := by unfold lenL; rw [if_pos h]
theorem lenL_long (n : Nat) (h : ¬ n < 128) (m : Nat) (hm : lenN n = m + 1) : lenL n = UInt8.ofNat (128 + m) :: Oct.beB m (n : Int) := by
  unfold lenL
  rw [if_neg h, hm, show 127 + (m + 1) = 128 + m from by omega, Nat.add_sub_cancel]
theorem lenN_1 (n : Nat) (h : ¬ n < 128) (h2 : n < 256) : lenN n = 1 + 1 := by unfold lenN; (repeat' split) <;> omega
theorem lenN_2 (n : Nat) (h : ¬ n < 256) (h2 : n < 65536) : lenN n = 2 + 1 := by unfold lenN; (repeat' split) <;> omega
theorem lenN_3 (n : Nat) (h : ¬ n < 65536) : lenN n = 3 + 1 := by unfold lenN; (repeat' split) <;> omega
theorem cat_one (c : UInt8) (l : List UInt8) (h : l.length ≤ 3) (W : World) : (Op.stringOp .add ⟨#[c]⟩ ⟨l.toArray⟩).run Tryz.prog W = .ok (.string ⟨(c :: l).toArray⟩) W := by
  have h1 := run_string_add_sum (P := Tryz.prog) (w := W) (⟨#[c]⟩ : ByteArray) ⟨l.toArray⟩ (by
    show 1 + l.length ≤ _
    omega)
  rw [h1]
  congr 2
theorem ret_str {a b : List UInt8} (h : a = b) : Ending.returned (.string ⟨a.toArray⟩) = .returned (.string ⟨b.toArray⟩) := by rw [h]
set_option maxHeartbeats 400000 in
theorem length_any (z : Int) (n : Nat) (hz : Hid (z = n)) (w : World) (h0 : 0 ≤ z) (h : z ≤ 65537) : Calls Tryz.prog 143 #[.int .i64 z] w fun e w' => e = .returned (.string ⟨(lenL n).toArray⟩) ∧ Below w.heap.size w w' := by
  have HN := Lib.hid h
  obtain ⟨l, hl⟩ : ∃ l, lenL n = l := ⟨_, rfl⟩
  rw [hl]
  have HL := Lib.hid hl
  clear h hl
  by_cases h1 : z < 128
  · have hcv := fun W => one_byte W z (UInt8.ofNat n) (by have := hz.out; rw [u8_nat _ (by omega)]; exact this)
    go_enter Tryz.func143, Tryz.ntmps143
    go_wp2_with fail
    go_ret
    exact ⟨by rw [← HL.out, lenL_short n (by have := hz.out; omega)]; rfl, (Below.refl _ _).alloc (Nat.le_refl _) _⟩
  · obtain ⟨b1, hb1⟩ : ∃ b, Oct.beB 1 z = b := ⟨_, rfl⟩
    obtain ⟨b2, hb2⟩ : ∃ b, Oct.beB 2 z = b := ⟨_, rfl⟩
    obtain ⟨b3, hb3⟩ : ∃ b, Oct.beB 3 z = b := ⟨_, rfl⟩
    have l1 : b1.length = 1 := by rw [← hb1]; exact Oct.beB_length _ _
    have l2 : b2.length = 2 := by rw [← hb2]; exact Oct.beB_length _ _
    have l3 : b3.length = 3 := by rw [← hb3]; exact Oct.beB_length _ _
    have H1 := Lib.hid hb1
    have H2 := Lib.hid hb2
    have H3 := Lib.hid hb3
    have L1 := Lib.hid l1
    have L2 := Lib.hid l2
    have L3 := Lib.hid l3
    clear hb1 hb2 hb3 l1 l2 l3
    have j1 := fun W => cat_one 129 b1 (by have := L1.out; omega) W
    have j2 := fun W => cat_one 130 b2 (by have := L2.out; omega) W
    have j3 := fun W => cat_one 131 b3 (by have := L3.out; omega) W
    have c1 := fun W => one_byte W 129 129 rfl
    have c2 := fun W => one_byte W 130 130 rfl
    have c3 := fun W => one_byte W 131 131 rfl
    go_enter Tryz.func143, Tryz.ntmps143
    go_wp2_with fail
    go_loop [3] (fun k => k = .int .i64 1 ∨ (k = .int .i64 2 ∧ 256 ≤ z) ∨ (k = .int .i64 3 ∧ 65536 ≤ z)) (fun k => (3 - intOf k).toNat)
    case atStart => exact .inl rfl
    case round =>
      rcases hrel with rfl | ⟨rfl, h2⟩ | ⟨rfl, h3⟩
      · by_cases h4 : z < 256
        · have hs : (z / 256 != 0) = false := by rw [bne_eq_false_iff_eq]; omega
          go_wp2_with fail
          (with_reducible refine (put_var _ 1 1 (Lib.hid rfl) b1 H1 _ (by omega) (by omega) h0 (Lib.hid (by simp; omega))).mono ?_)
          rintro e w1 ⟨rfl, hb⟩
          go_wp2_with fail
          go_ret
          exact ⟨ret_str (by rw [← HL.out, lenL_long n (by have := hz.out; omega) 1 (lenN_1 n (by have := hz.out; omega) (by have := hz.out; omega)), ← hz.out, H1.out]; rfl), hb.trans ((Below.refl _ _).alloc (by have := hb.size; omega) _)⟩
        · have hs : (z / 256 != 0) = true := by rw [bne_iff_ne]; omega
          go_wp2_with fail
          go_round
          case rel => exact .inr (.inl ⟨rfl, by omega⟩)
          case measure => simp [intOf]
      · by_cases h4 : z < 65536
        · have hs : (z / 65536 != 0) = false := by rw [bne_eq_false_iff_eq]; omega
          go_wp2_with fail
          (with_reducible refine (put_var _ 2 2 (Lib.hid rfl) b2 H2 _ (by omega) (by omega) h0 (Lib.hid (by simp; omega))).mono ?_)
          rintro e w1 ⟨rfl, hb⟩
          go_wp2_with fail
          go_ret
          exact ⟨ret_str (by rw [← HL.out, lenL_long n (by have := hz.out; omega) 2 (lenN_2 n (by have := hz.out; omega) (by have := hz.out; omega)), ← hz.out, H2.out]; rfl), hb.trans ((Below.refl _ _).alloc (by have := hb.size; omega) _)⟩
        · have hs : (z / 65536 != 0) = true := by rw [bne_iff_ne]; omega
          go_wp2_with fail
          go_round
          case rel => exact .inr (.inr ⟨rfl, by omega⟩)
          case measure => simp [intOf]
      · have hs : (z / 16777216 != 0) = false := by have := HN.out; rw [bne_eq_false_iff_eq]; omega
        go_wp2_with fail
        (with_reducible refine (put_var _ 3 3 (Lib.hid rfl) b3 H3 _ (by omega) (by omega) h0 (Lib.hid (by have := HN.out; simp; omega))).mono ?_)
        rintro e w1 ⟨rfl, hb⟩
        go_wp2_with fail
        go_ret
        exact ⟨ret_str (by rw [← HL.out, lenL_long n (by have := hz.out; omega) 3 (lenN_3 n (by have := hz.out; omega)), ← hz.out, H3.out]; rfl), hb.trans ((Below.refl _ _).alloc (by have := hb.size; omega) _)⟩
end Go.Proofs.YtlkdbopdmieojaaGreat
