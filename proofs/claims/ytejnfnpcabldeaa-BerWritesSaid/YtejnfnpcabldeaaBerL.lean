/- The walk of the law BerFrames. -/
import Derived.Test.YtejnfnpcabldeaaBerG
import Derived.Test.YtejnfnpcabldeaaBerK
namespace Go.Proofs.Ytejnfnpcabldeaa
open Go.RowKit Ber
theorem write_var {w : World} {ks : List El} {kv : Value} (h : KsAt w ks kv) (c t : Int) (k : Bool) (b : ByteArray) (w0 : World) (hfb : Few b.size) (hb : Below w.heap.size w w0) (S : ByteArray) (r : Int) (hS : Hid (wr (.mk c t k b ks) = (S.data.toList, r))) :
    Calls Try.prog 15 #[.agg #[.int .i64 c, .int .i64 t, .bool k, .string b, kv]] w0 fun e w' => e = .returned (.tuple #[.string S, .int .i64 r]) ∧ Below w0.heap.size w0 w' := by
  have := write_any h c t k b w0 hfb hb
  unfold wrV at this
  rw [hS.out, ba_eta] at this
  exact this
theorem frame_var (s : ByteArray) (w : World) (n : Nat) (r : Int) (h : Hid (frame s.data.toList = (n, r))) : Calls Try.prog 19 #[.string s] w fun e w' => e = .returned (.tuple #[.int .i64 n, .int .i64 r]) ∧ Below w.heap.size w w' := by
  have := frame_any s w
  unfold frV at this
  rw [h.out] at this
  exact this
theorem wr_err {e : El} {l : List UInt8} {r : Int} (h : wr e = (l, r)) : r = 0 ∨ r = 21 ∨ r = 24 ∨ r = 23 ∨ r = 2 := by
  unfold wr at h
  (repeat' split at h) <;> simp_all
theorem size_enc {S : ByteArray} {e : El} (h : S.data.toList = enc 20 e) : S.size = esz 20 e := by
  have := congrArg List.length h
  rw [enc_length] at this
  exact this
set_option maxHeartbeats 1000000 in
theorem berFrames_walk {w : World} {ks : List El} {kv : Value} (h : KsAt w ks kv) (c t : Int) (k : Bool) (b : ByteArray) (hfb : Few b.size) :
    Calls Try.prog 4 #[.agg #[.int .i64 c, .int .i64 t, .bool k, .string b, kv]] w fun e w' => e = .returned (.bool true) ∧ Below w.heap.size w w' := by
  obtain ⟨a, cap, rfl, _, _⟩ := h.len
  obtain ⟨⟨l, r⟩, hwr⟩ : ∃ q, wr (.mk c t k b ks) = q := ⟨_, rfl⟩
  obtain ⟨S, rfl⟩ : ∃ S : ByteArray, l = S.data.toList := ⟨⟨l.toArray⟩, by simp⟩
  have HH := Lib.hid h
  have HFB := Lib.hid hfb
  have HW := Lib.hid hwr
  clear h hfb hwr
  go_enter Try.func4, Try.ntmps4
  go_wp2_with fail
  (with_reducible refine (many_any HH.out c t k b _ ((Below.refl _ _).alloc (Nat.le_refl _) _)).mono ?_)
  rintro e w1 ⟨⟨n, rfl⟩, hb1⟩
  have hB1 : Below w.heap.size w w1 := ((Below.refl _ _).alloc (Nat.le_refl _) _).trans (hb1.mono (by simp))
  have hE1 := (Blk.new w 24 #[.int .i64 c, .int .i64 t, .bool k, .string b, .slice a ks.length cap]).below hb1 (by simp)
  have HE1 := Lib.hid hE1
  clear hb1 hE1
  by_cases hn : 500 < n
  · go_wp2_with fail
    (with_reducible refine (alive_any _).mono ?_)
    rintro e w2 ⟨rfl, hb2⟩
    go_wp2_with fail
    go_ret
    exact ⟨rfl, hB1.trans (hb2.mono hB1.size)⟩
  · obtain ⟨c0, c1, c2, c3, c4⟩ := HE1.out.five
    go_wp2_with fail
    (with_reducible refine (write_var HH.out c t k b _ HFB.out hB1 S r HW).mono ?_)
    rintro e w2 ⟨rfl, hb2⟩
    have hB2 := hB1.trans (hb2.mono hB1.size)
    clear hb2 hB1 c0 c1 c2 c3 c4 HE1 hn
    by_cases hr : r = 0
    · subst hr
      obtain ⟨hG, hl⟩ := good_of_wr HW.out
      have hsz := size_enc hl
      have HG := Lib.hid hG
      have HL := Lib.hid hl
      obtain ⟨T, hT⟩ : ∃ T, S.size = T := ⟨_, rfl⟩
      have hes : esz 20 (.mk c t k b ks) = 1 + lenN (csz 19 (.mk c t k b ks)) + csz 19 (.mk c t k b ks) := rfl
      have hln := lenN_bd (csz 19 (.mk c t k b ks))
      have hfr : ∀ j, frame (S.data.toList.take j) = if j ≤ lenN (csz 19 (.mk c t k b ks)) then (0, 20) else (esz 20 (.mk c t k b ks), 0) := fun j => by
        rw [hl]; exact frame_take hG j
      rw [← hsz] at hes
      obtain ⟨H, hH⟩ : ∃ H, lenN (csz 19 (.mk c t k b ks)) = H := ⟨_, rfl⟩
      rw [hH] at hes hln
      have hfits := hG.fits
      rw [← hsz] at hfits
      have hf1 : ∀ j, j ≤ H → frame (S.data.toList.take j) = (0, 20) := fun j hj => by rw [hfr j, if_pos (by omega)]
      have hf2 : ∀ j, ¬ j ≤ H → frame (S.data.toList.take j) = (S.size, 0) := fun j hj => by rw [hfr j, if_neg (by omega), hsz]
      have HF1 := Lib.hid hf1
      have HF2 := Lib.hid hf2
      have hHT : H < S.size := by omega
      have hH4 : H ≤ 4 := hln.2
      clear hfr hf1 hf2 hG hl hsz hes hln hT hH
      by_cases hbig : 3000 < S.size
      · go_wp2_with fail
        (with_reducible refine (alive_any _).mono ?_)
        rintro e w3 ⟨rfl, hb3⟩
        go_wp2_with fail
        go_ret
        exact ⟨rfl, hB2.trans (hb3.mono hB2.size)⟩
      · go_wp2_with fail
        go_loopw [5, 6] (fun v i wr => ∃ (j : Nat) (q : Bool), j ≤ S.size + 1 ∧ i = .int .i64 j ∧ v = .bool q ∧ Hid (q = decide (H + 1 < j)) ∧ Below w.heap.size w wr) (fun _ i _ => S.size + 1 - (intOf i).toNat)
        case atStart => exact ⟨0, false, by omega, rfl, rfl, Lib.hid (by simp), hB2⟩
        case round =>
          obtain ⟨j, q, hj, rfl, rfl, HQ, hbel⟩ := hrel
          have hsz := hbel.size
          by_cases hjT : j ≤ S.size
          · have hex : ∀ i, (S.extract 0 i).data.toList = S.data.toList.take i := fun i => by rw [Lib.extract_data]; simp
            by_cases hjH : j ≤ H
            · have hq : q = false := by rw [HQ.out]; simp; omega
              subst hq
              have HFv := Lib.hid ((congrArg frame (hex j)).trans (HF1.out j hjH))
              have hj6 : (j : Int) < 6 := by omega
              clear hex
              go_wp2_with fail
              (with_reducible refine (frame_var _ _ 0 20 HFv).mono ?_)
              rintro e w3 ⟨rfl, hb3⟩
              go_wp2_with fail
              go_roundw
              case rel => exact ⟨j + 1, false, by omega, by go_num, rfl, Lib.hid (by simp; omega), hbel.trans (hb3.mono hsz)⟩
              case measure => simp [intOf]; omega
            · have HFv := Lib.hid ((congrArg frame (hex j)).trans (HF2.out j hjH))
              clear hex
              go_wp2_with fail
              (with_reducible refine (frame_var _ _ S.size 0 HFv).mono ?_)
              rintro e w3 ⟨rfl, hb3⟩
              have hne : ((S.size : Int) != (S.size : Int)) = false := by simp
              go_wp2_with fail
              go_roundw
              case rel => exact ⟨j + 1, true, by omega, by go_num, rfl, Lib.hid (by simp; omega), hbel.trans (hb3.mono hsz)⟩
              case measure => simp [intOf]; omega
          · obtain rfl : j = S.size + 1 := by omega
            have hq : q = true := by rw [HQ.out]; simp; omega
            subst hq
            go_wp2_with fail
            (with_reducible refine (alive_any _).mono ?_)
            rintro e w3 ⟨rfl, hb3⟩
            go_wp2_with fail
            go_ret
            exact ⟨rfl, hbel.trans (hb3.mono hsz)⟩
    · have hr2 : (r != 0) = true := by rw [bne_iff_ne]; exact hr
      clear hr
      go_wp2_with fail
      (with_reducible refine (alive_any _).mono ?_)
      rintro e w3 ⟨rfl, hb3⟩
      go_wp2_with fail
      go_ret
      exact ⟨rfl, hB2.trans (hb3.mono hB2.size)⟩
end Go.Proofs.Ytejnfnpcabldeaa
