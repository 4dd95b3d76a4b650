/- The contracts of the log's Sync, of the disk's Restore, and of chancerybook.SameTexts. -/
import Derived.Test.YtokkifiakmplgaaWaJ
namespace Go.Proofs.Ytokkifiakmplgaa
open Go.RowKit
section
variable {S : Nat → Prop} {w0 w w' : World} {dg : Nat} {d d' : Vd.VD} {lg : Nat} {L : Wa.WL} {fp : List Nat} {rv : Value}
theorem lsync_any (h : LG S w0 w dg d lg L fp rv) (ht : Wa.Takes d) : Calls Try.prog 14 #[.pointer (some ⟨lg, 0, none⟩)] w fun e w' => e = .returned (.int .i64 0) ∧ ∃ fp', LG S w0 w' dg { d with secs := Vd.lay d.secs d.q, q := [] } lg L fp' rv := by
  obtain ⟨c0, c1, c2, c3, c4, c5, c6, fz⟩ := h.cells
  have H := Lib.hid (none_any h.blk)
  have hs := sync_any h.disk
  rw [Wa.takes_sync ht] at hs
  have HS := Lib.hid hs
  have HH := Lib.hid h
  clear h hs ht
  go_enter Try.func14, Try.ntmps14
  go_wp2_with fail
  (with_reducible refine H.out.mono ?_)
  rintro e w1 ⟨rfl, rfl⟩
  go_wp2_with fail
  (with_reducible refine HS.out.mono ?_)
  rintro e w2 hp
  obtain ⟨rfl, fp2, h2, _⟩ := HH.out.called hp
  have H2 := Lib.hid h2
  clear hp h2 c0 c1 c2 c3 c4 c5 c6 fz
  go_wp2_with fail
  go_ret
  exact ⟨rfl, _, H2.out⟩
end
theorem wrestore_df {w : World} {g : Nat} {d : Vd.VD} {fp : List Nat} (h : DF w g d fp) : Calls Try.prog 17 #[.pointer (some ⟨g, 0, none⟩)] w (DPost (.tuple #[]) g { d with on := true } fp w) := by
  obtain ⟨S, M, qv, rfl, h⟩ := h
  refine (restore_any h).mono ?_
  rintro e w' ⟨rfl, hD, hO⟩
  exact ⟨rfl, _, ⟨S, M, qv, rfl, hD⟩, ⟨hO.mono (by simp [foot]), fun b hb => .inl hb⟩⟩
/-- a list of texts as it is read -/
def Rd (w : World) (v : Value) (l : List (List UInt8)) : Prop := ∃ p cap, v = .slice p l.length cap ∧ ∀ j (h : j < l.length), ∃ g, p = some ⟨g, 0, none⟩ ∧ g < w.heap.size ∧ w.cell? ⟨g, j, none⟩ = some (.string ⟨l[j].toArray⟩)
theorem Rd.below {w w' : World} {v : Value} {l : List (List UInt8)} (h : Rd w v l) (hb : Below w.heap.size w w') : Rd w' v l := by
  obtain ⟨p, cap, rfl, hc⟩ := h
  refine ⟨p, cap, rfl, fun j hj => ?_⟩
  obtain ⟨g, hg, hlt, hcell⟩ := hc j hj
  exact ⟨g, hg, Nat.lt_of_lt_of_le hlt hb.size, (hb.cell (p := ⟨g, j, none⟩) hlt).trans hcell⟩
theorem Rd.of_own {w : World} {B : Nat} {v : Value} {l : List (List UInt8)} (h : w.ownsRow B 9 1 v l.length (strs l)) : Rd w v l := by
  rcases h.2 with ⟨rfl, h0⟩ | ⟨g, cap, cur, rfl, _, hh, _⟩
  · exact ⟨none, 0, by rw [h0], fun j hj => by omega⟩
  · refine ⟨_, cap, rfl, fun j hj => ⟨g, rfl, (Array.getElem?_eq_some_iff.1 hh).1, ?_⟩⟩
    have := h.cellAt j (by omega)
    rw [this]
    simp [strs, hj]
theorem Rd.take {w : World} {g cap n : Nat} {l : List (List UInt8)} (h : Rd w (.slice (some ⟨g, 0, none⟩) l.length cap) l) (r : Nat) (hr : r ≤ l.length) (hn : n = r) : Rd w (.slice (some ⟨g, 0, none⟩) n cap) (l.take r) := by
  obtain ⟨p, c, he, hc⟩ := h
  injection he with e1 _ e3
  subst e1 e3 hn
  refine ⟨_, cap, by rw [List.length_take, Nat.min_eq_left hr], fun j hj => ?_⟩
  have hj' : j < l.length := by simp at hj; omega
  obtain ⟨g', hg, hlt, hcell⟩ := hc j hj'
  exact ⟨g', hg, hlt, by simpa using hcell⟩
theorem lists_eq {a b : List (List UInt8)} (hl : a.length = b.length) (h : ∀ i (h1 : i < a.length) (h2 : i < b.length), a[i] = b[i]) : a = b := List.ext_getElem hl h
set_option maxRecDepth 20000 in
set_option maxHeartbeats 1000000 in
theorem sameTexts_any (a b : List (List UInt8)) (va vb : Value) (w : World) (ha : Rd w va a) (hb : Rd w vb b) (hn : a.length ≤ 65536) :
    Calls Try.prog 18 #[va, vb] w fun e w' => e = .returned (.bool (decide (a = b))) ∧ Below w.heap.size w w' := by
  obtain ⟨pa, ca, rfl, hca⟩ := ha
  obtain ⟨pb, cb, rfl, hcb⟩ := hb
  have HA := Lib.hid hca
  have HB := Lib.hid hcb
  clear hca hcb
  by_cases hl : a.length = b.length
  · have HL := Lib.hid hl
    have hli : ((a.length : Int) != (b.length : Int)) = false := by rw [bne_eq_false_iff_eq]; omega
    clear hl
    go_enter Try.func18, Try.ntmps18
    go_wp2_with fail
    go_loopw [5] (fun i wr => ∃ j : Nat, j ≤ a.length ∧ i = .int .i64 j ∧ Hid (∀ i (h1 : i < a.length) (h2 : i < b.length), i < j → a[i] = b[i]) ∧ Below w.heap.size w wr) (fun i _ => a.length - (intOf i).toNat)
    case atStart => exact ⟨0, Nat.zero_le _, rfl, Lib.hid (fun i _ _ h => by omega), Below.refl _ _⟩
    case round =>
      obtain ⟨j, hj, rfl, HE, hbel⟩ := hrel
      by_cases hlt : j < a.length
      · have hltb : j < b.length := by have := HL.out; omega
        obtain ⟨ga, rfl, hga, hcella⟩ := HA.out j hlt
        obtain ⟨gb, rfl, hgb, hcellb⟩ := HB.out j hltb
        have c1 := (hbel.cell (p := ⟨ga, j, none⟩) hga).trans hcella
        have c2 := (hbel.cell (p := ⟨gb, j, none⟩) hgb).trans hcellb
        obtain ⟨X, hX⟩ : ∃ X : ByteArray, (⟨a[j].toArray⟩ : ByteArray) = X := ⟨_, rfl⟩
        obtain ⟨Y, hY⟩ : ∃ Y : ByteArray, (⟨b[j].toArray⟩ : ByteArray) = Y := ⟨_, rfl⟩
        rw [hX] at c1
        rw [hY] at c2
        have HX := Lib.hid hX
        have HY := Lib.hid hY
        clear hX hY hcella hcellb
        by_cases he : a[j] = b[j]
        · have hxy : (X.toList == Y.toList) = true := by
            rw [← HX.out, ← HY.out, he]
            exact beq_self_eq_true _
          have HEQ := Lib.hid he
          clear he
          go_wp2_with fail
          go_quiet (fail)
          go_wp2_with fail
          go_roundw
          case rel => exact ⟨j + 1, by omega, by go_num, Lib.hid (fun i h1 h2 h3 => by
            by_cases e : i = j
            · subst e; exact HEQ.out
            · exact HE.out i h1 h2 (by omega)), below_drewN hbel _⟩
          case measure => simp [intOf]; omega
        · have hxy : (X.toList == Y.toList) = false := ba_ne (fun e => he (by
            have := congrArg (fun s : ByteArray => s.data.toList) e
            rw [← HX.out, ← HY.out] at this
            simpa using this))
          have hne : ¬ a = b := fun e => he (by subst e; rfl)
          have HNE := Lib.hid hne
          clear he hne
          go_wp2_with fail
          go_quiet (fail)
          go_wp2_with fail
          go_ret
          exact ⟨by rw [decide_eq_false HNE.out]; rfl, below_drewN hbel _⟩
      · have heq : a = b := lists_eq HL.out (fun i h1 h2 => HE.out i h1 h2 (by omega))
        have HEQ := Lib.hid heq
        clear heq
        go_wp2_with fail
        go_ret
        exact ⟨by rw [decide_eq_true HEQ.out]; rfl, hbel⟩
  · have hli : ((a.length : Int) != (b.length : Int)) = true := by rw [bne_iff_ne]; omega
    have hne : ¬ a = b := fun e => hl (by rw [e])
    have HNE := Lib.hid hne
    clear hl hne
    go_enter Try.func18, Try.ntmps18
    go_wp2_with fail
    go_ret
    exact ⟨by rw [decide_eq_false HNE.out]; rfl, Below.refl _ _⟩
end Go.Proofs.Ytokkifiakmplgaa
