/- The contracts of the reference's End, Write, SetRoot. -/
import Derived.Test.YtoleojljpaglhaaGreatPeB
set_option maxRecDepth 20000
namespace Go.Proofs.YtoleojljpaglhaaGreat
open Go.RowKit
set_option maxRecDepth 20000
section
variable {w w' w'' : World} {b0 B dg pg : Nat} {V V' : RV} {R R' R'' : RR}
theorem rend_closed (h : RefAt w b0 B dg pg V R) (hb : R.busy = false) (c : Bool) : Calls Tryz.prog 51 #[.pointer (some ⟨B, 2, none⟩), .bool c] w fun e w' => e = .returned (.int .i64 90) ∧ w = w' := by
  have c23 := h.cells.c23
  rw [hb] at c23
  clear hb
  clear h
  go_enter Tryz.func51, Tryz.ntmps51
  go_wp2_with fail
  go_ret
  exact ⟨rfl, rfl⟩
set_option maxHeartbeats 1000000 in
theorem rend_abort (h : RefAt w b0 B dg pg V R) (hb : R.busy = true) (hbase : b0 ≤ w.heap.size) (hl : R.left.page.length ≤ 1000) (hl2 : R.left.data.length ≤ 1000) :
    Calls Tryz.prog 51 #[.pointer (some ⟨B, 2, none⟩), .bool false] w fun e w' => e = .returned (.int .i64 0) ∧ RPost w b0 B dg pg V { R with busy := false, now := R.left } w' := by
  obtain ⟨a0, a1, a2, a3, a4, a5, a6, a7, e1⟩ := len8 h.lr
  have c23 := h.cells.c23
  rw [hb] at c23
  clear hb
  have f23 := h.cells.fz 23
  have h1 := h.setBusy false
  have hk1 : KeepS (RB B V) w (w.setCell ⟨B, 23, none⟩ (.bool false)) := keep_one 23 _
  have hrg : (w.setCell ⟨B, 23, none⟩ (.bool false)).rangeAt B 3 [V.lp, V.ld, .int .i64 a0, .int .i64 a1, .int .i64 a2, .int .i64 a3, .int .i64 a4, .int .i64 a5, .int .i64 a6, .int .i64 a7] := by
    have := h1.ranges.1
    have e2 : ({ R with busy := false } : RR).left.root = [a0, a1, a2, a3, a4, a5, a6, a7] := e1
    rw [e2] at this
    exact this
  have hcp := copyState_any (r := [a0, a1, a2, a3, a4, a5, a6, a7]) h1.rows.lp h1.rows.ld rfl hl hl2
  rw [stc_lit] at hcp
  have HRG := Lib.hid hrg
  have HCP := Lib.hid hcp
  have H1 := Lib.hid h1
  have HK1 := Lib.hid hk1
  have HBS := Lib.hid hbase
  have HE1 := Lib.hid e1
  clear h hrg hcp h1 hk1 hbase hl hl2 e1
  go_enter Tryz.func51, Tryz.ntmps51
  go_wp2_with (refine wpList_load_mid rfl 55 (.tmp 25) rfl B 3 rfl _ _ HRG.out Tryz.underlying55 rfl (by kernel_rfl) ?_)
  (with_reducible refine HCP.out.mono ?_)
  rintro e w2 ⟨vp, vd, rfl, hp, hd, hb2⟩
  obtain ⟨_, A1, p1, rfl, _⟩ := row_form hp
  obtain ⟨_, A2, p2, rfl, _⟩ := row_form hd
  have hth := (H1.out.below hb2).there 13 (by omega)
  have hnow := H1.out.toNow hb2 (by have := HK1.out.size; have := HBS.out; omega) hp hd
  have HTH := Lib.hid hth
  have HNOW := Lib.hid hnow
  have HFR := Lib.hid (now_fresh (B := B) (V := V) hp hd)
  clear hth hnow hp hd hb2 c23 f23
  rw [stc_lit]
  go_wp2_with (refine wpList_store_mid rfl 55 (.tmp 29) (.tmp 27) rfl B 13 _ rfl rfl HTH.out (by kernel_rfl) (st_one _ _ _ _ _ _ _ _ _ _ _ _ _ _) ?_)
  go_ret
  refine ⟨rfl, ?_⟩
  obtain ⟨hR, hK⟩ := HNOW.out
  have e2 : ({ R with busy := false } : RR).left.root = [a0, a1, a2, a3, a4, a5, a6, a7] := HE1.out
  rw [e2] at hR hK
  refine RPost.trans' HK1.out (fun q hq => .inl hq) ⟨_, hR, hK, fun q hq => ?_⟩
  exact HFR.out q hq
theorem RefAt.at_ (h : RefAt w b0 B dg pg V R) (k : Int) (hl : R.now.page.length ≤ 1000) :
    Calls Tryz.prog 54 #[.pointer (some ⟨B, 13, none⟩), .int .i64 k] w fun e w' => (∃ r : Int, e = .returned (.int .i64 r) ∧ AtR R.now.page k r) ∧ w = w' := rat_any k h.cells.c13 h.rows.np hl
theorem rwrite_closed (h : RefAt w b0 B dg pg V R) (hb : R.busy = false) (hl : R.now.page.length ≤ 1000) (k : Int) (s : ByteArray) : Calls Tryz.prog 61 #[.pointer (some ⟨B, 2, none⟩), .int .i64 k, .string s] w fun e w' => e = .returned (.int .i64 90) ∧ w = w' := by
  have c23 := h.cells.c23
  rw [hb] at c23
  clear hb
  have HA := Lib.hid (h.at_ k hl)
  clear h hl
  go_enter Tryz.func61, Tryz.ntmps61
  go_wp2_with fail
  (with_reducible refine HA.out.mono ?_)
  rintro e w2 ⟨⟨r, rfl, hr⟩, rfl⟩
  clear hr
  go_wp2_with fail
  go_ret
  exact ⟨rfl, rfl⟩
theorem rwrite_none (h : RefAt w b0 B dg pg V R) (hb : R.busy = true) (hl : R.now.page.length ≤ 1000) (k : Int) (s : ByteArray) (hk : k ∉ R.now.page) : Calls Tryz.prog 61 #[.pointer (some ⟨B, 2, none⟩), .int .i64 k, .string s] w fun e w' => e = .returned (.int .i64 91) ∧ w = w' := by
  have c23 := h.cells.c23
  rw [hb] at c23
  clear hb
  have HA := Lib.hid (h.at_ k hl)
  have HK := Lib.hid hk
  clear h hl hk
  go_enter Tryz.func61, Tryz.ntmps61
  go_wp2_with fail
  (with_reducible refine HA.out.mono ?_)
  rintro e w2 ⟨⟨r, rfl, hr⟩, rfl⟩
  obtain rfl : r = -1 := by
    rcases hr with ⟨h1, _⟩ | ⟨i, _, hi⟩
    · exact h1
    · exact absurd (List.mem_of_getElem? hi) HK.out
  clear hr
  go_wp2_with fail
  go_ret
  exact ⟨rfl, rfl⟩
theorem at_yes {l : List Int} {k r : Int} {i : Nat} (hr : AtR l k r) (hn : l.Nodup) (hi : l[i]? = some k) : r = (i : Int) := by
  rcases hr with ⟨_, h1⟩ | ⟨j, h1, hj⟩
  · exact absurd (List.mem_of_getElem? hi) h1
  · rw [h1, nodup_at hn hj hi]
theorem rwrite_size (h : RefAt w b0 B dg pg V R) (hb : R.busy = true) (hl : R.now.page.length ≤ 1000) (k : Int) (s : ByteArray) (hn : R.now.page.Nodup) {i : Nat} (hi : R.now.page[i]? = some k) (hs : s.size ≠ 256) : Calls Tryz.prog 61 #[.pointer (some ⟨B, 2, none⟩), .int .i64 k, .string s] w fun e w' => e = .returned (.int .i64 82) ∧ w = w' := by
  have c23 := h.cells.c23
  rw [hb] at c23
  clear hb
  have HA := Lib.hid (h.at_ k hl)
  have HK := Lib.hid hi
  have HN := Lib.hid hn
  have e1 : ((s.size : Int) == 256) = false := beq_eq_false_iff_ne.2 (by omega)
  have i0 : ¬ ((i : Int) < 0) := by omega
  clear h hl hi hn
  go_enter Tryz.func61, Tryz.ntmps61
  go_wp2_with fail
  (with_reducible refine HA.out.mono ?_)
  rintro e w2 ⟨⟨r, rfl, hr⟩, rfl⟩
  obtain rfl : r = (i : Int) := at_yes hr HN.out HK.out
  clear hr
  go_wp2_with fail
  go_ret
  exact ⟨rfl, rfl⟩
theorem row_set {b e n cap q i : Nat} {xs : List Value} (h : w.ownsRow b e 1 (.slice (some ⟨q, 0, none⟩) n cap) n xs) (hi : i < n) (v : Value) : (w.setCell ⟨q, i, none⟩ v).ownsRow b e 1 (.slice (some ⟨q, 0, none⟩) n cap) n (xs.set i v) := by
  refine ⟨by rw [List.length_set]; exact h.1, ?_⟩
  rcases h.2 with ⟨h1, _⟩ | ⟨g, cap', cur, he, hb, hh, h1, h2, h3, h4⟩
  · cases h1
  · injection he with e1 e2 e3
    injection e1 with e1
    injection e1 with e1
    subst e1 e3
    have hbl : Blk w q e cur := hh
    refine .inr ⟨q, cap, _, rfl, hb, hbl.set_ i v, h1, h2, by rw [Array.size_setIfInBounds]; exact h3, ?_⟩
    rw [Array.toList_setIfInBounds, List.take_set, h4]
theorem RefAt.setData (h : RefAt w b0 B dg pg V R) {q n cap i : Nat} (hv : V.nd = .slice (some ⟨q, 0, none⟩) n cap) (hi : i < R.now.data.length) (s : ByteArray) :
    RPost w b0 B dg pg V { R with now := { R.now with data := R.now.data.set i s } } (w.setCell ⟨q, i, none⟩ (.string s)) := by
  have ho : Only [q] w (w.setCell ⟨q, i, none⟩ (.string s)) := (Only.refl _ _).own i _
  have hob : V.nd.ownBlock = some q := by rw [hv]; rfl
  have hqB : q ≠ B := h.offB (.inr (.inr (.inr (.inl hob))))
  have hnd := h.rows.nd
  have hn : n = R.now.data.length := by
    obtain ⟨_, A, c, he, _⟩ := row_form hnd
    rw [hv] at he
    injection he
  subst hn
  have hr := h.rows
  have hset : (w.setCell ⟨q, i, none⟩ (.string s)).ownsRow b0 9 1 V.nd (R.now.data.set i s).length (bsl (R.now.data.set i s)) := by
    rw [List.length_set, hv]
    rw [hv] at hnd
    have := row_set hnd hi (.string s)
    have e : (bsl R.now.data).set i (.string s) = bsl (R.now.data.set i s) := by
      unfold bsl
      rw [List.map_set]
    rw [e] at this
    exact this
  refine ⟨V, ⟨h.blk.only ho (by simpa using fun e => hqB e.symm), h.lr, h.nr, ⟨ownsRow_only hr.lp ho (fun x hx hm => ?_), ownsRow_only hr.ld ho (fun x hx hm => ?_), ownsRow_only hr.np ho (fun x hx hm => ?_), hset, ownsRow_only hr.ov ho (fun x hx hm => ?_), hr.s1, hr.s2, hr.s3⟩⟩, (KeepS.refl _ _).only ho (fun b hb => .inr (.inr (.inr (.inr (.inl (by rw [List.mem_singleton.1 hb]; exact hob)))))), fun x hx => .inl hx⟩
  · rw [List.mem_singleton.1 hm] at hx
    exact own_types hr.lp hr.nd (by decide) hx hob
  · rw [List.mem_singleton.1 hm] at hx
    exact hr.s3 q hx hob
  · rw [List.mem_singleton.1 hm] at hx
    exact own_types hr.np hr.nd (by decide) hx hob
  · rw [List.mem_singleton.1 hm] at hx
    exact own_types hr.ov hr.nd (by decide) hx hob
theorem rwrite_ok (h : RefAt w b0 B dg pg V R) (hb : R.busy = true) (hl : R.now.page.length ≤ 1000) (hll : R.now.data.length = R.now.page.length) (k : Int) (s : ByteArray) (hn : R.now.page.Nodup) {i : Nat} (hi : R.now.page[i]? = some k) (hs : s.size = 256) :
    Calls Tryz.prog 61 #[.pointer (some ⟨B, 2, none⟩), .int .i64 k, .string s] w fun e w' => e = .returned (.int .i64 0) ∧ RPost w b0 B dg pg V { R with now := { R.now with data := R.now.data.set i s } } w' := by
  have c23 := h.cells.c23
  rw [hb] at c23
  clear hb
  have hil : i < R.now.data.length := by rw [hll]; exact (List.getElem?_eq_some_iff.1 hi).1
  have HA := Lib.hid (h.at_ k hl)
  have HK := Lib.hid hi
  have HN := Lib.hid hn
  have e1 : ((s.size : Int) == 256) = true := beq_iff_eq.2 (by omega)
  have i0 : ¬ ((i : Int) < 0) := by omega
  have i1 : (i : Int) < (R.now.data.length : Int) := by omega
  have i2 : (0 : Int) ≤ (i : Int) := by omega
  have c14 := h.cells.c14
  obtain ⟨_, A, cap, hv, hcell⟩ := row_form h.rows.nd
  obtain ⟨q, hA, hc⟩ := hcell i (.string R.now.data[i]) (by unfold bsl; rw [List.getElem?_map, List.getElem?_eq_getElem hil]; rfl)
  subst hA
  rw [hv] at c14
  have hfz : w.frozen? ⟨q, i, none⟩ = false := by
    have hr := h.rows.nd
    rw [hv] at hr
    rcases hr.2 with ⟨h1, _⟩ | ⟨g, cap', cur, he, hb, hh, _⟩
    · cases h1
    · injection he with e1
      injection e1 with e1
      injection e1 with e1
      subst e1
      exact Blk.frozen (show Blk w q _ cur from hh) i
  have HP := Lib.hid (h.setData hv hil s)
  obtain ⟨m, hm⟩ : ∃ m, R.now.data.length = m := ⟨_, rfl⟩
  rw [hm] at c14 i1
  obtain ⟨old, hold⟩ : ∃ old, R.now.data[i] = old := ⟨_, rfl⟩
  rw [hold] at hc
  clear h hl hi hn hcell hv hil hll hm hold hs
  go_enter Tryz.func61, Tryz.ntmps61
  go_wp2_with fail
  (with_reducible refine HA.out.mono ?_)
  rintro e w2 ⟨⟨r, rfl, hr⟩, rfl⟩
  obtain rfl : r = (i : Int) := at_yes hr HN.out HK.out
  clear hr
  go_wp2_with fail
  go_ret
  exact ⟨rfl, HP.out⟩
theorem rset_closed (h : RefAt w b0 B dg pg V R) (hb : R.busy = false) (i k : Int) : Calls Tryz.prog 62 #[.pointer (some ⟨B, 2, none⟩), .int .i64 i, .int .i64 k] w fun e w' => e = .returned (.int .i64 90) ∧ w = w' := by
  have c23 := h.cells.c23
  rw [hb] at c23
  clear hb
  clear h
  go_enter Tryz.func62, Tryz.ntmps62
  go_wp2_with fail
  go_ret
  exact ⟨rfl, rfl⟩
theorem rset_index (h : RefAt w b0 B dg pg V R) (hb : R.busy = true) (i k : Int) (hi : i < 0 ∨ 8 ≤ i) : Calls Tryz.prog 62 #[.pointer (some ⟨B, 2, none⟩), .int .i64 i, .int .i64 k] w fun e w' => e = .returned (.int .i64 3) ∧ w = w' := by
  have c23 := h.cells.c23
  rw [hb] at c23
  clear hb
  clear h
  by_cases h1 : i < 0
  · clear hi
    go_enter Tryz.func62, Tryz.ntmps62
    go_wp2_with fail
    go_ret
    exact ⟨rfl, rfl⟩
  · have h2 : (7 : Int) < i := by omega
    clear hi
    go_enter Tryz.func62, Tryz.ntmps62
    go_wp2_with fail
    go_ret
    exact ⟨rfl, rfl⟩
theorem rset_none (h : RefAt w b0 B dg pg V R) (hb : R.busy = true) (hl : R.now.page.length ≤ 1000) (i : Nat) (hi : i < 8) (k : Int) (hk0 : k ≠ 0) (hk : k ∉ R.now.page) : Calls Tryz.prog 62 #[.pointer (some ⟨B, 2, none⟩), .int .i64 (i : Int), .int .i64 k] w fun e w' => e = .returned (.int .i64 91) ∧ w = w' := by
  have c23 := h.cells.c23
  rw [hb] at c23
  clear hb
  have HA := Lib.hid (h.at_ k hl)
  have HK := Lib.hid hk
  have i1 : ¬ ((i : Int) < 0) := by omega
  have i2 : ¬ ((7 : Int) < (i : Int)) := by omega
  have e1 : (k == 0) = false := beq_eq_false_iff_ne.2 hk0
  have e2 : (k != 0) = true := by simp [hk0]
  clear h hl hk hi
  go_enter Tryz.func62, Tryz.ntmps62
  go_wp2_with fail
  (with_reducible refine HA.out.mono ?_)
  rintro e w2 ⟨⟨r, rfl, hr⟩, rfl⟩
  obtain rfl : r = -1 := by
    rcases hr with ⟨h1, _⟩ | ⟨i, _, hi⟩
    · exact h1
    · exact absurd (List.mem_of_getElem? hi) HK.out
  clear hr
  go_wp2_with fail
  go_ret
  exact ⟨rfl, rfl⟩
theorem RefAt.setRoot (h : RefAt w b0 B dg pg V R) {i : Nat} (hi : i < 8) (x : Int) : RPost w b0 B dg pg V { R with now := { R.now with root := R.now.root.set i x } } (w.setCell ⟨B, 15 + i, none⟩ (.int .i64 x)) := by
  have ho : Only [B] w (w.setCell ⟨B, 15 + i, none⟩ (.int .i64 x)) := (Only.refl _ _).own (15 + i) _
  have hk : KeepS (fun q => q = B) w (w.setCell ⟨B, 15 + i, none⟩ (.int .i64 x)) := (KeepS.refl _ _).only ho (fun b hb => List.mem_singleton.1 hb)
  have hr := h.turn hk
  exact ⟨V, ⟨(h.blk.set_ (15 + i) _).eq_ ((bcl_set V R h.lr h.nr).2.2.2.2.2 i hi x), h.lr, by show (R.now.root.set i x).length = 8; rw [List.length_set]; exact h.nr, ⟨hr.lp, hr.ld, hr.np, hr.nd, hr.ov, hr.s1, hr.s2, hr.s3⟩⟩, keep_one _ _, fun q hq => .inl hq⟩
theorem rset_ok (h : RefAt w b0 B dg pg V R) (hb : R.busy = true) (hl : R.now.page.length ≤ 1000) (i : Nat) (hi : i < 8) (k : Int) (hk : k = 0 ∨ k ∈ R.now.page) :
    Calls Tryz.prog 62 #[.pointer (some ⟨B, 2, none⟩), .int .i64 (i : Int), .int .i64 k] w fun e w' => e = .returned (.int .i64 0) ∧ RPost w b0 B dg pg V { R with now := { R.now with root := R.now.root.set i k } } w' := by
  have c23 := h.cells.c23
  rw [hb] at c23
  clear hb
  have HA := Lib.hid (h.at_ k hl)
  have HK := Lib.hid hk
  have i1 : ¬ ((i : Int) < 0) := by omega
  have i2 : ¬ ((7 : Int) < (i : Int)) := by omega
  have i3 : (i : Int) < 8 := by omega
  have i4 : (0 : Int) ≤ (i : Int) := by omega
  have hc := h.cells.root i hi
  have hf := h.cells.fz (15 + i)
  obtain ⟨old, hold⟩ : ∃ old, R.now.root.getD i 0 = old := ⟨_, rfl⟩
  rw [hold] at hc
  have HP := Lib.hid (h.setRoot hi k)
  clear h hl hk hi hold
  by_cases hk0 : k = 0
  · subst hk0
    go_enter Tryz.func62, Tryz.ntmps62
    go_wp2_with fail
    go_ret
    exact ⟨rfl, HP.out⟩
  · have e1 : (k == 0) = false := beq_eq_false_iff_ne.2 hk0
    have e2 : (k != 0) = true := by simp [hk0]
    have HM : Hid (k ∈ R.now.page) := Lib.hid (HK.out.resolve_left hk0)
    go_enter Tryz.func62, Tryz.ntmps62
    go_wp2_with fail
    (with_reducible refine HA.out.mono ?_)
    rintro e w2 ⟨⟨r, rfl, hr⟩, rfl⟩
    obtain ⟨j, rfl⟩ : ∃ j : Nat, r = (j : Int) := by
      rcases hr with ⟨_, h1⟩ | ⟨j, h1, _⟩
      · exact absurd HM.out h1
      · exact ⟨j, h1⟩
    have i5 : ¬ ((j : Int) < 0) := by omega
    clear hr
    go_wp2_with fail
    go_ret
    exact ⟨rfl, HP.out⟩
end
end Go.Proofs.YtoleojljpaglhaaGreat
/- The contract of the reference's End that commits. -/
set_option maxRecDepth 20000
namespace Go.Proofs.YtoleojljpaglhaaGreat
open Go.RowKit
section
variable {w w' w'' : World} {b0 B dg pg : Nat} {V V' : RV} {R R' R'' : RR}
theorem ints_two (x y : Value) (a0 a1 a2 a3 a4 a5 a6 a7 : Int) : [x, y] ++ ints [a0, a1, a2, a3, a4, a5, a6, a7] = [x, y, .int .i64 a0, .int .i64 a1, .int .i64 a2, .int .i64 a3, .int .i64 a4, .int .i64 a5, .int .i64 a6, .int .i64 a7] := rfl
set_option maxHeartbeats 2000000 in
theorem rend_commit (h : RefAt w b0 B dg pg V R) (hb : R.busy = true) (hbase : b0 ≤ w.heap.size) (hl : R.now.page.length ≤ 1000) (hl2 : R.now.data.length ≤ 1000) :
    Calls Tryz.prog 51 #[.pointer (some ⟨B, 2, none⟩), .bool true] w fun e w' => e = .returned (.int .i64 0) ∧ RPost w b0 B dg pg V { R with busy := false, left := R.now } w' := by
  obtain ⟨a0, a1, a2, a3, a4, a5, a6, a7, e1⟩ := len8 h.nr
  have c23 := h.cells.c23
  rw [hb] at c23
  clear hb
  have f23 := h.cells.fz 23
  have h1 := h.setBusy false
  have hk1 : KeepS (RB B V) w (w.setCell ⟨B, 23, none⟩ (.bool false)) := keep_one 23 _
  have hrg : (w.setCell ⟨B, 23, none⟩ (.bool false)).rangeAt B 13 [V.np, V.nd, .int .i64 a0, .int .i64 a1, .int .i64 a2, .int .i64 a3, .int .i64 a4, .int .i64 a5, .int .i64 a6, .int .i64 a7] := by
    have := h1.ranges.2
    have e2 : ({ R with busy := false } : RR).now.root = [a0, a1, a2, a3, a4, a5, a6, a7] := e1
    rw [e2] at this
    exact this
  have hcp := copyState_any (r := [a0, a1, a2, a3, a4, a5, a6, a7]) h1.rows.np h1.rows.nd rfl hl hl2
  rw [stc_lit] at hcp
  have HRG := Lib.hid hrg
  have HCP := Lib.hid hcp
  have H1 := Lib.hid h1
  have HK1 := Lib.hid hk1
  have HBS := Lib.hid hbase
  have HE1 := Lib.hid e1
  have HL := Lib.hid hl
  have HL2 := Lib.hid hl2
  clear h hrg hcp h1 hk1 hbase hl hl2 e1
  go_enter Tryz.func51, Tryz.ntmps51
  go_wp2_with (refine wpList_load_mid rfl 55 (.tmp 17) rfl B 13 rfl _ _ HRG.out Tryz.underlying55 rfl (by kernel_rfl) ?_)
  (with_reducible refine HCP.out.mono ?_)
  rintro e w2 ⟨vp, vd, rfl, hp, hd, hb2⟩
  obtain ⟨_, A1, p1, rfl, _⟩ := row_form hp
  obtain ⟨_, A2, p2, rfl, _⟩ := row_form hd
  have hth := (H1.out.below hb2).there 3 (by omega)
  have hleft := H1.out.toLeft hb2 (by have := HK1.out.size; have := HBS.out; omega) hp hd
  have e2 : ({ R with busy := false } : RR).now.root = [a0, a1, a2, a3, a4, a5, a6, a7] := HE1.out
  rw [e2, ints_two] at hleft
  obtain ⟨h3, hk3⟩ := hleft
  have hrg3 : (w2.setCells B 3 [.slice A1 R.now.page.length p1, .slice A2 R.now.data.length p2, .int .i64 a0, .int .i64 a1, .int .i64 a2, .int .i64 a3, .int .i64 a4, .int .i64 a5, .int .i64 a6, .int .i64 a7]).rangeAt B 3 [.slice A1 R.now.page.length p1, .slice A2 R.now.data.length p2, .int .i64 a0, .int .i64 a1, .int .i64 a2, .int .i64 a3, .int .i64 a4, .int .i64 a5, .int .i64 a6, .int .i64 a7] := by
    have := h3.ranges.1
    have e3 : ({ ({ R with busy := false } : RR) with left := ({ R with busy := false } : RR).now } : RR).left.root = [a0, a1, a2, a3, a4, a5, a6, a7] := HE1.out
    rw [e3] at this
    exact this
  have hcp3 := copyState_any (r := [a0, a1, a2, a3, a4, a5, a6, a7]) h3.rows.lp h3.rows.ld rfl HL.out HL2.out
  rw [stc_lit] at hcp3
  have hs3 : b0 ≤ (w2.setCells B 3 [.slice A1 R.now.page.length p1, .slice A2 R.now.data.length p2, .int .i64 a0, .int .i64 a1, .int .i64 a2, .int .i64 a3, .int .i64 a4, .int .i64 a5, .int .i64 a6, .int .i64 a7]).heap.size := by
    have := hk3.size
    have := HK1.out.size
    have := HBS.out
    omega
  have HTH := Lib.hid hth
  have HRG3 := Lib.hid hrg3
  have HCP3 := Lib.hid hcp3
  have H3 := Lib.hid h3
  have HK3 := Lib.hid hk3
  have HS3 := Lib.hid hs3
  have HFR := Lib.hid (left_fresh (B := B) (V := V) hp hd)
  clear hth h3 hk3 hrg3 hcp3 hp hd hb2 c23 f23 hs3 e2
  rw [stc_lit]
  go_upto_region 6 with (refine wpList_store_mid rfl 55 (.tmp 21) (.tmp 19) rfl B 3 _ rfl rfl HTH.out (by kernel_rfl) (st_one _ _ _ _ _ _ _ _ _ _ _ _ _ _) ?_)
  obtain ⟨W3, hW3⟩ : ∃ W3, w2.setCells B 3 [.slice A1 R.now.page.length p1, .slice A2 R.now.data.length p2, .int .i64 a0, .int .i64 a1, .int .i64 a2, .int .i64 a3, .int .i64 a4, .int .i64 a5, .int .i64 a6, .int .i64 a7] = W3 := ⟨_, rfl⟩
  rw [hW3] at HRG3 HCP3 H3 HK3 HS3 ⊢
  clear hW3 HTH
  go_wp2_with (refine wpList_load_mid rfl 55 (.tmp 25) rfl B 3 rfl _ _ HRG3.out Tryz.underlying55 rfl (by kernel_rfl) ?_)
  (with_reducible refine HCP3.out.mono ?_)
  rintro e w4 ⟨vp, vd, rfl, hp, hd, hb4⟩
  obtain ⟨_, A3, p3, rfl, _⟩ := row_form hp
  obtain ⟨_, A4, p4, rfl, _⟩ := row_form hd
  have hth := (H3.out.below hb4).there 13 (by omega)
  have hnow := H3.out.toNow hb4 HS3.out hp hd
  have HTH3 := Lib.hid hth
  have HNOW := Lib.hid hnow
  have HFR3 := Lib.hid (now_fresh (B := B) (V := { V with lp := .slice A1 R.now.page.length p1, ld := .slice A2 R.now.data.length p2 }) hp hd)
  clear hth hnow hp hd hb4
  rw [stc_lit]
  go_wp2_with (refine wpList_store_mid rfl 55 (.tmp 29) (.tmp 27) rfl B 13 _ rfl rfl HTH3.out (by kernel_rfl) (st_one _ _ _ _ _ _ _ _ _ _ _ _ _ _) ?_)
  go_ret
  refine ⟨rfl, ?_⟩
  obtain ⟨hR, hK⟩ := HNOW.out
  have e3 : ({ ({ R with busy := false } : RR) with left := ({ R with busy := false } : RR).now } : RR).left.root = [a0, a1, a2, a3, a4, a5, a6, a7] := HE1.out
  rw [e3] at hR hK
  refine RPost.trans' HK1.out (fun q hq => .inl hq) (RPost.trans' HK3.out (fun q hq => HFR.out q hq) ⟨_, hR, hK, fun q hq => HFR3.out q hq⟩)
end
end Go.Proofs.YtoleojljpaglhaaGreat
