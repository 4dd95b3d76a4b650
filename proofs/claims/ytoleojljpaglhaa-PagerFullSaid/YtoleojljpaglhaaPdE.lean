/- The walk of PagerFull. -/
import Derived.Test.YtoleojljpaglhaaPdD
import Derived.Deep.CutBlock
import Derived.Deep.DeepCutAuto
namespace Go.Proofs.Ytoleojljpaglhaa
open Go.RowKit
set_option maxRecDepth 20000
def setRm (d : Vd.VD) (n : Int) : Vd.VD := { d with room := max n (-1) }
theorem proom_df {w : World} {g : Nat} {d : Vd.VD} {fp : List Nat} (h : DF w g d fp) (n : Int) (h0 : n ≤ 9223372036854775807) : Calls Try.prog 24 #[.pointer (some ⟨g, 0, none⟩), .int .i64 n] w (DPost (.tuple #[]) g (setRm d n) fp w) := by
  obtain ⟨S, M, qv, rfl, h⟩ := h
  exact (room_any h n h0).mono fun e w' ⟨he, hD, hO⟩ => ⟨he, _, ⟨S, M, qv, rfl, hD⟩, hO.mono (by simp [foot]), fun _ h => .inl h⟩
theorem prestore_df {w : World} {g : Nat} {d : Vd.VD} {fp : List Nat} (h : DF w g d fp) : Calls Try.prog 26 #[.pointer (some ⟨g, 0, none⟩)] w (DPost (.tuple #[]) g { d with on := true } fp w) := by
  obtain ⟨S, M, qv, rfl, h⟩ := h
  refine (restore_any h).mono ?_
  rintro e w' ⟨rfl, hD, hO⟩
  exact ⟨rfl, _, ⟨S, M, qv, rfl, hD⟩, ⟨hO.mono (by simp [foot]), fun b hb => .inl hb⟩⟩
section
variable {w w' : World} {pg dg i m : Nat} {last : ByteArray}
/-- the loop of PagerFull -/
structure FulL (w : World) (pg dg i m : Nat) (c : Bool) (last : ByteArray) (wr : World) : Prop where
  ex : ∃ G d L P l, PG (Up w.heap.size) w wr G d L P ∧ G.pg = pg ∧ G.dg = dg ∧ P.tx = none ∧ P.n = 40 ∧ Pb.Inv d L P l ∧ (c = true → d.room = -1) ∧ L.gen ≤ i ∧ P.sz ≤ 3 * i ∧ d.writes ≤ (m : Int) ∧ d.fuse = none ∧ txt P.pages P.roots P.sz = last
/-- a transaction is open -/
structure FulT (w : World) (pg dg i m z : Nat) (last : ByteArray) (wr : World) : Prop where
  ex : ∃ G d L P t, PG (Up w.heap.size) w wr G d L (P.with_ t) ∧ G.pg = pg ∧ G.dg = dg ∧ P.tx = none ∧ P.n = 40 ∧ Pb.Inv d L P [] ∧ Pb.TxI P t ∧ L.gen ≤ i ∧ P.sz ≤ 3 * i ∧ t.sz ≤ z ∧ d.writes ≤ (m : Int) ∧ d.fuse = none ∧ txt P.pages P.roots P.sz = last
theorem FulL.weak {c : Bool} {k : Nat} (h : FulL w pg dg i m c last w') (hk : m ≤ k) : FulL w pg dg i k false last w' := by
  obtain ⟨G, d, L, P, l, h1, h2, h3, h4, h5, h6, h7, h8, h9, h10, h11⟩ := h.ex
  exact ⟨G, d, L, P, l, h1, h2, h3, h4, h5, h6, (fun h => by cases h), h8, h9, by omega, h11⟩
theorem ful_room {c : Bool} (h : FulL w pg dg i m c last w') (n : Int) (hn : n ≤ 2000) : Calls Try.prog 24 #[.pointer (some ⟨dg, 0, none⟩), .int .i64 n] w' fun e w'' => e = .returned (.tuple #[]) ∧ FulL w pg dg i m (decide (n = -1)) last w'' := by
  obtain ⟨G, d, L, P, l, hP, rfl, rfl, htn, hnn, hI, hrm, hg, hz, hw, hf, ht⟩ := h.ex
  refine (pg_call hP (fun fp hD => proom_df hD n (by omega))).mono ?_
  rintro e w'' ⟨he, G', h1, h2, h3⟩
  exact ⟨he, G', _, L, P, l, h3, h1, h2, htn, hnn, inv_same hI rfl rfl rfl, fun hc => by have := of_decide_eq_true hc; subst this; rfl, hg, hz, hw, hf, ht⟩
theorem ful_state {c : Bool} (h : FulL w pg dg i m c last w') : Calls Try.prog 23 #[.pointer (some ⟨pg, 0, none⟩)] w' fun e w'' => e = .returned (.string last) ∧ w' = w'' := by
  obtain ⟨G, d, L, P, l, hP, rfl, rfl, htn, hnn, hI, hrm, hg, hz, hw, hf, ht⟩ := h.ex
  rw [← ht]
  exact rstate_none hP htn hI.up hI.wf hI.hn2
/-- how Begin ends here -/
def FulB (w : World) (pg dg i m : Nat) (c : Bool) (last : ByteArray) (e : Ending) (w' : World) : Prop :=
  ∃ x : Int, e = .returned (.int .i64 x) ∧ ((x = 0 ∧ FulT w pg dg i (m + 40000) (3 * i) last w') ∨ (x = 83 ∧ c = false ∧ FulL w pg dg i (m + 40000) false last w'))
theorem ful_begin {c : Bool} (h : FulL w pg dg i m c last w') (hm : m < 800000000) : Calls Try.prog 10 #[.pointer (some ⟨pg, 0, none⟩)] w' (FulB w pg dg i m c last) := by
  obtain ⟨G, d, L, P, l, hP, rfl, rfl, htn, hnn, hI, hrm, hg, hz, hw, hf, ht⟩ := h.ex
  have hl := inv_short hI
  refine (rbegin_any hP htn hI (by omega)).mono ?_
  rintro e w'' ⟨x, G', d', he, h1, h2, hr, h3⟩
  have hwr := hr.wr
  refine ⟨x, he, ?_⟩
  rcases h3 with ⟨rfl, h3, h4⟩ | ⟨rfl, h3, h4, h5⟩ | ⟨_, h3, _⟩
  · exact .inl ⟨rfl, G', d', L, { P with todo := [] }, freshT P, h3, h1, h2, htn, hnn, h4, Pb.TxI.fresh (P := { P with todo := [] }) h4.wf, hg, hz, hz, by omega, hr.fuse hf, ht⟩
  · refine .inr ⟨rfl, ?_, G', d', L, P, l, h3, h1, h2, htn, hnn, h4, (fun h => by cases h), hg, hz, by omega, hr.fuse hf, ht⟩
    cases c with
    | false => rfl
    | true => exact absurd (hrm rfl) h5
  · exact absurd hf h3
theorem ful_apply {z : Nat} (h : FulT w pg dg i m z last w') (hz : z < 27) (c : ChV) (v : Int) : Calls Try.prog 25 #[.pointer (some ⟨pg, 0, none⟩), .agg #[.int .i64 c.al, .int .i64 c.fr, .int .i64 c.wr, .int .i64 c.rt], .int .i64 v] w' fun e w'' => e = .returned (.bool true) ∧ FulT w pg dg i m (z + 3) last w'' := by
  obtain ⟨G, d, L, P, t, hP, rfl, rfl, htn, hn, hI, hT, hg, hz0, hz, hw, hf, ht⟩ := h.ex
  refine (apply_any hP hT hI.hn hI.hn2 (by omega) c.al c.fr c.wr c.rt v).mono ?_
  rintro e w'' ⟨he, t', hT', hz', hP'⟩
  exact ⟨he, G, d, L, P, t', hP', rfl, rfl, htn, hn, hI, hT', hg, hz0, by omega, hw, hf, ht⟩
/-- how Commit ends here -/
def FulC (w : World) (pg dg i m : Nat) (last next : ByteArray) (e : Ending) (w' : World) : Prop :=
  ∃ x : Int, e = .returned (.int .i64 x) ∧ ((x = 0 ∧ FulL w pg dg (i + 1) m false next w') ∨ (x = 83 ∧ FulL w pg dg (i + 1) m false last w'))
theorem ful_commit (h : FulT w pg dg i m (3 * i + 3) last w') (hi : i < 8) (hm : m < 800000000) : ∃ next,
    (Calls Try.prog 23 #[.pointer (some ⟨pg, 0, none⟩)] w' fun e w'' => e = .returned (.string next) ∧ w' = w'') ∧
    Calls Try.prog 14 #[.pointer (some ⟨pg, 0, none⟩)] w' (FulC w pg dg i (m + 480) last next) := by
  obtain ⟨G, d, L, P, t, hP, rfl, rfl, htn, hn, hI, hT, hg, hz0, hz, hw, hf, ht⟩ := h.ex
  refine ⟨_, rstate_with hP hI.up hT hI.hn2, (rcommit_any hP htn hI hT (by omega) (by omega)).mono ?_⟩
  rintro e w'' ⟨x, G', d', L', P', he, h1, h2, h3, h4, h5, h6, hr, hres⟩
  have hwr := hr.wr
  rw [hn] at hwr
  refine ⟨x, he, ?_⟩
  rcases hres with ⟨rfl, k1, k2, k3, l, k4, k5⟩ | ⟨rfl, rfl, k1, _⟩ | ⟨_, _, k⟩
  · exact .inl ⟨rfl, G', d', L', P', l, h3, h1, h2, h4, h5.trans hn, k4, (fun h => by cases h), by omega, by omega, by omega, hr.fuse hf, by rw [k1, k2, k3]⟩
  · exact .inr ⟨rfl, G', d', L', P', [], h3, h1, h2, htn, hn, k1, (fun h => by cases h), by omega, by omega, by omega, hr.fuse hf, ht⟩
  · exact absurd hf k
/-- the disk has lost power and has it again -/
structure FulE (w : World) (pg dg : Nat) (on : Bool) (last : ByteArray) (wr : World) : Prop where
  ex : ∃ G d L P, PG (Up w.heap.size) w wr G d L P ∧ G.pg = pg ∧ G.dg = dg ∧ P.tx = none ∧ P.up = true ∧ P.n = 40 ∧ Pb.Wf 40 P.pages P.roots P.sz ∧ Pb.Rec d.secs 40 P.pages P.roots ∧ d.q = [] ∧ 480 ≤ d.secs.length ∧ d.on = on ∧ d.writes ≤ 10000000 ∧ d.fuse = none ∧ txt P.pages P.roots P.sz = last
theorem ful_crash {c : Bool} (h : FulL w pg dg i m c last w') (hm : m ≤ 10000000) : Calls Try.prog 22 #[.pointer (some ⟨dg, 0, none⟩), .int .i64 0, .int .i64 0] w' fun e w'' => e = .returned (.tuple #[]) ∧ FulE w pg dg false last w'' := by
  obtain ⟨G, d, L, P, l, hP, rfl, rfl, htn, hnn, hI, hrm, hg, hz, hw, hf, ht⟩ := h.ex
  obtain ⟨ho, hr⟩ := hI.safe.crash 0 0
  have hwr := hr.wr
  have hlen : 480 ≤ (Vd.crash d 0 0).secs.length := by rw [hr.len]; have := hI.len; omega
  have hk := hI.wf
  rw [hnn] at ho hk
  refine (pg_call hP (fun fp hD => crash_any hD 0 0)).mono ?_
  rintro e w'' ⟨he, G', h1, h2, h3⟩
  exact ⟨he, G', _, L, P, h3, h1, h2, htn, hI.up, hnn, hk, ho.2.2, ho.2.1, hlen, ho.1, by omega, hr.fuse hf, ht⟩
theorem ful_restore {b : Bool} (h : FulE w pg dg b last w') : Calls Try.prog 26 #[.pointer (some ⟨dg, 0, none⟩)] w' fun e w'' => e = .returned (.tuple #[]) ∧ FulE w pg dg true last w'' := by
  obtain ⟨G, d, L, P, hP, rfl, rfl, htn, hu, hnn, hk, hR, hq, hl, hon, hw, hf, ht⟩ := h.ex
  refine (pg_call hP (fun fp hD => prestore_df hD)).mono ?_
  rintro e w'' ⟨he, G', h1, h2, h3⟩
  exact ⟨he, G', _, L, P, h3, h1, h2, htn, hu, hnn, hk, hR, hq, hl, rfl, hw, hf, ht⟩
/-- how the second Open ends -/
def FulO (w : World) (pg : Nat) (last : ByteArray) (e : Ending) (w' : World) : Prop :=
  ∃ q, e = .returned (.tuple #[.pointer (some ⟨q, 0, none⟩), .int .i64 0]) ∧ Hid (Calls Try.prog 7 #[] w' fun e w1 => e = .returned (.bool true) ∧
    Hid (Calls Try.prog 23 #[.pointer (some ⟨q, 0, none⟩)] w1 fun e w2 => e = .returned (.string last) ∧ w1 = w2) ∧
    Hid (Calls Try.prog 23 #[.pointer (some ⟨pg, 0, none⟩)] w1 fun e w2 => e = .returned (.string last) ∧ w1 = w2) ∧ Hid (Below w.heap.size w w1))
theorem ful_end (h : FulE w pg dg true last w') : Calls Try.prog 24 #[.pointer (some ⟨dg, 0, none⟩), .int .i64 (-1)] w' fun e w'' => e = .returned (.tuple #[]) ∧ Hid (Calls Try.prog 9 #[.pointer (some ⟨dg, 0, none⟩), .int .i64 40] w'' (FulO w pg last)) := by
  obtain ⟨G, d, L, P, hP, rfl, rfl, htn, hu, hnn, hk, hR, hq, hl, hon, hw, hf, ht⟩ := h.ex
  refine (pg_call hP (fun fp hD => proom_df hD (-1) (by omega))).mono ?_
  rintro e w'' ⟨he, G', h1, h2, h3⟩
  refine ⟨he, Lib.hid ?_⟩
  have hrd : Rdy (fun f r z => txt f r z = last) (setRm d (-1)) := ⟨⟨P.pages, P.roots, P.sz, ht, hk, hR⟩, hq, hl, rfl⟩
  have hdk : DK (fun k => k ∈ G'.fp ∨ w''.heap.size ≤ k) w'' G.dg (setRm d (-1)) w'' := ⟨⟨G'.fp, by rw [← h2]; exact h3.log.disk, fun b hb => .inl hb⟩, KeepS.refl _ _, fun k hk => .inr hk⟩
  refine (ropen_any hdk hrd hon (by show d.writes < _; omega)).mono ?_
  rintro e w1 (⟨Gq, Lq, d1, f, roots, sz, he, hg, hPq, hA, hkq, _, hh⟩ | ⟨_, _, _, hfu, _⟩)
  · refine ⟨Gq.pg, he, Lib.hid ?_⟩
    have hDq := hPq.log.disk
    rw [hg, ← h2] at hDq
    have hPp := h3.beside hPq.log.bel hDq (fun k hk => hk) hPq.log.low
    refine (palive_any w1).mono ?_
    rintro e w2 ⟨he, hb⟩
    have hq2 := hPq.later hb
    have hp2 := hPp.later hb
    refine ⟨he, Lib.hid ?_, Lib.hid ?_, Lib.hid (keepS_below hp2.log.bel)⟩
    · have := rstate_none hq2 rfl rfl hkq (by show 40 ≤ 5000; omega)
      rw [← hA]
      exact this
    · have := rstate_none hp2 htn hu (by rw [hnn]; exact hk) (by rw [hnn]; omega)
      rw [← ht, ← h1]
      exact this
  · exact absurd hf hfu
set_option maxRecDepth 20000 in
set_option maxHeartbeats 4000000 in
theorem pagerFull_in (A : Option Addr) (n cap : Nat) (cs : List ChV) (room : Int) (w : World) (hA : ChsAt w A n cs) (hn : n ≤ 8) (hr0 : 0 ≤ room) (hr : room ≤ 2000) :
    Calls Try.prog 5 #[.slice A n cap, .int .i64 room] w fun e w' => e = .returned (.bool true) ∧ Below w.heap.size w w' := by
  have hN : Calls Try.prog 8 #[.int .i64 480] w fun e w' => e = .returned (.tuple #[.pointer (some ⟨w.heap.size + 2, 0, none⟩), .int .i64 0]) ∧ DiskAt w' (w.heap.size + 2) w.heap.size (w.heap.size + 1) (.slice none 0 0) (newVD 480) ∧ Below w.heap.size w w' := new_in 480 w (by omega) (by omega)
  have HN := Lib.hid hN
  have HA := Lib.hid hA
  have HNN := Lib.hid hn
  have HR := Lib.hid hr
  have HR0 := Lib.hid hr0
  have i1 : (n : Int) ≤ 8 := by omega
  have i2 : ¬ room < 0 := by omega
  have i3 : room ≤ 2000 := hr
  clear hN hA hn hr hr0
  go_enter Try.func5, Try.ntmps5
  go_wp2_with fail
  (with_reducible refine HN.out.mono ?_)
  rintro e w1 ⟨rfl, hD, hb1⟩
  have hdk : DK (Up w.heap.size) w (w.heap.size + 2) (newVD 480) w1 := ⟨⟨_, wnew_df hD, by simp [Up]⟩, KeepS.ofBelow hb1, fun _ h => h⟩
  have HO := Lib.hid (ropen_new (by omega) hdk)
  clear hD hb1 hdk
  go_wp2_with fail
  (with_reducible refine HO.out.mono ?_)
  rintro e w2 ⟨G, L, d, rfl, hg, hg0, hP, hI, hr⟩
  have HL0 : Hid (FulL w G.pg (w.heap.size + 2) 0 0 true (txt noPg zroots 0) w2) := Lib.hid ⟨G, d, L, _, [], hP, rfl, hg, rfl, rfl, hI, fun _ => hr.room rfl, by rw [hg0]; omega, Nat.le_refl _, by have := hr.wr; simpa [newVD] using this, hr.fuse rfl, rfl⟩
  clear hg hg0 hP hI hr
  obtain ⟨l0, hl0⟩ : ∃ l0, txt noPg zroots 0 = l0 := ⟨_, rfl⟩
  rw [hl0] at HL0
  clear hl0
  have HST := Lib.hid (ful_state HL0.out)
  go_wp2_with fail
  (with_reducible refine HST.out.mono ?_)
  rintro e w4 ⟨rfl, rfl⟩
  clear HST
  have HL1 := Lib.hid (HL0.out.weak (Nat.le_refl _))
  clear HL0
  go_wp2_with fail
  go_loopw [9, 10] (fun s9 s10 wr => ∃ (last : ByteArray) (i : Nat), s9 = .string last ∧ s10 = .int .i64 (i : Int) ∧ i ≤ n ∧ Hid (FulL w G.pg (w.heap.size + 2) i (100000 * i) false last wr)) (fun _ i _ => n - (intOf i).toNat)
  case atStart => exact ⟨_, 0, rfl, rfl, Nat.zero_le _, HL1⟩
  case round =>
    obtain ⟨last, i, rfl, rfl, hin, hL⟩ := hrel
    by_cases hlt : i < n
    · have i4 : (i : Int) < (n : Int) := by omega
      have i8 : i < 8 := by have := HNN.out; omega
      have HLT := Lib.hid hlt
      have H8 := Lib.hid i8
      clear hlt hin i8
      go_upto_if 46 with fail
      go_cut [11] (fun _ wx => Hid (FulL w G.pg (w.heap.size + 2) i (100000 * i) false last wx))
      case first =>
        by_cases hi1 : (i : Int) = 1
        · have e1 : ((i : Int) == 1) = true := beq_iff_eq.2 hi1
          clear hi1
          have HRM := Lib.hid (ful_room hL.out room HR.out)
          go_wp2_with fail
          (with_reducible refine HRM.out.mono ?_)
          rintro e w5 ⟨rfl, h5⟩
          have H5 := Lib.hid (h5.weak (Nat.le_refl _))
          clear h5
          go_wp2_with fail
          go_meet
          case rel => exact H5
        · have e1 : ((i : Int) == 1) = false := beq_eq_false_iff_ne.2 hi1
          clear hi1
          go_wp2_with fail
          go_meet
          case rel => exact hL
      case rest =>
      have HBG := Lib.hid (ful_begin hcut.out (by have := H8.out; omega))
      clear hcut hL
      go_upto_if 53 with fail
      (with_reducible refine HBG.out.mono ?_)
      rintro e w5 ⟨x, rfl, hx⟩
      have HX := Lib.hid hx
      clear hx HBG
      go_upto_if 53 with fail
      go_cut [11] (fun s11 wx => s11 = .int .i64 0 ∧ Hid (FulT w G.pg (w.heap.size + 2) i (100000 * i + 80000) (3 * i) last wx))
      case first =>
        rcases HX.out with ⟨rfl, hT⟩ | ⟨rfl, _, hL⟩
        · have HT : Hid (FulT w G.pg (w.heap.size + 2) i (100000 * i + 80000) (3 * i) last w5) := Lib.hid (by
            obtain ⟨G', d', L', P', t', h1, h2, h3, h4, h5, h6, h7, h8, h9, h10, h11, h12⟩ := hT.ex
            exact ⟨G', d', L', P', t', h1, h2, h3, h4, h5, h6, h7, h8, h9, h10, by omega, h12⟩)
          clear hT
          go_wp2_with fail
          go_meet
          case rel => exact ⟨rfl, HT⟩
        · have HST := Lib.hid (ful_state hL)
          have HRM := Lib.hid (ful_room hL (-1) (by omega))
          clear hL
          go_wp2_with fail
          (with_reducible refine HST.out.mono ?_)
          rintro e w6 ⟨rfl, rfl⟩
          go_wp2_with fail
          (with_reducible refine HRM.out.mono ?_)
          rintro e w7 ⟨rfl, h7⟩
          have HBG := Lib.hid (ful_begin h7 (by have := H8.out; omega))
          clear h7
          go_wp2_with fail
          (with_reducible refine HBG.out.mono ?_)
          rintro e w8 ⟨y, rfl, hy⟩
          rcases hy with ⟨rfl, hT⟩ | ⟨_, hc, _⟩
          · have HT := Lib.hid hT
            clear hT
            go_wp2_with fail
            go_meet
            case rel => exact ⟨rfl, HT⟩
          · cases hc
      case rest =>
      obtain ⟨rfl, HT⟩ := hcut
      clear HX
      have hT := HT.out
      have hlen : i < cs.length := by rw [HA.out.1]; exact HLT.out
      obtain ⟨ad, hA, hab, hcell⟩ := HA.out.2.2 i hlen
      subst hA
      obtain ⟨c, hc⟩ : ∃ c, cs[i] = c := ⟨_, rfl⟩
      rw [hc] at hcell
      have hk : ∀ W, FulT w G.pg (w.heap.size + 2) i (100000 * i + 80000) (3 * i) last W → ∀ j v, (c.cells)[j]? = some v → W.cell? ((ad.add (i * 4)).add j) = some v := fun W hW j v hj => by
        have h1 := hcell j v hj
        obtain ⟨G', _, _, _, _, hP, _⟩ := hW.ex
        have h2 := hP.log.bel.block ad.block hab (fun h => by have : w.heap.size ≤ ad.block := h; omega)
        rw [addr_add_add, cell_heap_eq (w := w) (p := ad.add (i * 4 + j)) (by rw [addr_add_block]; exact h2)]
        exact h1
      have hk5 := hk wc hT
      have m0 : wc.cell? (ad.add (i * 4)) = some (.int .i64 c.al) := hk5 0 _ rfl
      have m1 : wc.cell? ⟨(ad.add (i * 4)).block, (ad.add (i * 4)).off + 1, none⟩ = some (.int .i64 c.fr) := hk5 1 _ rfl
      have m2 : wc.cell? ⟨(ad.add (i * 4)).block, (ad.add (i * 4)).off + 2, none⟩ = some (.int .i64 c.wr) := hk5 2 _ rfl
      have m3 : wc.cell? ⟨(ad.add (i * 4)).block, (ad.add (i * 4)).off + 3, none⟩ = some (.int .i64 c.rt) := hk5 3 _ rfl
      have HAP := Lib.hid (fun v => ful_apply hT (by have := H8.out; omega) c v)
      clear hk hk5 hcell hab hlen hc hT HT
      go_wp2_with fail
      (with_reducible refine (HAP.out _).mono ?_)
      rintro e w6 ⟨rfl, hT⟩
      obtain ⟨nx, hst, hcm⟩ := ful_commit hT H8.out (by have := H8.out; omega)
      have HST := Lib.hid hst
      have HCM := Lib.hid hcm
      clear hst hcm hT m0 m1 m2 m3
      go_wp2_with fail
      (with_reducible refine HST.out.mono ?_)
      rintro e w7 ⟨rfl, rfl⟩
      go_wp2_with fail
      (with_reducible refine HCM.out.mono ?_)
      rintro e w8 ⟨x, rfl, ⟨rfl, hL8⟩ | ⟨rfl, hL8⟩⟩
      · have HL8 := Lib.hid (hL8.weak (k := 100000 * (i + 1)) (by omega))
        clear hL8
        go_wp2_with fail
        go_roundw
        case rel => exact ⟨nx, i + 1, rfl, by go_num, by have := HLT.out; omega, HL8⟩
        case measure => have := HLT.out; simp [intOf]; omega
      · have HST8 := Lib.hid (ful_state hL8)
        have HL8 := Lib.hid (hL8.weak (k := 100000 * (i + 1)) (by omega))
        clear hL8
        go_wp2_with fail
        (with_reducible refine HST8.out.mono ?_)
        rintro e w9 ⟨rfl, rfl⟩
        go_wp2_with fail
        go_roundw
        case rel => exact ⟨last, i + 1, rfl, by go_num, by have := HLT.out; omega, HL8⟩
        case measure => have := HLT.out; simp [intOf]; omega
    · have i4 : ¬ (i : Int) < (n : Int) := by omega
      have HC := Lib.hid (ful_crash hL.out (by have := HNN.out; omega))
      clear hlt hin hL
      go_wp2_with fail
      (with_reducible refine HC.out.mono ?_)
      rintro e w5 ⟨rfl, h5⟩
      have HRE := Lib.hid (ful_restore h5)
      clear h5
      go_wp2_with fail
      (with_reducible refine HRE.out.mono ?_)
      rintro e w6 ⟨rfl, h6⟩
      have HRM := Lib.hid (ful_end h6)
      clear h6
      go_wp2_with fail
      (with_reducible refine HRM.out.mono ?_)
      rintro e w7 ⟨rfl, HO⟩
      go_wp2_with fail
      (with_reducible refine HO.out.mono ?_)
      rintro e w8 ⟨q, rfl, HAL⟩
      go_wp2_with fail
      (with_reducible refine HAL.out.mono ?_)
      rintro e w9 ⟨rfl, HS1, HS2, HB⟩
      go_wp2_with fail
      (with_reducible refine HS1.out.mono ?_)
      rintro e w10 ⟨rfl, rfl⟩
      go_wp2_with fail
      (with_reducible refine HS2.out.mono ?_)
      rintro e w11 ⟨rfl, rfl⟩
      go_wp2_with fail
      go_ret
      exact ⟨rfl, HB.out⟩
set_option maxRecDepth 20000 in
theorem pagerFull_out (A : Option Addr) (n cap : Nat) (room : Int) (w : World) (h : 8 < n ∨ room < 0 ∨ 2000 < room) :
    Calls Try.prog 5 #[.slice A n cap, .int .i64 room] w fun e w' => e = .returned (.bool true) ∧ Below w.heap.size w w' := by
  have HAL := Lib.hid (palive_any w)
  by_cases h1 : 8 < n
  · have i1 : (8 : Int) < (n : Int) := by omega
    clear h
    go_enter Try.func5, Try.ntmps5
    go_wp2_with fail
    (with_reducible refine HAL.out.mono ?_)
    rintro e w1 ⟨rfl, hb⟩
    go_wp2_with fail
    go_ret
    exact ⟨rfl, hb⟩
  · have i1 : (n : Int) ≤ 8 := by omega
    by_cases h2 : room < 0
    · clear h
      go_enter Try.func5, Try.ntmps5
      go_wp2_with fail
      (with_reducible refine HAL.out.mono ?_)
      rintro e w1 ⟨rfl, hb⟩
      go_wp2_with fail
      go_ret
      exact ⟨rfl, hb⟩
    · have h3 : 2000 < room := by omega
      clear h
      go_enter Try.func5, Try.ntmps5
      go_wp2_with fail
      (with_reducible refine HAL.out.mono ?_)
      rintro e w1 ⟨rfl, hb⟩
      go_wp2_with fail
      go_ret
      exact ⟨rfl, hb⟩
theorem pagerFull_walk (v : Value) (room : Int) (w : World) (h : ∃ A n cap cs, v = .slice A n cap ∧ ChsAt w A n cs) :
    Calls Try.prog 5 #[v, .int .i64 room] w fun e w' => e = .returned (.bool true) ∧ Below w.heap.size w w' := by
  obtain ⟨A, n, cap, cs, rfl, hA⟩ := h
  by_cases hn : 8 < n ∨ room < 0 ∨ 2000 < room
  · exact pagerFull_out A n cap room w hn
  · exact pagerFull_in A n cap cs room w hA (by omega) (by omega) (by omega)
end
end Go.Proofs.Ytoleojljpaglhaa
