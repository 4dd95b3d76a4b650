/- The walk of PagerCut. -/
import Derived.Test.YtoleojljpaglhaaPdA
import Derived.Deep.CutBlock
namespace Go.Proofs.Ytoleojljpaglhaa
open Go.RowKit
set_option maxRecDepth 20000
theorem pfuse_df {w : World} {g : Nat} {d : Vd.VD} {fp : List Nat} (h : DF w g d fp) (n keep torn : Int) (h0 : n ≤ 9223372036854775807) : Calls Try.prog 27 #[.pointer (some ⟨g, 0, none⟩), .int .i64 n, .int .i64 keep, .int .i64 torn] w (DPost (.tuple #[]) g (setFuse d n keep torn) fp w) := by
  obtain ⟨S, M, qv, rfl, h⟩ := h
  exact (fuse_any h n keep torn h0).mono fun e w' ⟨he, hD, hO⟩ => ⟨he, _, ⟨S, M, qv, rfl, hD⟩, hO.mono (by simp [foot]), fun _ h => .inl h⟩
/-- a change, as it is written -/
structure ChV where
  al : Int
  fr : Int
  wr : Int
  rt : Int
def ChV.cells (c : ChV) : Array Value := #[.int .i64 c.al, .int .i64 c.fr, .int .i64 c.wr, .int .i64 c.rt]
/-- the changes in memory -/
def ChsAt (w : World) (A : Option Addr) (n : Nat) (cs : List ChV) : Prop :=
  cs.length = n ∧ n ≤ maxLen ∧ ∀ t, (h : t < cs.length) → ∃ ad, A = some ad ∧ ad.block < w.heap.size ∧ ∀ j v, (cs[t].cells)[j]? = some v → w.cell? (ad.add (t * 4 + j)) = some v
theorem keepS_below {w w' : World} (h : KeepS (Up w.heap.size) w w') : Below w.heap.size w w' := ⟨h.os, h.tape, h.output, h.size, fun k hk => h.block k hk (fun hu => by have : w.heap.size ≤ k := hu; omega)⟩
theorem cell_heap_eq {w W : World} {p : Addr} (h : W.heap[p.block]? = w.heap[p.block]?) : W.cell? p = w.cell? p := by unfold World.cell?; rw [h]
theorem addr_add_add (a : Addr) (i j : Nat) : (a.add i).add j = a.add (i + j) := by
  unfold Addr.add
  by_cases hi : i = 0 <;> by_cases hj : j = 0 <;> simp [hi, hj, Nat.add_assoc]
theorem addr_add_block (a : Addr) (n : Nat) : (a.add n).block = a.block := by unfold Addr.add; split <;> rfl
section
variable {S : Nat → Prop} {w0 w w' : World} {G : PH} {d d' : Vd.VD} {L L' : Wa.WL} {P : PP} {t : PT} {l : List (Nat × List UInt8)}
theorem inv_same (h : Pb.Inv d L P l) (h1 : d'.secs = d.secs) (h2 : d'.q = d.q) (h3 : d'.on = d.on) : Pb.Inv d' L P l := by
  have hs : ∀ Φ, Pb.Safe Φ d → Pb.Safe Φ d' := fun Φ hs => ⟨by rw [h3]; exact hs.1, fun k t hk ht => by rw [h1, h2]; exact hs.2 k t (by rw [← h2]; exact hk) ht⟩
  refine ⟨h.hn, h.hn2, h.up, h.wf, by rw [h1]; exact h.len, by rw [h1, h2]; exact h.z, h.fr, h.ln, h.used, h.recs, by rw [h1, h2]; exact h.st, h.todo, ?_⟩
  rcases h.body with ⟨k1, k2, k3⟩ | ⟨ch, ga, k1, k2, k3⟩
  · exact .inl ⟨k1, by rw [h1, h2]; exact k2, hs _ k3⟩
  · exact .inr ⟨ch, ga, k1, k2, hs _ k3⟩
/-- the loop of PagerCut -/
structure CutL (w : World) (pg dg : Nat) (i : Nat) (last : ByteArray) (wr : World) : Prop where
  ex : ∃ G d L P, PG (Up w.heap.size) w wr G d L P ∧ G.pg = pg ∧ G.dg = dg ∧ P.tx = none ∧ P.n = 40 ∧ Pb.Inv d L P [] ∧ d.room = -1 ∧ L.gen ≤ i ∧ P.sz ≤ 3 * i ∧ d.writes ≤ 1000 * i ∧ txt P.pages P.roots P.sz = last
/-- behind the loop -/
structure CutA (w : World) (dg : Nat) (last next : ByteArray) (wr : World) : Prop where
  ex : ∃ d f roots sz, DK (Up w.heap.size) w dg d wr ∧ (txt f roots sz = last ∨ txt f roots sz = next) ∧ Pb.Wf 40 f roots sz ∧ (Pb.Safe (fun s => Pb.Rec s 40 f roots) d ∨ Pb.Off (fun s => Pb.Rec s 40 f roots) d) ∧ d.room = -1 ∧ 480 ≤ d.secs.length ∧ d.writes ≤ 20000
/-- a transaction is open -/
structure CutT (w : World) (pg dg : Nat) (i : Nat) (last : ByteArray) (m : Nat) (wr : World) : Prop where
  ex : ∃ G d L P t, PG (Up w.heap.size) w wr G d L (P.with_ t) ∧ G.pg = pg ∧ G.dg = dg ∧ P.tx = none ∧ P.n = 40 ∧ Pb.Inv d L P [] ∧ Pb.TxI P t ∧ d.room = -1 ∧ L.gen ≤ i ∧ t.sz ≤ m ∧ d.writes ≤ 1000 * i ∧ txt P.pages P.roots P.sz = last
theorem cut_begin {pg dg i : Nat} {last : ByteArray} (h : CutL w pg dg i last w') (hi : i ≤ 8) : Calls Try.prog 10 #[.pointer (some ⟨pg, 0, none⟩)] w' fun e w'' => e = .returned (.int .i64 0) ∧ CutT w pg dg i last (3 * i) w'' := by
  obtain ⟨G, d, L, P, hP, rfl, rfl, htn, hn, hI, hrm, hg, hz, hw, ht⟩ := h.ex
  refine (rbegin_any hP htn hI (by omega)).mono ?_
  rintro e w'' ⟨c, G', d', he, h1, h2, hr, (⟨rfl, h3, h4⟩ | ⟨_, _, _, h3⟩ | ⟨_, _, h3⟩)⟩
  · exact ⟨he, G', d', L, { P with todo := [] }, freshT P, h3, h1, h2, htn, hn, h4, Pb.TxI.fresh (P := { P with todo := [] }) h4.wf, hr.room hrm, hg, hz, by have := hr.wr; simp at this; omega, ht⟩
  · exact absurd hrm h3
  · exact absurd rfl h3
theorem cut_apply {pg dg i : Nat} {last : ByteArray} (h : CutT w pg dg i last (3 * i) w') (hi : i < 8) (c : ChV) (v : Int) : Calls Try.prog 25 #[.pointer (some ⟨pg, 0, none⟩), .agg #[.int .i64 c.al, .int .i64 c.fr, .int .i64 c.wr, .int .i64 c.rt], .int .i64 v] w' fun e w'' => e = .returned (.bool true) ∧ CutT w pg dg i last (3 * i + 3) w'' := by
  obtain ⟨G, d, L, P, t, hP, rfl, rfl, htn, hn, hI, hT, hrm, hg, hz, hw, ht⟩ := h.ex
  refine (apply_any hP hT hI.hn hI.hn2 (by omega) c.al c.fr c.wr c.rt v).mono ?_
  rintro e w'' ⟨he, t', hT', hz', hP'⟩
  exact ⟨he, G, d, L, P, t', hP', rfl, rfl, htn, hn, hI, hT', hrm, hg, by omega, hw, ht⟩
/-- how Commit ends here -/
def CutC (w : World) (pg dg i : Nat) (last next : ByteArray) (e : Ending) (w' : World) : Prop := (e = .returned (.int .i64 0) ∧ CutL w pg dg (i + 1) next w') ∨ (e = .returned (.int .i64 80) ∧ CutA w dg last next w')
theorem cut_commit {pg dg i : Nat} {last : ByteArray} (h : CutT w pg dg i last (3 * i + 3) w') (hi : i < 8) : ∃ next,
    (Calls Try.prog 23 #[.pointer (some ⟨pg, 0, none⟩)] w' fun e w'' => e = .returned (.string next) ∧ w' = w'') ∧
    Calls Try.prog 14 #[.pointer (some ⟨pg, 0, none⟩)] w' (CutC w pg dg i last next) := by
  obtain ⟨G, d, L, P, t, hP, rfl, rfl, htn, hn, hI, hT, hrm, hg, hz, hw, ht⟩ := h.ex
  refine ⟨_, rstate_with hP hI.up hT hI.hn2, (rcommit_any hP htn hI hT (by omega) (by omega)).mono ?_⟩
  rintro e w'' ⟨c, G', d', L', P', he, h1, h2, h3, h4, h5, h6, hr, hres⟩
  have hwr := hr.wr
  rcases hres with ⟨rfl, k1, k2, k3, l, k4, k5⟩ | ⟨_, _, _, k⟩ | ⟨rfl, ho, _⟩
  · have hl := k5 hrm
    rw [hl] at k4
    exact .inl ⟨he, G', d', L', P', h3, h1, h2, h4, h5.trans hn, k4, hr.room hrm, by omega, by omega, by omega, by rw [k1, k2, k3]⟩
  · exact absurd hrm k
  · refine .inr ⟨he, ?_⟩
    have hlen : 480 ≤ d'.secs.length := by rw [hr.len]; have := hI.len; omega
    have hdk := h3.dk
    rw [h2] at hdk
    have hw1 := hI.wf
    have hw2 := hT.ok.wf
    rw [hn] at hw1 hw2 ho
    rcases ho.2.2 with k | k
    · exact ⟨d', P.pages, P.roots, P.sz, hdk, .inl ht, hw1, .inr ⟨ho.1, ho.2.1, k⟩, hr.room hrm, hlen, by omega⟩
    · exact ⟨d', t.pages, t.roots, t.sz, hdk, .inr rfl, hw2, .inr ⟨ho.1, ho.2.1, k⟩, hr.room hrm, hlen, by omega⟩
theorem cut_end {pg dg i : Nat} {last next : ByteArray} (h : CutL w pg dg i last w') (hi : i ≤ 8) : CutA w dg last next w' := by
  obtain ⟨G, d, L, P, hP, _, rfl, htn, hn, hI, hrm, hg, hz, hw, ht⟩ := h.ex
  have hw1 := hI.wf
  have hs := hI.safe
  have hl := hI.len
  rw [hn] at hw1 hs hl
  exact ⟨d, P.pages, P.roots, P.sz, hP.dk, .inl ht, hw1, .inl hs, hrm, by omega, by omega⟩
set_option maxRecDepth 20000 in
set_option maxHeartbeats 4000000 in
theorem pagerCut_in (A : Option Addr) (n cap : Nat) (cs : List ChV) (fuse keep torn again : Int) (w : World) (hA : ChsAt w A n cs) (hn : n ≤ 8) (hf0 : 0 ≤ fuse) (hf : fuse ≤ 9223372036854775807) (ha : again ≤ 9223372036854775807) :
    Calls Try.prog 6 #[.slice A n cap, .int .i64 fuse, .int .i64 keep, .int .i64 torn, .int .i64 again] w fun e w' => e = .returned (.bool true) ∧ Below w.heap.size w w' := by
  have hN : Calls Try.prog 8 #[.int .i64 480] w fun e w' => e = .returned (.tuple #[.pointer (some ⟨w.heap.size + 2, 0, none⟩), .int .i64 0]) ∧ DiskAt w' (w.heap.size + 2) w.heap.size (w.heap.size + 1) (.slice none 0 0) (newVD 480) ∧ Below w.heap.size w w' := new_in 480 w (by omega) (by omega)
  have HN := Lib.hid hN
  have HA := Lib.hid hA
  have HNN := Lib.hid hn
  have HF := Lib.hid hf
  have HF0 := Lib.hid hf0
  have HAG := Lib.hid ha
  have i1 : (n : Int) ≤ 8 := by omega
  have i2 : ¬ fuse < 0 := by omega
  clear hN hA hn hf hf0 ha
  go_enter Try.func6, Try.ntmps6
  go_wp2_with fail
  (with_reducible refine HN.out.mono ?_)
  rintro e w1 ⟨rfl, hD, hb1⟩
  have hdk : DK (Up w.heap.size) w (w.heap.size + 2) (newVD 480) w1 := ⟨⟨_, wnew_df hD, by simp [Up]⟩, KeepS.ofBelow hb1, fun _ h => h⟩
  have HO := Lib.hid (ropen_new (by omega) hdk)
  clear hD hb1 hdk
  go_wp2_with fail
  (with_reducible refine HO.out.mono ?_)
  rintro e w2 ⟨G, L, d, rfl, hg, hg0, hP, hI, hr⟩
  have hFu : Calls Try.prog 27 #[.pointer (some ⟨w.heap.size + 2, 0, none⟩), .int .i64 fuse, .int .i64 keep, .int .i64 torn] w2 fun e w' => e = .returned (.tuple #[]) ∧ ∃ G', G'.pg = G.pg ∧ G'.dg = G.dg ∧ PG (Up w.heap.size) w w' G' (setFuse d fuse keep torn) L (openedP 40 noPg 0 zroots) := by
    rw [← hg]
    exact pg_call hP (fun fp hD => pfuse_df hD fuse keep torn HF.out)
  have hI2 : Pb.Inv (setFuse d fuse keep torn) L (openedP 40 noPg 0 zroots) [] := inv_same hI rfl rfl rfl
  have hrm : (setFuse d fuse keep torn).room = -1 := hr.room rfl
  have hwr : (setFuse d fuse keep torn).writes ≤ 0 := by have := hr.wr; simpa [setFuse, newVD] using this
  have HFU := Lib.hid hFu
  have HI2 := Lib.hid hI2
  have HRM := Lib.hid hrm
  have HWR := Lib.hid hwr
  have HG := Lib.hid hg
  have HG0 := Lib.hid hg0
  clear hFu hI2 hrm hwr hg hg0 hP hI hr
  go_wp2_with fail
  (with_reducible refine HFU.out.mono ?_)
  rintro e w3 ⟨rfl, G3, hp3, hg3, h3⟩
  have hst : Calls Try.prog 23 #[.pointer (some ⟨G.pg, 0, none⟩)] w3 fun e w' => e = .returned (.string (txt noPg zroots 0)) ∧ w3 = w' := by
    rw [← hp3]
    exact rstate_none h3 rfl rfl (wf_none 40) (by show 40 ≤ 5000; omega)
  have HST := Lib.hid hst
  have HL0 : Hid (CutL w G.pg (w.heap.size + 2) 0 (txt noPg zroots 0) w3) := Lib.hid ⟨G3, _, L, _, h3, hp3, by rw [hg3]; exact HG.out, rfl, rfl, HI2.out, HRM.out, by rw [HG0.out]; omega, Nat.le_refl _, by simpa using HWR.out, rfl⟩
  clear hst hp3 hg3 h3
  go_wp2_with fail
  (with_reducible refine HST.out.mono ?_)
  rintro e w4 ⟨rfl, rfl⟩
  clear HST HFU HI2 HRM HWR
  obtain ⟨l0, hl0⟩ : ∃ l0, txt noPg zroots 0 = l0 := ⟨_, rfl⟩
  rw [hl0] at HL0 ⊢
  clear hl0
  go_upto_block 0 with fail
  go_cut [15, 16] (fun s15 s16 wx => ∃ last next, s15 = .string last ∧ s16 = .string next ∧ CutA w (w.heap.size + 2) last next wx)
  case first =>
    go_wp2_with fail
    go_loopw [15, 16, 17] (fun s15 s16 s17 wr => ∃ (last next : ByteArray) (i : Nat), s15 = .string last ∧ s16 = .string next ∧ s17 = .int .i64 (i : Int) ∧ i ≤ n ∧ Hid (CutL w G.pg (w.heap.size + 2) i last wr)) (fun _ _ i _ => n - (intOf i).toNat)
    case atStart => exact ⟨_, _, 0, rfl, rfl, rfl, Nat.zero_le _, HL0⟩
    case round =>
      obtain ⟨last, next, i, rfl, rfl, rfl, hin, hL⟩ := hrel
      by_cases hlt : i < n
      · have HBG := Lib.hid (cut_begin hL.out (by have := HNN.out; omega))
        have i3 : (i : Int) < (n : Int) := by omega
        have HLT := Lib.hid hlt
        clear hlt hin
        go_wp2_with fail
        (with_reducible refine HBG.out.mono ?_)
        rintro e w5 ⟨rfl, hT⟩
        have hlen : i < cs.length := by rw [HA.out.1]; exact HLT.out
        obtain ⟨ad, hA, hab, hcell⟩ := HA.out.2.2 i hlen
        subst hA
        obtain ⟨c, hc⟩ : ∃ c, cs[i] = c := ⟨_, rfl⟩
        rw [hc] at hcell
        have hk : ∀ W, CutT w G.pg (w.heap.size + 2) i last (3 * i) W → ∀ j v, (c.cells)[j]? = some v → W.cell? ((ad.add (i * 4)).add j) = some v := fun W hW j v hj => by
          have h1 := hcell j v hj
          obtain ⟨G', _, _, _, _, hP, _⟩ := hW.ex
          have h2 := hP.log.bel.block ad.block hab (fun h => by have : w.heap.size ≤ ad.block := h; omega)
          rw [addr_add_add, cell_heap_eq (w := w) (p := ad.add (i * 4 + j)) (by rw [addr_add_block]; exact h2)]
          exact h1
        have hk5 := hk w5 hT
        have m0 : w5.cell? (ad.add (i * 4)) = some (.int .i64 c.al) := hk5 0 _ rfl
        have m1 : w5.cell? ⟨(ad.add (i * 4)).block, (ad.add (i * 4)).off + 1, none⟩ = some (.int .i64 c.fr) := hk5 1 _ rfl
        have m2 : w5.cell? ⟨(ad.add (i * 4)).block, (ad.add (i * 4)).off + 2, none⟩ = some (.int .i64 c.wr) := hk5 2 _ rfl
        have m3 : w5.cell? ⟨(ad.add (i * 4)).block, (ad.add (i * 4)).off + 3, none⟩ = some (.int .i64 c.rt) := hk5 3 _ rfl
        have i8 : i < 8 := by have := HNN.out; have := HLT.out; omega
        have HAP := Lib.hid (fun v => cut_apply hT i8 c v)
        have H8 := Lib.hid i8
        clear hk hk5 hcell hab hlen hc hT i8
        go_wp2_with fail
        (with_reducible refine (HAP.out _).mono ?_)
        rintro e w6 ⟨rfl, hT⟩
        obtain ⟨nx, hst, hcm⟩ := cut_commit hT H8.out
        have HST := Lib.hid hst
        have HCM := Lib.hid hcm
        clear hst hcm hT m0 m1 m2 m3
        go_wp2_with fail
        (with_reducible refine HST.out.mono ?_)
        rintro e w7 ⟨rfl, rfl⟩
        go_wp2_with fail
        (with_reducible refine HCM.out.mono ?_)
        rintro e w8 (⟨rfl, hL8⟩ | ⟨rfl, hA8⟩)
        · have HL8 := Lib.hid hL8
          clear hL8
          go_wp2_with fail
          go_roundw
          case rel => exact ⟨nx, nx, i + 1, rfl, rfl, by go_num, by have := HLT.out; omega, HL8⟩
          case measure => have := HLT.out; simp [intOf]; omega
        · have HA8 := Lib.hid hA8
          clear hA8
          go_wp2_with fail
          go_meet
          case rel => exact ⟨last, nx, rfl, rfl, HA8.out⟩
      · have i3 : ¬ (i : Int) < (n : Int) := by omega
        have HE := Lib.hid (cut_end (next := next) hL.out (by have := HNN.out; omega))
        clear hlt hin hL
        go_wp2_with fail
        go_meet
        case rel => exact ⟨last, next, rfl, rfl, HE.out⟩
  case rest =>
  obtain ⟨last, next, rfl, rfl, hcA⟩ := hcut
  obtain ⟨d1, f1, r1, z1, hdk, htx, hk, hs, hrm, hlen, hw⟩ := hcA.ex
  obtain ⟨Q, hQ⟩ : ∃ Q : (Int → Option ByteArray) → List Int → Nat → Prop, Q = fun f r z => txt f r z = last ∨ txt f r z = next := ⟨_, rfl⟩
  have hq1 : Q f1 r1 z1 := by rw [hQ]; exact htx
  have hrdy : ∀ d', Pb.Off (fun s => Pb.Rec s 40 f1 r1) d' → d'.room = -1 → 480 ≤ d'.secs.length → Rdy Q d' := fun d' ho h1 h2 => ⟨⟨f1, r1, z1, hq1, hk, ho.2.2⟩, ho.2.1, h2, h1⟩
  have HON : Hid (Calls Try.prog 28 #[.pointer (some ⟨w.heap.size + 2, 0, none⟩)] wc fun e w' => e = .returned (.bool d1.on) ∧ wc = w') := Lib.hid (by
    obtain ⟨fp, hD, _⟩ := hdk.ex
    exact on_df hD)
  have HDK := Lib.hid hdk
  have HS := Lib.hid hs
  have HRM := Lib.hid hrm
  have HLEN := Lib.hid hlen
  have HW := Lib.hid hw
  have HRDY := Lib.hid hrdy
  have HQ := Lib.hid hQ
  clear hcA hdk htx hk hs hrm hlen hw hrdy hq1 hQ HA
  go_upto_if 88 with fail
  (with_reducible refine HON.out.mono ?_)
  rintro e w5 ⟨rfl, rfl⟩
  go_upto_if 88 with fail
  go_cut [18] (fun _ wx => ∃ d2, DK (Up w.heap.size) w (w.heap.size + 2) d2 wx ∧ Rdy Q d2 ∧ d2.writes ≤ 20000)
  case first =>
    cases hon : d1.on with
    | true =>
      have hsafe : Pb.Safe (fun s => Pb.Rec s 40 f1 r1) d1 := by
        rcases HS.out with h | h
        · exact h
        · have := h.1; rw [hon] at this; cases this
      obtain ⟨ho, hr⟩ := hsafe.crash keep torn
      have HR := Lib.hid (HRDY.out _ ho (hr.room HRM.out) (by rw [hr.len]; exact HLEN.out))
      have HWR : Hid ((Vd.crash d1 keep torn).writes ≤ 20000) := Lib.hid (by have := hr.wr; have := HW.out; omega)
      have HC := Lib.hid (dk_call HDK.out (fun fp hD => crash_any hD keep torn))
      clear hsafe ho hr
      go_wp2_with fail
      (with_reducible refine HC.out.mono ?_)
      rintro e w5 ⟨rfl, hdk⟩
      have HD5 := Lib.hid hdk
      clear hdk
      go_wp2_with fail
      go_meet
      case rel => exact ⟨_, HD5.out, HR.out, HWR.out⟩
    | false =>
      have hoff : Pb.Off (fun s => Pb.Rec s 40 f1 r1) d1 := by
        rcases HS.out with h | h
        · have := h.1; rw [hon] at this; cases this
        · exact h
      have HR := Lib.hid (HRDY.out _ hoff HRM.out HLEN.out)
      clear hoff
      go_wp2_with fail
      go_meet
      case rel => exact ⟨_, HDK.out, HR.out, HW.out⟩
  case rest =>
  clear HON HS HRM HLEN HW HRDY HDK
  obtain ⟨d2, hdk, hrd, hw⟩ := hcut
  have hre := dk_restore hdk
  have HRE := Lib.hid hre
  have hrd2 : Rdy Q (setFuse { d2 with on := true } (-1) 0 0) := ⟨hrd.ex, hrd.q, hrd.len, hrd.room⟩
  have HRD2 := Lib.hid hrd2
  have HW2 := Lib.hid hw
  clear hdk hrd hw hre hrd2
  go_wp2_with fail
  (with_reducible refine HRE.out.mono ?_)
  rintro e w5 ⟨rfl, hdk⟩
  have HFU2 := Lib.hid (dk_call hdk (fun fp hD => pfuse_df hD (-1) 0 0 (by omega)))
  clear hdk
  go_wp2_with fail
  (with_reducible refine HFU2.out.mono ?_)
  rintro e w6 ⟨rfl, hdk⟩
  have HD6 := Lib.hid hdk
  clear hdk HRE HFU2
  obtain ⟨d3, hd3⟩ : ∃ d3, setFuse { d2 with on := true } (-1) 0 0 = d3 := ⟨_, rfl⟩
  have hon3 : d3.on = true := by rw [← hd3]; rfl
  have hfu3 : d3.fuse = none := by rw [← hd3]; rfl
  have hwr3 : d3.writes ≤ 20000 := by rw [← hd3]; exact HW2.out
  rw [hd3] at HRD2 HD6
  have HON3 := Lib.hid hon3
  have HFU3 := Lib.hid hfu3
  have HWR3 := Lib.hid hwr3
  clear hd3 hon3 hfu3 hwr3 HW2
  go_upto_if 98 with fail
  go_cut [19, 20] (fun _ _ wx => ∃ d4, DK (Up w.heap.size) w (w.heap.size + 2) d4 wx ∧ Rdy Q d4 ∧ d4.on = true ∧ d4.fuse = none ∧ d4.writes ≤ 70000)
  case first =>
    by_cases hag : 0 ≤ again
    · have HFU4 := Lib.hid (dk_call HD6.out (fun fp hD => pfuse_df hD again keep torn HAG.out))
      have hrd4 : Rdy Q (setFuse d3 again keep torn) := ⟨HRD2.out.ex, HRD2.out.q, HRD2.out.len, HRD2.out.room⟩
      have HRD4 := Lib.hid hrd4
      clear hrd4
      go_wp2_with fail
      (with_reducible refine HFU4.out.mono ?_)
      rintro e w7 ⟨rfl, hdk⟩
      have HOP := Lib.hid (ropen_any hdk HRD4.out HON3.out (by have := HWR3.out; show d3.writes < _; omega))
      clear hdk
      go_wp2_with fail
      (with_reducible refine HOP.out.mono ?_)
      have hback : ∀ d' w', DK (Up w.heap.size) w (w.heap.size + 2) d' w' → Rdy Q d' → d'.writes ≤ 70000 → Calls Try.prog 26 #[.pointer (some ⟨w.heap.size + 2, 0, none⟩)] w' fun e w'' => e = .returned (.tuple #[]) ∧ Calls Try.prog 27 #[.pointer (some ⟨w.heap.size + 2, 0, none⟩), .int .i64 (-1), .int .i64 0, .int .i64 0] w'' fun e w3 => e = .returned (.tuple #[]) ∧ Hid (∃ d4, DK (Up w.heap.size) w (w.heap.size + 2) d4 w3 ∧ Rdy Q d4 ∧ d4.on = true ∧ d4.fuse = none ∧ d4.writes ≤ 70000) := fun d' w' h1 h2 h3 => by
        refine (dk_restore h1).mono ?_
        rintro e w'' ⟨he, hdk⟩
        refine ⟨he, (dk_call hdk (fun fp hD => pfuse_df hD (-1) 0 0 (by omega))).mono ?_⟩
        rintro e w3 ⟨he, hdk⟩
        exact ⟨he, Lib.hid ⟨_, hdk, ⟨h2.ex, h2.q, h2.len, h2.room⟩, rfl, rfl, h3⟩⟩
      have HBACK := Lib.hid hback
      clear hback
      rintro e w8 (⟨G4, L4, d4, f4, r4, z4, rfl, hg4, hP4, hq4, hk4, hr4, hh4⟩ | ⟨d4, rfl, hdk4, _, hrd4, _, hr4⟩)
      · obtain ⟨ho, hrc⟩ := hh4.safe.crash keep torn
        have hrr := hr4.trans hrc
        have hdk4 := hP4.dk
        rw [hg4] at hdk4
        have hw4 := hrr.wr
        have hw3 := HWR3.out
        have HC := Lib.hid (dk_call hdk4 (fun fp hD => crash_any hD keep torn))
        have hrd5 : Rdy Q (Vd.crash d4 keep torn) := ⟨⟨f4, r4, z4, hq4, hk4, ho.2.2⟩, ho.2.1, by rw [hrr.len]; exact HRD4.out.len, hrr.room HRD4.out.room⟩
        have hw5 : (Vd.crash d4 keep torn).writes ≤ 70000 := by
          have : (setFuse d3 again keep torn).writes = d3.writes := rfl
          omega
        have HRD5 := Lib.hid hrd5
        have HW5 := Lib.hid hw5
        clear ho hrc hrr hdk4 hw4 hw3 hrd5 hw5 hg4 hP4 hq4 hk4 hr4 hh4
        go_wp2_with fail
        (with_reducible refine HC.out.mono ?_)
        rintro e w9 ⟨rfl, hdk⟩
        have HRE := Lib.hid (HBACK.out _ _ hdk HRD5.out HW5.out)
        clear hdk
        go_wp2_with fail
        (with_reducible refine HRE.out.mono ?_)
        rintro e w10 ⟨rfl, hfu⟩
        have HFU := Lib.hid hfu
        clear hfu
        go_wp2_with fail
        (with_reducible refine HFU.out.mono ?_)
        rintro e w11 ⟨rfl, hend⟩
        go_wp2_with fail
        go_meet
        case rel => exact hend.out
      · have hw5 : d4.writes ≤ 70000 := by
          have h1 := hr4.wr
          have h2 := HWR3.out
          have : (setFuse d3 again keep torn).writes = d3.writes := rfl
          omega
        have HRE := Lib.hid (HBACK.out _ _ hdk4 hrd4 hw5)
        clear hdk4 hrd4 hw5 hr4
        go_wp2_with fail
        (with_reducible refine HRE.out.mono ?_)
        rintro e w10 ⟨rfl, hfu⟩
        have HFU := Lib.hid hfu
        clear hfu
        go_wp2_with fail
        (with_reducible refine HFU.out.mono ?_)
        rintro e w11 ⟨rfl, hend⟩
        go_wp2_with fail
        go_meet
        case rel => exact hend.out
    · have hag2 : again < 0 := by omega
      go_wp2_with fail
      go_meet
      case rel => exact ⟨_, HD6.out, HRD2.out, HON3.out, HFU3.out, by have := HWR3.out; omega⟩
  case rest =>
  clear HD6 HRD2 HON3 HFU3 HWR3
  obtain ⟨d4, hdk, hrd, hon, hfu, hwr⟩ := hcut
  have HOP := Lib.hid (ropen_any hdk hrd hon (by omega))
  have HRD := Lib.hid hrd
  have HFU := Lib.hid hfu
  have HWR := Lib.hid hwr
  clear hdk hrd hon hfu hwr
  go_wp2_with fail
  (with_reducible refine HOP.out.mono ?_)
  rintro e w7 (⟨G4, L4, d5, f4, r4, z4, rfl, hg4, hP4, hq4, hk4, hr4, hh4⟩ | ⟨_, _, _, hfu, _⟩)
  · have hst := rstate_none hP4 rfl rfl hk4 (by show 40 ≤ 5000; omega)
    have HST : Hid (Calls Try.prog 23 #[.pointer (some ⟨G4.pg, 0, none⟩)] w7 fun e w' => e = .returned (.string (txt f4 r4 z4)) ∧ w7 = w') := Lib.hid hst
    obtain ⟨s4, hs4⟩ : ∃ s4, txt f4 r4 z4 = s4 := ⟨_, rfl⟩
    have hdk5 := hP4.dk
    rw [hg4] at hdk5
    have hrd5 : Rdy (fun f r z => txt f r z = s4) d5 := ⟨⟨f4, r4, z4, hs4, hk4, hh4.safe.secs⟩, hh4.q, by rw [hr4.len]; exact HRD.out.len, hr4.room HRD.out.room⟩
    have HOP2 := Lib.hid (ropen_any hdk5 hrd5 hh4.on (by have := hr4.wr; have := HWR.out; omega))
    have hq5 : s4 = last ∨ s4 = next := by rw [HQ.out] at hq4; rw [← hs4]; exact hq4
    have HQ5 := Lib.hid hq5
    have HF5 := Lib.hid (hr4.fuse HFU.out)
    rw [hs4] at HST
    clear hst hdk5 hrd5 hq5 hg4 hP4 hq4 hk4 hr4 hh4 hs4
    go_wp2_with fail
    (with_reducible refine HST.out.mono ?_)
    rintro e w8 ⟨rfl, rfl⟩
    go_wp2_with fail
    (with_reducible refine HOP2.out.mono ?_)
    rintro e w9 (⟨G6, L6, d6, f6, r6, z6, rfl, hg6, hP6, hq6, hk6, hr6, hh6⟩ | ⟨_, _, _, hfu, _⟩)
    · have hal := palive_any w9
      have HAL : Hid (Calls Try.prog 7 #[] w9 fun e w' => e = .returned (.bool true) ∧ Hid (Calls Try.prog 23 #[.pointer (some ⟨G6.pg, 0, none⟩)] w' fun e w'' => e = .returned (.string s4) ∧ w' = w'') ∧ Hid (Below w.heap.size w w')) := Lib.hid (by
        refine hal.mono ?_
        rintro e w' ⟨he, hb⟩
        have h7 := hP6.later hb
        refine ⟨he, Lib.hid ?_, Lib.hid (keepS_below h7.log.bel)⟩
        rw [← hq6]
        exact rstate_none h7 rfl rfl hk6 (by show 40 ≤ 5000; omega))
      clear hal hg6 hP6 hq6 hk6 hr6 hh6
      by_cases hsl : s4 = last
      · subst hsl
        go_wp2_with fail
        (with_reducible refine HAL.out.mono ?_)
        rintro e w10 ⟨rfl, HS6, HB6⟩
        go_wp2_with fail
        (with_reducible refine HS6.out.mono ?_)
        rintro e w11 ⟨rfl, rfl⟩
        go_wp2_with fail
        go_ret
        exact ⟨rfl, HB6.out⟩
      · have hsn : s4 = next := HQ5.out.resolve_left hsl
        subst hsn
        have hne := str_ne hsl
        clear hsl
        go_wp2_with fail
        (with_reducible refine HAL.out.mono ?_)
        rintro e w10 ⟨rfl, HS6, HB6⟩
        go_wp2_with fail
        (with_reducible refine HS6.out.mono ?_)
        rintro e w11 ⟨rfl, rfl⟩
        go_wp2_with fail
        go_ret
        exact ⟨rfl, HB6.out⟩
    · exact absurd HF5.out hfu
  · exact absurd HFU.out hfu
set_option maxRecDepth 20000 in
theorem pagerCut_long (A : Option Addr) (n cap : Nat) (fuse keep torn again : Int) (w : World) (hn : 8 < n) :
    Calls Try.prog 6 #[.slice A n cap, .int .i64 fuse, .int .i64 keep, .int .i64 torn, .int .i64 again] w fun e w' => e = .returned (.bool true) ∧ Below w.heap.size w w' := by
  have i1 : (8 : Int) < (n : Int) := by omega
  have i2 : 8 < n := hn
  have HAL := Lib.hid (palive_any w)
  clear hn
  go_enter Try.func6, Try.ntmps6
  go_wp2_with fail
  (with_reducible refine HAL.out.mono ?_)
  rintro e w1 ⟨rfl, hb⟩
  go_wp2_with fail
  go_ret
  exact ⟨rfl, hb⟩
set_option maxRecDepth 20000 in
set_option maxHeartbeats 1000000 in
theorem pagerCut_neg (A : Option Addr) (n cap : Nat) (fuse keep torn again : Int) (w : World) (hn : n ≤ 8) (hf : fuse < 0) :
    Calls Try.prog 6 #[.slice A n cap, .int .i64 fuse, .int .i64 keep, .int .i64 torn, .int .i64 again] w fun e w' => e = .returned (.bool true) ∧ Below w.heap.size w w' := by
  have hN : Calls Try.prog 8 #[.int .i64 480] w fun e w' => e = .returned (.tuple #[.pointer (some ⟨w.heap.size + 2, 0, none⟩), .int .i64 0]) ∧ DiskAt w' (w.heap.size + 2) w.heap.size (w.heap.size + 1) (.slice none 0 0) (newVD 480) ∧ Below w.heap.size w w' := new_in 480 w (by omega) (by omega)
  have HN := Lib.hid hN
  have i1 : (n : Int) ≤ 8 := by omega
  clear hN hn
  go_enter Try.func6, Try.ntmps6
  go_wp2_with fail
  (with_reducible refine HN.out.mono ?_)
  rintro e w1 ⟨rfl, hD, hb1⟩
  have hdk : DK (Up w.heap.size) w (w.heap.size + 2) (newVD 480) w1 := ⟨⟨_, wnew_df hD, by simp [Up]⟩, KeepS.ofBelow hb1, fun _ h => h⟩
  have HO := Lib.hid (ropen_new (by omega) hdk)
  clear hD hb1 hdk
  go_wp2_with fail
  (with_reducible refine HO.out.mono ?_)
  rintro e w2 ⟨G, L, d, rfl, hg, hg0, hP, hI, hr⟩
  have HAL : Hid (Calls Try.prog 7 #[] w2 fun e w' => e = .returned (.bool true) ∧ Below w.heap.size w w') := Lib.hid ((palive_any w2).mono fun e w' ⟨he, hb⟩ => ⟨he, keepS_below (hP.later hb).log.bel⟩)
  clear hg hg0 hP hI hr
  go_wp2_with fail
  (with_reducible refine HAL.out.mono ?_)
  rintro e w3 ⟨rfl, hb⟩
  go_wp2_with fail
  go_ret
  exact ⟨rfl, hb⟩
theorem pagerCut_walk (v : Value) (fuse keep torn again : Int) (w : World) (h : ∃ A n cap cs, v = .slice A n cap ∧ ChsAt w A n cs) (hf : fuse ≤ 9223372036854775807) (ha : again ≤ 9223372036854775807) :
    Calls Try.prog 6 #[v, .int .i64 fuse, .int .i64 keep, .int .i64 torn, .int .i64 again] w fun e w' => e = .returned (.bool true) ∧ Below w.heap.size w w' := by
  obtain ⟨A, n, cap, cs, rfl, hA⟩ := h
  by_cases hn : 8 < n
  · exact pagerCut_long A n cap fuse keep torn again w hn
  · by_cases h0 : fuse < 0
    · exact pagerCut_neg A n cap fuse keep torn again w (by omega) h0
    · exact pagerCut_in A n cap cs fuse keep torn again w hA (by omega) (by omega) hf ha
end
end Go.Proofs.Ytoleojljpaglhaa
