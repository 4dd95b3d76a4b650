/- The contract of Commit. -/
import Derived.Test.YtoleojljpaglhaaGreatPcD
import Derived.Test.YtoleojljpaglhaaGreatPcB
import Derived.Test.YtoleojljpaglhaaGreatPaR
namespace Go.Proofs.YtoleojljpaglhaaGreat
open Go.RowKit Go.Maps
set_option maxRecDepth 20000
section
variable {S : Nat → Prop} {w0 w w' : World} {G : PH} {d d' : Vd.VD} {L L' : Wa.WL} {P : PP} {t : PT}
/-- Sync of the log, whatever the disk does -/
theorem lsync_gen {dg lg : Nat} {fp : List Nat} {rv : Value} (h : LG S w0 w dg d lg L fp rv) : Calls Tryz.prog 100 #[.pointer (some ⟨lg, 0, none⟩)] w fun e w' => e = .returned (.int .i64 (Vd.sync d).1) ∧ ∃ fp', LG S w0 w' dg (Vd.sync d).2 lg L fp' rv := by
  obtain ⟨c0, c1, c2, c3, c4, c5, c6, fz⟩ := h.cells
  have H := Lib.hid (none_any h.blk)
  have HS := Lib.hid (sync_any h.disk)
  have HH := Lib.hid h
  clear h
  go_enter Tryz.func100, Tryz.ntmps100
  go_wp2_with fail
  (with_reducible refine H.out.mono ?_)
  rintro e w1 ⟨rfl, rfl⟩
  go_wp2_with fail
  (with_reducible refine HS.out.mono ?_)
  rintro e w2 hp
  obtain ⟨rfl, fp2, h2, _⟩ := HH.out.called hp
  have H2 := Lib.hid h2
  clear hp h2 c0 c1 c2 c3 c4 c5 c6 fz
  go_wp2_with fail
  go_ret
  exact ⟨rfl, _, H2.out⟩
theorem pcommit_closed (h : PG S w0 w G d L P) (ht : P.tx = none) : Calls Tryz.prog 50 #[.pointer (some ⟨G.pg, 0, none⟩)] w fun e w' => e = .returned (.int .i64 90) ∧ Below w.heap.size w w' := by
  have hB : Below w.heap.size w (w.alloc (.cells #[.pointer (some ⟨G.pg, 0, none⟩)] 29)) := (Below.refl _ _).alloc (Nat.le_refl _) _
  have h1 := h.later hB
  have H := Lib.hid (pnone_any h1)
  have ct := h1.cells.ct
  rw [ht] at ct
  have ct2 : (w.alloc (.cells #[.pointer (some ⟨G.pg, 0, none⟩)] 29)).cell? ⟨G.pg, 12, none⟩ = some (.pointer none) := ct
  have HB := Lib.hid hB
  clear h h1 hB ht ct
  go_enter Tryz.func50, Tryz.ntmps50
  go_wp2_with fail
  (with_reducible refine H.out.mono ?_)
  rintro e w1 ⟨rfl, rfl⟩
  go_wp2_with fail
  go_ret
  exact ⟨rfl, HB.out⟩
/-- the log behind Append -/
def apL (L : Wa.WL) (x : Int) (s : ByteArray) : Wa.WL := if x = 0 then { L with used := L.used + (Wa.pieces s.data.toList).length, recs := L.recs ++ [s.data.toList] } else { L with op := false }
/-- what the literal leaves -/
def ApPost (S : Nat → Prop) (w0 : World) (G : PH) (P : PP) (_s : ByteArray) (d' : Vd.VD) (L' : Wa.WL) (x : Int) (e : Ending) (w' : World) : Prop := e = .returned (.int .i64 x) ∧ ∃ fp' rv', PG S w0 w' { G with fp := fp', rv := rv' } d' L' P
/-- the literal that appends the record -/
theorem commit1_any (h : PG S w0 w G d L P) (bx rx : Nat) (hb : w.cell? ⟨bx, 0, none⟩ = some (.pointer (some ⟨G.pg, 0, none⟩))) (s : ByteArray) (hr : w.cell? ⟨rx, 0, none⟩ = some (.string s)) (hk : Wok L) (hop : L.op = true) (hon : d.on = true) (hs : s.size ≤ 140737488351232)
    (hf : L.used + (Wa.pieces s.data.toList).length ≤ L.n) (hl : L.fr + L.n ≤ d.secs.length) (hw : d.writes + L.n < 900000000) (hrl : L.recs.length < 65536) :
    Calls Tryz.prog 98 #[.pointer (some ⟨bx, 0, none⟩), .pointer (some ⟨rx, 0, none⟩)] w (ApPost S w0 G P s (Pb.wrSeq d (Wa.sq L.fr L.gen L.used (Wa.kinded (Wa.pieces s.data.toList)))).2 (apL L (Pb.wrSeq d (Wa.sq L.fr L.gen L.used (Wa.kinded (Wa.pieces s.data.toList)))).1 s) (Pb.wrSeq d (Wa.sq L.fr L.gen L.used (Wa.kinded (Wa.pieces s.data.toList)))).1) := by
  have hd := h.drew
  have hap := append_any hd.log.rebase hk hop hon s hs hf hl hw hrl
  have HAP := Lib.hid hap
  have HD := Lib.hid hd
  have c1 : w.cell? ⟨G.pg, 1, none⟩ = some (.pointer (some ⟨G.lg, 0, none⟩)) := h.cells.c1
  obtain ⟨x, hx⟩ : ∃ x, (Pb.wrSeq d (Wa.sq L.fr L.gen L.used (Wa.kinded (Wa.pieces s.data.toList)))).1 = x := ⟨_, rfl⟩
  have HX := Lib.hid hx
  clear h hd hap hk hop hon hs hf hl hw hrl hx
  go_enter Tryz.func98, Tryz.ntmps98
  go_wp2_with fail
  go_region_law (go_simp; go_at_call 99; ((with_reducible refine HAP.out.mono ?_)); rintro e w5 ⟨rfl, fp', rv', h5⟩)
  all_goals
    have H5 := Lib.hid (HD.out.use h5)
    clear h5
    (try go_wp2_with fail)
    go_ret
    exact ⟨ret_one rfl, fp', rv', H5.out⟩
/-- a pager and its log and disk, wherever they lie -/
def PgX (S : Nat → Prop) (w0 : World) (G : PH) (d : Vd.VD) (L : Wa.WL) (P : PP) (w : World) : Prop := ∃ G', G'.pg = G.pg ∧ G'.dg = G.dg ∧ G'.lg = G.lg ∧ PG S w0 w G' d L P
theorem preset_any (h : PgX S w0 G d L P w) (hon : d.on = true) (hg : L.gen < 4294967295) : Calls Tryz.prog 97 #[.pointer (some ⟨G.lg, 0, none⟩)] w fun e w' => e = .returned (.int .i64 0) ∧ PgX S w0 G d { L with gen := L.gen + 1, op := true, used := 0, recs := [] } P w' := by
  obtain ⟨G', h1, h2, h3, h4⟩ := h
  have := reset_any h4.log.rebase hon hg
  rw [← h3]
  refine this.mono ?_
  rintro e w' ⟨he, hL⟩
  exact ⟨he, { G' with rv := .slice none 0 0 }, h1, h2, h3, h4.use hL⟩
theorem psync_any (h : PgX S w0 G d L P w) : Calls Tryz.prog 100 #[.pointer (some ⟨G.lg, 0, none⟩)] w fun e w' => e = .returned (.int .i64 (Vd.sync d).1) ∧ PgX S w0 G (Vd.sync d).2 L P w' := by
  obtain ⟨G', h1, h2, h3, h4⟩ := h
  have := lsync_gen h4.log.rebase
  rw [← h3]
  refine this.mono ?_
  rintro e w' ⟨he, fp', hL⟩
  exact ⟨he, { G' with fp := fp' }, h1, h2, h3, h4.use hL⟩
theorem pcommit1_any (h : PgX S w0 G d L P w) (bx rx : Nat) (hb : w.cell? ⟨bx, 0, none⟩ = some (.pointer (some ⟨G.pg, 0, none⟩))) (s : ByteArray) (hr : w.cell? ⟨rx, 0, none⟩ = some (.string s)) (hk : Wok L) (hop : L.op = true) (hon : d.on = true) (hs : s.size ≤ 140737488351232)
    (hf : L.used + (Wa.pieces s.data.toList).length ≤ L.n) (hl : L.fr + L.n ≤ d.secs.length) (hw : d.writes + L.n < 900000000) (hrl : L.recs.length < 65536) :
    Calls Tryz.prog 98 #[.pointer (some ⟨bx, 0, none⟩), .pointer (some ⟨rx, 0, none⟩)] w fun e w' => e = .returned (.int .i64 (Pb.wrSeq d (Wa.sq L.fr L.gen L.used (Wa.kinded (Wa.pieces s.data.toList)))).1) ∧ PgX S w0 G (Pb.wrSeq d (Wa.sq L.fr L.gen L.used (Wa.kinded (Wa.pieces s.data.toList)))).2 (apL L (Pb.wrSeq d (Wa.sq L.fr L.gen L.used (Wa.kinded (Wa.pieces s.data.toList)))).1 s) P w' := by
  obtain ⟨G', h1, h2, h3, h4⟩ := h
  rw [← h1] at hb
  refine (commit1_any h4 bx rx hb s hr hk hop hon hs hf hl hw hrl).mono ?_
  rintro e w' ⟨he, fp', rv', hP⟩
  exact ⟨he, { G' with fp := fp', rv := rv' }, h1, h2, h3, hP⟩
/-- what Commit tells, and leaves -/
def CmR (S : Nat → Prop) (w0 : World) (G : PH) (d : Vd.VD) (L : Wa.WL) (P : PP) (t : PT) (e : Ending) (w' : World) : Prop :=
  (e = .returned (.int .i64 0) ∧ PG S w0 w' G d L P ∧ t.pages = P.pages ∧ t.sz = P.sz ∧ t.roots = P.roots) ∨
  ∃ ch, Pb.Chg P t ch ∧ ch.length ≤ P.n - 8 ∧ ∃ G', G'.pg = G.pg ∧ G'.dg = G.dg ∧ e = .returned (.int .i64 (Pb.commitV d L P t ch).1) ∧ PG S w0 w' G' (Pb.commitV d L P t ch).2.1 (Pb.commitV d L P t ch).2.2.1 (Pb.commitV d L P t ch).2.2.2
theorem with_end (P : PP) (t : PT) (h : P.tx = none) : ({ P.with_ t with tx := none } : PP) = P := by
  cases P
  simp only [PP.with_] at h ⊢
  rw [h]
theorem inv_wok {d : Vd.VD} {L : Wa.WL} {P : PP} {l : List (Nat × List UInt8)} (h : Pb.Inv d L P l) (hg : L.gen < 256) : Wok L := by
  have h1 := h.fr
  have h2 := h.ln
  have h3 := h.hn2
  have h4 := h.used
  have h5 := h.recs
  exact ⟨by omega, by omega, h4, by omega, by omega⟩
theorem PG.new_out (h : PG S w0 w G d L (P.with_ t)) (ht : P.tx = none) {b : Nat} {V : World} (hb : w.heap.size ≤ b) (hV : b < V.heap.size) : ¬ PFoot G P V b := by
  rintro (hx | hx | hx | hx | hx)
  · have : Own G (P.with_ t) b := by
      rcases hx with hx | hx | ⟨hx, _⟩ | hx
      · exact .inl hx
      · exact .inr (.inl hx)
      · exact absurd ht hx
      · exact .inr (.inr (.inr hx))
    have := h.lt b this
    omega
  · have := h.log.blk.lt; omega
  · have := h.log.disk.lt _ hx; omega
  · have := ownBlock_lt h.log.row hx; omega
  · omega
theorem PG.committed (h : PG S w0 w G d L P) (htn : P.tx = none) (hu : P.up = true) {w5 X : World} {v : Value} {l : List (Nat × List UInt8)} (ho : OwnT w.heap.size w w5 v l) {M sz : Nat} {f : Int → Option ByteArray} {roots : List Int} (hm : PMap w5 M f sz) (hlen : roots.length = 8) (hM : Off S G.lg G.fp G.rv M)
    (hX : Only [G.pg] w5 X) (hblk : Blk X G.pg 81 (pcells G.dg G.lg P.n (.map (some M)) roots (.pointer none) G.dv v)) :
    PG S w0 X { G with M := M, tv := v } d L { P with pages := f, sz := sz, roots := roots, todo := Pb.tod l } := by
  have h1 := h.later ho.bel
  have k := h1.pokes hX
  have hpg : G.pg < w.heap.size := h.blk.lt
  refine ⟨k.log, ?_, hlen, fun _ => hm.only hX (by simpa using hm.ne_blk h1.blk), fun t hx => ?_, ?_, fun b hb => ?_⟩
  · show Blk X G.pg _ (pcells G.dg G.lg P.n (mapv { G with M := M, tv := v } P.up) roots (txv { G with M := M, tv := v } P.tx) G.dv v)
    rw [hu, htn]
    exact hblk
  · have hx' : P.tx = some t := hx
    rw [htn] at hx'
    cases hx'
  · have := ownsRow_only (row0 ho.own) hX (fun q hq hm => by
      rw [List.mem_singleton] at hm
      have := (ho.own.lt q hq).1
      omega)
    rw [tod_length]
    exact this
  · rcases hb with hb | ⟨_, hb⟩ | ⟨hb, _⟩ | hb
    · exact h.own b (.inl hb)
    · rw [hb]; exact hM
    · exact absurd htn hb
    · exact h.fresh b (ho.own.lt b hb).1
theorem set15 (x0 x1 x2 x3 x4 x5 x6 x7 x8 x9 x10 x11 x12 x13 x14 u3 u4 u5 u6 u7 u8 u9 u10 u11 u14 : Value) : ((((((((((#[x0, x1, x2, x3, x4, x5, x6, x7, x8, x9, x10, x11, x12, x13, x14].setIfInBounds 3 u3).setIfInBounds 4 u4).setIfInBounds 5 u5).setIfInBounds 6 u6).setIfInBounds 7 u7).setIfInBounds 8 u8).setIfInBounds 9 u9).setIfInBounds 10 u10).setIfInBounds 11 u11).setIfInBounds 14 u14) = #[x0, x1, x2, u3, u4, u5, u6, u7, u8, u9, u10, u11, x12, x13, u14] := by kernel_rfl
theorem pcells_lit (a b n : Nat) (mv : Value) (r0 r1 r2 r3 r4 r5 r6 r7 : Int) (x y z : Value) : pcells a b n mv [r0, r1, r2, r3, r4, r5, r6, r7] x y z = #[.pointer (some ⟨a, 0, none⟩), .pointer (some ⟨b, 0, none⟩), .int .i64 (n : Int), mv, .int .i64 r0, .int .i64 r1, .int .i64 r2, .int .i64 r3, .int .i64 r4, .int .i64 r5, .int .i64 r6, .int .i64 r7, x, y, z] := by kernel_rfl
theorem wrSeq_keeps : ∀ (l : List (Nat × List UInt8)) (d : Vd.VD), (Pb.wrSeq d l).1 = 0 → (Pb.wrSeq d l).2.on = d.on ∧ (Pb.wrSeq d l).2.secs = d.secs ∧ (Pb.wrSeq d l).2.writes = d.writes + l.length
  | [], d, _ => ⟨rfl, rfl, by simp [Pb.wrSeq]⟩
  | x :: l, d, h => by
    by_cases h0 : (Vd.write d (x.1 : Int) x.2).1 = 0
    · rw [wr_yes h0] at h ⊢
      obtain ⟨k1, k2, k3⟩ := write_keeps d x.1 x.2 h0
      obtain ⟨m1, m2, m3⟩ := wrSeq_keeps l _ h
      exact ⟨m1.trans k1, m2.trans k2, by rw [m3, k3, List.length_cons]; omega⟩
    · rw [wr_no h0] at h
      exact absurd h h0
theorem sync_keeps (d : Vd.VD) (h : (Vd.sync d).1 = 0) : (Vd.sync d).2.on = d.on ∧ (Vd.sync d).2.secs.length = d.secs.length ∧ (Vd.sync d).2.writes = d.writes := by
  unfold Vd.sync at h ⊢
  split at h
  · rename_i hon
    rw [if_pos hon]
    split at h
    · cases h
    · rename_i hb
      rw [if_neg hb]
      obtain ⟨k1, k2, k3⟩ := burns_keeps d (by simpa using hb)
      exact ⟨k1, by show (Vd.lay (Vd.burns d).2.secs _).length = _; rw [Vd.lay_length, k2], k3⟩
  · cases h
theorem targ_len (n : Nat) (f : Int → Option ByteArray) (roots ch : List Int) : (Pb.targL n f roots ch).length = 32 + 4 * ch.length := by
  have e : ∀ l : List Int, (l.flatMap fun p => Pb.secL ((p.toNat - 1) * 4) 4 ((f p).getD ⟨#[]⟩).data.toList).length = 4 * l.length := by
    intro l
    induction l with
    | nil => rfl
    | cons p l ih => rw [List.flatMap_cons, List.length_append, ih, secL_len, List.length_cons]; omega
  unfold Pb.targL
  rw [List.length_append, secL_len, e]
/-- how far Commit's three steps are -/
def StgR (S : Nat → Prop) (w0 : World) (G : PH) (d : Vd.VD) (L L1 : Wa.WL) (P : PP) (WS : List (Nat × List UInt8)) (rec : ByteArray) (i : Value) (w : World) : Prop :=
  (i = .int .i64 0 ∧ PgX S w0 G d L P w) ∨ (i = .int .i64 1 ∧ PgX S w0 G d L1 P w) ∨ (i = .int .i64 2 ∧ (Pb.wrSeq d WS).1 = 0 ∧ PgX S w0 G (Pb.wrSeq d WS).2 (apL L1 0 rec) P w) ∨
  (i = .int .i64 3 ∧ (Pb.wrSeq d WS).1 = 0 ∧ (Vd.sync (Pb.wrSeq d WS).2).1 = 0 ∧ PgX S w0 G (Vd.sync (Pb.wrSeq d WS).2).2 (apL L1 0 rec) P w)
theorem no_tx (P : PP) (h : P.tx = none) : ({ P with tx := none } : PP) = P := by
  cases P
  simp only at h ⊢
  rw [h]
theorem PG.mt_out (h : PG S w0 w G d L (P.with_ t)) (ht : P.tx = none) {V : World} (hV : w.heap.size ≤ V.heap.size) : ¬ PFoot G P V G.MT := by
  have hT := h.tx t rfl
  have ho := (h.own G.MT (.inr (.inr (.inl ⟨by simp [PP.with_], .inr (.inl rfl)⟩)))).2
  rintro ((hx | hx | ⟨hx, _⟩ | hx) | hx | hx | hx | hx)
  · exact hT.pm.ne_blk h.blk hx
  · exact hT.ne1 hx.2
  · exact absurd ht hx
  · exact row_ne_map h.row hT.pm.isMap _ hx rfl
  · exact ho.1 hx
  · exact ho.2.1 hx
  · exact ho.2.2 hx
  · have := hT.pm.lt; omega
set_option maxRecDepth 20000 in
set_option maxHeartbeats 4000000 in
theorem pcommit_some (h : PG S w0 w G d L (P.with_ t)) (htn : P.tx = none) (hI : Pb.Inv d L P []) (ht : Pb.TxI P t) (hg : L.gen + 1 < 256) (hw : d.writes < 800000000) :
    Calls Tryz.prog 50 #[.pointer (some ⟨G.pg, 0, none⟩)] w (CmR S w0 G d L P t) := by
  have htx : (P.with_ t).tx = some t := rfl
  have hn := hI.hn
  have hn2 := hI.hn2
  have hu := hI.up
  have hkP := hI.wf
  have hon := hI.on
  have hSMT := (h.own G.MT (.inr (.inr (.inl ⟨by simp [PP.with_], .inr (.inl rfl)⟩)))).1
  have hMTL := (h.own G.MT (.inr (.inr (.inl ⟨by simp [PP.with_], .inr (.inl rfl)⟩)))).2.1
  have hmto := fun (V : World) (hV : w.heap.size ≤ V.heap.size) => h.mt_out htn hV
  have hnew := fun (b : Nat) (V : World) (h1 : w.heap.size ≤ b) (h2 : b < V.heap.size) => h.new_out htn h1 h2
  have hT := h.tx t htx
  obtain ⟨a0, a1, a2, a3, a4, a5, a6, a7, hta⟩ := len8 hT.len
  have hB : Below w.heap.size w (w.alloc (.cells #[.pointer (some ⟨G.pg, 0, none⟩)] 29)) := (Below.refl _ _).alloc (Nat.le_refl _) _
  have h1 := h.later hB
  have H := Lib.hid (pnone_any h1)
  have ct := h1.cells.ct
  have ct : (w.alloc (.cells #[.pointer (some ⟨G.pg, 0, none⟩)] 29)).cell? ⟨G.pg, 12, none⟩ = some (.pointer (some ⟨G.T, 0, none⟩)) := ct
  have hbT := (h1.tx t htx).blk
  rw [hta, scells_lit] at hbT
  obtain ⟨w1, hw1⟩ : ∃ w1, w.alloc (.cells #[.pointer (some ⟨G.pg, 0, none⟩)] 29) = w1 := ⟨_, rfl⟩
  have hbx : Blk w1 w.heap.size 29 #[.pointer (some ⟨G.pg, 0, none⟩)] := by rw [← hw1]; exact Blk.new w _ _
  rw [hw1] at ct h1 H hB hbT
  have hws : w1.heap.size = w.heap.size + 1 := by rw [← hw1]; exact World.size_alloc _ _
  have x0 := hbT.cell 0
  have x1 := hbT.cell 1
  have x2 := hbT.cell 2
  have x3 := hbT.cell 3
  have x4 := hbT.cell 4
  have x5 := hbT.cell 5
  have x6 := hbT.cell 6
  have x7 := hbT.cell 7
  have x8 := hbT.cell 8
  have bx := hbx.cell 0
  have hpl : G.pg < w.heap.size := h.blk.lt
  have hTl : G.T < w.heap.size := hT.blk.lt
  have f12 := h1.cells.fz 12
  go_enter Tryz.func50, Tryz.ntmps50
  go_wp2_with fail
  (with_reducible refine H.out.mono ?_)
  rintro e w5 ⟨rfl, rfl⟩
  go_upto_region 6 with fail
  obtain ⟨W2, hW2⟩ : ∃ W2, w1.alloc (.cells #[.map (some G.MT), .int .i64 a0, .int .i64 a1, .int .i64 a2, .int .i64 a3, .int .i64 a4, .int .i64 a5, .int .i64 a6, .int .i64 a7] 76) = W2 := ⟨_, rfl⟩
  have hB2 : Below w1.heap.size w1 W2 := by rw [← hW2]; exact (Below.refl _ _).alloc (Nat.le_refl _) _
  have hst2 : Blk W2 (w.heap.size + 1) 76 #[.map (some G.MT), .int .i64 a0, .int .i64 a1, .int .i64 a2, .int .i64 a3, .int .i64 a4, .int .i64 a5, .int .i64 a6, .int .i64 a7] := by rw [← hW2, ← hws]; exact Blk.new w1 _ _
  have hbx2 := hbx.below hB2 hbx.lt
  have h2 := h1.later hB2
  have hT2 := h2.tx t htx
  have ho : Only [G.pg] W2 (W2.setCell ⟨G.pg, 12, none⟩ (.pointer none)) := (Only.refl [G.pg] W2).setCell (.inl (by simp)) _
  have h3 := h2.txEnd
  rw [with_end P t htn] at h3
  have hm3 := hT2.pm.only ho (by simpa using hT2.pm.ne_blk h2.blk)
  have hd3 := hT2.sm.only ho (by simpa using hT2.sm.ne_blk h2.blk)
  have hst3 := hst2.only ho (by simp; omega)
  have hbx3 := hbx2.only ho (by simp; omega)
  have b12 : W2.cell? ⟨w.heap.size, 0, none⟩ = some (.pointer (some ⟨G.pg, 0, none⟩)) := hbx2.cell 0
  have f12' := h2.cells.fz 12
  have c12' : W2.cell? ⟨G.pg, 12, none⟩ = some (.pointer (some ⟨G.T, 0, none⟩)) := h2.cells.ct
  rw [hW2]
  have HB2 := Lib.hid hB2
  clear hW2 ct x0 x1 x2 x3 x4 x5 x6 x7 x8 bx f12 hbT h1 h2 hT hT2 hst2 hbx2 hbx hw1 H
  go_upto_region 7 with fail
  obtain ⟨W3, hW3⟩ : ∃ W3, W2.setCell ⟨G.pg, 12, none⟩ (.pointer none) = W3 := ⟨_, rfl⟩
  rw [hW3] at ho h3 hm3 hd3 hst3 hbx3 ⊢
  have hon3 := on_df h3.log.disk
  rw [hon] at hon3
  have HON3 := Lib.hid hon3
  have b0 : W3.cell? ⟨w.heap.size, 0, none⟩ = some (.pointer (some ⟨G.pg, 0, none⟩)) := hbx3.cell 0
  have c00 : W3.cell? ⟨G.pg, 0, none⟩ = some (.pointer (some ⟨G.dg, 0, none⟩)) := h3.cells.c0
  have s0 := hst3.cell 0
  have s1 := hst3.cell 1
  have s2 := hst3.cell 2
  have s3 := hst3.cell 3
  have s4 := hst3.cell 4
  have s5 := hst3.cell 5
  have s6 := hst3.cell 6
  have s7 := hst3.cell 7
  have s8 := hst3.cell 8
  have hchg := changed_any h3 hn hn2 hu (MT := G.MT) (MD := G.MD) (t := t) (h.tx t htx).dv hm3 hd3 ht hkP
  rw [hta, scells_lit] at hchg
  have HCHG := Lib.hid hchg
  clear hW3 b12 f12' c12' hon3 hchg
  have H3 := Lib.hid h3
  have HM3 := Lib.hid hm3
  have HST3 := Lib.hid hst3
  have HBX3 := Lib.hid hbx3
  have HO := Lib.hid ho
  clear h3 hm3 hd3 hst3 hbx3 ho h htx hB2 hB hTl
  go_wp2_with fail
  (with_reducible refine HON3.out.mono ?_)
  rintro e w5 ⟨rfl, rfl⟩
  go_wp2_with fail
  (with_reducible refine HCHG.out.mono ?_)
  rintro e w7 ⟨v, ch, any, rfl, hpgs, hcl, hcg, hsame, hb7⟩
  cases any with
  | false =>
    have H7 := Lib.hid (H3.out.later hb7)
    have HSAME := Lib.hid (hsame rfl)
    clear hb7 hsame hpgs hcl hcg b0 c00 s0 s1 s2 s3 s4 s5 s6 s7 s8
    go_wp2_with fail
    go_ret
    exact .inl ⟨rfl, H7.out, HSAME.out⟩
  | true =>
    clear b0 c00 s0 s1 s2 s3 s4 s5 s6 s7 s8
    have hst7 := HST3.out.below hb7 HST3.out.lt
    have hbx7 := HBX3.out.below hb7 HBX3.out.lt
    have b0 := hbx7.cell 0
    have s0 := hst7.cell 0
    have s1 := hst7.cell 1
    have s2 := hst7.cell 2
    have s3 := hst7.cell 3
    have s4 := hst7.cell 4
    have s5 := hst7.cell 5
    have s6 := hst7.cell 6
    have s7 := hst7.cell 7
    have s8 := hst7.cell 8
    have h7 := H3.out.later hb7
    have hrec := record_any h7 hn hn2 (HM3.out.below hb7) (f := t.pages) (roots := t.roots) ht.ok.wf v ch hpgs hcg.ok (by have : ch.length ≤ P.n - 8 := hcl; omega)
    rw [hta, scells_lit] at hrec
    have HREC := Lib.hid hrec
    clear hrec
    go_wp2_with fail
    (with_reducible refine HREC.out.mono ?_)
    rintro e w8 ⟨rfl, hb8⟩
    go_upto_region 13 with fail
    obtain ⟨rec, hrec⟩ : ∃ rec : ByteArray, (⟨(Pb.recL P.n t.pages [a0, a1, a2, a3, a4, a5, a6, a7] ch).toArray⟩ : ByteArray) = rec := ⟨_, rfl⟩
    rw [hrec]
    have hrl : rec.data.toList = Pb.recL P.n t.pages t.roots ch := by rw [← hrec, hta]
    obtain ⟨W9, hW9⟩ : ∃ W9, w8.alloc (.cells #[.string rec] 9) = W9 := ⟨_, rfl⟩
    have hb9 : Below w8.heap.size w8 W9 := by rw [← hW9]; exact (Below.refl _ _).alloc (Nat.le_refl _) _
    have hsr9 : Blk W9 w8.heap.size 9 #[.string rec] := by rw [← hW9]; exact Blk.new w8 _ _
    have hs9 : W9.heap.size = w8.heap.size + 1 := by rw [← hW9]; exact World.size_alloc _ _
    rw [hW9]
    have h9 := (h7.later hb8).later hb9
    have hst9 := (hst7.below hb8 hst7.lt).below hb9 (Nat.lt_of_lt_of_le hst7.lt hb8.size)
    have hbx9 := (hbx7.below hb8 hbx7.lt).below hb9 (Nat.lt_of_lt_of_le hbx7.lt hb8.size)
    have hm9 := ((HM3.out.below hb7).below hb8).below hb9
    clear b0 s0 s1 s2 s3 s4 s5 s6 s7 s8 hrec hW9 hb8 hb9 hst7 hbx7 hb7
    have b0 : W9.cell? ⟨w.heap.size, 0, none⟩ = some (.pointer (some ⟨G.pg, 0, none⟩)) := hbx9.cell 0
    have c1 : W9.cell? ⟨G.pg, 1, none⟩ = some (.pointer (some ⟨G.lg, 0, none⟩)) := h9.cells.c1
    have H9 := Lib.hid h9
    have HB3L := Lib.hid hpl
    have HW8 : Hid (w.heap.size ≤ w8.heap.size) := Lib.hid (by have := hst9.lt; omega)
    have HST9 := Lib.hid hst9
    have HBX9 := Lib.hid hbx9
    have HM9 := Lib.hid hm9
    have HSR9 := Lib.hid hsr9
    have HRL := Lib.hid hrl
    have HPG := Lib.hid hpgs
    have HCG := Lib.hid hcg
    have HS9 := Lib.hid hs9
    clear h9 hst9 hbx9 hm9 hsr9 hrl hpgs hcg hs9 h7 hsame
    have hcl : ch.length ≤ P.n - 8 := hcl
    have HCL := Lib.hid hcl
    clear hcl
    go_region
    obtain ⟨VB, hVB⟩ : ∃ VB, (W9.alloc (.cells #[.func (.func 97) #[.pointer (some ⟨G.lg, 0, none⟩)] #[], .func (.func 98) #[] #[.pointer (some ⟨w.heap.size, 0, none⟩), .pointer (some ⟨w8.heap.size, 0, none⟩)], .func (.func 100) #[.pointer (some ⟨G.lg, 0, none⟩)] #[]] 84)).drew = VB := ⟨_, rfl⟩
    rw [hVB]
    have hbV : Below W9.heap.size W9 VB := by rw [← hVB]; exact below_dr ((Below.refl _ _).alloc (Nat.le_refl _) _)
    have hfn : Blk VB W9.heap.size 84 #[.func (.func 97) #[.pointer (some ⟨G.lg, 0, none⟩)] #[], .func (.func 98) #[] #[.pointer (some ⟨w.heap.size, 0, none⟩), .pointer (some ⟨w8.heap.size, 0, none⟩)], .func (.func 100) #[.pointer (some ⟨G.lg, 0, none⟩)] #[]] := by rw [← hVB]; exact (Blk.new W9 _ _).drew
    have hsV : VB.heap.size = W9.heap.size + 1 := by rw [← hVB]; exact World.size_alloc _ _
    have hV := H9.out.later hbV
    have hbxV := HBX9.out.below hbV HBX9.out.lt
    have hstV := HST9.out.below hbV HST9.out.lt
    have hsrV := HSR9.out.below hbV HSR9.out.lt
    have hst9 := HST9.out.lt
    have hs98 := HS9.out
    have hnf := hnew W9.heap.size VB (by omega) (by omega)
    have hnb := hnew w.heap.size VB (by omega) (by omega)
    have hns := hnew (w.heap.size + 1) VB (by omega) (by omega)
    have hnr := hnew w8.heap.size VB (by omega) (by omega)
    have hmt := hmto VB (by omega)
    have hmV := HM9.out.below hbV
    have hx := hV.rebase
    obtain ⟨Sf, hSf⟩ : ∃ Sf, PFoot G P VB = Sf := ⟨_, rfl⟩
    have hvia : ∀ W G' d' L' P', PG Sf VB W G' d' L' P' → PG S w0 W G' d' L' P' := fun W G' d' L' P' k => by
      rw [← hSf] at k
      exact hV.via k
    rw [hSf] at hnf hnb hns hnr hmt hx
    have hblk : ∀ W d' L' P', PgX Sf VB G d' L' P' W → Blk W W9.heap.size 84 #[.func (.func 97) #[.pointer (some ⟨G.lg, 0, none⟩)] #[], .func (.func 98) #[] #[.pointer (some ⟨w.heap.size, 0, none⟩), .pointer (some ⟨w8.heap.size, 0, none⟩)], .func (.func 100) #[.pointer (some ⟨G.lg, 0, none⟩)] #[]] ∧ Blk W w.heap.size 29 #[.pointer (some ⟨G.pg, 0, none⟩)] ∧ Blk W (w.heap.size + 1) 76 #[.map (some G.MT), .int .i64 a0, .int .i64 a1, .int .i64 a2, .int .i64 a3, .int .i64 a4, .int .i64 a5, .int .i64 a6, .int .i64 a7] ∧ Blk W w8.heap.size 9 #[.string rec] ∧ PMap W G.MT t.pages t.sz := fun W d' L' P' ⟨G', _, _, _, k⟩ => by
      have kb := fun b h1 h2 => k.log.bel.block b h1 h2
      exact ⟨(kb _ hfn.lt hnf).trans hfn, (kb _ hbxV.lt hnb).trans hbxV, (kb _ hstV.lt hns).trans hstV, (kb _ hsrV.lt hnr).trans hsrV, hmV.at (kb _ hmV.lt hmt)⟩
    have HBLK := Lib.hid hblk
    have HMT := Lib.hid hmt
    have HVIA := Lib.hid hvia
    have HX : Hid (PgX Sf VB G d L P VB) := Lib.hid ⟨G, rfl, rfl, rfl, hx⟩
    clear hmt hmV hVB hbV hfn hsV hV hbxV hstV hsrV hst9 hs98 hnf hnb hns hnr hx hSf hvia hblk b0 c1
    have hfit := Pb.rec_fits ht.ok.wf hn hn2 ch HCG.out.ok HCL.out
    rw [Wa.allP_one, Wa.kinded_length, ← HRL.out] at hfit
    have hrs : rec.size ≤ 140737488351232 := by
      have := congrArg List.length HRL.out
      rw [Array.length_toList, Pb.recL_len ht.ok.wf hn2 ch HCG.out.ok] at this
      have h2 : rec.data.size = rec.size := rfl
      have := HCL.out
      omega
    obtain ⟨L1, hL1⟩ : ∃ L1 : Wa.WL, ({ L with gen := L.gen + 1, op := true, used := 0, recs := [] } : Wa.WL) = L1 := ⟨_, rfl⟩
    obtain ⟨WS, hWS⟩ : ∃ WS, Wa.sq L.fr (L.gen + 1) 0 (Wa.kinded (Wa.pieces rec.data.toList)) = WS := ⟨_, rfl⟩
    have hL1k : Wok L1 := by
      have := inv_wok hI (by omega)
      rw [← hL1]
      exact ⟨this.n, this.fr, Nat.zero_le _, by show L.gen + 1 ≤ _; omega, by simp⟩
    have hR0 : ∀ W, PgX Sf VB G d L P W → Calls Tryz.prog 97 #[.pointer (some ⟨G.lg, 0, none⟩)] W fun e w' => e = .returned (.int .i64 0) ∧ PgX Sf VB G d L1 P w' := fun W hX => by
      rw [← hL1]
      exact preset_any hX hon (by omega)
    have hR1 : ∀ W, PgX Sf VB G d L1 P W → Calls Tryz.prog 98 #[.pointer (some ⟨w.heap.size, 0, none⟩), .pointer (some ⟨w8.heap.size, 0, none⟩)] W fun e w' => e = .returned (.int .i64 (Pb.wrSeq d WS).1) ∧ PgX Sf VB G (Pb.wrSeq d WS).2 (apL L1 (Pb.wrSeq d WS).1 rec) P w' := fun W hX => by
      obtain ⟨_, hb2, _, hb4, _⟩ := HBLK.out W _ _ _ hX
      have e : Wa.sq L1.fr L1.gen L1.used (Wa.kinded (Wa.pieces rec.data.toList)) = WS := by rw [← hWS, ← hL1]
      have h1 := hI.ln
      have h2 := hI.fr
      have h3 := hI.len
      have := pcommit1_any hX w.heap.size w8.heap.size (hb2.cell 0) rec (hb4.cell 0) hL1k (by rw [← hL1]) hon hrs (by rw [← hL1]; show 0 + _ ≤ L.n; omega) (by rw [← hL1]; show L.fr + L.n ≤ _; omega) (by rw [← hL1]; show d.writes + L.n < _; omega) (by rw [← hL1]; simp)
      rw [e] at this
      exact this
    have hR2 : ∀ W d' L', PgX Sf VB G d' L' P W → Calls Tryz.prog 100 #[.pointer (some ⟨G.lg, 0, none⟩)] W fun e w' => e = .returned (.int .i64 (Vd.sync d').1) ∧ PgX Sf VB G (Vd.sync d').2 L' P w' := fun W d' L' hX => psync_any hX
    have HR0 := Lib.hid hR0
    have HR1 := Lib.hid hR1
    have HR2 := Lib.hid hR2
    have HL1 := Lib.hid hL1
    have HWS := Lib.hid hWS
    clear hR0 hR1 hR2 hL1 hWS hL1k hfit hrs hnew hmto
    have heWS : Wa.sq L.fr (L.gen + 1) 0 (Wa.allP [Pb.recL P.n t.pages t.roots ch]) = WS := by rw [← HWS.out, Wa.allP_one, HRL.out]
    have hap0 : apL L1 0 rec = { L with gen := L.gen + 1, op := true, used := (Wa.pieces (Pb.recL P.n t.pages t.roots ch)).length, recs := [Pb.recL P.n t.pages t.roots ch] } := by
      unfold apL
      rw [if_pos rfl, ← HL1.out, HRL.out]
      simp
    have hcv1 : (Pb.wrSeq d WS).1 ≠ 0 → Pb.commitV d L P t ch = ((Pb.wrSeq d WS).1, (Pb.wrSeq d WS).2, apL L1 (Pb.wrSeq d WS).1 rec, P) := fun h0 => by
      unfold Pb.commitV
      rw [heWS, if_pos h0, no_tx P htn]
      unfold apL
      rw [if_neg h0, ← HL1.out]
    have hcv2 : (Pb.wrSeq d WS).1 = 0 → (Vd.sync (Pb.wrSeq d WS).2).1 ≠ 0 → Pb.commitV d L P t ch = ((Vd.sync (Pb.wrSeq d WS).2).1, (Vd.sync (Pb.wrSeq d WS).2).2, apL L1 0 rec, P) := fun h0 h1 => by
      unfold Pb.commitV
      rw [heWS, if_neg (by simp [h0]), if_pos h1, no_tx P htn, hap0]
    have hcv3 : (Pb.wrSeq d WS).1 = 0 → (Vd.sync (Pb.wrSeq d WS).2).1 = 0 → Pb.commitV d L P t ch = (if (Pb.settleV (Vd.sync (Pb.wrSeq d WS).2).2 (Pb.targL P.n t.pages t.roots ch)).1 = 80 then 80 else 0, (Pb.settleV (Vd.sync (Pb.wrSeq d WS).2).2 (Pb.targL P.n t.pages t.roots ch)).2, apL L1 0 rec, { P with pages := t.pages, sz := t.sz, roots := t.roots, todo := if (Pb.settleV (Vd.sync (Pb.wrSeq d WS).2).2 (Pb.targL P.n t.pages t.roots ch)).1 = 0 then [] else Pb.tod (Pb.targL P.n t.pages t.roots ch) }) := fun h0 h1 => by
      unfold Pb.commitV
      rw [heWS, if_neg (by simp [h0]), if_neg (by simp [h1]), hap0]
      simp only [htn]
    have HCV3 := Lib.hid hcv3
    clear hcv3
    have HCV1 := Lib.hid hcv1
    have HCV2 := Lib.hid hcv2
    have HEWS := Lib.hid heWS
    have HAP0 := Lib.hid hap0
    have HTN := Lib.hid htn
    clear heWS hap0 hcv1 hcv2
    go_wp2_with fail
    go_loopw [59] (fun i wr => StgR Sf VB G d L L1 P WS rec i wr) (fun i _ => 3 - (intOf i).toNat)
    case atStart => exact .inl ⟨rfl, HX.out⟩
    case round =>
      rcases hrel with ⟨rfl, hX⟩ | ⟨rfl, hX⟩ | ⟨rfl, h0, hX⟩ | ⟨rfl, h0, h1, hX⟩
      · have hf := (HBLK.out _ _ _ _ hX).1
        have f0 := hf.cell 0
        have HC := Lib.hid (HR0.out _ hX)
        clear hf hX
        go_wp2_with fail
        (with_reducible refine HC.out.mono ?_)
        rintro e w11 ⟨rfl, hX⟩
        have HX1 := Lib.hid hX
        clear hX f0
        go_wp2_with fail
        go_roundw
        case rel => exact .inr (.inl ⟨rfl, HX1.out⟩)
        case measure => simp [intOf]
      · have hf := (HBLK.out _ _ _ _ hX).1
        have f1 := hf.cell 1
        have hc := HR1.out _ hX
        obtain ⟨x, hx⟩ : ∃ x, (Pb.wrSeq d WS).1 = x := ⟨_, rfl⟩
        rw [hx] at hc
        have HC := Lib.hid hc
        have HXE := Lib.hid hx
        clear hf hX hx hc
        go_wp2_with fail
        (with_reducible refine HC.out.mono ?_)
        rintro e w11 ⟨rfl, hX⟩
        have HX1 := Lib.hid hX
        clear hX f1
        by_cases h0 : x = 0
        · subst h0
          go_wp2_with fail
          go_roundw
          case rel => exact .inr (.inr (.inl ⟨rfl, HXE.out, HX1.out⟩))
          case measure => simp [intOf]
        · have e1 : (x == 0) = false := by simpa using h0
          have e2 : (x != 0) = true := by simpa using h0
          have H0 := Lib.hid h0
          clear h0
          go_wp2_with fail
          go_ret
          refine .inr ⟨ch, HCG.out, HCL.out, ?_⟩
          have hcv := HCV1.out (by rw [HXE.out]; exact H0.out)
          rw [HXE.out] at hcv
          obtain ⟨G', h1, h2, h3, h4⟩ := HX1.out
          rw [hcv]
          exact ⟨G', h1, h2, ret_one rfl, HVIA.out _ _ _ _ _ h4⟩
      · have hf := (HBLK.out _ _ _ _ hX).1
        have f2 := hf.cell 2
        have hc := HR2.out _ _ _ hX
        obtain ⟨x, hx⟩ : ∃ x, (Vd.sync (Pb.wrSeq d WS).2).1 = x := ⟨_, rfl⟩
        rw [hx] at hc
        have HC := Lib.hid hc
        have HXE := Lib.hid hx
        have HH0 := Lib.hid h0
        clear hf hX hx hc h0
        go_wp2_with fail
        (with_reducible refine HC.out.mono ?_)
        rintro e w11 ⟨rfl, hX⟩
        have HX1 := Lib.hid hX
        clear hX f2
        by_cases h0 : x = 0
        · subst h0
          go_wp2_with fail
          go_roundw
          case rel => exact .inr (.inr (.inr ⟨rfl, HH0.out, HXE.out, HX1.out⟩))
          case measure => simp [intOf]
        · have e1 : (x == 0) = false := by simpa using h0
          have e2 : (x != 0) = true := by simpa using h0
          have H0 := Lib.hid h0
          clear h0
          go_wp2_with fail
          go_ret
          refine .inr ⟨ch, HCG.out, HCL.out, ?_⟩
          have hcv := HCV2.out HH0.out (by rw [HXE.out]; exact H0.out)
          rw [HXE.out] at hcv
          obtain ⟨G', h1, h2, h3, h4⟩ := HX1.out
          rw [hcv]
          exact ⟨G', h1, h2, ret_one rfl, HVIA.out _ _ _ _ _ h4⟩
      · obtain ⟨_, hb2, hb3, hb4, hb5⟩ := HBLK.out _ _ _ _ hX
        have bx0 := hb2.cell 0
        have r0 := hb4.cell 0
        have s0 := hb3.cell 0
        have s1 := hb3.cell 1
        have s2 := hb3.cell 2
        have s3 := hb3.cell 3
        have s4 := hb3.cell 4
        have s5 := hb3.cell 5
        have s6 := hb3.cell 6
        have s7 := hb3.cell 7
        have s8 := hb3.cell 8
        obtain ⟨G', g1, g2, g3, h4⟩ := hX
        have hd4 := h4.drew
        obtain ⟨b0, b1, b2, b3, b4, b5, b6, b7, hpr⟩ := len8 hkP.len
        have htg : Calls Tryz.prog 24 #[.pointer (some ⟨G.pg, 0, none⟩), .string rec] wr.drew fun e w' => ∃ p c, e = .returned (.slice p (Pb.targL P.n t.pages t.roots ch).length c) ∧ OwnT wr.drew.heap.size wr.drew w' (.slice p (Pb.targL P.n t.pages t.roots ch).length c) (Pb.targL P.n t.pages t.roots ch) ∧
            Blk w' G.pg 81 #[.pointer (some ⟨G'.dg, 0, none⟩), .pointer (some ⟨G'.lg, 0, none⟩), .int .i64 (P.n : Int), .map (some G'.M), .int .i64 b0, .int .i64 b1, .int .i64 b2, .int .i64 b3, .int .i64 b4, .int .i64 b5, .int .i64 b6, .int .i64 b7, .pointer none, G'.dv, G'.tv] ∧ Blk w' w.heap.size 29 #[.pointer (some ⟨G.pg, 0, none⟩)] ∧ Blk w' (w.heap.size + 1) 76 #[.map (some G.MT), .int .i64 a0, .int .i64 a1, .int .i64 a2, .int .i64 a3, .int .i64 a4, .int .i64 a5, .int .i64 a6, .int .i64 a7] ∧ Blk w' w8.heap.size 9 #[.string rec] := by
          have := targets_any hd4 hn hn2 t.pages t.roots ch rec HRL.out ht.ok.wf.len (fun p hp => by
            obtain ⟨b, hb⟩ := HCG.out.ok p hp
            have := ht.ok.wf.dom p b hb
            exact ⟨this.1, this.2, b, hb, ht.ok.wf.size p b hb⟩) (by have := HCL.out; omega)
          rw [g1] at this
          refine this.mono ?_
          rintro e w' ⟨v, he, ho⟩
          obtain ⟨p, c, rfl⟩ := ho.slice
          refine ⟨p, c, he, ho, ?_, hb2.drew.below ho.bel hb2.drew.lt, hb3.drew.below ho.bel hb3.drew.lt, hb4.drew.below ho.bel hb4.drew.lt⟩
          have hb := (hd4.later ho.bel).blk
          rw [hpr, hu, HTN.out, g1] at hb
          exact hb
        obtain ⟨TL, hTL⟩ : ∃ TL, Pb.targL P.n t.pages t.roots ch = TL := ⟨_, rfl⟩
        rw [hTL] at htg
        have HTG := Lib.hid htg
        have HTL := Lib.hid hTL
        have HD4 := Lib.hid hd4
        have HG1 := Lib.hid g1
        have HG2 := Lib.hid g2
        have HH0 := Lib.hid h0
        have HH1 := Lib.hid h1
        have HPM := Lib.hid hb5
        have HDS := Lib.hid (HVIA.out _ _ _ _ _ hd4)
        have hMoff : Off S G'.lg G'.fp G'.rv G.MT := ⟨hSMT, by rw [g3]; exact hMTL, (fun hm => HMT.out (h4.log.low _ hm)), (fun hm => HMT.out (h4.log.rs _ hm))⟩
        have HMOFF := Lib.hid hMoff
        clear hMoff
        have HPR := Lib.hid hpr
        have HSX : Hid (∀ W, Blk W w.heap.size 29 #[.pointer (some ⟨G.pg, 0, none⟩)] ∧ Blk W (w.heap.size + 1) 76 #[.map (some G.MT), .int .i64 a0, .int .i64 a1, .int .i64 a2, .int .i64 a3, .int .i64 a4, .int .i64 a5, .int .i64 a6, .int .i64 a7] ∧ Blk W w8.heap.size 9 #[.string rec] → W.cell? ⟨w.heap.size, 0, none⟩ = some (.pointer (some ⟨G.pg, 0, none⟩)) ∧ W.cell? ⟨w8.heap.size, 0, none⟩ = some (.string rec) ∧ W.cell? ⟨w.heap.size + 1, 0, none⟩ = some (.map (some G.MT)) ∧ W.cell? ⟨w.heap.size + 1, 1, none⟩ = some (.int .i64 a0) ∧ W.cell? ⟨w.heap.size + 1, 2, none⟩ = some (.int .i64 a1) ∧ W.cell? ⟨w.heap.size + 1, 3, none⟩ = some (.int .i64 a2) ∧ W.cell? ⟨w.heap.size + 1, 4, none⟩ = some (.int .i64 a3) ∧ W.cell? ⟨w.heap.size + 1, 5, none⟩ = some (.int .i64 a4) ∧ W.cell? ⟨w.heap.size + 1, 6, none⟩ = some (.int .i64 a5) ∧ W.cell? ⟨w.heap.size + 1, 7, none⟩ = some (.int .i64 a6) ∧ W.cell? ⟨w.heap.size + 1, 8, none⟩ = some (.int .i64 a7)) := Lib.hid (fun W ⟨x1, x2, x3⟩ => ⟨x1.cell 0, x3.cell 0, x2.cell 0, x2.cell 1, x2.cell 2, x2.cell 3, x2.cell 4, x2.cell 5, x2.cell 6, x2.cell 7, x2.cell 8⟩)
        have hgl := HB3L.out
        have HSV : Hid (∀ w5 X, Blk w5 w.heap.size 29 #[.pointer (some ⟨G.pg, 0, none⟩)] ∧ Blk w5 (w.heap.size + 1) 76 #[.map (some G.MT), .int .i64 a0, .int .i64 a1, .int .i64 a2, .int .i64 a3, .int .i64 a4, .int .i64 a5, .int .i64 a6, .int .i64 a7] ∧ Blk w5 w8.heap.size 9 #[.string rec] → Only [G.pg] w5 X → X.cell? ⟨w.heap.size, 0, none⟩ = some (.pointer (some ⟨G.pg, 0, none⟩)) ∧ X.cell? ⟨w8.heap.size, 0, none⟩ = some (.string rec) ∧ X.cell? ⟨w.heap.size + 1, 0, none⟩ = some (.map (some G.MT)) ∧ X.cell? ⟨w.heap.size + 1, 1, none⟩ = some (.int .i64 a0) ∧ X.cell? ⟨w.heap.size + 1, 2, none⟩ = some (.int .i64 a1) ∧ X.cell? ⟨w.heap.size + 1, 3, none⟩ = some (.int .i64 a2) ∧ X.cell? ⟨w.heap.size + 1, 4, none⟩ = some (.int .i64 a3) ∧ X.cell? ⟨w.heap.size + 1, 5, none⟩ = some (.int .i64 a4) ∧ X.cell? ⟨w.heap.size + 1, 6, none⟩ = some (.int .i64 a5) ∧ X.cell? ⟨w.heap.size + 1, 7, none⟩ = some (.int .i64 a6) ∧ X.cell? ⟨w.heap.size + 1, 8, none⟩ = some (.int .i64 a7)) := Lib.hid (fun w5 X ⟨x1, x2, x3⟩ ho => by
          have hw8 := HW8.out
          have y1 := x1.only ho (by simp; omega)
          have y2 := x2.only ho (by simp; omega)
          have y3 := x3.only ho (by simp; omega)
          exact ⟨y1.cell 0, y3.cell 0, y2.cell 0, y2.cell 1, y2.cell 2, y2.cell 3, y2.cell 4, y2.cell 5, y2.cell 6, y2.cell 7, y2.cell 8⟩)
        have hmem : G.pg ∈ [G.pg] := List.mem_singleton_self _
        have HS9X : Hid (∀ (w5 : World) (v0 v1 v2 v3 v4 v5 v6 v7 v8 : Value), Blk w5 w.heap.size 29 #[.pointer (some ⟨G.pg, 0, none⟩)] ∧ Blk w5 (w.heap.size + 1) 76 #[.map (some G.MT), .int .i64 a0, .int .i64 a1, .int .i64 a2, .int .i64 a3, .int .i64 a4, .int .i64 a5, .int .i64 a6, .int .i64 a7] ∧ Blk w5 w8.heap.size 9 #[.string rec] → (((((((((w5.setCell ⟨G.pg, 3, none⟩ v0).setCell ⟨G.pg, 4, none⟩ v1).setCell ⟨G.pg, 5, none⟩ v2).setCell ⟨G.pg, 6, none⟩ v3).setCell ⟨G.pg, 7, none⟩ v4).setCell ⟨G.pg, 8, none⟩ v5).setCell ⟨G.pg, 9, none⟩ v6).setCell ⟨G.pg, 10, none⟩ v7).setCell ⟨G.pg, 11, none⟩ v8).cell? ⟨w.heap.size, 0, none⟩ = some (.pointer (some ⟨G.pg, 0, none⟩)) ∧ (((((((((w5.setCell ⟨G.pg, 3, none⟩ v0).setCell ⟨G.pg, 4, none⟩ v1).setCell ⟨G.pg, 5, none⟩ v2).setCell ⟨G.pg, 6, none⟩ v3).setCell ⟨G.pg, 7, none⟩ v4).setCell ⟨G.pg, 8, none⟩ v5).setCell ⟨G.pg, 9, none⟩ v6).setCell ⟨G.pg, 10, none⟩ v7).setCell ⟨G.pg, 11, none⟩ v8).cell? ⟨w8.heap.size, 0, none⟩ = some (.string rec) ∧ (((((((((w5.setCell ⟨G.pg, 3, none⟩ v0).setCell ⟨G.pg, 4, none⟩ v1).setCell ⟨G.pg, 5, none⟩ v2).setCell ⟨G.pg, 6, none⟩ v3).setCell ⟨G.pg, 7, none⟩ v4).setCell ⟨G.pg, 8, none⟩ v5).setCell ⟨G.pg, 9, none⟩ v6).setCell ⟨G.pg, 10, none⟩ v7).setCell ⟨G.pg, 11, none⟩ v8).cell? ⟨w.heap.size + 1, 0, none⟩ = some (.map (some G.MT)) ∧ (((((((((w5.setCell ⟨G.pg, 3, none⟩ v0).setCell ⟨G.pg, 4, none⟩ v1).setCell ⟨G.pg, 5, none⟩ v2).setCell ⟨G.pg, 6, none⟩ v3).setCell ⟨G.pg, 7, none⟩ v4).setCell ⟨G.pg, 8, none⟩ v5).setCell ⟨G.pg, 9, none⟩ v6).setCell ⟨G.pg, 10, none⟩ v7).setCell ⟨G.pg, 11, none⟩ v8).cell? ⟨w.heap.size + 1, 1, none⟩ = some (.int .i64 a0) ∧ (((((((((w5.setCell ⟨G.pg, 3, none⟩ v0).setCell ⟨G.pg, 4, none⟩ v1).setCell ⟨G.pg, 5, none⟩ v2).setCell ⟨G.pg, 6, none⟩ v3).setCell ⟨G.pg, 7, none⟩ v4).setCell ⟨G.pg, 8, none⟩ v5).setCell ⟨G.pg, 9, none⟩ v6).setCell ⟨G.pg, 10, none⟩ v7).setCell ⟨G.pg, 11, none⟩ v8).cell? ⟨w.heap.size + 1, 2, none⟩ = some (.int .i64 a1) ∧ (((((((((w5.setCell ⟨G.pg, 3, none⟩ v0).setCell ⟨G.pg, 4, none⟩ v1).setCell ⟨G.pg, 5, none⟩ v2).setCell ⟨G.pg, 6, none⟩ v3).setCell ⟨G.pg, 7, none⟩ v4).setCell ⟨G.pg, 8, none⟩ v5).setCell ⟨G.pg, 9, none⟩ v6).setCell ⟨G.pg, 10, none⟩ v7).setCell ⟨G.pg, 11, none⟩ v8).cell? ⟨w.heap.size + 1, 3, none⟩ = some (.int .i64 a2) ∧ (((((((((w5.setCell ⟨G.pg, 3, none⟩ v0).setCell ⟨G.pg, 4, none⟩ v1).setCell ⟨G.pg, 5, none⟩ v2).setCell ⟨G.pg, 6, none⟩ v3).setCell ⟨G.pg, 7, none⟩ v4).setCell ⟨G.pg, 8, none⟩ v5).setCell ⟨G.pg, 9, none⟩ v6).setCell ⟨G.pg, 10, none⟩ v7).setCell ⟨G.pg, 11, none⟩ v8).cell? ⟨w.heap.size + 1, 4, none⟩ = some (.int .i64 a3) ∧ (((((((((w5.setCell ⟨G.pg, 3, none⟩ v0).setCell ⟨G.pg, 4, none⟩ v1).setCell ⟨G.pg, 5, none⟩ v2).setCell ⟨G.pg, 6, none⟩ v3).setCell ⟨G.pg, 7, none⟩ v4).setCell ⟨G.pg, 8, none⟩ v5).setCell ⟨G.pg, 9, none⟩ v6).setCell ⟨G.pg, 10, none⟩ v7).setCell ⟨G.pg, 11, none⟩ v8).cell? ⟨w.heap.size + 1, 5, none⟩ = some (.int .i64 a4) ∧ (((((((((w5.setCell ⟨G.pg, 3, none⟩ v0).setCell ⟨G.pg, 4, none⟩ v1).setCell ⟨G.pg, 5, none⟩ v2).setCell ⟨G.pg, 6, none⟩ v3).setCell ⟨G.pg, 7, none⟩ v4).setCell ⟨G.pg, 8, none⟩ v5).setCell ⟨G.pg, 9, none⟩ v6).setCell ⟨G.pg, 10, none⟩ v7).setCell ⟨G.pg, 11, none⟩ v8).cell? ⟨w.heap.size + 1, 6, none⟩ = some (.int .i64 a5) ∧ (((((((((w5.setCell ⟨G.pg, 3, none⟩ v0).setCell ⟨G.pg, 4, none⟩ v1).setCell ⟨G.pg, 5, none⟩ v2).setCell ⟨G.pg, 6, none⟩ v3).setCell ⟨G.pg, 7, none⟩ v4).setCell ⟨G.pg, 8, none⟩ v5).setCell ⟨G.pg, 9, none⟩ v6).setCell ⟨G.pg, 10, none⟩ v7).setCell ⟨G.pg, 11, none⟩ v8).cell? ⟨w.heap.size + 1, 7, none⟩ = some (.int .i64 a6) ∧ (((((((((w5.setCell ⟨G.pg, 3, none⟩ v0).setCell ⟨G.pg, 4, none⟩ v1).setCell ⟨G.pg, 5, none⟩ v2).setCell ⟨G.pg, 6, none⟩ v3).setCell ⟨G.pg, 7, none⟩ v4).setCell ⟨G.pg, 8, none⟩ v5).setCell ⟨G.pg, 9, none⟩ v6).setCell ⟨G.pg, 10, none⟩ v7).setCell ⟨G.pg, 11, none⟩ v8).cell? ⟨w.heap.size + 1, 8, none⟩ = some (.int .i64 a7)) := Lib.hid (fun w5 v0 v1 v2 v3 v4 v5 v6 v7 v8 hb => HSV.out w5 _ hb ((((((((((Only.refl [G.pg] w5).setCell (.inl hmem) _).setCell (.inl hmem) _).setCell (.inl hmem) _).setCell (.inl hmem) _).setCell (.inl hmem) _).setCell (.inl hmem) _).setCell (.inl hmem) _).setCell (.inl hmem) _).setCell (.inl hmem) _))
        have HS10X : Hid (∀ (w5 : World) (v0 v1 v2 v3 v4 v5 v6 v7 v8 v9 : Value), Blk w5 w.heap.size 29 #[.pointer (some ⟨G.pg, 0, none⟩)] ∧ Blk w5 (w.heap.size + 1) 76 #[.map (some G.MT), .int .i64 a0, .int .i64 a1, .int .i64 a2, .int .i64 a3, .int .i64 a4, .int .i64 a5, .int .i64 a6, .int .i64 a7] ∧ Blk w5 w8.heap.size 9 #[.string rec] → ((((((((((w5.setCell ⟨G.pg, 3, none⟩ v0).setCell ⟨G.pg, 4, none⟩ v1).setCell ⟨G.pg, 5, none⟩ v2).setCell ⟨G.pg, 6, none⟩ v3).setCell ⟨G.pg, 7, none⟩ v4).setCell ⟨G.pg, 8, none⟩ v5).setCell ⟨G.pg, 9, none⟩ v6).setCell ⟨G.pg, 10, none⟩ v7).setCell ⟨G.pg, 11, none⟩ v8).setCell ⟨G.pg, 14, none⟩ v9).cell? ⟨w.heap.size, 0, none⟩ = some (.pointer (some ⟨G.pg, 0, none⟩)) ∧ ((((((((((w5.setCell ⟨G.pg, 3, none⟩ v0).setCell ⟨G.pg, 4, none⟩ v1).setCell ⟨G.pg, 5, none⟩ v2).setCell ⟨G.pg, 6, none⟩ v3).setCell ⟨G.pg, 7, none⟩ v4).setCell ⟨G.pg, 8, none⟩ v5).setCell ⟨G.pg, 9, none⟩ v6).setCell ⟨G.pg, 10, none⟩ v7).setCell ⟨G.pg, 11, none⟩ v8).setCell ⟨G.pg, 14, none⟩ v9).cell? ⟨w8.heap.size, 0, none⟩ = some (.string rec) ∧ ((((((((((w5.setCell ⟨G.pg, 3, none⟩ v0).setCell ⟨G.pg, 4, none⟩ v1).setCell ⟨G.pg, 5, none⟩ v2).setCell ⟨G.pg, 6, none⟩ v3).setCell ⟨G.pg, 7, none⟩ v4).setCell ⟨G.pg, 8, none⟩ v5).setCell ⟨G.pg, 9, none⟩ v6).setCell ⟨G.pg, 10, none⟩ v7).setCell ⟨G.pg, 11, none⟩ v8).setCell ⟨G.pg, 14, none⟩ v9).cell? ⟨w.heap.size + 1, 0, none⟩ = some (.map (some G.MT)) ∧ ((((((((((w5.setCell ⟨G.pg, 3, none⟩ v0).setCell ⟨G.pg, 4, none⟩ v1).setCell ⟨G.pg, 5, none⟩ v2).setCell ⟨G.pg, 6, none⟩ v3).setCell ⟨G.pg, 7, none⟩ v4).setCell ⟨G.pg, 8, none⟩ v5).setCell ⟨G.pg, 9, none⟩ v6).setCell ⟨G.pg, 10, none⟩ v7).setCell ⟨G.pg, 11, none⟩ v8).setCell ⟨G.pg, 14, none⟩ v9).cell? ⟨w.heap.size + 1, 1, none⟩ = some (.int .i64 a0) ∧ ((((((((((w5.setCell ⟨G.pg, 3, none⟩ v0).setCell ⟨G.pg, 4, none⟩ v1).setCell ⟨G.pg, 5, none⟩ v2).setCell ⟨G.pg, 6, none⟩ v3).setCell ⟨G.pg, 7, none⟩ v4).setCell ⟨G.pg, 8, none⟩ v5).setCell ⟨G.pg, 9, none⟩ v6).setCell ⟨G.pg, 10, none⟩ v7).setCell ⟨G.pg, 11, none⟩ v8).setCell ⟨G.pg, 14, none⟩ v9).cell? ⟨w.heap.size + 1, 2, none⟩ = some (.int .i64 a1) ∧ ((((((((((w5.setCell ⟨G.pg, 3, none⟩ v0).setCell ⟨G.pg, 4, none⟩ v1).setCell ⟨G.pg, 5, none⟩ v2).setCell ⟨G.pg, 6, none⟩ v3).setCell ⟨G.pg, 7, none⟩ v4).setCell ⟨G.pg, 8, none⟩ v5).setCell ⟨G.pg, 9, none⟩ v6).setCell ⟨G.pg, 10, none⟩ v7).setCell ⟨G.pg, 11, none⟩ v8).setCell ⟨G.pg, 14, none⟩ v9).cell? ⟨w.heap.size + 1, 3, none⟩ = some (.int .i64 a2) ∧ ((((((((((w5.setCell ⟨G.pg, 3, none⟩ v0).setCell ⟨G.pg, 4, none⟩ v1).setCell ⟨G.pg, 5, none⟩ v2).setCell ⟨G.pg, 6, none⟩ v3).setCell ⟨G.pg, 7, none⟩ v4).setCell ⟨G.pg, 8, none⟩ v5).setCell ⟨G.pg, 9, none⟩ v6).setCell ⟨G.pg, 10, none⟩ v7).setCell ⟨G.pg, 11, none⟩ v8).setCell ⟨G.pg, 14, none⟩ v9).cell? ⟨w.heap.size + 1, 4, none⟩ = some (.int .i64 a3) ∧ ((((((((((w5.setCell ⟨G.pg, 3, none⟩ v0).setCell ⟨G.pg, 4, none⟩ v1).setCell ⟨G.pg, 5, none⟩ v2).setCell ⟨G.pg, 6, none⟩ v3).setCell ⟨G.pg, 7, none⟩ v4).setCell ⟨G.pg, 8, none⟩ v5).setCell ⟨G.pg, 9, none⟩ v6).setCell ⟨G.pg, 10, none⟩ v7).setCell ⟨G.pg, 11, none⟩ v8).setCell ⟨G.pg, 14, none⟩ v9).cell? ⟨w.heap.size + 1, 5, none⟩ = some (.int .i64 a4) ∧ ((((((((((w5.setCell ⟨G.pg, 3, none⟩ v0).setCell ⟨G.pg, 4, none⟩ v1).setCell ⟨G.pg, 5, none⟩ v2).setCell ⟨G.pg, 6, none⟩ v3).setCell ⟨G.pg, 7, none⟩ v4).setCell ⟨G.pg, 8, none⟩ v5).setCell ⟨G.pg, 9, none⟩ v6).setCell ⟨G.pg, 10, none⟩ v7).setCell ⟨G.pg, 11, none⟩ v8).setCell ⟨G.pg, 14, none⟩ v9).cell? ⟨w.heap.size + 1, 6, none⟩ = some (.int .i64 a5) ∧ ((((((((((w5.setCell ⟨G.pg, 3, none⟩ v0).setCell ⟨G.pg, 4, none⟩ v1).setCell ⟨G.pg, 5, none⟩ v2).setCell ⟨G.pg, 6, none⟩ v3).setCell ⟨G.pg, 7, none⟩ v4).setCell ⟨G.pg, 8, none⟩ v5).setCell ⟨G.pg, 9, none⟩ v6).setCell ⟨G.pg, 10, none⟩ v7).setCell ⟨G.pg, 11, none⟩ v8).setCell ⟨G.pg, 14, none⟩ v9).cell? ⟨w.heap.size + 1, 7, none⟩ = some (.int .i64 a6) ∧ ((((((((((w5.setCell ⟨G.pg, 3, none⟩ v0).setCell ⟨G.pg, 4, none⟩ v1).setCell ⟨G.pg, 5, none⟩ v2).setCell ⟨G.pg, 6, none⟩ v3).setCell ⟨G.pg, 7, none⟩ v4).setCell ⟨G.pg, 8, none⟩ v5).setCell ⟨G.pg, 9, none⟩ v6).setCell ⟨G.pg, 10, none⟩ v7).setCell ⟨G.pg, 11, none⟩ v8).setCell ⟨G.pg, 14, none⟩ v9).cell? ⟨w.heap.size + 1, 8, none⟩ = some (.int .i64 a7)) := Lib.hid (fun w5 v0 v1 v2 v3 v4 v5 v6 v7 v8 v9 hb => HSV.out w5 _ hb (((((((((((Only.refl [G.pg] w5).setCell (.inl hmem) _).setCell (.inl hmem) _).setCell (.inl hmem) _).setCell (.inl hmem) _).setCell (.inl hmem) _).setCell (.inl hmem) _).setCell (.inl hmem) _).setCell (.inl hmem) _).setCell (.inl hmem) _).setCell (.inl hmem) _))
        have HBB := Lib.hid hb2
        have HBS := Lib.hid hb3
        have HBR := Lib.hid hb4
        clear hb2 hb3 hb4 hb5 h4 hd4 htg hTL g1 g2 g3 hpr h0 h1 bx0 r0 s0 s1 s2 s3 s4 s5 s6 s7 s8 hgl
        go_wp2_with fail
        go_region_held3 (fun w' => w'.cell? ⟨w.heap.size, 0, none⟩ = some (.pointer (some ⟨G.pg, 0, none⟩)) ∧ w'.cell? ⟨w8.heap.size, 0, none⟩ = some (.string rec) ∧ w'.cell? ⟨w.heap.size + 1, 0, none⟩ = some (.map (some G.MT)) ∧ w'.cell? ⟨w.heap.size + 1, 1, none⟩ = some (.int .i64 a0) ∧ w'.cell? ⟨w.heap.size + 1, 2, none⟩ = some (.int .i64 a1) ∧ w'.cell? ⟨w.heap.size + 1, 3, none⟩ = some (.int .i64 a2) ∧ w'.cell? ⟨w.heap.size + 1, 4, none⟩ = some (.int .i64 a3) ∧ w'.cell? ⟨w.heap.size + 1, 5, none⟩ = some (.int .i64 a4) ∧ w'.cell? ⟨w.heap.size + 1, 6, none⟩ = some (.int .i64 a5) ∧ w'.cell? ⟨w.heap.size + 1, 7, none⟩ = some (.int .i64 a6) ∧ w'.cell? ⟨w.heap.size + 1, 8, none⟩ = some (.int .i64 a7))
          (first | (with_reducible exact HSX.out _ ⟨HBB.out, HBS.out, HBR.out⟩) | (with_reducible exact HSX.out _ ⟨HBB.out.drew, HBS.out.drew, HBR.out.drew⟩) | (with_reducible exact HSX.out _ ⟨hq5, hr5, hs5⟩) | (with_reducible exact HS9X.out _ _ _ _ _ _ _ _ _ _ ⟨hq5, hr5, hs5⟩) | (with_reducible exact HS10X.out _ _ _ _ _ _ _ _ _ _ _ ⟨hq5, hr5, hs5⟩))
          (first
            | (go_at_call 24; ((with_reducible refine HTG.out.mono ?_)); rintro e w5 ⟨p5, c5, rfl, ho5, hp5, hq5, hr5, hs5⟩; have k3 := hp5.cell 3; have k4 := hp5.cell 4; have k5 := hp5.cell 5; have k6 := hp5.cell 6; have k7 := hp5.cell 7; have k8 := hp5.cell 8; have k9 := hp5.cell 9; have k10 := hp5.cell 10; have k11 := hp5.cell 11; have k14 := hp5.cell 14; have fz := hp5.frozen))
        have hblk10 := ((((((((((hp5.set_ 3 (.map (some G.MT))).set_ 4 (.int .i64 a0)).set_ 5 (.int .i64 a1)).set_ 6 (.int .i64 a2)).set_ 7 (.int .i64 a3)).set_ 8 (.int .i64 a4)).set_ 9 (.int .i64 a5)).set_ 10 (.int .i64 a6)).set_ 11 (.int .i64 a7)).set_ 14 (.slice p5 TL.length c5))
        have hblk11 := hblk10.eq_ (set15 _ _ _ _ _ _ _ _ _ _ _ _ _ _ _ _ _ _ _ _ _ _ _ _ _)
        rw [← pcells_lit, ← hta, ← HG1.out] at hblk11
        clear hblk10
        have hX10 := (((((((((((Only.refl [G.pg] w5).setCell (p := ⟨G.pg, 3, none⟩) (.inl hmem) (.map (some G.MT))).setCell (p := ⟨G.pg, 4, none⟩) (.inl hmem) (.int .i64 a0)).setCell (p := ⟨G.pg, 5, none⟩) (.inl hmem) (.int .i64 a1)).setCell (p := ⟨G.pg, 6, none⟩) (.inl hmem) (.int .i64 a2)).setCell (p := ⟨G.pg, 7, none⟩) (.inl hmem) (.int .i64 a3)).setCell (p := ⟨G.pg, 8, none⟩) (.inl hmem) (.int .i64 a4)).setCell (p := ⟨G.pg, 9, none⟩) (.inl hmem) (.int .i64 a5)).setCell (p := ⟨G.pg, 10, none⟩) (.inl hmem) (.int .i64 a6)).setCell (p := ⟨G.pg, 11, none⟩) (.inl hmem) (.int .i64 a7)).setCell (p := ⟨G.pg, 14, none⟩) (.inl hmem) (.slice p5 TL.length c5))
        have hm5 : PMap w5 G.MT t.pages t.sz := HPM.out.below ((below_dr (Below.refl _ wr)).trans ho5.bel)
        have hfin := HDS.out.committed HTN.out hu ho5 hm5 ht.ok.wf.len HMOFF.out (HG1.out ▸ hX10) hblk11
        obtain ⟨k1, k2, k3'⟩ := wrSeq_keeps WS d HH0.out
        obtain ⟨m1, m2, m3⟩ := sync_keeps _ HH1.out
        have hwl : WS.length ≤ 8 * P.n := by
          have := Pb.rec_fits ht.ok.wf hn hn2 ch HCG.out.ok HCL.out
          rw [← HEWS.out, Wa.sq_length]
          exact this
        have hset := settle_any hfin TL rfl (fun x hx => by
          rw [← HTL.out] at hx
          have h1 := (Pb.targ_place ht.ok.wf hn ch HCG.out.ok x hx).1
          have h2 := hI.len
          exact ⟨by rw [m2, k2]; omega, Pb.targ_64 ht.ok.wf hn2 ch HCG.out.ok x hx⟩) (by rw [m1, k1]; exact hon) (by
          rw [m3, k3', ← HTL.out, targ_len]
          have := HCL.out
          omega) (by rw [← HTL.out, targ_len]; have := HCL.out; omega)
        have eG : ({ G' with M := G.MT, tv := .slice p5 TL.length c5 } : PH).pg = G.pg := HG1.out
        rw [eG] at hset
        have HSET := Lib.hid hset
        clear hblk11 hX10 hm5 hfin k1 k2 k3' m1 m2 m3 hwl hset eG ho5 hp5 hq5 hr5 hs5
        go_wp2_with fail
        (with_reducible refine HSET.out.mono ?_)
        rintro e w6 ⟨rfl, fp6, tv6, h6⟩
        obtain ⟨y, hy⟩ : ∃ y, (Pb.settleV (Vd.sync (Pb.wrSeq d WS).2).2 TL).1 = y := ⟨_, rfl⟩
        rw [hy] at h6 ⊢
        have H6 := Lib.hid h6
        have HY := Lib.hid hy
        clear h6 hy
        by_cases h80 : y = 80
        · subst h80
          go_wp2_with fail
          go_ret
          refine .inr ⟨ch, HCG.out, HCL.out, ?_⟩
          have hcv := HCV3.out HH0.out HH1.out
          rw [HTL.out, HY.out] at hcv
          rw [hcv]
          exact ⟨{ G' with pg := G.pg, M := G.MT, fp := fp6, tv := tv6 }, rfl, HG2.out, rfl, H6.out⟩
        · have e1 : (y == 80) = false := by simpa using h80
          have H80 := Lib.hid h80
          clear h80
          go_wp2_with fail
          go_ret
          refine .inr ⟨ch, HCG.out, HCL.out, ?_⟩
          have hcv := HCV3.out HH0.out HH1.out
          rw [HTL.out, HY.out, if_neg H80.out] at hcv
          rw [hcv]
          exact ⟨{ G' with pg := G.pg, M := G.MT, fp := fp6, tv := tv6 }, rfl, HG2.out, rfl, H6.out⟩
end
end Go.Proofs.YtoleojljpaglhaaGreat
