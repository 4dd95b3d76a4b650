/- A pager at work, as the laws use it: Begin, Commit, state, Open, with what may be cut at any time. -/
import Derived.Test.YtoleojljpaglhaaGreatPcE
import Derived.Test.YtoleojljpaglhaaGreatPaX
import Derived.Test.YtoleojljpaglhaaGreatPaQ
set_option maxRecDepth 20000
namespace Go.Proofs.YtoleojljpaglhaaGreat
open Go.RowKit
set_option maxRecDepth 20000
theorem stB_congr {P Q : PP} (h1 : P.seen = Q.seen) (h2 : P.seenRoots = Q.seenRoots) (h3 : P.seenSz = Q.seenSz) : stB P = stB Q := by
  have e : stStep P = stStep Q := by
    funext s k
    unfold stStep
    rw [h1]
  unfold stB stS
  rw [e, h2, h3]
/-- the text of a state -/
def txt (f : Int → Option ByteArray) (roots : List Int) (sz : Nat) : ByteArray := stB (openedP 40 f sz roots)
theorem stB_none (P : PP) (h : P.tx = none) : stB P = txt P.pages P.roots P.sz :=
  stB_congr (by unfold PP.seen; rw [h]; rfl) (by unfold PP.seenRoots; rw [h]; rfl) (by unfold PP.seenSz; rw [h]; rfl)
theorem stB_with (P : PP) (t : PT) : stB (P.with_ t) = txt t.pages t.roots t.sz := stB_congr rfl rfl rfl
section
variable {S : Nat → Prop} {w0 w w' : World} {G : PH} {d d' : Vd.VD} {L L' : Wa.WL} {P : PP} {t : PT} {l : List (Nat × List UInt8)}
theorem wf_size {n sz : Nat} {f : Int → Option ByteArray} {roots : List Int} (k : Pb.Wf n f roots sz) : ∀ x b, f x = some b → b.size ≤ 256 := fun x b h => by rw [k.size x b h]; exact Nat.le_refl _
theorem inv_short (h : Pb.Inv d L P l) : l.length ≤ 40000 := by
  have hn2 := h.hn2
  rcases h.body with ⟨rfl, _⟩ | ⟨ch, ga, hc, hl, hS⟩
  · exact Nat.zero_le _
  · have h1 := Pb.found_short hS.now.1
    rw [Pb.allP_rec, Pb.recL_len h.wf hn2 ch hc] at h1
    rw [hl, targ_len]
    omega
/-- how Begin ends -/
def BgR (S : Nat → Prop) (w0 : World) (G : PH) (d : Vd.VD) (L : Wa.WL) (P : PP) (l : List (Nat × List UInt8)) (e : Ending) (w' : World) : Prop :=
  ∃ (c : Int) (G' : PH) (d' : Vd.VD), e = .returned (.int .i64 c) ∧ G'.pg = G.pg ∧ G'.dg = G.dg ∧ Pb.Rel d d' l.length ∧
    ((c = 0 ∧ PG S w0 w' G' d' L (({ P with todo := [] } : PP).with_ (freshT P)) ∧ Pb.Inv d' L { P with todo := [] } []) ∨
     (c = 83 ∧ PG S w0 w' G' d' L P ∧ Pb.Inv d' L P l ∧ d.room ≠ -1) ∨ (c = 80 ∧ d.fuse ≠ none ∧ l ≠ []))
theorem rbegin_any (h : PG S w0 w G d L P) (htn : P.tx = none) (hI : Pb.Inv d L P l) (hw : d.writes < 800000000) :
    Calls Tryz.prog 40 #[.pointer (some ⟨G.pg, 0, none⟩)] w (BgR S w0 G d L P l) := by
  obtain ⟨hr, hs⟩ := hI.settle
  have hl := inv_short hI
  refine (pbegin_any h hI.up htn l hI.todo hI.places hI.on (by omega) (by omega)).mono ?_
  rintro e w' ⟨he, G', h1, h2, h3⟩
  rcases hs with ⟨e0, hI'⟩ | ⟨e0, hI', _, hrm⟩ | ⟨e0, ho, hf⟩
  · rw [if_pos e0] at h3
    exact ⟨_, G', _, he, h1, h2, hr, .inl ⟨e0, h3, hI'⟩⟩
  · rw [if_neg (by omega)] at h3
    exact ⟨_, G', _, he, h1, h2, hr, .inr (.inl ⟨e0, h3, hI', hrm⟩)⟩
  · refine ⟨_, G', _, he, h1, h2, hr, .inr (.inr ⟨e0, hf, fun hn => ?_⟩)⟩
    rw [hn] at e0
    cases e0
theorem commitV_gen (d : Vd.VD) (L : Wa.WL) (P : PP) (t : PT) (ch : List Int) : (Pb.commitV d L P t ch).2.2.1.gen = L.gen + 1 ∧ (Pb.commitV d L P t ch).2.2.2.n = P.n ∧ (Pb.commitV d L P t ch).2.2.2.tx = none := by
  unfold Pb.commitV
  split
  · exact ⟨rfl, rfl, rfl⟩
  · split
    · exact ⟨rfl, rfl, rfl⟩
    · exact ⟨rfl, rfl, rfl⟩
/-- how Commit ends -/
def CmO (S : Nat → Prop) (w0 : World) (G : PH) (d : Vd.VD) (L : Wa.WL) (P : PP) (t : PT) (e : Ending) (w' : World) : Prop :=
  ∃ (c : Int) (G' : PH) (d' : Vd.VD) (L' : Wa.WL) (P' : PP), e = .returned (.int .i64 c) ∧ G'.pg = G.pg ∧ G'.dg = G.dg ∧ PG S w0 w' G' d' L' P' ∧ P'.tx = none ∧ P'.n = P.n ∧ L'.gen ≤ L.gen + 1 ∧ Pb.Rel d d' (12 * P.n) ∧
    ((c = 0 ∧ P'.pages = t.pages ∧ P'.roots = t.roots ∧ P'.sz = t.sz ∧ ∃ l, Pb.Inv d' L' P' l ∧ (d.room = -1 → l = [])) ∨
     (c = 83 ∧ P' = P ∧ Pb.Inv d' L' P [] ∧ d.room ≠ -1) ∨
     (c = 80 ∧ Pb.Off (fun s => Pb.Rec s P.n P.pages P.roots ∨ Pb.Rec s P.n t.pages t.roots) d' ∧ d.fuse ≠ none))
theorem rcommit_any (h : PG S w0 w G d L (P.with_ t)) (htn : P.tx = none) (hI : Pb.Inv d L P []) (ht : Pb.TxI P t) (hg : L.gen + 1 < 256) (hw : d.writes < 800000000) :
    Calls Tryz.prog 50 #[.pointer (some ⟨G.pg, 0, none⟩)] w (CmO S w0 G d L P t) := by
  refine (pcommit_some h htn hI ht hg hw).mono ?_
  rintro e w' (⟨he, hP, hp, hz, hr⟩ | ⟨ch, hc, hcl, G', h1, h2, he, hP⟩)
  · exact ⟨0, G, d, L, P, he, rfl, rfl, hP, htn, rfl, by omega, (Pb.Rel.refl d).more (Nat.zero_le _), .inl ⟨rfl, hp.symm, hr.symm, hz.symm, [], hI, fun _ => rfl⟩⟩
  · have hn := hI.hn
    have hfit := Pb.rec_fits ht.ok.wf hI.hn hI.hn2 ch hc.ok hcl
    obtain ⟨g1, g2, g3⟩ := commitV_gen d L P t ch
    obtain ⟨hrel, hres⟩ := hI.commit ht.ok hc hg hfit
    have htl := targ_len P.n t.pages t.roots ch
    refine ⟨_, G', _, _, _, he, h1, h2, hP, g3, g2, by omega, hrel.more (by omega), ?_⟩
    rcases hres with ⟨c0, k1, k2, k3, l, k4, k5⟩ | ⟨c0, k1, k2, k3⟩ | ⟨c0, k1, k2⟩
    · exact .inl ⟨c0, k1, k2, k3, l, k4, k5⟩
    · refine .inr (.inl ⟨c0, ?_, ?_, k3⟩)
      · rw [k1, no_tx P htn]
      · rw [no_tx P htn] at k2; exact k2
    · exact .inr (.inr ⟨c0, k1, k2⟩)
/-- a disk, with its blocks, and nothing more -/
structure DK (S : Nat → Prop) (w0 : World) (dg : Nat) (d : Vd.VD) (w : World) : Prop where
  ex : ∃ fp, DF w dg d fp ∧ (∀ b ∈ fp, S b)
  bel : KeepS S w0 w
  up : ∀ k, w0.heap.size ≤ k → S k
theorem PG.dk (h : PG S w0 w G d L P) : DK S w0 G.dg d w := ⟨⟨G.fp, h.log.disk, h.log.low⟩, h.log.bel, h.log.up⟩
theorem DK.later (h : DK S w0 G.dg d w) (hb : Below w.heap.size w w') : DK S w0 G.dg d w' := by
  obtain ⟨fp, hD, hl⟩ := h.ex
  exact ⟨⟨fp, hD.below hb, hl⟩, h.bel.below hb, h.up⟩
theorem dk_call {dg : Nat} {v : Value} {f : Nat} {args : Array Value} (h : DK S w0 dg d w) (hc : ∀ fp, DF w dg d fp → Calls Tryz.prog f args w (DPost v dg d' fp w)) : Calls Tryz.prog f args w fun e w' => e = .returned v ∧ DK S w0 dg d' w' := by
  obtain ⟨fp, hD, hl⟩ := h.ex
  refine (hc fp hD).mono ?_
  rintro e w' ⟨he, fp', hF, hO⟩
  refine ⟨he, ⟨⟨fp', hF, fun b hb => ?_⟩, h.bel.only hO.1 hl, h.up⟩⟩
  rcases hO.2 b hb with h1 | h1
  · exact hl b h1
  · exact h.up b (Nat.le_trans h.bel.size h1)
theorem pg_call {v : Value} {f : Nat} {args : Array Value} (h : PG S w0 w G d L P) (hc : ∀ fp, DF w G.dg d fp → Calls Tryz.prog f args w (DPost v G.dg d' fp w)) : Calls Tryz.prog f args w fun e w' => e = .returned v ∧ ∃ G', G'.pg = G.pg ∧ G'.dg = G.dg ∧ PG S w0 w' G' d' L P := by
  refine (hc G.fp h.log.disk).mono ?_
  rintro e w' hp
  obtain ⟨he, fp', hP⟩ := h.called hp
  exact ⟨he, { G with fp := fp' }, rfl, rfl, hP⟩
end
end Go.Proofs.YtoleojljpaglhaaGreat
/- A new disk, opened; a disk opened again, whatever was found; the disk's calls. -/
namespace Go.Proofs.YtoleojljpaglhaaGreat
open Go.RowKit
def noPg : Int → Option ByteArray := fun _ => none
def zroots : List Int := List.replicate 8 0
theorem zero_sec (m i : Nat) (h : i < m) : (newVD m).secs.getD i [] = List.replicate 64 0 := by
  unfold newVD
  simp [List.getD_eq_getElem?_getD, h]
theorem cat_zero (m : Nat) : ∀ k a : Nat, a + k ≤ m → Pb.cat (newVD m).secs a k = List.replicate (64 * k) 0 := by
  intro k
  induction k with
  | zero => intro _ _; rfl
  | succ k ih =>
    intro a h
    rw [Pb.cat_succ, ih (a + 1) (by omega), zero_sec m a (by omega), List.replicate_append_replicate]
    congr 1
    omega
theorem wf_none (n : Nat) : Pb.Wf n noPg zroots 0 :=
  ⟨fun k b h => (by cases h), fun k b h => (by cases h), rfl, fun r h => by rw [List.eq_of_mem_replicate h]; omega, by
    have : (List.range (n - 8)).filter (Pb.usedP noPg) = [] := List.filter_eq_nil_iff.2 (fun q _ => by simp [Pb.usedP, noPg])
    rw [this]
    rfl⟩
theorem cold_new (m n : Nat) (hn : 8 ≤ n) (hn2 : n ≤ 5000) (hm : 12 * n ≤ m) : Pb.Cold (newVD m) n noPg zroots 0 [] 0 := by
  refine ⟨rfl, rfl, hn, hn2, wf_none n, by simpa [newVD] using hm, ?_, .inl ⟨rfl, .inl ⟨rfl, rfl, ?_⟩, ?_, ?_⟩⟩
  · intro s hs
    unfold newVD at hs
    simp only [List.mem_replicate] at hs
    rw [hs.2]
    rfl
  · unfold Wa.sec
    rw [Nat.add_zero]
    exact zero_sec m (4 * n) (by omega)
  · rw [cat_zero m 32 _ (by omega)]
    unfold Pb.metaL
    have e1 : zroots.flatMap (Oct.beB 4) = List.replicate 32 0 := by decide +kernel
    have e2 : Pb.bitsL (Pb.usedP noPg) ((n - 1) / 8) = List.replicate ((n - 1) / 8) 0 := by
      rw [← Pb.bitsL_zero]
      exact Pb.bitsL_congr _ _ _ (fun q => rfl)
    rw [e1, e2, List.replicate_append_replicate, List.replicate_append_replicate]
    congr 1
    omega
  · intro q b h
    cases h
theorem stamps_new (m n : Nat) (hm : 12 * n ≤ m) : Pb.Stamps (newVD m).secs n 0 := by
  intro p hp
  unfold Wa.sec
  rw [zero_sec m _ (by omega)]
  exact ⟨List.length_replicate, 0, by decide, rfl, rfl⟩
section
variable {S : Nat → Prop} {w0 w w' : World} {G : PH} {d d' : Vd.VD} {L L' : Wa.WL} {P : PP} {t : PT} {l : List (Nat × List UInt8)} {n sz ga dg : Nat} {f : Int → Option ByteArray} {roots : List Int}
theorem inv_opened (h : Hot d d' n f roots) (hk : Pb.Wf n f roots sz) (hL : Lgs n ga L) (hst : Pb.Stamps d.secs n ga) (hn : 8 ≤ n) (hn2 : n ≤ 5000) (hl : 12 * n ≤ d'.secs.length) : Pb.Inv d' L (openedP n f sz roots) [] := by
  have hq : Vd.lay d'.secs d'.q = d'.secs := by rw [h.q]; rfl
  refine ⟨hn, hn2, rfl, hk, hl, by rw [hq]; exact h.z, hL.fr, hL.n_, hL.used, hL.recs, ?_, rfl, .inl ⟨rfl, by rw [hq]; exact h.holds, h.safe⟩⟩
  rw [hq, hL.gen]
  exact hst.far h.high
/-- how the first Open ends -/
def OpN (S : Nat → Prop) (w0 : World) (dg m : Nat) (e : Ending) (w' : World) : Prop :=
  ∃ G L d', e = .returned (.tuple #[.pointer (some ⟨G.pg, 0, none⟩), .int .i64 0]) ∧ G.dg = dg ∧ L.gen = 0 ∧ PG S w0 w' G d' L (openedP 40 noPg 0 zroots) ∧ Pb.Inv d' L (openedP 40 noPg 0 zroots) [] ∧ Pb.Rel (newVD m) d' 0
theorem ropen_new {m : Nat} (hm : 480 ≤ m) (h : DK S w0 dg (newVD m) w) : Calls Tryz.prog 8 #[.pointer (some ⟨dg, 0, none⟩), .int .i64 40] w (OpN S w0 dg m) := by
  obtain ⟨fp, hD, hl⟩ := h.ex
  have hC := cold_new m 40 (by omega) (by omega) (by omega)
  refine (popen_cold h.bel h.up hD hl hC (by simp [newVD])).mono ?_
  rintro e w' (⟨G, L, d', he, hg, hk, hL, hP, hr, hh⟩ | ⟨d', fp', he, _, _, _, _, _, hf⟩ | hrm)
  · exact ⟨G, L, d', he, hg, hL.gen, hP, inv_opened hh (wf_none 40) hL (stamps_new m 40 (by omega)) (by omega) (by omega) (by rw [hr.len]; simp [newVD]; omega), hr⟩
  · exact absurd rfl hf
  · exact absurd rfl hrm
/-- a disk that may be opened: power, nothing queued, some state of 40 pages -/
structure Rdy (A : (Int → Option ByteArray) → List Int → Nat → Prop) (d : Vd.VD) : Prop where
  ex : ∃ f roots sz, A f roots sz ∧ Pb.Wf 40 f roots sz ∧ Pb.Rec d.secs 40 f roots
  q : d.q = []
  len : 480 ≤ d.secs.length
  room : d.room = -1
/-- how a later Open ends -/
def OpA (S : Nat → Prop) (w0 : World) (dg : Nat) (d : Vd.VD) (A : (Int → Option ByteArray) → List Int → Nat → Prop) (e : Ending) (w' : World) : Prop :=
  (∃ G L d' f roots sz, e = .returned (.tuple #[.pointer (some ⟨G.pg, 0, none⟩), .int .i64 0]) ∧ G.dg = dg ∧ PG S w0 w' G d' L (openedP 40 f sz roots) ∧ A f roots sz ∧ Pb.Wf 40 f roots sz ∧ Pb.Rel d d' 40000 ∧ Hot d d' 40 f roots) ∨
  (∃ d', e = .returned (.tuple #[.pointer none, .int .i64 80]) ∧ DK S w0 dg d' w' ∧ d.fuse ≠ none ∧ Rdy A d' ∧ d'.on = false ∧ Pb.Rel d d' 40000)
theorem ropen_any {A : (Int → Option ByteArray) → List Int → Nat → Prop} (h : DK S w0 dg d w) (hr : Rdy A d) (hon : d.on = true) (hw : d.writes < 800000000) : Calls Tryz.prog 8 #[.pointer (some ⟨dg, 0, none⟩), .int .i64 40] w (OpA S w0 dg d A) := by
  obtain ⟨fp, hD, hl⟩ := h.ex
  obtain ⟨f, roots, sz, hA, hk, hR⟩ := hr.ex
  have hok : d.ok := by
    obtain ⟨_, _, _, _, hd⟩ := hD
    exact hd.ok
  obtain ⟨l, ga, hC⟩ := Pb.cold_of hon hr.q (by omega) (by omega) hk hr.len hok.secs hR
  have hsh := hC.short
  refine (popen_cold h.bel h.up hD hl hC (by omega)).mono ?_
  rintro e w' (⟨G, L, d', he, hg, _, hL, hP, hrel, hh⟩ | ⟨d', fp', he, hD', hl', hb', hrel, ho, hf⟩ | hrm)
  · exact .inl ⟨G, L, d', f, roots, sz, he, hg, hP, hA, hk, hrel.more hsh, hh⟩
  · exact .inr ⟨d', he, ⟨⟨fp', hD', hl'⟩, hb', h.up⟩, hf, ⟨⟨f, roots, sz, hA, hk, ho.2.2⟩, ho.2.1, by rw [hrel.len]; exact hr.len, hrel.room hr.room⟩, ho.1, hrel.more hsh⟩
  · exact absurd hr.room hrm
theorem dk_restore (h : DK S w0 dg d w) : Calls Tryz.prog 64 #[.pointer (some ⟨dg, 0, none⟩)] w fun e w' => e = .returned (.tuple #[]) ∧ DK S w0 dg { d with on := true } w' :=
  dk_call h (fun fp hD => by
    obtain ⟨S, M, qv, rfl, h⟩ := hD
    refine (restore_any h).mono ?_
    rintro e w' ⟨rfl, hD, hO⟩
    exact ⟨rfl, _, ⟨S, M, qv, rfl, hD⟩, ⟨hO.mono (by simp [foot]), fun b hb => .inl hb⟩⟩)
end
end Go.Proofs.YtoleojljpaglhaaGreat
