/- The contract of pager.Open whatever is found in the log. -/
import Derived.Test.YtoleojljpaglhaaGreatPaT
import Derived.Test.YtoleojljpaglhaaGreatPaN
import Derived.Test.YtoleojljpaglhaaGreatPaV
import Derived.Test.YtoleojljpaglhaaGreatPbV
set_option maxRecDepth 20000
namespace Go.Proofs.YtoleojljpaglhaaGreat
open Go.RowKit
set_option maxRecDepth 20000
section
variable {S : Nat → Prop} {w0 w w' : World} {G : PH} {d d' : Vd.VD} {L L' : Wa.WL} {P : PP}
/-- new targets -/
theorem PG.setTodo (h : PG S w0 w G d L P) (l : List (Nat × List UInt8)) {w1 : World} {v : Value} (ho : OwnT w.heap.size w w1 v l) :
    PG S w0 (w1.setCell ⟨G.pg, 14, none⟩ v) { G with tv := v } d L { P with todo := Pb.tod l } := by
  have h1 := h.later ho.bel
  obtain ⟨k, kb⟩ := h1.poke 14 v
  have hpg := h.blk.lt
  refine ⟨k.log, kb _ (pcells_set _ _ _ _ _ _ _ _ _ h.len).2.2.2, h.len, fun hu => k.pm _ _ _ (h1.pm hu), fun t ht => ?_, ?_, fun b hb => ?_⟩
  · have := k.tx t ht
    exact ⟨this.blk, this.len, this.pm, this.sm, this.dv, this.ne1, this.ne2, this.ne3⟩
  · have := ownsRow_only (row0 ho.own) ((Only.refl [G.pg] w1).setCell (p := ⟨G.pg, 14, none⟩) (.inl (by simp)) v) (fun q hq hm => by
      rw [List.mem_singleton] at hm
      have := (ho.own.lt q hq).1
      omega)
    rw [tod_length]
    exact this
  · rcases hb with hb | hb | hb | hb
    · exact h.own b (.inl hb)
    · exact h.own b (.inr (.inl hb))
    · exact h.own b (.inr (.inr (.inl hb)))
    · exact h.fresh b (ho.own.lt b hb).1
theorem OwnT.slice {B : Nat} {w0 w : World} {v : Value} {l : List (Nat × List UInt8)} (h : OwnT B w0 w v l) : ∃ p c, v = .slice p l.length c := by
  rcases h.own.2 with ⟨hv, hn⟩ | ⟨g, cap, cur, hv, _⟩
  · exact ⟨none, 0, by rw [hv, hn]⟩
  · exact ⟨_, cap, hv⟩
theorem ret_pair {a b a' b' : Value} (h : a = a') (k : b = b') : Ending.returned (.tuple #[a, b]) = .returned (.tuple #[a', b']) := by rw [h, k]
theorem ret_one {a a' : Value} (h : a = a') : Ending.returned a = .returned a' := by rw [h]
theorem val_int {a b : Int} (h : a = b) : Value.int .i64 a = .int .i64 b := by rw [h]
theorem val_ptr {a b : Nat} (h : a = b) : Value.pointer (some ⟨a, 0, none⟩) = .pointer (some ⟨b, 0, none⟩) := by rw [h]
/-- what is found in the log, and what is to be written then -/
def RecsOk (n : Nat) (L : Wa.WL) (l : List (Nat × List UInt8)) : Prop :=
  (L.recs = [] ∧ l = []) ∨ ∃ f roots ch, L.recs = [Pb.recL n f roots ch] ∧ l = Pb.targL n f roots ch ∧ roots.length = 8 ∧ (∀ p ∈ ch, 1 ≤ p ∧ p ≤ (n : Int) - 8 ∧ ∃ b, f p = some b ∧ b.size = 256) ∧ ch.length ≤ 10000
/-- how Open ends -/
def OpRes (S : Nat → Prop) (w0 : World) (dg : Nat) (d : Vd.VD) (n : Nat) (l : List (Nat × List UInt8)) (CL : Wa.WL → Prop) (e : Ending) (w' : World) : Prop :=
  ((Pb.settleV d l).1 = 0 ∧ ∃ G L, e = .returned (.tuple #[.pointer (some ⟨G.pg, 0, none⟩), .int .i64 0]) ∧ G.dg = dg ∧ Wok L ∧ CL L ∧ PG S w0 w' G (Pb.settleV d l).2 L (loadP (Pb.settleV d l).2 n)) ∨
  ((Pb.settleV d l).1 ≠ 0 ∧ e = .returned (.tuple #[.pointer none, .int .i64 (Pb.settleV d l).1]) ∧ ∃ fp, DF w' dg (Pb.settleV d l).2 fp ∧ (∀ b ∈ fp, S b) ∧ KeepS S w0 w')
set_option maxRecDepth 20000 in
set_option maxHeartbeats 2000000 in
theorem popen_todo {dg n : Nat} {fp0 : List Nat} (hD : DF w dg d fp0) (hon : d.on = true) (hn : 8 ≤ n) (hn2 : n ≤ 5000) (hs : 12 * n ≤ d.secs.length) (l : List (Nat × List UInt8)) (CL : Wa.WL → Prop)
    (hl : ∀ x ∈ l, x.1 < d.secs.length ∧ x.2.length = 64) (hw : d.writes + l.length < 1000000000) (hll : l.length ≤ 100000)
    (hset : (Pb.settleV d l).1 = 0 → (Pb.settleV d l).2.on = true ∧ (Pb.settleV d l).2.secs.length = d.secs.length)
    (hO : Calls Tryz.prog 22 #[.pointer (some ⟨dg, 0, none⟩), .int .i64 (4 * (n : Int)), .int .i64 (8 * (n : Int))] w fun e w' => ∃ lg L fp rv, e = .returned (.tuple #[.pointer (some ⟨lg, 0, none⟩), .int .i64 0]) ∧ Wok L ∧ RecsOk n L l ∧ CL L ∧ LG S w0 w' dg d lg L fp rv) :
    Calls Tryz.prog 8 #[.pointer (some ⟨dg, 0, none⟩), .int .i64 (n : Int)] w (OpRes S w0 dg d n l CL) := by
  have hsec : Calls Tryz.prog 21 #[.pointer (some ⟨dg, 0, none⟩)] w fun e w' => e = .returned (.int .i64 (d.secs.length : Int)) ∧ w = w' := sectors_df hD
  have hsl : d.secs.length ≤ 65536 := by
    obtain ⟨S, M, qv, _, hd⟩ := hD
    exact hd.secs1
  obtain ⟨sl, hsl2⟩ : ∃ sl : Int, (d.secs.length : Int) = sl := ⟨_, rfl⟩
  rw [hsl2] at hsec
  have j1 : ¬ (n : Int) < 8 := by omega
  have j2 : ¬ 5000 < (n : Int) := by omega
  have j3 : ¬ sl < 12 * (n : Int) := by omega
  have j4 : (n : Int) ≤ 5000 := by omega
  have HSL := Lib.hid hsl
  have HS := Lib.hid hsec
  have HO := Lib.hid hO
  have HN1 := Lib.hid hn
  have HN2 := Lib.hid hn2
  have HSS := Lib.hid hs
  have HON := Lib.hid hon
  have HL := Lib.hid hl
  have HW := Lib.hid hw
  have HLL := Lib.hid hll
  have HSET := Lib.hid hset
  clear hsec hO hD hsl hsl2 hn hn2 hs hon hl hw hll hset
  go_enter Tryz.func8, Tryz.ntmps8
  go_wp2_with fail
  (with_reducible refine HS.out.mono ?_)
  rintro e w1 ⟨rfl, rfl⟩
  go_wp2_with fail
  (with_reducible refine HO.out.mono ?_)
  rintro e w1 ⟨lg, L, fp, rv, rfl, hk, hr, hcl, hlg⟩
  have hpg := bare_pg (n := n) hlg
  rw [bare_cells] at hpg
  have hrc : Calls Tryz.prog 23 #[.pointer (some ⟨lg, 0, none⟩)] _ _ := records_any hpg.log hk
  have HPG := Lib.hid hpg
  have HK := Lib.hid hk
  have HR := Lib.hid hr
  have HRC := Lib.hid hrc
  have HCL := Lib.hid hcl
  clear hpg hk hr hlg hrc hcl
  go_wp2_with fail
  (with_reducible refine HRC.out.mono ?_)
  rintro e w2 ⟨v, rfl, ho⟩
  have h2 := HPG.out.later ho.bel
  -- from settle on
  have HEND : Hid (∀ W G', PG S w0 W G' d L { bareP n with todo := Pb.tod l } →
      Calls Tryz.prog 25 #[.pointer (some ⟨G'.pg, 0, none⟩)] W fun e w' => e = .returned (.int .i64 (Pb.settleV d l).1) ∧ ∃ G'', G''.pg = G'.pg ∧ G''.dg = G'.dg ∧ PG S w0 w' G'' (Pb.settleV d l).2 L { bareP n with todo := if (Pb.settleV d l).1 = 0 then [] else Pb.tod l }) := Lib.hid (fun W G' hP => by
    refine (settle_any hP l rfl HL.out HON.out HW.out HLL.out).mono ?_
    rintro e w' ⟨he, fp', tv', hP'⟩
    exact ⟨he, { G' with fp := fp', tv := tv' }, rfl, rfl, hP'⟩)
  rcases HR.out with ⟨hr0, hl0⟩ | ⟨f, roots, ch, hr1, hl1, hrl, hch, hcl⟩
  · obtain ⟨p8, cap8, hv⟩ := os_slice ho
    rw [hr0] at hv
    have hv : v = .slice p8 0 cap8 := hv
    subst hv
    have HE : Hid (Calls Tryz.prog 25 #[.pointer (some ⟨w1.heap.size, 0, none⟩)] w2 fun e w' => e = .returned (.int .i64 (Pb.settleV d l).1) ∧ ∃ G'', G''.pg = w1.heap.size ∧ G''.dg = dg ∧ PG S w0 w' G'' (Pb.settleV d l).2 L { bareP n with todo := if (Pb.settleV d l).1 = 0 then [] else Pb.tod l }) := Lib.hid (HEND.out w2 (bareH w1.heap.size dg lg fp rv) (by rw [hl0]; exact h2))
    clear ho h2 hr0 hl0 HEND
    go_wp2_with fail
    (with_reducible refine HE.out.mono ?_)
    rintro e w3 ⟨rfl, G2, hg2, hd2, h3⟩
    have H3 := Lib.hid h3
    have HG2 := Lib.hid hg2
    have HD2 := Lib.hid hd2
    clear h3 hg2 hd2
    by_cases e0 : (Pb.settleV d l).1 = 0
    · have HLD : Hid (Calls Tryz.prog 26 #[.pointer (some ⟨w1.heap.size, 0, none⟩)] w3 fun e w' => e = .returned (.int .i64 0) ∧ ∃ M, PG S w0 w' { G2 with M := M } (Pb.settleV d l).2 L (loadP (Pb.settleV d l).2 n)) := Lib.hid (by
        have h3 := H3.out
        rw [if_pos e0] at h3
        have hs := HSET.out e0
        have := load_ok h3 rfl HN1.out HN2.out hs.1 (by have := HSS.out; rw [hs.2]; show n * 4 ≤ _; omega)
        rw [HG2.out] at this
        refine this.mono ?_
        rintro e w' ⟨he, M, hP⟩
        refine ⟨he, M, ?_⟩
        have eG : ({ pg := w1.heap.size, dg := G2.dg, lg := G2.lg, M := M, T := G2.T, MT := G2.MT, MD := G2.MD, fp := G2.fp, rv := G2.rv, dv := G2.dv, tv := G2.tv } : PH) = { G2 with M := M } := by rw [← HG2.out]
        exact eG ▸ hP)
      have E0 := Lib.hid e0
      rw [e0]
      clear e0
      go_wp2_with fail
      (with_reducible refine HLD.out.mono ?_)
      rintro e w4 ⟨rfl, M, h4⟩
      have H4 := Lib.hid h4
      clear h4
      go_wp2_with fail
      go_ret2
      exact .inl ⟨E0.out, { G2 with M := M }, L, ret_pair (val_ptr HG2.out.symm) rfl, HD2.out, HK.out, HCL.out, H4.out⟩
    · have E0 := Lib.hid e0
      obtain ⟨c, hc⟩ : ∃ c, (Pb.settleV d l).1 = c := ⟨_, rfl⟩
      have HCC := Lib.hid hc
      rw [hc] at e0 ⊢
      clear hc
      have e1 : (c == 0) = false := by simpa using e0
      have e2 : (c != 0) = true := by simpa using e0
      clear e0
      go_wp2_with fail
      go_ret2
      refine .inr ⟨E0.out, ret_pair rfl (val_int HCC.out.symm), G2.fp, ?_, H3.out.log.low, H3.out.log.bel⟩
      have := H3.out.log.disk
      rwa [HD2.out] at this
  · obtain ⟨p8, cap8, hv⟩ := os_slice ho
    have hown := ho.own
    rw [hr1] at hv hown
    have hv : v = .slice p8 1 cap8 := hv
    subst hv
    obtain ⟨rec, hrec⟩ : ∃ rec : ByteArray, (⟨(Pb.recL n f roots ch).toArray⟩ : ByteArray) = rec := ⟨_, rfl⟩
    have hrl2 : rec.data.toList = Pb.recL n f roots ch := by rw [← hrec]
    obtain ⟨g8, hp8, hc8⟩ : ∃ g8, p8 = some ⟨g8, 0, none⟩ ∧ w2.cell? ⟨g8, 0, none⟩ = some (.string rec) := by
      rcases hown.2 with ⟨hx, _⟩ | ⟨g, cap, cur, hx, _⟩
      · cases hx
      · injection hx with hx
        subst hx
        have := hown.cells (g := g) rfl 0 (.string rec) (by rw [← hrec]; rfl)
        exact ⟨g, rfl, this⟩
    subst hp8
    have HT : Hid (Calls Tryz.prog 24 #[.pointer (some ⟨w1.heap.size, 0, none⟩), .string rec] w2 fun e w' => ∃ v, e = .returned v ∧ OwnT w2.heap.size w2 w' v l) := Lib.hid (by
      rw [hl1]
      exact targets_any h2 HN1.out HN2.out f roots ch rec hrl2 hrl hch hcl)
    have H2 := Lib.hid h2
    clear ho h2 hr1 hl1 hown hrec hrl2 hrl hch hcl
    go_wp2_with fail
    (with_reducible refine HT.out.mono ?_)
    rintro e w5 ⟨v5, rfl, ho5⟩
    obtain ⟨p5, c5, rfl⟩ := ho5.slice
    have h5 := H2.out.later ho5.bel
    have c14 : w5.cell? ⟨w1.heap.size, 14, none⟩ = some (.slice none 0 0) := h5.cells.co
    have f14 : w5.frozen? ⟨w1.heap.size, 14, none⟩ = false := h5.cells.fz 14
    have h6 := H2.out.setTodo l ho5
    have HE : Hid (Calls Tryz.prog 25 #[.pointer (some ⟨w1.heap.size, 0, none⟩)] (w5.setCell ⟨w1.heap.size, 14, none⟩ (.slice p5 l.length c5)) fun e w' => e = .returned (.int .i64 (Pb.settleV d l).1) ∧ ∃ G'', G''.pg = w1.heap.size ∧ G''.dg = dg ∧ PG S w0 w' G'' (Pb.settleV d l).2 L { bareP n with todo := if (Pb.settleV d l).1 = 0 then [] else Pb.tod l }) := Lib.hid (HEND.out _ { bareH w1.heap.size dg lg fp rv with tv := .slice p5 l.length c5 } h6)
    clear h5 ho5 h6 HEND
    go_wp2_with fail
    clear c14 f14
    (with_reducible refine HE.out.mono ?_)
    rintro e w3 ⟨rfl, G2, hg2, hd2, h3⟩
    have H3 := Lib.hid h3
    have HG2 := Lib.hid hg2
    have HD2 := Lib.hid hd2
    clear h3 hg2 hd2
    by_cases e0 : (Pb.settleV d l).1 = 0
    · have HLD : Hid (Calls Tryz.prog 26 #[.pointer (some ⟨w1.heap.size, 0, none⟩)] w3 fun e w' => e = .returned (.int .i64 0) ∧ ∃ M, PG S w0 w' { G2 with M := M } (Pb.settleV d l).2 L (loadP (Pb.settleV d l).2 n)) := Lib.hid (by
        have h3 := H3.out
        rw [if_pos e0] at h3
        have hs := HSET.out e0
        have := load_ok h3 rfl HN1.out HN2.out hs.1 (by have := HSS.out; rw [hs.2]; show n * 4 ≤ _; omega)
        rw [HG2.out] at this
        refine this.mono ?_
        rintro e w' ⟨he, M, hP⟩
        refine ⟨he, M, ?_⟩
        have eG : ({ pg := w1.heap.size, dg := G2.dg, lg := G2.lg, M := M, T := G2.T, MT := G2.MT, MD := G2.MD, fp := G2.fp, rv := G2.rv, dv := G2.dv, tv := G2.tv } : PH) = { G2 with M := M } := by rw [← HG2.out]
        exact eG ▸ hP)
      have E0 := Lib.hid e0
      rw [e0]
      clear e0
      go_wp2_with fail
      (with_reducible refine HLD.out.mono ?_)
      rintro e w4 ⟨rfl, M, h4⟩
      have H4 := Lib.hid h4
      clear h4
      go_wp2_with fail
      go_ret2
      exact .inl ⟨E0.out, { G2 with M := M }, L, ret_pair (val_ptr HG2.out.symm) rfl, HD2.out, HK.out, HCL.out, H4.out⟩
    · have E0 := Lib.hid e0
      obtain ⟨c, hc⟩ : ∃ c, (Pb.settleV d l).1 = c := ⟨_, rfl⟩
      have HCC := Lib.hid hc
      rw [hc] at e0 ⊢
      clear hc
      have e1 : (c == 0) = false := by simpa using e0
      have e2 : (c != 0) = true := by simpa using e0
      clear e0
      go_wp2_with fail
      go_ret2
      refine .inr ⟨E0.out, ret_pair rfl (val_int HCC.out.symm), G2.fp, ?_, H3.out.log.low, H3.out.log.bel⟩
      have := H3.out.log.disk
      rwa [HD2.out] at this
end
end Go.Proofs.YtoleojljpaglhaaGreat
/- The contract of pager.Open on a disk that some transaction left. -/
namespace Go.Proofs.YtoleojljpaglhaaGreat
open Go.RowKit
/-- a pager as it has been opened -/
def openedP (n : Nat) (f : Int → Option ByteArray) (sz : Nat) (roots : List Int) : PP := { n := n, pages := f, sz := sz, roots := roots, tx := none, up := true, todo := [] }
theorem rootsAt_all (l : List UInt8) (old : List Int) : rootsAt l old 8 = Pb.rootsOf l := by
  unfold rootsAt Pb.rootsOf
  apply List.map_congr_left
  intro i hi
  rw [List.mem_range] at hi
  rw [if_pos hi]
  rfl
theorem loadP_eq {d : Vd.VD} {n : Nat} {f : Int → Option ByteArray} {roots : List Int} {sz : Nat} (h : Pb.Holds (Vd.lay d.secs d.q) n f roots) (k : Pb.Wf n f roots sz) (hn : 8 ≤ n) : loadP d n = openedP n f sz roots := by
  have e1 : loadF d (catS d ((n - 8) * 4) 32) (n - 7) = f := Pb.load_fn h k hn
  have e2 : loadZ (catS d ((n - 8) * 4) 32) (n - 7) = sz := by
    have := Pb.load_sz k
    rw [← h.top] at this
    exact this
  have e3 : rootsAt (catS d ((n - 8) * 4) 32) (List.replicate 8 0) 8 = roots := by
    have := Pb.load_roots k
    rw [← h.top] at this
    rw [rootsAt_all]
    exact this
  unfold loadP openedP
  rw [e1, e2, e3]
/-- the log of a pager that is opened -/
structure Lgs (n ga : Nat) (L : Wa.WL) : Prop where
  fr : L.fr = 4 * n
  n_ : L.n = 8 * n
  used : L.used ≤ L.n
  recs : L.recs.length ≤ 1
  gen : L.gen = ga
section
variable {S : Nat → Prop} {w0 w w' : World} {dg n sz ga : Nat} {d d' : Vd.VD} {fp fp0 : List Nat} {f : Int → Option ByteArray} {roots : List Int} {l : List (Nat × List UInt8)}
theorem wopen_cold (hbel : KeepS S w0 w) (hup : ∀ k, w0.heap.size ≤ k → S k) (hd : DF w dg d fp0) (hlow : ∀ b ∈ fp0, S b) (h : Pb.Cold d n f roots sz l ga) :
    Calls Tryz.prog 22 #[.pointer (some ⟨dg, 0, none⟩), .int .i64 (4 * (n : Int)), .int .i64 (8 * (n : Int))] w fun e w' => ∃ lg L fp rv, e = .returned (.tuple #[.pointer (some ⟨lg, 0, none⟩), .int .i64 0]) ∧ Wok L ∧ RecsOk n L l ∧ Lgs n ga L ∧ LG S w0 w' dg d lg L fp rv := by
  have hsl : d.secs.length ≤ 65536 := by
    obtain ⟨S, M, qv, _, hd⟩ := hd
    exact hd.secs1
  have hn := h.hn
  have hn2 := h.hn2
  have hln := h.len
  have e4 : 4 * (n : Int) = ((4 * n : Nat) : Int) := by omega
  have e8 : 8 * (n : Int) = ((8 * n : Nat) : Int) := by omega
  rw [e4, e8]
  have gen_case : ∀ (rec : List UInt8) (T : Nat), 0 < ga → ga < 256 → Wa.ArP d.secs (4 * n) (8 * n) ga (Wa.allP [rec]) T →
      Calls Tryz.prog 22 #[.pointer (some ⟨dg, 0, none⟩), .int .i64 ((4 * n : Nat) : Int), .int .i64 ((8 * n : Nat) : Int)] w (OpGen S w0 dg d (4 * n) (8 * n) ga T [rec] fp0) := fun rec T h0 h1 hA =>
    open_gen hbel hup hd hlow (4 * n) (8 * n) ga T [rec] h.on h.q (by omega) (by omega) h0 h1 hA (by simp)
  have one : ∀ rec : List UInt8, (Wa.allP ([rec].take 1)).length = (Wa.allP [rec]).length := fun _ => rfl
  rcases h.body with ⟨rfl, hF, _⟩ | ⟨ch, hl, hF, _, hc⟩
  · rcases hF with ⟨_, rfl, hz⟩ | ⟨rec, T, h0, h1, hA, ⟨h2, _⟩ | ⟨_, hT⟩⟩
    · have hO := open_zero hbel hup hd hlow (4 * n) (8 * n) h.on (by omega) (by omega) hsl (by unfold Vd.look; rw [h.q]; exact hz)
      refine hO.mono ?_
      rintro e w' ⟨lg, he, hL⟩
      exact ⟨lg, _, _, _, he, freshL_ok _ _ (by omega) (by omega), .inl ⟨rfl, rfl⟩, ⟨rfl, rfl, Nat.zero_le _, Nat.zero_le _, rfl⟩, hL⟩
    · cases h2
    · refine (gen_case rec T h0 h1 hA).mono ?_
      rintro e w' ⟨lg, r, j, rv, he, hS, hL⟩
      have hr : r = 0 := by
        have h3 := hS.le
        have h4 := hS.pl
        rcases Nat.eq_zero_or_pos r with h5 | h5
        · exact h5
        · have : r = 1 := by simp at h3; omega
          subst this
          rw [one] at h4
          omega
      subst hr
      exact ⟨lg, _, _, _, he, ⟨by show 8 * n ≤ 65536; omega, by show 4 * n ≤ 65536; omega, by simp [oG, Wa.allP], by show ga ≤ _; omega, by simp [oG]⟩, .inl ⟨rfl, rfl⟩, ⟨rfl, rfl, by simp [oG, Wa.allP], by simp [oG], rfl⟩, hL⟩
  · have hfs := Pb.found_short hF
    rcases hF with ⟨h2, _⟩ | ⟨rec, T, h0, h1, hA, ⟨h2, hT⟩ | ⟨h2, _⟩⟩
    · cases h2
    · injection h2 with h2
      refine (gen_case rec T h0 h1 hA).mono ?_
      rintro e w' ⟨lg, r, j, rv, he, hS, hL⟩
      rw [hT] at hS
      have hr : r = 1 := hS.all
      subst hr
      have hrs : (oG (4 * n) (8 * n) ga [rec] 1).recs = [Pb.recL n f roots ch] := by rw [h2]; rfl
      have hus : (oG (4 * n) (8 * n) ga [rec] 1).used ≤ 8 * n := by
        show (Wa.allP ([rec].take 1)).length ≤ 8 * n
        rw [one, ← h2]
        exact hfs
      refine ⟨lg, _, _, _, he, ⟨by show 8 * n ≤ 65536; omega, by show 4 * n ≤ 65536; omega, hus, by show ga ≤ _; omega, by rw [hrs]; simp⟩, .inr ⟨f, roots, ch, hrs, hl, h.wf.len, fun p hp => ?_, ?_⟩, ⟨rfl, rfl, hus, by rw [hrs]; simp, rfl⟩, hL⟩
      · obtain ⟨b, hb⟩ := hc p hp
        have := h.wf.dom p b hb
        exact ⟨this.1, this.2, b, hb, h.wf.size p b hb⟩
      · rw [Pb.allP_rec, Pb.recL_len h.wf hn2 ch hc] at hfs
        omega
    · cases h2
/-- what is so behind Open -/
structure Hot (d d' : Vd.VD) (n : Nat) (f : Int → Option ByteArray) (roots : List Int) : Prop where
  on : d'.on = true
  q : d'.q = []
  holds : Pb.Holds d'.secs n f roots
  safe : Pb.Safe (fun s => Pb.Rec s n f roots) d'
  high : ∀ i, 4 * n ≤ i → d'.secs.getD i [] = d.secs.getD i []
  z : ∀ s ∈ d'.secs, s.length = 64
/-- how Open ends -/
def OpCold (S : Nat → Prop) (w0 : World) (dg : Nat) (d : Vd.VD) (n : Nat) (f : Int → Option ByteArray) (roots : List Int) (sz ga m : Nat) (e : Ending) (w' : World) : Prop :=
  (∃ G L d', e = .returned (.tuple #[.pointer (some ⟨G.pg, 0, none⟩), .int .i64 0]) ∧ G.dg = dg ∧ Wok L ∧ Lgs n ga L ∧ PG S w0 w' G d' L (openedP n f sz roots) ∧ Pb.Rel d d' m ∧ Hot d d' n f roots) ∨
  (∃ d' fp, e = .returned (.tuple #[.pointer none, .int .i64 80]) ∧ DF w' dg d' fp ∧ (∀ b ∈ fp, S b) ∧ KeepS S w0 w' ∧ Pb.Rel d d' m ∧ Pb.Off (fun s => Pb.Rec s n f roots) d' ∧ d.fuse ≠ none) ∨
  (d.room ≠ -1)
theorem popen_cold (hbel : KeepS S w0 w) (hup : ∀ k, w0.heap.size ≤ k → S k) (hD : DF w dg d fp0) (hlow : ∀ b ∈ fp0, S b) (h : Pb.Cold d n f roots sz l ga) (hw : d.writes < 900000000) :
    Calls Tryz.prog 8 #[.pointer (some ⟨dg, 0, none⟩), .int .i64 (n : Int)] w (OpCold S w0 dg d n f roots sz ga l.length) := by
  have hsh := h.short
  obtain ⟨hr, hs⟩ := h.settle
  have hO := wopen_cold hbel hup hD hlow h
  refine (popen_todo hD h.on h.hn h.hn2 h.len l (Lgs n ga) h.places (by omega) (by omega) (fun e0 => ⟨?_, hr.len⟩) hO).mono ?_
  · rcases hs with ⟨_, h1, _⟩ | ⟨e1, _⟩ | ⟨e1, _⟩
    · exact h1
    · omega
    · omega
  · rintro e w' (⟨e0, G, L, he, hg, hk, hL, hP⟩ | ⟨e0, he, fp, h1, h2, h3⟩)
    · rcases hs with ⟨_, h1, h2, h3, h4, h5, h6⟩ | ⟨e1, _⟩ | ⟨e1, _⟩
      · refine .inl ⟨G, L, _, he, hg, hk, hL, ?_, hr, h1, h2, h3, h4, h5, h6⟩
        rw [← loadP_eq (d := (Pb.settleV d l).2) (by rw [h2]; exact h3) h.wf h.hn]
        exact hP
      · omega
      · omega
    · rcases hs with ⟨e1, _⟩ | ⟨_, hrm⟩ | ⟨e1, ho, hf⟩
      · exact absurd e1 e0
      · exact .inr (.inr hrm)
      · rw [e1] at he
        exact .inr (.inl ⟨_, fp, he, h1, h2, h3, hr, ho, hf⟩)
end
end Go.Proofs.YtoleojljpaglhaaGreat
/- A pager's blocks: a call leaves all others as they are; a second pager over the same disk. -/
namespace Go.Proofs.YtoleojljpaglhaaGreat
open Go.RowKit
/-- a pager's own blocks, its log's, and whatever is new -/
def PFoot (G : PH) (P : PP) (w : World) (k : Nat) : Prop := Own G P k ∨ Foot G.lg G.fp G.rv w k
section
variable {S T : Nat → Prop} {w0 w w' : World} {G G' : PH} {d d' : Vd.VD} {L L' : Wa.WL} {P P' : PP}
theorem PG.rebase (h : PG S w0 w G d L P) : PG (PFoot G P w) w w G d L P :=
  ⟨⟨KeepS.refl _ _, fun _ h => .inr (.inr (.inr (.inr h))), h.log.disk, fun _ hb => .inr (.inr (.inl hb)), .inr (.inl rfl), h.log.blk, h.log.out, h.log.row, fun _ hq => .inr (.inr (.inr (.inl hq))), h.log.sep⟩, h.blk, h.len, h.pm, h.tx, h.row, fun b hb => ⟨.inl hb, (h.own b hb).2⟩⟩
theorem PG.pfoot (h : PG S w0 w G d L P) : ∀ k, PFoot G P w k → S k := by
  rintro k (h1 | h1)
  · exact (h.own k h1).1
  · exact h.foot k h1
theorem PG.via (h : PG S w0 w G d L P) (k : PG (PFoot G P w) w w' G' d' L' P') : PG S w0 w' G' d' L' P' := by
  have hf := h.pfoot
  exact ⟨⟨h.log.bel.trans k.log.bel hf, h.log.up, k.log.disk, fun b hb => hf b (k.log.low b hb), hf _ k.log.lb, k.log.blk, k.log.out, k.log.row, fun q hq => hf q (k.log.rs q hq), k.log.sep⟩, k.blk, k.len, k.pm, k.tx, k.row, fun b hb => ⟨hf b (k.own b hb).1, (k.own b hb).2⟩⟩
/-- what is no block of a pager's stays none, and stays as it is -/
theorem PG.stays (k : PG (PFoot G P w) w w' G' d' L' P') {q : Nat} (hq : q < w.heap.size) (hn : ¬ PFoot G P w q) : w'.heap[q]? = w.heap[q]? ∧ ¬ PFoot G' P' w' q :=
  ⟨k.log.bel.block q hq hn, fun h => hn (k.pfoot q h)⟩
/-- another pager is opened over the same disk -/
theorem PG.beside {fp' : List Nat} (h : PG S w0 w G d L P) (hb : KeepS T w w') (hD : DF w' G.dg d' fp') (hT : ∀ k, T k → k ∈ G.fp ∨ w.heap.size ≤ k) (hfp : ∀ b ∈ fp', T b) : PG S w0 w' { G with fp := fp' } d' L P := by
  have hnT : ∀ k, k < w.heap.size → k ∉ G.fp → ¬ T k := fun k h1 h2 h3 => by
    rcases hT k h3 with h4 | h4
    · exact h2 h4
    · omega
  refine h.use (rv' := G.rv) ⟨(KeepS.refl _ w).trans hb (fun x hx => ?_), fun _ h => .inr (.inr (.inr h)), hD, fun b hm => ?_, .inl rfl, (hb.block _ h.log.blk.lt (hnT _ h.log.blk.lt h.log.out)).trans h.log.blk, fun hm => hnT _ h.log.blk.lt h.log.out (hfp _ hm), ownsRow_keep h.log.row hb (fun q hq => hnT q (ownBlock_lt h.log.row hq) (h.log.sep q hq)), fun q hq => .inr (.inr (.inl hq)), fun q hq hm => hnT q (ownBlock_lt h.log.row hq) (h.log.sep q hq) (hfp q hm)⟩
  · rcases hT x hx with h1 | h1
    · exact .inr (.inl h1)
    · exact .inr (.inr (.inr h1))
  · rcases hT b (hfp b hm) with h1 | h1
    · exact .inr (.inl h1)
    · exact .inr (.inr (.inr h1))
end
end Go.Proofs.YtoleojljpaglhaaGreat
