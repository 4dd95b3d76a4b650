/- The two disks, their references and the two arrays in memory: the words for the law's play. -/
import Derived.Test.YtmkcmahfededeaaPlD
namespace Go.Proofs.Ytmkcmahfededeaa
open Go.RowKit Go.Maps
/-- what holds of the two disks -/
structure PC (c : Nat → Nat) (B : Nat) (w0 : World) (HL HM g0 g1 r0 r1 : Nat) (d0 d1 : Vd.VD) (w : World) : Prop where
  hB0 : B ≤ w0.heap.size
  hB : B ≤ w.heap.size
  below : Below B w0 w
  low : ∀ b, b < B → c b = 0
  l : Blk w HL 64 #[.pointer (some ⟨g0, 0, none⟩), .pointer (some ⟨g1, 0, none⟩)]
  m : Blk w HM 66 #[.pointer (some ⟨r0, 0, none⟩), .pointer (some ⟨r1, 0, none⟩)]
  cl : c HL = 0
  cm : c HM = 0
  bl : B ≤ HL
  bm : B ≤ HM
  D0 : DC c 1 B w g0 d0
  R0 : RC c 2 B w r0 d0
  D1 : DC c 3 B w g1 d1
  R1 : RC c 4 B w r1 d1
def PS (B : Nat) (w0 : World) (HL HM g0 g1 r0 r1 : Nat) (d0 d1 : Vd.VD) (w : World) : Prop := ∃ c, PC c B w0 HL HM g0 g1 r0 r1 d0 d1 w
section
variable {S : Nat → Prop} {c c' : Nat → Nat} {B HL HM g0 g1 r0 r1 g r : Nat} {w0 w w' : World} {d0 d1 d : Vd.VD}
theorem keep_below (k : Keep S c c' w w') (hB : B ≤ w.heap.size) (low : ∀ b, b < B → c b = 0) (h0 : ¬ S 0) : Below B w w' :=
  ⟨k.os, k.tape, k.output, k.size, fun b hb => k.block b (by omega) (by rw [low b hb]; exact h0)⟩
theorem PC.step0 (h : PC c B w0 HL HM g0 g1 r0 r1 d0 d1 w) (k : Keep (fun x => x = 1 ∨ x = 2) c c' w w') (hD : DC c' 1 B w' g0 d) (hR : RC c' 2 B w' r0 d) : PC c' B w0 HL HM g0 g1 r0 r1 d d1 w' :=
  ⟨h.hB0, Nat.le_trans h.hB k.size, h.below.trans (keep_below k h.hB h.low (by simp)), fun b hb => (k.col b (by have := h.hB; omega)).trans (h.low b hb), h.l.keep k (by simp [h.cl]), h.m.keep k (by simp [h.cm]), (k.col _ h.l.lt).trans h.cl, (k.col _ h.m.lt).trans h.cm, h.bl, h.bm, hD, hR, h.D1.keep k (by simp), h.R1.keep k (by simp)⟩
theorem PC.step1 (h : PC c B w0 HL HM g0 g1 r0 r1 d0 d1 w) (k : Keep (fun x => x = 3 ∨ x = 4) c c' w w') (hD : DC c' 3 B w' g1 d) (hR : RC c' 4 B w' r1 d) : PC c' B w0 HL HM g0 g1 r0 r1 d0 d w' :=
  ⟨h.hB0, Nat.le_trans h.hB k.size, h.below.trans (keep_below k h.hB h.low (by simp)), fun b hb => (k.col b (by have := h.hB; omega)).trans (h.low b hb), h.l.keep k (by simp [h.cl]), h.m.keep k (by simp [h.cm]), (k.col _ h.l.lt).trans h.cl, (k.col _ h.m.lt).trans h.cm, h.bl, h.bm, h.D0.keep k (by simp), h.R0.keep k (by simp), hD, hR⟩
theorem PC.later (h : PC c B w0 HL HM g0 g1 r0 r1 d0 d1 w) (hb : Below w.heap.size w w') : PS B w0 HL HM g0 g1 r0 r1 d0 d1 w' := by
  have k := Keep.below (fun x => x = 1 ∨ x = 2) c 0 hb
  have k' := Keep.below (fun _ => False) c 0 hb
  exact ⟨_, h.step0 k (h.D0.keep k' (fun h => h)) (h.R0.keep k' (fun h => h))⟩
theorem PS.later (h : PS B w0 HL HM g0 g1 r0 r1 d0 d1 w) (hb : Below w.heap.size w w') : PS B w0 HL HM g0 g1 r0 r1 d0 d1 w' := let ⟨_, h⟩ := h; h.later hb
theorem PS.step0 (h : PS B w0 HL HM g0 g1 r0 r1 d0 d1 w) (hw : d0.writes < 900000000) (k u a b q : Int) (s : ByteArray) (hs : s.size ≤ 9223372036854775807) (ha : a ≤ 9223372036854775807) :
    Calls Try.prog 31 #[.pointer (some ⟨g0, 0, none⟩), .pointer (some ⟨r0, 0, none⟩), .agg (opc k u a b q s)] w fun e w' => e = .returned (.bool true) ∧ ∃ d, d.writes ≤ d0.writes + 1 ∧ PS B w0 HL HM g0 g1 r0 r1 d d1 w' := by
  obtain ⟨c, h⟩ := h
  refine (step_any h.D0 h.R0 h.hB (by decide) (by decide) (by decide) hw k u a b q s hs ha).mono ?_
  rintro e w' ⟨he, c', d', hD, hR, hk, hwr⟩
  exact ⟨he, d', hwr, c', h.step0 hk hD hR⟩
theorem PS.step1 (h : PS B w0 HL HM g0 g1 r0 r1 d0 d1 w) (hw : d1.writes < 900000000) (k u a b q : Int) (s : ByteArray) (hs : s.size ≤ 9223372036854775807) (ha : a ≤ 9223372036854775807) :
    Calls Try.prog 31 #[.pointer (some ⟨g1, 0, none⟩), .pointer (some ⟨r1, 0, none⟩), .agg (opc k u a b q s)] w fun e w' => e = .returned (.bool true) ∧ ∃ d, d.writes ≤ d1.writes + 1 ∧ PS B w0 HL HM g0 g1 r0 r1 d0 d w' := by
  obtain ⟨c, h⟩ := h
  refine (step_any h.D1 h.R1 h.hB (by decide) (by decide) (by decide) hw k u a b q s hs ha).mono ?_
  rintro e w' ⟨he, c', d', hD, hR, hk, hwr⟩
  exact ⟨he, d', hwr, c', h.step1 hk hD hR⟩
theorem PS.looks0 (h : PS B w0 HL HM g0 g1 r0 r1 d0 d1 w) : Calls Try.prog 32 #[.pointer (some ⟨g0, 0, none⟩), .pointer (some ⟨r0, 0, none⟩)] w fun e w' => e = .returned (.bool true) ∧ PS B w0 HL HM g0 g1 r0 r1 d0 d1 w' := by
  obtain ⟨c, h⟩ := h
  exact (looks_any h.D0 h.R0).mono fun e w' hp => ⟨hp.1, h.later hp.2⟩
theorem PS.looks1 (h : PS B w0 HL HM g0 g1 r0 r1 d0 d1 w) : Calls Try.prog 32 #[.pointer (some ⟨g1, 0, none⟩), .pointer (some ⟨r1, 0, none⟩)] w fun e w' => e = .returned (.bool true) ∧ PS B w0 HL HM g0 g1 r0 r1 d0 d1 w' := by
  obtain ⟨c, h⟩ := h
  exact (looks_any h.D1 h.R1).mono fun e w' hp => ⟨hp.1, h.later hp.2⟩
/-- a twin and its reference's twin take a colour of their own -/
theorem RF.ghost {fp : List Nat} (h : RF w r d fp) (sc : Nat) (sr : List Value) : RF w r { d with sc := sc, sr := sr } fp := by
  obtain ⟨bv, qv, kp, tn, rfl, h⟩ := h
  exact ⟨bv, qv, kp, tn, rfl, ⟨h.ok.secs, h.ok.secs0, h.ok.q, h.ok.room, h.ok.fuse, h.ok.writes⟩, h.secs1, h.self, h.bytes, h.queue, h.fz⟩
theorem PS.cells (h : PS B w0 HL HM g0 g1 r0 r1 d0 d1 w) : Blk w HL 64 #[.pointer (some ⟨g0, 0, none⟩), .pointer (some ⟨g1, 0, none⟩)] ∧ Blk w HM 66 #[.pointer (some ⟨r0, 0, none⟩), .pointer (some ⟨r1, 0, none⟩)] := let ⟨_, h⟩ := h; ⟨h.l, h.m⟩
theorem PS.toBelow (h : PS B w0 HL HM g0 g1 r0 r1 d0 d1 w) : Below B w0 w := let ⟨_, h⟩ := h; h.below
theorem PS.q0 (h : PS B w0 HL HM g0 g1 r0 r1 d0 d1 w) : (d0.q.length : Int) ≤ d0.writes := by
  obtain ⟨c, h⟩ := h
  obtain ⟨fp, ⟨S, M, qv, _, hD⟩, _⟩ := h.D0
  exact hD.ok.writes
theorem PS.q1 (h : PS B w0 HL HM g0 g1 r0 r1 d0 d1 w) : (d1.q.length : Int) ≤ d1.writes := by
  obtain ⟨c, h⟩ := h
  obtain ⟨fp, ⟨S, M, qv, _, hD⟩, _⟩ := h.D1
  exact hD.ok.writes
/-- disk 0 has a new twin: disk 1 is that from now on -/
theorem PC.twin0 {w1 w2 : World} {sc : Nat} {sr : List Value} {fp fq : List Nat} (h : PC c B w0 HL HM g0 g1 r0 r1 d0 d1 w) (hb1 : Below w.heap.size w w1) (hb2 : Below w1.heap.size w1 w2) (hD : DF w1 g { d0 with sc := sc, sr := sr } fp) (hfp : ∀ b ∈ fp, w.heap.size ≤ b) (hR : RF w2 r d0 fq) (hfq : ∀ b ∈ fq, w1.heap.size ≤ b) :
    PS B w0 HL HM g0 g r0 r d0 { d0 with sc := sc, sr := sr } ((w2.setCell ⟨HL, 1, none⟩ (.pointer (some ⟨g, 0, none⟩))).setCell ⟨HM, 1, none⟩ (.pointer (some ⟨r, 0, none⟩))) := by
  have hs1 := hb1.size
  have hs2 := hb2.size
  have hB := h.hB
  have k1 := Keep.below (fun _ => False) c 3 hb1
  have k2 := Keep.below (fun _ => False) (fun b => if b < w.heap.size then c b else 3) 4 hb2
  obtain ⟨c2, hc2⟩ : ∃ c2 : Nat → Nat, c2 = fun b => if b < w1.heap.size then (if b < w.heap.size then c b else 3) else 4 := ⟨_, rfl⟩
  have k12 : Keep (fun _ => False) c c2 w w2 := by rw [hc2]; exact k1.trans k2
  have hLl := h.l.lt
  have hMl := h.m.lt
  have hLM : HL ≠ HM := h.l.ne_ h.m (by decide)
  have hO : Only [HL, HM] w2 ((w2.setCell ⟨HL, 1, none⟩ (.pointer (some ⟨g, 0, none⟩))).setCell ⟨HM, 1, none⟩ (.pointer (some ⟨r, 0, none⟩))) := ((Only.refl _ _).setCell (p := ⟨HL, 1, none⟩) (.inl (by simp)) _).setCell (p := ⟨HM, 1, none⟩) (.inl (by simp)) _
  have k3 : Keep (fun x => x = 0) c2 c2 w2 ((w2.setCell ⟨HL, 1, none⟩ (.pointer (some ⟨g, 0, none⟩))).setCell ⟨HM, 1, none⟩ (.pointer (some ⟨r, 0, none⟩))) := by
    refine ⟨hO.os, hO.tape, hO.output, hO.size, fun _ _ => rfl, fun b hb hn => hO.block b hb (fun hm => hn ?_)⟩
    simp only [List.mem_cons, List.not_mem_nil, or_false] at hm
    rcases hm with rfl | rfl
    · exact (k12.col _ hLl).trans h.cl
    · exact (k12.col _ hMl).trans h.cm
  have L2 := (h.l.keep k12 (fun h => h)).set_ 1 (.pointer (some ⟨g, 0, none⟩))
  have L3 := L2.far (p := ⟨HM, 1, none⟩) hLM (.pointer (some ⟨r, 0, none⟩))
  have M2 := ((h.m.keep k12 (fun h => h)).far (p := ⟨HL, 1, none⟩) hLM.symm (.pointer (some ⟨g, 0, none⟩))).set_ 1 (.pointer (some ⟨r, 0, none⟩))
  have D1 : DC c2 3 B w2 g { d0 with sc := sc, sr := sr } := ⟨fp, hD.below hb2, fun b hb => by
    have h1 := hfp b hb
    have h2 := hD.lt b hb
    exact ⟨by rw [hc2]; simp [h2, Nat.not_lt.2 h1], by omega⟩⟩
  have R1 : RC c2 4 B w2 r { d0 with sc := sc, sr := sr } := ⟨fq, hR.ghost sc sr, fun b hb => by
    have h1 := hfq b hb
    exact ⟨by rw [hc2]; simp [Nat.not_lt.2 h1], by omega⟩⟩
  refine ⟨c2, h.hB0, by have := hO.size; omega, (h.below.trans (hb1.mono hB)).trans ((hb2.mono (by omega)).trans (hO.to_below (by omega) (by simp [h.bl, h.bm]))), fun b hb => (k12.col b (by omega)).trans (h.low b hb), L3.eq_ (by simp), M2.eq_ (by simp), (k12.col _ hLl).trans h.cl, (k12.col _ hMl).trans h.cm, h.bl, h.bm, (h.D0.keep k12 (fun h => h)).keep k3 (by simp), (h.R0.keep k12 (fun h => h)).keep k3 (by simp), D1.keep k3 (by simp), R1.keep k3 (by simp)⟩
/-- disk 1 has a new twin: disk 0 is that from now on -/
theorem PC.twin1 {w1 w2 : World} {sc : Nat} {sr : List Value} {fp fq : List Nat} (h : PC c B w0 HL HM g0 g1 r0 r1 d0 d1 w) (hb1 : Below w.heap.size w w1) (hb2 : Below w1.heap.size w1 w2) (hD : DF w1 g { d1 with sc := sc, sr := sr } fp) (hfp : ∀ b ∈ fp, w.heap.size ≤ b) (hR : RF w2 r d1 fq) (hfq : ∀ b ∈ fq, w1.heap.size ≤ b) :
    PS B w0 HL HM g g1 r r1 { d1 with sc := sc, sr := sr } d1 ((w2.setCell ⟨HL, 0, none⟩ (.pointer (some ⟨g, 0, none⟩))).setCell ⟨HM, 0, none⟩ (.pointer (some ⟨r, 0, none⟩))) := by
  have hs1 := hb1.size
  have hs2 := hb2.size
  have hB := h.hB
  have k1 := Keep.below (fun _ => False) c 1 hb1
  have k2 := Keep.below (fun _ => False) (fun b => if b < w.heap.size then c b else 1) 2 hb2
  obtain ⟨c2, hc2⟩ : ∃ c2 : Nat → Nat, c2 = fun b => if b < w1.heap.size then (if b < w.heap.size then c b else 1) else 2 := ⟨_, rfl⟩
  have k12 : Keep (fun _ => False) c c2 w w2 := by rw [hc2]; exact k1.trans k2
  have hLl := h.l.lt
  have hMl := h.m.lt
  have hLM : HL ≠ HM := h.l.ne_ h.m (by decide)
  have hO : Only [HL, HM] w2 ((w2.setCell ⟨HL, 0, none⟩ (.pointer (some ⟨g, 0, none⟩))).setCell ⟨HM, 0, none⟩ (.pointer (some ⟨r, 0, none⟩))) := ((Only.refl _ _).setCell (p := ⟨HL, 0, none⟩) (.inl (by simp)) _).setCell (p := ⟨HM, 0, none⟩) (.inl (by simp)) _
  have k3 : Keep (fun x => x = 0) c2 c2 w2 ((w2.setCell ⟨HL, 0, none⟩ (.pointer (some ⟨g, 0, none⟩))).setCell ⟨HM, 0, none⟩ (.pointer (some ⟨r, 0, none⟩))) := by
    refine ⟨hO.os, hO.tape, hO.output, hO.size, fun _ _ => rfl, fun b hb hn => hO.block b hb (fun hm => hn ?_)⟩
    simp only [List.mem_cons, List.not_mem_nil, or_false] at hm
    rcases hm with rfl | rfl
    · exact (k12.col _ hLl).trans h.cl
    · exact (k12.col _ hMl).trans h.cm
  have L2 := (h.l.keep k12 (fun h => h)).set_ 0 (.pointer (some ⟨g, 0, none⟩))
  have L3 := L2.far (p := ⟨HM, 0, none⟩) hLM (.pointer (some ⟨r, 0, none⟩))
  have M2 := ((h.m.keep k12 (fun h => h)).far (p := ⟨HL, 0, none⟩) hLM.symm (.pointer (some ⟨g, 0, none⟩))).set_ 0 (.pointer (some ⟨r, 0, none⟩))
  have D0 : DC c2 1 B w2 g { d1 with sc := sc, sr := sr } := ⟨fp, hD.below hb2, fun b hb => by
    have h1 := hfp b hb
    have h2 := hD.lt b hb
    exact ⟨by rw [hc2]; simp [h2, Nat.not_lt.2 h1], by omega⟩⟩
  have R0 : RC c2 2 B w2 r { d1 with sc := sc, sr := sr } := ⟨fq, hR.ghost sc sr, fun b hb => by
    have h1 := hfq b hb
    exact ⟨by rw [hc2]; simp [Nat.not_lt.2 h1], by omega⟩⟩
  refine ⟨c2, h.hB0, by have := hO.size; omega, (h.below.trans (hb1.mono hB)).trans ((hb2.mono (by omega)).trans (hO.to_below (by omega) (by simp [h.bl, h.bm]))), fun b hb => (k12.col b (by omega)).trans (h.low b hb), L3.eq_ (by simp), M2.eq_ (by simp), (k12.col _ hLl).trans h.cl, (k12.col _ hMl).trans h.cm, h.bl, h.bm, D0.keep k3 (by simp), R0.keep k3 (by simp), (h.D1.keep k12 (fun h => h)).keep k3 (by simp), (h.R1.keep k12 (fun h => h)).keep k3 (by simp)⟩
/-- disk 0 has a new twin, laid ahead of its reference's -/
theorem PC.twinB0 {w1 w2 : World} {sc : Nat} {sr : List Value} {fp fq : List Nat} (h : PC c B w0 HL HM g0 g1 r0 r1 d0 d1 w) (hb1 : Below w.heap.size w w1) (hb2 : Below w1.heap.size (w1.setCell ⟨HL, 1, none⟩ (.pointer (some ⟨g, 0, none⟩))) w2) (hD : DF w1 g { d0 with sc := sc, sr := sr } fp) (hfp : ∀ b ∈ fp, w.heap.size ≤ b) (hR : RF w2 r d0 fq) (hfq : ∀ b ∈ fq, w1.heap.size ≤ b) :
    PS B w0 HL HM g0 g r0 r d0 { d0 with sc := sc, sr := sr } (w2.setCell ⟨HM, 1, none⟩ (.pointer (some ⟨r, 0, none⟩))) := by
  have hs1 := hb1.size
  have hsz : (w1.setCell ⟨HL, 1, none⟩ (.pointer (some ⟨g, 0, none⟩))).heap.size = w1.heap.size := by simp [World.setCell]
  have hs2 := hb2.size
  rw [hsz] at hs2
  have hB := h.hB
  have hLl := h.l.lt
  have hMl := h.m.lt
  have hLM : HL ≠ HM := h.l.ne_ h.m (by decide)
  have k1 := Keep.below (fun _ => False) c 3 hb1
  obtain ⟨c1, hc1⟩ : ∃ c1 : Nat → Nat, c1 = fun b => if b < w.heap.size then c b else 3 := ⟨_, rfl⟩
  rw [← hc1] at k1
  have c1L : c1 HL = 0 := (k1.col _ hLl).trans h.cl
  have c1M : c1 HM = 0 := (k1.col _ hMl).trans h.cm
  have hO1 : Only [HL] w1 (w1.setCell ⟨HL, 1, none⟩ (.pointer (some ⟨g, 0, none⟩))) := (Only.refl _ _).setCell (p := ⟨HL, 1, none⟩) (.inl (by simp)) _
  have ks : Keep (fun x => x = 0) c1 c1 w1 (w1.setCell ⟨HL, 1, none⟩ (.pointer (some ⟨g, 0, none⟩))) := by
    refine ⟨hO1.os, hO1.tape, hO1.output, hO1.size, fun _ _ => rfl, fun b hb hn => hO1.block b hb (fun hm => hn ?_)⟩
    rw [List.mem_singleton.1 hm]; exact c1L
  have L1 := (h.l.keep k1 (fun h => h)).set_ 1 (.pointer (some ⟨g, 0, none⟩))
  have M1 := (h.m.keep k1 (fun h => h)).far (p := ⟨HL, 1, none⟩) hLM.symm (.pointer (some ⟨g, 0, none⟩))
  obtain ⟨v, hv⟩ : ∃ v, v = w1.setCell ⟨HL, 1, none⟩ (.pointer (some ⟨g, 0, none⟩)) := ⟨_, rfl⟩
  rw [← hv] at hb2 hsz ks L1 M1 hO1
  have hb2' : Below v.heap.size v w2 := by rw [hsz]; exact hb2
  have k2 := Keep.below (fun _ => False) c1 4 hb2'
  obtain ⟨c2, hc2⟩ : ∃ c2 : Nat → Nat, c2 = fun b => if b < v.heap.size then c1 b else 4 := ⟨_, rfl⟩
  rw [← hc2] at k2
  have L2 := L1.keep k2 (fun h => h)
  have M2 := M1.keep k2 (fun h => h)
  have c2L : c2 HL = 0 := (k2.col _ L1.lt).trans c1L
  have c2M : c2 HM = 0 := (k2.col _ M1.lt).trans c1M
  have hO3 : Only [HM] w2 (w2.setCell ⟨HM, 1, none⟩ (.pointer (some ⟨r, 0, none⟩))) := (Only.refl _ _).setCell (p := ⟨HM, 1, none⟩) (.inl (by simp)) _
  have k3 : Keep (fun x => x = 0) c2 c2 w2 (w2.setCell ⟨HM, 1, none⟩ (.pointer (some ⟨r, 0, none⟩))) := by
    refine ⟨hO3.os, hO3.tape, hO3.output, hO3.size, fun _ _ => rfl, fun b hb hn => hO3.block b hb (fun hm => hn ?_)⟩
    rw [List.mem_singleton.1 hm]; exact c2M
  have L3 := L2.far (p := ⟨HM, 1, none⟩) hLM (.pointer (some ⟨r, 0, none⟩))
  have M3 := M2.set_ 1 (.pointer (some ⟨r, 0, none⟩))
  have D1 : DC c1 3 B v g { d0 with sc := sc, sr := sr } := DC.keep ⟨fp, hD, fun b hb => by
    have h1 := hfp b hb
    have h2 := hD.lt b hb
    exact ⟨by rw [hc1]; simp [Nat.not_lt.2 h1], by omega⟩⟩ ks (by simp)
  have R1 : RC c2 4 B w2 r { d0 with sc := sc, sr := sr } := ⟨fq, hR.ghost sc sr, fun b hb => by
    have h1 := hfq b hb
    exact ⟨by rw [hc2]; simp [hsz, Nat.not_lt.2 h1], by omega⟩⟩
  have low2 : ∀ b, b < B → c2 b = 0 := fun b hb => (k2.col b (by omega)).trans ((k1.col b (by omega)).trans (h.low b hb))
  refine ⟨c2, h.hB0, by have := hO3.size; omega, (h.below.trans (hb1.mono hB)).trans ((hO1.to_below (by omega) (by simp [h.bl])).trans ((hb2.mono (by omega)).trans (hO3.to_below (by omega) (by simp [h.bm])))), low2, L3.eq_ (by simp), M3.eq_ (by simp), c2L, c2M, h.bl, h.bm, (((h.D0.keep k1 (fun h => h)).keep ks (by simp)).keep k2 (fun h => h)).keep k3 (by simp), (((h.R0.keep k1 (fun h => h)).keep ks (by simp)).keep k2 (fun h => h)).keep k3 (by simp), (D1.keep k2 (fun h => h)).keep k3 (by simp), R1.keep k3 (by simp)⟩
/-- disk 1 has a new twin, laid ahead of its reference's -/
theorem PC.twinB1 {w1 w2 : World} {sc : Nat} {sr : List Value} {fp fq : List Nat} (h : PC c B w0 HL HM g0 g1 r0 r1 d0 d1 w) (hb1 : Below w.heap.size w w1) (hb2 : Below w1.heap.size (w1.setCell ⟨HL, 0, none⟩ (.pointer (some ⟨g, 0, none⟩))) w2) (hD : DF w1 g { d1 with sc := sc, sr := sr } fp) (hfp : ∀ b ∈ fp, w.heap.size ≤ b) (hR : RF w2 r d1 fq) (hfq : ∀ b ∈ fq, w1.heap.size ≤ b) :
    PS B w0 HL HM g g1 r r1 { d1 with sc := sc, sr := sr } d1 (w2.setCell ⟨HM, 0, none⟩ (.pointer (some ⟨r, 0, none⟩))) := by
  have hs1 := hb1.size
  have hsz : (w1.setCell ⟨HL, 0, none⟩ (.pointer (some ⟨g, 0, none⟩))).heap.size = w1.heap.size := by simp [World.setCell]
  have hs2 := hb2.size
  rw [hsz] at hs2
  have hB := h.hB
  have hLl := h.l.lt
  have hMl := h.m.lt
  have hLM : HL ≠ HM := h.l.ne_ h.m (by decide)
  have k1 := Keep.below (fun _ => False) c 1 hb1
  obtain ⟨c1, hc1⟩ : ∃ c1 : Nat → Nat, c1 = fun b => if b < w.heap.size then c b else 1 := ⟨_, rfl⟩
  rw [← hc1] at k1
  have c1L : c1 HL = 0 := (k1.col _ hLl).trans h.cl
  have c1M : c1 HM = 0 := (k1.col _ hMl).trans h.cm
  have hO1 : Only [HL] w1 (w1.setCell ⟨HL, 0, none⟩ (.pointer (some ⟨g, 0, none⟩))) := (Only.refl _ _).setCell (p := ⟨HL, 0, none⟩) (.inl (by simp)) _
  have ks : Keep (fun x => x = 0) c1 c1 w1 (w1.setCell ⟨HL, 0, none⟩ (.pointer (some ⟨g, 0, none⟩))) := by
    refine ⟨hO1.os, hO1.tape, hO1.output, hO1.size, fun _ _ => rfl, fun b hb hn => hO1.block b hb (fun hm => hn ?_)⟩
    rw [List.mem_singleton.1 hm]; exact c1L
  have L1 := (h.l.keep k1 (fun h => h)).set_ 0 (.pointer (some ⟨g, 0, none⟩))
  have M1 := (h.m.keep k1 (fun h => h)).far (p := ⟨HL, 0, none⟩) hLM.symm (.pointer (some ⟨g, 0, none⟩))
  obtain ⟨v, hv⟩ : ∃ v, v = w1.setCell ⟨HL, 0, none⟩ (.pointer (some ⟨g, 0, none⟩)) := ⟨_, rfl⟩
  rw [← hv] at hb2 hsz ks L1 M1 hO1
  have hb2' : Below v.heap.size v w2 := by rw [hsz]; exact hb2
  have k2 := Keep.below (fun _ => False) c1 2 hb2'
  obtain ⟨c2, hc2⟩ : ∃ c2 : Nat → Nat, c2 = fun b => if b < v.heap.size then c1 b else 2 := ⟨_, rfl⟩
  rw [← hc2] at k2
  have L2 := L1.keep k2 (fun h => h)
  have M2 := M1.keep k2 (fun h => h)
  have c2L : c2 HL = 0 := (k2.col _ L1.lt).trans c1L
  have c2M : c2 HM = 0 := (k2.col _ M1.lt).trans c1M
  have hO3 : Only [HM] w2 (w2.setCell ⟨HM, 0, none⟩ (.pointer (some ⟨r, 0, none⟩))) := (Only.refl _ _).setCell (p := ⟨HM, 0, none⟩) (.inl (by simp)) _
  have k3 : Keep (fun x => x = 0) c2 c2 w2 (w2.setCell ⟨HM, 0, none⟩ (.pointer (some ⟨r, 0, none⟩))) := by
    refine ⟨hO3.os, hO3.tape, hO3.output, hO3.size, fun _ _ => rfl, fun b hb hn => hO3.block b hb (fun hm => hn ?_)⟩
    rw [List.mem_singleton.1 hm]; exact c2M
  have L3 := L2.far (p := ⟨HM, 0, none⟩) hLM (.pointer (some ⟨r, 0, none⟩))
  have M3 := M2.set_ 0 (.pointer (some ⟨r, 0, none⟩))
  have D1 : DC c1 1 B v g { d1 with sc := sc, sr := sr } := DC.keep ⟨fp, hD, fun b hb => by
    have h1 := hfp b hb
    have h2 := hD.lt b hb
    exact ⟨by rw [hc1]; simp [Nat.not_lt.2 h1], by omega⟩⟩ ks (by simp)
  have R1 : RC c2 2 B w2 r { d1 with sc := sc, sr := sr } := ⟨fq, hR.ghost sc sr, fun b hb => by
    have h1 := hfq b hb
    exact ⟨by rw [hc2]; simp [hsz, Nat.not_lt.2 h1], by omega⟩⟩
  have low2 : ∀ b, b < B → c2 b = 0 := fun b hb => (k2.col b (by omega)).trans ((k1.col b (by omega)).trans (h.low b hb))
  refine ⟨c2, h.hB0, by have := hO3.size; omega, (h.below.trans (hb1.mono hB)).trans ((hO1.to_below (by omega) (by simp [h.bl])).trans ((hb2.mono (by omega)).trans (hO3.to_below (by omega) (by simp [h.bm])))), low2, L3.eq_ (by simp), M3.eq_ (by simp), c2L, c2M, h.bl, h.bm, (D1.keep k2 (fun h => h)).keep k3 (by simp), R1.keep k3 (by simp), (((h.D1.keep k1 (fun h => h)).keep ks (by simp)).keep k2 (fun h => h)).keep k3 (by simp), (((h.R1.keep k1 (fun h => h)).keep ks (by simp)).keep k2 (fun h => h)).keep k3 (by simp)⟩
end
end Go.Proofs.Ytmkcmahfededeaa
