/- Memory by colours: each block has an owner. The contract of the law's looks. -/
import Derived.Test.YtmkcmahfededeaaVdZ
import Derived.Test.YtmkcmahfededeaaReG
namespace Go.Proofs.Ytmkcmahfededeaa
open Go.RowKit Go.Maps
attribute [local go_sem ↓] Go.wp_at_zero Go.wp_at_succ
/-- only blocks whose owner is in S have turned, and new ones have come -/
structure Keep (S : Nat → Prop) (c c' : Nat → Nat) (w w' : World) : Prop where
  os : w'.os = w.os
  tape : w'.tape = w.tape
  output : w'.output = w.output
  size : w.heap.size ≤ w'.heap.size
  col : ∀ b, b < w.heap.size → c' b = c b
  block : ∀ b, b < w.heap.size → ¬ S (c b) → w'.heap[b]? = w.heap[b]?
/-- a disk whose blocks are all of one colour, from B on -/
def DC (c : Nat → Nat) (i B : Nat) (w : World) (g : Nat) (d : Vd.VD) : Prop := ∃ fp, DF w g d fp ∧ ∀ b ∈ fp, c b = i ∧ B ≤ b
def RC (c : Nat → Nat) (i B : Nat) (w : World) (g : Nat) (d : Vd.VD) : Prop := ∃ fp, RF w g d fp ∧ ∀ b ∈ fp, c b = i ∧ B ≤ b
theorem sectors_df {w : World} {g : Nat} {d : Vd.VD} {fp : List Nat} (h : DF w g d fp) : Calls Try.prog 23 #[.pointer (some ⟨g, 0, none⟩)] w fun e w' => e = .returned (.int .i64 d.secs.length) ∧ w = w' := by
  obtain ⟨S, M, qv, rfl, h⟩ := h
  exact sectors_any h
theorem queue_df {w : World} {g : Nat} {d : Vd.VD} {fp : List Nat} (h : DF w g d fp) : Calls Try.prog 17 #[.pointer (some ⟨g, 0, none⟩)] w fun e w' => e = .returned (.int .i64 d.q.length) ∧ w = w' := by
  obtain ⟨S, M, qv, rfl, h⟩ := h
  exact queue_any h
theorem writes_df {w : World} {g : Nat} {d : Vd.VD} {fp : List Nat} (h : DF w g d fp) : Calls Try.prog 19 #[.pointer (some ⟨g, 0, none⟩)] w fun e w' => e = .returned (.int .i64 d.writes) ∧ w = w' := by
  obtain ⟨S, M, qv, rfl, h⟩ := h
  exact writes_any h
section
variable {S T : Nat → Prop} {c c' c'' : Nat → Nat} {w w' w'' : World} {i j B g r : Nat} {d d' : Vd.VD} {fp fp' : List Nat}
theorem Keep.trans (h : Keep S c c' w w') (k : Keep S c' c'' w' w'') : Keep S c c'' w w'' :=
  ⟨k.os.trans h.os, k.tape.trans h.tape, k.output.trans h.output, Nat.le_trans h.size k.size, fun b hb => (k.col b (Nat.lt_of_lt_of_le hb h.size)).trans (h.col b hb),
    fun b hb hn => (k.block b (Nat.lt_of_lt_of_le hb h.size) (by rw [h.col b hb]; exact hn)).trans (h.block b hb hn)⟩
theorem Keep.mono (h : Keep S c c' w w') (hs : ∀ x, S x → T x) : Keep T c c' w w' := ⟨h.os, h.tape, h.output, h.size, h.col, fun b hb hn => h.block b hb (fun hm => hn (hs _ hm))⟩
theorem Keep.refl (S : Nat → Prop) (c : Nat → Nat) (w : World) : Keep S c c w w := ⟨rfl, rfl, rfl, Nat.le_refl _, fun _ _ => rfl, fun _ _ _ => rfl⟩
/-- new blocks get a colour -/
theorem Keep.below (S : Nat → Prop) (c : Nat → Nat) (k : Nat) (hb : Below w.heap.size w w') : Keep S c (fun b => if b < w.heap.size then c b else k) w w' :=
  ⟨hb.os, hb.tape, hb.output, hb.size, fun b h => by simp [h], fun b h _ => hb.block b h⟩
theorem only_compl (fp : List Nat) (hos : w'.os = w.os) (ht : w'.tape = w.tape) (ho : w'.output = w.output) (hs : w.heap.size ≤ w'.heap.size) (h : ∀ b ∈ fp, b < w.heap.size → w'.heap[b]? = w.heap[b]?) : Only ((List.range w.heap.size).filter fun b => decide (b ∉ fp)) w w' :=
  ⟨hos, ht, ho, hs, fun k hk hn => h k (by
    rcases Classical.em (k ∈ fp) with h1 | h1
    · exact h1
    · exact absurd (by simp [hk, h1]) hn) hk⟩
theorem DC.keep (h : DC c i B w g d) (k : Keep S c c' w w') (hi : ¬ S i) : DC c' i B w' g d := by
  obtain ⟨fp, hF, hc⟩ := h
  refine ⟨fp, hF.only (only_compl fp k.os k.tape k.output k.size (fun b hb hl => k.block b hl (by rw [(hc b hb).1]; exact hi))) (fun b hb => by simp [hb]), fun b hb => ⟨(k.col b (hF.lt b hb)).trans (hc b hb).1, (hc b hb).2⟩⟩
theorem RC.keep (h : RC c i B w g d) (k : Keep S c c' w w') (hi : ¬ S i) : RC c' i B w' g d := by
  obtain ⟨fp, hF, hc⟩ := h
  refine ⟨fp, hF.only (only_compl fp k.os k.tape k.output k.size (fun b hb hl => k.block b hl (by rw [(hc b hb).1]; exact hi))) (fun b hb => by simp [hb]), fun b hb => ⟨(k.col b (hF.lt b hb)).trans (hc b hb).1, (hc b hb).2⟩⟩
theorem Blk.keep {b : Nat} {t : TypeId} {cs : Array Value} (h : Blk w b t cs) (k : Keep S c c' w w') (hi : ¬ S (c b)) : Blk w' b t cs := (k.block b h.lt hi).trans h
theorem keep_fr (hf : Fr fp w w' fp') (hl : ∀ b ∈ fp, b < w.heap.size) (hc : ∀ b ∈ fp, c b = j ∧ B ≤ b) (hB : B ≤ w.heap.size) :
    Keep (· = j) c (fun b => if b < w.heap.size then c b else j) w w' ∧ ∀ b ∈ fp', (fun b => if b < w.heap.size then c b else j) b = j ∧ B ≤ b := by
  refine ⟨⟨hf.1.os, hf.1.tape, hf.1.output, hf.1.size, fun b h => by simp [h], fun b h hn => hf.1.block b h (fun hm => hn (hc b hm).1)⟩, fun b hb => ?_⟩
  rcases hf.2 b hb with h1 | h1
  · have := hl b h1
    exact ⟨by simp [this, (hc b h1).1], (hc b h1).2⟩
  · exact ⟨by simp [Nat.not_lt.2 h1], by omega⟩
/-- what a call on a disk leaves -/
def CP (c : Nat → Nat) (j B : Nat) (w : World) (g : Nat) (d' : Vd.VD) (w' : World) : Prop := ∃ c', DC c' j B w' g d' ∧ Keep (· = j) c c' w w'
def CR (c : Nat → Nat) (j B : Nat) (w : World) (g : Nat) (d' : Vd.VD) (w' : World) : Prop := ∃ c', RC c' j B w' g d' ∧ Keep (· = j) c c' w w'
theorem cp_post {v : Value} {e : Ending} (hF : DF w g d fp) (hc : ∀ b ∈ fp, c b = j ∧ B ≤ b) (hB : B ≤ w.heap.size) (h : DPost v g d' fp w e w') : e = .returned v ∧ CP c j B w g d' w' := by
  obtain ⟨he, fp', hF', hFr⟩ := h
  obtain ⟨h1, h2⟩ := keep_fr hFr hF.lt hc hB
  exact ⟨he, _, ⟨fp', hF', h2⟩, h1⟩
theorem cr_post {v : Value} {e : Ending} (hF : RF w g d fp) (hc : ∀ b ∈ fp, c b = j ∧ B ≤ b) (hB : B ≤ w.heap.size) (h : RPost v g d' fp w e w') : e = .returned v ∧ CR c j B w g d' w' := by
  obtain ⟨he, fp', hF', hFr⟩ := h
  obtain ⟨h1, h2⟩ := keep_fr hFr hF.lt hc hB
  exact ⟨he, _, ⟨fp', hF', h2⟩, h1⟩
set_option maxRecDepth 100000 in
set_option maxHeartbeats 2000000 in
theorem looks_any (hD : DC c i B w g d) (hR : RC c j B w r d) : Calls Try.prog 32 #[.pointer (some ⟨g, 0, none⟩), .pointer (some ⟨r, 0, none⟩)] w fun e w' => e = .returned (.bool true) ∧ Below w.heap.size w w' := by
  obtain ⟨fp, hD, _⟩ := hD
  obtain ⟨fq, hR, _⟩ := hR
  have hRF := hR
  obtain ⟨bv, qv, kp, tn, rfl, hR⟩ := hR
  obtain ⟨gb, cb, rfl, _, _⟩ := hR.bform
  obtain ⟨p, cap, rfl, _⟩ := hR.qform
  obtain ⟨img, himg⟩ : ∃ img : ByteArray, img = ⟨d.secs.flatten.toArray⟩ := ⟨_, rfl⟩
  have n0 : w.cell? ⟨r, 0, none⟩ = some (.slice (some ⟨gb, 0, none⟩) (d.secs.length * 64) cb) := hR.self.cell 0
  have n1 : w.cell? ⟨r, 1, none⟩ = some (.slice p d.q.length cap) := hR.self.cell 1
  have n2 : w.cell? ⟨r, 2, none⟩ = some (.bool (!d.on)) := hR.self.cell 2
  have n7 : w.cell? ⟨r, 7, none⟩ = some (.int .i64 d.writes) := hR.self.cell 7
  have hcv2 : ∀ w2, Below w.heap.size w w2 → (convert 54 9 (.slice (some ⟨gb, 0, none⟩) (d.secs.length * 64) cb)).run Try.prog w2 = .ok (.string img) w2 := fun w2 hb => by
    rw [himg]
    exact string_of_own (P := Try.prog) (ownsRow_only hR.bytes ((Only.refl [] _).below hb) (by simp)) 54 9 Try.underlying54 Try.underlying5 Try.underlying9
  have hcv := hcv2 w.drew ((Below.refl _ _).drew)
  have himc := image_any (w := w.drew) (hD.only ((Only.refl [] _).drew) (by simp))
  rw [← himg] at himc
  have hrl := hR.self.lt
  have HIm := Lib.hid himc
  have HD := Lib.hid hD
  have HRF := Lib.hid hRF
  have HCv2 := Lib.hid hcv2
  clear himc himg hD hRF hR hcv2
  go_enter Try.func32, Try.ntmps32
  go_wp2_with fail
  go_region_held3 (fun w' => w'.cell? ⟨r, 0, none⟩ = some (.slice (some ⟨gb, 0, none⟩) (d.secs.length * 64) cb) ∧ w'.cell? ⟨r, 1, none⟩ = some (.slice p d.q.length cap) ∧ w'.cell? ⟨r, 2, none⟩ = some (.bool (!d.on)) ∧ w'.cell? ⟨r, 7, none⟩ = some (.int .i64 d.writes) ∧ (convert 54 9 (.slice (some ⟨gb, 0, none⟩) (d.secs.length * 64) cb)).run Try.prog w' = .ok (.string img) w') (first | exact ⟨n0, n1, n2, n7, hcv⟩ | exact ⟨k0, k1, k2, k7, kcv⟩ | go_keep)
    ((first
      | ((with_reducible refine HIm.out.mono ?_); rintro e w3 ⟨rfl, hb3⟩; have hb3' : Below w.heap.size w w3 := (Below.refl _ _).drew.trans hb3; have k0 := (hb3'.cell (p := ⟨r, 0, none⟩) hrl).trans n0; have k1 := (hb3'.cell (p := ⟨r, 1, none⟩) hrl).trans n1; have k2 := (hb3'.cell (p := ⟨r, 2, none⟩) hrl).trans n2; have k7 := (hb3'.cell (p := ⟨r, 7, none⟩) hrl).trans n7; have kcv := HCv2.out w3 hb3'; have HF3 := Lib.hid (HD.out.below hb3'); have HR3 := Lib.hid (HRF.out.below hb3'); have Hb3 := Lib.hid hb3'; clear hb3 hb3')
      | ((with_reducible refine (queue_df HF3.out).mono ?_); rintro e w4 ⟨rfl, rfl⟩)
      | ((with_reducible refine (writes_df HF3.out).mono ?_); rintro e w4 ⟨rfl, rfl⟩)
      | ((with_reducible refine (on_df HF3.out).mono ?_); rintro e w4 ⟨rfl, rfl⟩)
      | ((with_reducible refine (sectors_df HF3.out).mono ?_); rintro e w4 ⟨rfl, rfl⟩)
      | ((with_reducible refine (refSectors HR3.out).mono ?_); rintro e w4 ⟨rfl, rfl⟩)))
  all_goals
    clear k0 k1 k2 k7 kcv n0 n1 n2 n7 hcv
    go_wp2_with fail
    go_ret
    exact ⟨rfl, Hb3.out⟩
end
end Go.Proofs.Ytmkcmahfededeaa
