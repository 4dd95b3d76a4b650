/- The contract of the law's step. -/
import Derived.Test.YtmkcmahfededeaaPlA
namespace Go.Proofs.Ytmkcmahfededeaa
open Go.RowKit Go.Maps
attribute [local go_sem ↓] Go.wp_at_zero Go.wp_at_succ
/-- an operation's cells -/
def opc (k u a b c : Int) (s : ByteArray) : Array Value := #[.int .i64 k, .int .i64 u, .int .i64 a, .int .i64 b, .int .i64 c, .string s]
/-- a disk, its reference and the operation, in memory -/
def SS (c0 : Nat → Nat) (i j B : Nat) (w0 : World) (H : Nat) (op : Array Value) (g r : Nat) (d e : Vd.VD) (w : World) : Prop :=
  ∃ c, B ≤ w.heap.size ∧ Keep (fun x => x = i ∨ x = j) c0 c w0 w ∧ DC c i B w g d ∧ RC c j B w r e ∧ Blk w H 68 op ∧ c H = 0 ∧ i ≠ 0 ∧ j ≠ 0 ∧ i ≠ j
section
variable {c0 c : Nat → Nat} {i j B H g r : Nat} {w0 w w' : World} {op : Array Value} {d d' e e' : Vd.VD}
theorem SS.disk {fp : List Nat} {v : Value} {en : Ending} (hB : B ≤ w.heap.size) (hk : Keep (fun x => x = i ∨ x = j) c0 c w0 w) (hF : DF w g d fp) (hc : ∀ b ∈ fp, c b = i ∧ B ≤ b) (hR : RC c j B w r e) (hH : Blk w H 68 op) (hcH : c H = 0) (hi : i ≠ 0) (hj : j ≠ 0) (hij : i ≠ j)
    (h : DPost v g d' fp w en w') : en = .returned v ∧ SS c0 i j B w0 H op g r d' e w' := by
  obtain ⟨he, c', hD', hk'⟩ := cp_post hF hc hB h
  exact ⟨he, c', Nat.le_trans hB hk'.size, hk.trans (hk'.mono (fun x hx => .inl hx)), hD', hR.keep hk' (fun e => hij e.symm), hH.keep hk' (by rw [hcH]; exact fun e => hi e.symm), (hk'.col H hH.lt).trans hcH, hi, hj, hij⟩
theorem SS.ref {fp : List Nat} {v : Value} {en : Ending} (hB : B ≤ w.heap.size) (hk : Keep (fun x => x = i ∨ x = j) c0 c w0 w) (hF : RF w r e fp) (hc : ∀ b ∈ fp, c b = j ∧ B ≤ b) (hD : DC c i B w g d) (hH : Blk w H 68 op) (hcH : c H = 0) (hi : i ≠ 0) (hj : j ≠ 0) (hij : i ≠ j)
    (h : RPost v r e' fp w en w') : en = .returned v ∧ SS c0 i j B w0 H op g r d e' w' := by
  obtain ⟨he, c', hR', hk'⟩ := cr_post hF hc hB h
  exact ⟨he, c', Nat.le_trans hB hk'.size, hk.trans (hk'.mono (fun x hx => .inr hx)), hD.keep hk' (fun e => hij e), hR', hH.keep hk' (by rw [hcH]; exact fun e => hj e.symm), (hk'.col H hH.lt).trans hcH, hi, hj, hij⟩
theorem SS.below (h : SS c0 i j B w0 H op g r d e w) (hb : Below w.heap.size w w') : SS c0 i j B w0 H op g r d e w' := by
  obtain ⟨c, hB, hk, hD, hR, hH, hcH, hi, hj, hij⟩ := h
  have hk' := Keep.below (fun _ => False) c 0 hb
  exact ⟨_, Nat.le_trans hB hb.size, hk.trans (hk'.mono (fun x hx => hx.elim)), hD.keep hk' (fun h => h), hR.keep hk' (fun h => h), hH.keep hk' (fun h => h), (hk'.col H hH.lt).trans hcH, hi, hj, hij⟩
theorem SS.blk (h : SS c0 i j B w0 H op g r d e w) : Blk w H 68 op := by
  obtain ⟨c, hB, hk, hD, hR, hH, _⟩ := h
  exact hH
theorem ss_write (h : SS c0 i j B w0 H op g r d e w) (a : Int) (s : ByteArray) (hm : s.size ≤ 9223372036854775807) (hw : d.writes < 1000000000) : Calls Try.prog 13 #[.pointer (some ⟨g, 0, none⟩), .int .i64 a, .string s] w fun en w' => en = .returned (.int .i64 (Vd.write d a s.data.toList).1) ∧ SS c0 i j B w0 H op g r (Vd.write d a s.data.toList).2 e w' := by
  obtain ⟨c, hB, hk, ⟨fp, hF, hc⟩, hR, hH, hcH, hi, hj, hij⟩ := h
  exact (write_any hF a s hm hw).mono fun en w' hp => SS.disk hB hk hF hc hR hH hcH hi hj hij hp
theorem ss_rwrite (h : SS c0 i j B w0 H op g r d e w) (a : Int) (s : ByteArray) (hm : s.size ≤ 9223372036854775807) (hw : e.writes < 1000000000) : Calls Try.prog 35 #[.pointer (some ⟨r, 0, none⟩), .int .i64 a, .string s] w fun en w' => en = .returned (.int .i64 (Vd.write e a s.data.toList).1) ∧ SS c0 i j B w0 H op g r d (Vd.write e a s.data.toList).2 w' := by
  obtain ⟨c, hB, hk, hD, ⟨fp, hF, hc⟩, hH, hcH, hi, hj, hij⟩ := h
  exact (refWrite hF a s hm hw).mono fun en w' hp => SS.ref hB hk hF hc hD hH hcH hi hj hij hp
theorem ss_sync (h : SS c0 i j B w0 H op g r d e w) : Calls Try.prog 12 #[.pointer (some ⟨g, 0, none⟩)] w fun en w' => en = .returned (.int .i64 (Vd.sync d).1) ∧ SS c0 i j B w0 H op g r (Vd.sync d).2 e w' := by
  obtain ⟨c, hB, hk, ⟨fp, hF, hc⟩, hR, hH, hcH, hi, hj, hij⟩ := h
  exact (sync_any hF).mono fun en w' hp => SS.disk hB hk hF hc hR hH hcH hi hj hij hp
theorem ss_rsync (h : SS c0 i j B w0 H op g r d e w) : Calls Try.prog 37 #[.pointer (some ⟨r, 0, none⟩)] w fun en w' => en = .returned (.int .i64 (Vd.sync e).1) ∧ SS c0 i j B w0 H op g r d (Vd.sync e).2 w' := by
  obtain ⟨c, hB, hk, hD, ⟨fp, hF, hc⟩, hH, hcH, hi, hj, hij⟩ := h
  exact (refSync hF).mono fun en w' hp => SS.ref hB hk hF hc hD hH hcH hi hj hij hp
theorem ss_crash (h : SS c0 i j B w0 H op g r d e w) (a b : Int) : Calls Try.prog 14 #[.pointer (some ⟨g, 0, none⟩), .int .i64 a, .int .i64 b] w fun en w' => en = .returned (.tuple #[]) ∧ SS c0 i j B w0 H op g r (Vd.crash d a b) e w' := by
  obtain ⟨c, hB, hk, ⟨fp, hF, hc⟩, hR, hH, hcH, hi, hj, hij⟩ := h
  exact (crash_any hF a b).mono fun en w' hp => SS.disk hB hk hF hc hR hH hcH hi hj hij hp
theorem ss_rcrash (h : SS c0 i j B w0 H op g r d e w) (a b : Int) : Calls Try.prog 38 #[.pointer (some ⟨r, 0, none⟩), .int .i64 a, .int .i64 b] w fun en w' => en = .returned (.tuple #[]) ∧ SS c0 i j B w0 H op g r d (Vd.crash e a b) w' := by
  obtain ⟨c, hB, hk, hD, ⟨fp, hF, hc⟩, hH, hcH, hi, hj, hij⟩ := h
  exact (refCrash hF a b).mono fun en w' hp => SS.ref hB hk hF hc hD hH hcH hi hj hij hp
theorem ss_restore (h : SS c0 i j B w0 H op g r d e w) : Calls Try.prog 15 #[.pointer (some ⟨g, 0, none⟩)] w fun en w' => en = .returned (.tuple #[]) ∧ SS c0 i j B w0 H op g r { d with on := true } e w' := by
  obtain ⟨c, hB, hk, ⟨fp, hF, hc⟩, hR, hH, hcH, hi, hj, hij⟩ := h
  exact (restore_df hF).mono fun en w' hp => SS.disk hB hk hF hc hR hH hcH hi hj hij hp
theorem ss_room (h : SS c0 i j B w0 H op g r d e w) (n : Int) (h0 : n ≤ 9223372036854775807) : Calls Try.prog 18 #[.pointer (some ⟨g, 0, none⟩), .int .i64 n] w fun en w' => en = .returned (.tuple #[]) ∧ SS c0 i j B w0 H op g r { d with room := max n (-1) } e w' := by
  obtain ⟨c, hB, hk, ⟨fp, hF, hc⟩, hR, hH, hcH, hi, hj, hij⟩ := h
  exact (room_df hF n h0).mono fun en w' hp => SS.disk hB hk hF hc hR hH hcH hi hj hij hp
theorem ss_rroom (h : SS c0 i j B w0 H op g r d e w) (n : Int) (h0 : n ≤ 9223372036854775807) : Calls Try.prog 39 #[.pointer (some ⟨r, 0, none⟩), .int .i64 n] w fun en w' => en = .returned (.tuple #[]) ∧ SS c0 i j B w0 H op g r d { e with room := max n (-1) } w' := by
  obtain ⟨c, hB, hk, hD, ⟨fp, hF, hc⟩, hH, hcH, hi, hj, hij⟩ := h
  exact (refRoom hF n h0).mono fun en w' hp => SS.ref hB hk hF hc hD hH hcH hi hj hij hp
theorem ss_fuse (h : SS c0 i j B w0 H op g r d e w) (n a b : Int) (h0 : n ≤ 9223372036854775807) : Calls Try.prog 20 #[.pointer (some ⟨g, 0, none⟩), .int .i64 n, .int .i64 a, .int .i64 b] w fun en w' => en = .returned (.tuple #[]) ∧ SS c0 i j B w0 H op g r (setFuse d n a b) e w' := by
  obtain ⟨c, hB, hk, ⟨fp, hF, hc⟩, hR, hH, hcH, hi, hj, hij⟩ := h
  exact (fuse_df hF n a b h0).mono fun en w' hp => SS.disk hB hk hF hc hR hH hcH hi hj hij hp
theorem ss_rfuse (h : SS c0 i j B w0 H op g r d e w) (n a b : Int) (h0 : n ≤ 9223372036854775807) : Calls Try.prog 40 #[.pointer (some ⟨r, 0, none⟩), .int .i64 n, .int .i64 a, .int .i64 b] w fun en w' => en = .returned (.tuple #[]) ∧ SS c0 i j B w0 H op g r d (setFuse e n a b) w' := by
  obtain ⟨c, hB, hk, hD, ⟨fp, hF, hc⟩, hH, hcH, hi, hj, hij⟩ := h
  exact (refFuse hF n a b h0).mono fun en w' hp => SS.ref hB hk hF hc hD hH hcH hi hj hij hp
theorem ss_read (h : SS c0 i j B w0 H op g r d e w) (a : Int) : Calls Try.prog 16 #[.pointer (some ⟨g, 0, none⟩), .int .i64 a] w fun en w' => en = .returned (rdV (Vd.read d a)) ∧ SS c0 i j B w0 H op g r d e w' := by
  have h' := h
  obtain ⟨c, hB, hk, ⟨fp, hF, hc⟩, hR, hH, hcH, hi, hj, hij⟩ := h
  exact (read_any hF a).mono fun en w' hp => ⟨hp.1, h'.below hp.2⟩
theorem ss_rread (h : SS c0 i j B w0 H op g r d e w) (a : Int) : Calls Try.prog 36 #[.pointer (some ⟨r, 0, none⟩), .int .i64 a] w fun en w' => en = .returned (rdV (Vd.read e a)) ∧ w = w' := by
  obtain ⟨c, hB, hk, hD, ⟨fp, hF, hc⟩, hH, hcH, hi, hj, hij⟩ := h
  exact refRead hF a
theorem ss_looks (h : SS c0 i j B w0 H op g r d d w) : Calls Try.prog 32 #[.pointer (some ⟨g, 0, none⟩), .pointer (some ⟨r, 0, none⟩)] w fun en w' => en = .returned (.bool true) ∧ SS c0 i j B w0 H op g r d d w' := by
  have h' := h
  obtain ⟨c, hB, hk, hD, hR, hH, hcH, hi, hj, hij⟩ := h
  exact (looks_any hD hR).mono fun en w' hp => ⟨hp.1, h'.below hp.2⟩
/-- the reference's power is given back -/
theorem RF.on {fp : List Nat} (h : RF w r e fp) : RF (w.setCell ⟨r, 2, none⟩ (.bool false)) r { e with on := true } fp ∧ Fr fp w (w.setCell ⟨r, 2, none⟩ (.bool false)) fp := by
  obtain ⟨bv, qv, kp, tn, rfl, h⟩ := h
  have ho : Only [r] w (w.setCell ⟨r, 2, none⟩ (.bool false)) := (Only.refl _ _).own 2 _
  exact ⟨⟨bv, qv, kp, tn, rfl, h.self' kp tn _ ⟨h.ok.secs, h.ok.secs0, h.ok.q, h.ok.room, h.ok.fuse, h.ok.writes⟩ rfl rfl h.fz ho ((h.self.set_ 2 _).eq_ (by simp [rcells]))⟩, ho.mono (by simp [rfoot]), fun _ h => .inl h⟩
theorem SS.ron (h : SS c0 i j B w0 H op g r d e w) : SS c0 i j B w0 H op g r d { e with on := true } (w.setCell ⟨r, 2, none⟩ (.bool false)) := by
  obtain ⟨c, hB, hk, hD, ⟨fp, hF, hc⟩, hH, hcH, hi, hj, hij⟩ := h
  exact (SS.ref (v := .tuple #[]) (en := .returned (.tuple #[])) hB hk hF hc hD hH hcH hi hj hij ⟨rfl, fp, hF.on.1, hF.on.2⟩).2
theorem SS.r2 (h : SS c0 i j B w0 H op g r d e w) : w.cell? ⟨r, 2, none⟩ = some (.bool (!e.on)) ∧ w.frozen? ⟨r, 2, none⟩ = false := by
  obtain ⟨c, hB, hk, hD, ⟨fp, ⟨bv, qv, kp, tn, rfl, hR⟩, hc⟩, _⟩ := h
  exact ⟨hR.c2, hR.self.frozen 2⟩
/-- what a step leaves -/
def StepP (c0 : Nat → Nat) (i j B : Nat) (w : World) (g r : Nat) (d : Vd.VD) (en : Ending) (w' : World) : Prop :=
  en = .returned (.bool true) ∧ ∃ c' d', DC c' i B w' g d' ∧ RC c' j B w' r d' ∧ Keep (fun x => x = i ∨ x = j) c0 c' w w' ∧ d'.writes ≤ d.writes + 1
theorem SS.done (h : SS c0 i j B w0 H op g r d' d' w) (hw : d'.writes ≤ d.writes + 1) : StepP c0 i j B w0 g r d (.returned (.bool true)) w := by
  obtain ⟨c, hB, hk, hD, hR, _⟩ := h
  exact ⟨rfl, c, d', hD, hR, hk, hw⟩
theorem SS.start (hD : DC c0 i B w g d) (hR : RC c0 j B w r d) (hB : B ≤ w.heap.size) (op : Array Value) (hi : i ≠ 0) (hj : j ≠ 0) (hij : i ≠ j) : SS c0 i j B w w.heap.size op g r d d (w.alloc (.cells op 68)) := by
  have hb : Below w.heap.size w (w.alloc (.cells op 68)) := (Below.refl _ _).alloc (Nat.le_refl _) _
  have hk' := Keep.below (fun _ => False) c0 0 hb
  exact ⟨_, Nat.le_trans hB hb.size, hk'.mono (fun x hx => hx.elim), hD.keep hk' (fun h => h), hR.keep hk' (fun h => h), Blk.new _ _ _, by simp, hi, hj, hij⟩
/-- a crash, a write: how many writes were taken -/
theorem crash_writes (d : Vd.VD) (a b : Int) : (Vd.crash d a b).writes = d.writes := by
  unfold Vd.crash
  split <;> rfl
theorem burns_writes (d : Vd.VD) : (Vd.burns d).2.writes = d.writes := by
  unfold Vd.burns
  split
  · rfl
  · split
    · rfl
    · exact crash_writes _ _ _
theorem write_writes (d : Vd.VD) (a : Int) (l : List UInt8) : (Vd.write d a l).2.writes ≤ d.writes + 1 := by
  have := burns_writes d
  unfold Vd.write
  split
  · simp only; omega
  · split
    · simp only; omega
    · split
      · simp only; omega
      · split
        · simp only; omega
        · simp only; omega
theorem sync_writes (d : Vd.VD) : (Vd.sync d).2.writes = d.writes := by
  have := burns_writes d
  unfold Vd.sync
  split
  · split
    · exact this
    · exact this
  · rfl
end
end Go.Proofs.Ytmkcmahfededeaa
