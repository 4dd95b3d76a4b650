/- The contract of the law's step, kinds 2 to 7 and beyond; printed by genstep.py. -/
import Derived.Test.YtmkcmahfededeaaPlC
namespace Go.Proofs.Ytmkcmahfededeaa
open Go.RowKit Go.Maps
section
variable {c : Nat → Nat} {i j B g r : Nat} {w : World} {d : Vd.VD}
set_option maxRecDepth 100000 in
set_option maxHeartbeats 1000000 in
theorem step2 (hS : ∀ op, SS c i j B w w.heap.size op g r d d (w.alloc (.cells op 68))) (_hw : d.writes < 900000000) (u a b q : Int) (s : ByteArray) :
    Calls Try.prog 31 #[.pointer (some ⟨g, 0, none⟩), .pointer (some ⟨r, 0, none⟩), .agg (opc 2 u a b q s)] w (StepP c i j B w g r d) := by
  have h := hS (opc 2 u a b q s)
  have n0 : (w.alloc (.cells (opc 2 u a b q s) 68)).cell? ⟨w.heap.size, 0, none⟩ = some (.int .i64 2) := h.blk.cell 0
  have n2 : (w.alloc (.cells (opc 2 u a b q s) 68)).cell? ⟨w.heap.size, 2, none⟩ = some (.int .i64 a) := h.blk.cell 2
  have h1 := ss_read h a
  obtain ⟨rv, hrv⟩ : ∃ rv, Vd.read d a = rv := ⟨_, rfl⟩
  rw [hrv] at h1
  obtain ⟨n, l⟩ := rv
  obtain ⟨t, ht⟩ : ∃ t : ByteArray, (⟨l.toArray⟩ : ByteArray) = t := ⟨_, rfl⟩
  unfold rdV at h1
  simp only [ht] at h1
  have HRV := Lib.hid hrv
  have HT := Lib.hid ht
  clear h hS hrv ht
  go_enter Try.func31, Try.ntmps31
  go_wp2_with fail
  with_reducible refine h1.mono ?_
  rintro e w3 ⟨rfl, h3⟩
  have k2 : w3.cell? ⟨w.heap.size, 2, none⟩ = some (.int .i64 a) := h3.blk.cell 2
  have h4 := ss_rread h3 a
  rw [HRV.out] at h4
  unfold rdV at h4
  simp only [HT.out] at h4
  have H3 := Lib.hid h3
  clear h1 h3 n0 n2
  go_wp2_with fail
  with_reducible refine h4.mono ?_
  rintro e w4 ⟨rfl, rfl⟩
  clear h4
  go_wp2_with fail
  go_ret
  exact H3.out.done (by omega)
set_option maxRecDepth 100000 in
set_option maxHeartbeats 1000000 in
theorem step3 (hS : ∀ op, SS c i j B w w.heap.size op g r d d (w.alloc (.cells op 68))) (_hw : d.writes < 900000000) (u a b q : Int) (s : ByteArray) :
    Calls Try.prog 31 #[.pointer (some ⟨g, 0, none⟩), .pointer (some ⟨r, 0, none⟩), .agg (opc 3 u a b q s)] w (StepP c i j B w g r d) := by
  have h := hS (opc 3 u a b q s)
  have n0 : (w.alloc (.cells (opc 3 u a b q s) 68)).cell? ⟨w.heap.size, 0, none⟩ = some (.int .i64 3) := h.blk.cell 0
  have h1 := ss_sync h
  obtain ⟨v, hv⟩ : ∃ v, (Vd.sync d).1 = v := ⟨_, rfl⟩
  rw [hv] at h1
  have HV := Lib.hid hv
  clear h hS hv
  go_enter Try.func31, Try.ntmps31
  go_wp2_with fail
  with_reducible refine h1.mono ?_
  rintro e w3 ⟨rfl, h3⟩
  have h4 := ss_rsync h3
  rw [HV.out] at h4
  clear h1 h3 n0
  go_wp2_with fail
  with_reducible refine h4.mono ?_
  rintro e w4 ⟨rfl, h5⟩
  have H5 := Lib.hid h5
  clear h4 h5
  go_wp2_with fail
  go_ret
  exact H5.out.done (by rw [sync_writes]; omega)
set_option maxRecDepth 100000 in
set_option maxHeartbeats 1000000 in
theorem step4 (hS : ∀ op, SS c i j B w w.heap.size op g r d d (w.alloc (.cells op 68))) (_hw : d.writes < 900000000) (u a b q : Int) (s : ByteArray) :
    Calls Try.prog 31 #[.pointer (some ⟨g, 0, none⟩), .pointer (some ⟨r, 0, none⟩), .agg (opc 4 u a b q s)] w (StepP c i j B w g r d) := by
  have h := hS (opc 4 u a b q s)
  have n0 : (w.alloc (.cells (opc 4 u a b q s) 68)).cell? ⟨w.heap.size, 0, none⟩ = some (.int .i64 4) := h.blk.cell 0
  have n2 : (w.alloc (.cells (opc 4 u a b q s) 68)).cell? ⟨w.heap.size, 2, none⟩ = some (.int .i64 a) := h.blk.cell 2
  have n3 : (w.alloc (.cells (opc 4 u a b q s) 68)).cell? ⟨w.heap.size, 3, none⟩ = some (.int .i64 b) := h.blk.cell 3
  have h1 := ss_crash h a b
  clear h hS
  go_enter Try.func31, Try.ntmps31
  go_wp2_with fail
  with_reducible refine h1.mono ?_
  rintro e w3 ⟨rfl, h3⟩
  have k2 : w3.cell? ⟨w.heap.size, 2, none⟩ = some (.int .i64 a) := h3.blk.cell 2
  have k3 : w3.cell? ⟨w.heap.size, 3, none⟩ = some (.int .i64 b) := h3.blk.cell 3
  have h4 := ss_rcrash h3 a b
  clear h1 h3 n0 n2 n3
  go_wp2_with fail
  with_reducible refine h4.mono ?_
  rintro e w4 ⟨rfl, h5⟩
  have H5 := Lib.hid h5
  clear h4 h5 k2 k3
  go_wp2_with fail
  go_ret
  exact H5.out.done (by rw [crash_writes]; omega)
set_option maxRecDepth 100000 in
set_option maxHeartbeats 1000000 in
theorem step5 (hS : ∀ op, SS c i j B w w.heap.size op g r d d (w.alloc (.cells op 68))) (_hw : d.writes < 900000000) (u a b q : Int) (s : ByteArray) :
    Calls Try.prog 31 #[.pointer (some ⟨g, 0, none⟩), .pointer (some ⟨r, 0, none⟩), .agg (opc 5 u a b q s)] w (StepP c i j B w g r d) := by
  have h := hS (opc 5 u a b q s)
  have n0 : (w.alloc (.cells (opc 5 u a b q s) 68)).cell? ⟨w.heap.size, 0, none⟩ = some (.int .i64 5) := h.blk.cell 0
  have h1 := ss_restore h
  clear h hS
  go_enter Try.func31, Try.ntmps31
  go_wp2_with fail
  with_reducible refine h1.mono ?_
  rintro e w3 ⟨rfl, h3⟩
  obtain ⟨k2, f2⟩ := h3.r2
  have h4 := h3.ron
  have H4 := Lib.hid h4
  clear h1 h3 h4 n0
  go_wp2_with fail
  go_ret
  exact H4.out.done (by show d.writes ≤ d.writes + 1; omega)
set_option maxRecDepth 100000 in
set_option maxHeartbeats 1000000 in
theorem step6 (hS : ∀ op, SS c i j B w w.heap.size op g r d d (w.alloc (.cells op 68))) (_hw : d.writes < 900000000) (u a b q : Int) (s : ByteArray) (ha : a ≤ 9223372036854775807) :
    Calls Try.prog 31 #[.pointer (some ⟨g, 0, none⟩), .pointer (some ⟨r, 0, none⟩), .agg (opc 6 u a b q s)] w (StepP c i j B w g r d) := by
  have h := hS (opc 6 u a b q s)
  have n0 : (w.alloc (.cells (opc 6 u a b q s) 68)).cell? ⟨w.heap.size, 0, none⟩ = some (.int .i64 6) := h.blk.cell 0
  have n2 : (w.alloc (.cells (opc 6 u a b q s) 68)).cell? ⟨w.heap.size, 2, none⟩ = some (.int .i64 a) := h.blk.cell 2
  have h1 := ss_room h a ha
  clear h hS
  go_enter Try.func31, Try.ntmps31
  go_wp2_with fail
  with_reducible refine h1.mono ?_
  rintro e w3 ⟨rfl, h3⟩
  have k2 : w3.cell? ⟨w.heap.size, 2, none⟩ = some (.int .i64 a) := h3.blk.cell 2
  have h4 := ss_rroom h3 a ha
  clear h1 h3 n0 n2
  go_wp2_with fail
  with_reducible refine h4.mono ?_
  rintro e w4 ⟨rfl, h5⟩
  have H5 := Lib.hid h5
  clear h4 h5 k2
  go_wp2_with fail
  go_ret
  exact H5.out.done (by show d.writes ≤ d.writes + 1; omega)
set_option maxRecDepth 100000 in
set_option maxHeartbeats 1000000 in
theorem step7 (hS : ∀ op, SS c i j B w w.heap.size op g r d d (w.alloc (.cells op 68))) (_hw : d.writes < 900000000) (u a b q : Int) (s : ByteArray) (ha : a ≤ 9223372036854775807) :
    Calls Try.prog 31 #[.pointer (some ⟨g, 0, none⟩), .pointer (some ⟨r, 0, none⟩), .agg (opc 7 u a b q s)] w (StepP c i j B w g r d) := by
  have h := hS (opc 7 u a b q s)
  have n0 : (w.alloc (.cells (opc 7 u a b q s) 68)).cell? ⟨w.heap.size, 0, none⟩ = some (.int .i64 7) := h.blk.cell 0
  have n2 : (w.alloc (.cells (opc 7 u a b q s) 68)).cell? ⟨w.heap.size, 2, none⟩ = some (.int .i64 a) := h.blk.cell 2
  have n3 : (w.alloc (.cells (opc 7 u a b q s) 68)).cell? ⟨w.heap.size, 3, none⟩ = some (.int .i64 b) := h.blk.cell 3
  have n4 : (w.alloc (.cells (opc 7 u a b q s) 68)).cell? ⟨w.heap.size, 4, none⟩ = some (.int .i64 q) := h.blk.cell 4
  have h1 := ss_fuse h a b q ha
  clear h hS
  go_enter Try.func31, Try.ntmps31
  go_wp2_with fail
  with_reducible refine h1.mono ?_
  rintro e w3 ⟨rfl, h3⟩
  have k2 : w3.cell? ⟨w.heap.size, 2, none⟩ = some (.int .i64 a) := h3.blk.cell 2
  have k3 : w3.cell? ⟨w.heap.size, 3, none⟩ = some (.int .i64 b) := h3.blk.cell 3
  have k4 : w3.cell? ⟨w.heap.size, 4, none⟩ = some (.int .i64 q) := h3.blk.cell 4
  have h4 := ss_rfuse h3 a b q ha
  clear h1 h3 n0 n2 n3 n4
  go_wp2_with fail
  with_reducible refine h4.mono ?_
  rintro e w4 ⟨rfl, h5⟩
  have H5 := Lib.hid h5
  clear h4 h5 k2 k3 k4
  go_wp2_with fail
  go_ret
  exact H5.out.done (by show d.writes ≤ d.writes + 1; omega)
set_option maxRecDepth 100000 in
set_option maxHeartbeats 1000000 in
theorem stepX (hS : ∀ op, SS c i j B w w.heap.size op g r d d (w.alloc (.cells op 68))) (_hw : d.writes < 900000000) (k : Int) (u a b q : Int) (s : ByteArray) (hk : k < 1 ∨ 7 < k) :
    Calls Try.prog 31 #[.pointer (some ⟨g, 0, none⟩), .pointer (some ⟨r, 0, none⟩), .agg (opc k u a b q s)] w (StepP c i j B w g r d) := by
  have h := hS (opc k u a b q s)
  have n0 : (w.alloc (.cells (opc k u a b q s) 68)).cell? ⟨w.heap.size, 0, none⟩ = some (.int .i64 k) := h.blk.cell 0
  have e1 : (k == 1) = false := by simpa using (by omega : ¬ k = 1)
  have e2 : (k == 2) = false := by simpa using (by omega : ¬ k = 2)
  have e3 : (k == 3) = false := by simpa using (by omega : ¬ k = 3)
  have e4 : (k == 4) = false := by simpa using (by omega : ¬ k = 4)
  have e5 : (k == 5) = false := by simpa using (by omega : ¬ k = 5)
  have e6 : (k == 6) = false := by simpa using (by omega : ¬ k = 6)
  have e7 : (k == 7) = false := by simpa using (by omega : ¬ k = 7)
  have h1 := ss_looks h
  clear h hS hk
  go_enter Try.func31, Try.ntmps31
  go_wp2_with fail
  with_reducible refine h1.mono ?_
  rintro e w3 ⟨rfl, h3⟩
  have H3 := Lib.hid h3
  clear h1 h3 n0
  go_wp2_with fail
  go_ret
  exact H3.out.done (by omega)
theorem step_any (hD : DC c i B w g d) (hR : RC c j B w r d) (hB : B ≤ w.heap.size) (hi : i ≠ 0) (hj : j ≠ 0) (hij : i ≠ j) (hw : d.writes < 900000000) (k u a b q : Int) (s : ByteArray) (hs : s.size ≤ 9223372036854775807) (ha : a ≤ 9223372036854775807) :
    Calls Try.prog 31 #[.pointer (some ⟨g, 0, none⟩), .pointer (some ⟨r, 0, none⟩), .agg (opc k u a b q s)] w (StepP c i j B w g r d) := by
  have hS := fun op => SS.start hD hR hB op hi hj hij
  by_cases h0 : k < 1 ∨ 7 < k
  · exact stepX hS hw k u a b q s h0
  · by_cases h1 : k = 1
    · subst h1; exact step1 hS hw u a b q s hs
    · by_cases h2 : k = 2
      · subst h2; exact step2 hS hw u a b q s
      · by_cases h3 : k = 3
        · subst h3; exact step3 hS hw u a b q s
        · by_cases h4 : k = 4
          · subst h4; exact step4 hS hw u a b q s
          · by_cases h5 : k = 5
            · subst h5; exact step5 hS hw u a b q s
            · by_cases h6 : k = 6
              · subst h6; exact step6 hS hw u a b q s ha
              · obtain rfl : k = 7 := by omega
                exact step7 hS hw u a b q s ha
end
end Go.Proofs.Ytmkcmahfededeaa
