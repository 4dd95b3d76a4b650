/- The contract of chanceryref2.Write, given put's (to be proved: PutGives). -/
import Derived.Test.YtejnfnpcabldeaaBerDA
import Derived.Test.YtejnfnpcabldeaaBerDB
import Derived.Test.YtejnfnpcabldeaaBerF
namespace Go.Proofs.Ytejnfnpcabldeaa
open Go.RowKit Ber
/-- what put gives for an element that may be written, from an empty list on -/
def PutGives (w : World) (c t : Int) (k : Bool) (b : ByteArray) (ks : List El) (kv : Value) : Prop :=
  ∀ w0, Below w.heap.size w w0 → Calls Try.prog 51 #[.slice none 0 0, .agg #[.int .i64 c, .int .i64 t, .bool k, .string b, kv]] w0 fun e w' => (∃ v n, e = .returned v ∧ w'.ownsRow w0.heap.size 5 1 v n (bl (enc 20 (.mk c t k b ks)))) ∧ Below w0.heap.size w0 w'
set_option maxHeartbeats 1000000 in
theorem rWrite_of {w : World} {ks : List El} {kv : Value} (h : KsAt w ks kv) (c t : Int) (k : Bool) (b : ByteArray) (w0 : World) (hfb : Few b.size) (hb : Below w.heap.size w w0) (hput : Hid (Ber.Good 20 (.mk c t k b ks) → PutGives w c t k b ks kv)) :
    Calls Try.prog 16 #[.agg #[.int .i64 c, .int .i64 t, .bool k, .string b, kv]] w0 fun e w' => e = .returned (wrV (.mk c t k b ks)) ∧ Below w0.heap.size w0 w' := by
  obtain ⟨V, hV⟩ : ∃ V, wrV (.mk c t k b ks) = V := ⟨_, rfl⟩
  rw [hV]
  obtain ⟨x1, hx1⟩ : ∃ x, (!(allIn tagOk 20 (.mk c t k b ks))) = x := ⟨_, rfl⟩
  obtain ⟨x2, hx2⟩ : ∃ x, (!(allIn formOk 20 (.mk c t k b ks))) = x := ⟨_, rfl⟩
  obtain ⟨x3, hx3⟩ : ∃ x, deepIn 20 (.mk c t k b ks) = x := ⟨_, rfl⟩
  have HV := Lib.hid hV
  have X1 := Lib.hid hx1
  have X2 := Lib.hid hx2
  have X3 := Lib.hid hx3
  have HH := Lib.hid h
  have HFB := Lib.hid hfb
  have HB := Lib.hid hb
  obtain ⟨a, cap, rfl, _, _⟩ := h.len
  clear h hfb hb hV hx1 hx2 hx3
  go_enter Try.func16, Try.ntmps16
  go_wp2_with fail
  (with_reducible refine (faults_any HH.out 20 0 c t k b _ (Lib.hid (by omega)) (by omega) (HB.out.trans ((Below.refl _ _).alloc HB.out.size _)) x1 x2 x3 X1 X2 X3).mono ?_)
  rintro e w1 ⟨rfl, hb1⟩
  have hB1 : Below w0.heap.size w0 w1 := ((Below.refl _ _).alloc (Nat.le_refl _) _).trans (hb1.mono (by simp))
  have HE1 := Lib.hid ((Blk.new w0 24 #[.int .i64 c, .int .i64 t, .bool k, .string b, .slice a ks.length cap]).below hb1 (by simp))
  clear hb1
  cases x1 with
  | true =>
    go_wp2_with fail
    go_ret2
    exact ⟨by rw [← HV.out, wrV_tag (by simpa using X1.out)]; rfl, hB1⟩
  | false =>
  have T1 : Hid (allIn tagOk 20 (.mk c t k b ks) = true) := Lib.hid (by simpa using X1.out)
  cases x2 with
  | true =>
    go_wp2_with fail
    go_ret2
    exact ⟨by rw [← HV.out, wrV_form T1.out (by simpa using X2.out)]; rfl, hB1⟩
  | false =>
  have T2 : Hid (allIn formOk 20 (.mk c t k b ks) = true) := Lib.hid (by simpa using X2.out)
  cases x3 with
  | true =>
    go_wp2_with fail
    go_ret2
    exact ⟨by rw [← HV.out, wrV_deep T1.out T2.out X3.out]; rfl, hB1⟩
  | false =>
  obtain ⟨c0, c1, c2, c3, c4⟩ := HE1.out.five
  go_wp2_with fail
  (with_reducible refine (rsize_any HH.out 20 c t k b _ HFB.out X3 (HB.out.trans (hB1.mono HB.out.size))).mono ?_)
  rintro e w4 ⟨⟨r4, rfl, hr4⟩, hb4⟩
  have HR4 := Lib.hid hr4
  have hB4 : Below w0.heap.size w0 w4 := hB1.trans (hb4.mono hB1.size)
  have HE4 := Lib.hid (HE1.out.below hb4 HE1.out.lt)
  clear hb4 hB1 c0 c1 c2 c3 c4 hr4
  by_cases h5 : 65536 < r4
  · have hl : 65536 < esz 20 (.mk c t k b ks) := by
      by_cases q : esz 20 (.mk c t k b ks) ≤ 65536
      · have := HR4.out.ok q
        omega
      · omega
    have HL := Lib.hid hl
    clear hl
    go_wp2_with fail
    go_ret2
    exact ⟨by rw [← HV.out, wrV_long T1.out T2.out X3.out HL.out]; rfl, hB4⟩
  · have hG : Ber.Good 20 (.mk c t k b ks) := ⟨T1.out, T2.out, X3.out, by
      by_cases q : esz 20 (.mk c t k b ks) ≤ 65536
      · exact q
      · have := HR4.out.big (by omega); omega⟩
    have hP : ∀ w0, Below w.heap.size w w0 → Calls Try.prog 51 #[.slice none 0 0, .agg #[.int .i64 c, .int .i64 t, .bool k, .string b, .slice a ks.length cap]] w0 fun e w' => (∃ v n, e = .returned v ∧ w'.ownsRow w0.heap.size 5 1 v n (bl (enc 20 (.mk c t k b ks)))) ∧ Below w0.heap.size w0 w' := hput.out hG
    have HP := Lib.hid hP
    clear hP
    have HG := Lib.hid hG
    obtain ⟨c0, c1, c2, c3, c4⟩ := HE4.out.five
    clear hG
    go_wp2_with fail
    clear c0 c1 c2 c3 c4
    (with_reducible refine (HP.out _ (HB.out.trans (hB4.mono HB.out.size))).mono ?_)
    rintro e w5 ⟨⟨v, n, rfl, hown⟩, hb5⟩
    have hcv := string_of_own (P := Try.prog) hown 54 9 Try.underlying54 Try.underlying5 Try.underlying9
    clear hown
    go_wp2_with fail
    go_ret2
    exact ⟨by rw [← HV.out, wrV_good HG.out]; rfl, hB4.trans (hb5.mono hB4.size)⟩
end Go.Proofs.Ytejnfnpcabldeaa
