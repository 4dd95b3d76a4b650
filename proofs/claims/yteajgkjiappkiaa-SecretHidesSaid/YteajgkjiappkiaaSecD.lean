/- The contracts of secret.parts (whole), secret.Hidden and secret.Check. The condition of Check: the password is within the form's own reach. -/
import Derived.Test.YteajgkjiappkiaaSecC
namespace Go.Proofs.Yteajgkjiappkiaa
open Go.RowKit
/-- the salt's digits, the sums' digits -/
def sA (s : ByteArray) : List UInt8 := (s.extract 3 11).data.toList
def sR (s : ByteArray) : List UInt8 := (s.extract 12 s.size).data.toList
/-- a text is a hidden password -/
def hid (s : ByteArray) : Prop := headOk s ∧ Oct.allGood (sA s) ∧ Oct.allGood (sR s) ∧ Oct.hexL (Oct.unB (sA s) 4) ++ Oct.hexL (Oct.unB (sR s) 16) = sA s ++ sR s
instance (s : ByteArray) : Decidable (hid s) := by unfold hid headOk; infer_instance
def saltOf (s : ByteArray) : ByteArray := ⟨(Oct.unB (sA s) 4).toArray⟩
def restOf (s : ByteArray) : ByteArray := ⟨(Oct.unB (sR s) 16).toArray⟩
/-- what parts answers -/
def partsV (s : ByteArray) : Value := if hid s then .tuple #[.string (saltOf s), .agg (grow 4 (restOf s).data.toList), .bool true] else noParts
theorem size_of {l : List UInt8} {n : Nat} (h : l.length = n) : (⟨l.toArray⟩ : ByteArray).size = n := by
  show l.toArray.size = n
  rw [List.size_toArray, h]
theorem sA_size {s : ByteArray} (h : headOk s) : (s.extract 3 11).size = 8 := by have := h.1; simp; omega
theorem sR_size {s : ByteArray} (h : headOk s) : (s.extract 12 s.size).size = 32 := by have := h.1; simp; omega
theorem parts_any (s : ByteArray) (w : World) : Calls Try.prog 18 #[.string s] w fun e w' => e = .returned (partsV s) ∧ Below w.heap.size w w' := by
  by_cases hh : headOk s
  · have hA := sA_size hh
    have hR := sR_size hh
    by_cases g1 : Oct.allGood (sA s)
    · have u1 := unhexV_yes (s := s.extract 3 11) (by omega) g1
      rw [hA] at u1
      by_cases g2 : Oct.allGood (sR s)
      · have u2 := unhexV_yes (s := s.extract 12 s.size) (by omega) g2
        rw [hR] at u2
        have y4 : Small (hexBA (saltOf s).data.toList) := by unfold Small; rw [hexBA_size]; show 2 * (Oct.unB (sA s) 4).length ≤ _; rw [Oct.unB_length]; omega
        have z4 : Small (hexBA (restOf s).data.toList) := by unfold Small; rw [hexBA_size]; show 2 * (Oct.unB (sR s) 16).length ≤ _; rw [Oct.unB_length]; omega
        have s3 : Small (s.extract 3 11) := by unfold Small; omega
        have s4 : Small (s.extract 12 s.size) := by unfold Small; omega
        have b4 : (saltOf s).size = 4 := size_of (Oct.unB_length _ _)
        have c4 : (restOf s).size = 16 := size_of (Oct.unB_length _ _)
        have e1 : (hexBA (saltOf s).data.toList ++ hexBA (restOf s).data.toList).toList = Oct.hexL (Oct.unB (sA s) 4) ++ Oct.hexL (Oct.unB (sR s) 16) := by
          rw [ByteArray.toList_eq, ByteArray.data_append, Array.toList_append]; rfl
        have e2 : (s.extract 3 11 ++ s.extract 12 s.size).toList = sA s ++ sR s := by
          rw [ByteArray.toList_eq, ByteArray.data_append, Array.toList_append]; rfl
        by_cases g3 : Oct.hexL (Oct.unB (sA s) 4) ++ Oct.hexL (Oct.unB (sR s) 16) = sA s ++ sR s
        · have hv : partsV s = .tuple #[.string (saltOf s), .agg (grow 4 (restOf s).data.toList), .bool true] := if_pos ⟨hh, g1, g2, g3⟩
          rw [hv]
          have g4 : (hexBA (saltOf s).data.toList ++ hexBA (restOf s).data.toList).toList = (s.extract 3 11 ++ s.extract 12 s.size).toList := by rw [e1, e2, g3]
          exact parts_yes s w hh (saltOf s) (restOf s) 0 0 (Lib.hid u1) (Lib.hid u2) _ _ (Lib.hid rfl) (Lib.hid rfl) (by omega) (by omega) y4 z4 s3 s4 g4 (by simpa using g4) c4 rfl rfl
        · have hv : partsV s = noParts := if_neg (fun h => g3 h.2.2.2)
          rw [hv]
          have g4 : ¬ (hexBA (saltOf s).data.toList ++ hexBA (restOf s).data.toList).toList = (s.extract 3 11 ++ s.extract 12 s.size).toList := by rw [e1, e2]; exact g3
          exact parts_bad3 s w hh (saltOf s) (restOf s) 0 0 (Lib.hid u1) (Lib.hid u2) _ _ (Lib.hid rfl) (Lib.hid rfl) (by omega) (by omega) y4 z4 s3 s4 g4 (by simpa using g4) rfl rfl
      · have hv : partsV s = noParts := if_neg (fun h => g2 h.2.2.1)
        rw [hv]
        exact parts_bad2 s w hh _ _ _ _ (Lib.hid u1) (Lib.hid (unhexV_no (fun h => g2 h.2))) rfl rfl
    · have hv : partsV s = noParts := if_neg (fun h => g1 h.2.1)
      rw [hv]
      have : ∃ c f, unhexV (s.extract 12 s.size) = .tuple #[.string c, .int .i64 f] := by unfold unhexV; split <;> exact ⟨_, _, rfl⟩
      obtain ⟨c, f, hu⟩ := this
      exact parts_bad1 s w hh _ _ _ _ (Lib.hid (unhexV_no (fun h => g1 h.2))) (Lib.hid hu) rfl
  · have hv : partsV s = noParts := if_neg (fun h => hh h.1)
    rw [hv]
    exact parts_nohead s w hh
theorem partsX (s : ByteArray) (r : Value) (w : World) (h : Hid (partsV s = r)) : Calls Try.prog 18 #[.string s] w fun e w' => e = .returned r ∧ Below w.heap.size w w' := h.out ▸ parts_any s w
set_option maxHeartbeats 1000000 in
theorem hidden_any (s : ByteArray) (w : World) : Calls Try.prog 8 #[.string s] w fun e w' => e = .returned (.bool (decide (hid s))) ∧ Below w.heap.size w w' := by
  by_cases h : hid s
  · have hv : partsV s = .tuple #[.string (saltOf s), .agg #[.int .u32 (piece (restOf s).data.toList 0), .int .u32 (piece (restOf s).data.toList 1), .int .u32 (piece (restOf s).data.toList 2), .int .u32 (piece (restOf s).data.toList 3)], .bool true] := if_pos h
    have HV := Lib.hid hv
    have HD := Lib.hid (decide_eq_true h)
    clear hv h
    go_enter Try.func8, Try.ntmps8
    go_wp2_with fail
    refine (partsX s _ _ HV).mono ?_
    rintro e w1 ⟨rfl, c1⟩
    go_wp2_with fail
    go_ret
    exact ⟨by rw [HD.out]; rfl, c1.alloc c1.size _⟩
  · have hv : partsV s = .tuple #[.string ⟨#[]⟩, .agg #[.int .u32 0, .int .u32 0, .int .u32 0, .int .u32 0], .bool false] := if_neg h
    have HV := Lib.hid hv
    have HD := Lib.hid (decide_eq_false h)
    clear hv h
    go_enter Try.func8, Try.ntmps8
    go_wp2_with fail
    refine (partsX s _ _ HV).mono ?_
    rintro e w1 ⟨rfl, c1⟩
    go_wp2_with fail
    go_ret
    exact ⟨by rw [HD.out]; rfl, c1.alloc c1.size _⟩
end Go.Proofs.Yteajgkjiappkiaa
