/- The contract of secret.Check. -/
import Derived.Test.YteajgkjiappkiaaSecD
import Derived.ChangeKeysEq
namespace Go.Proofs.Yteajgkjiappkiaa
open Go.RowKit
theorem u32_info : (Try.prog.info? 32).map (fun i => (i.zero, i.size, i.bytes)) = some (some (.int .u32 0), 1, 4) := by kernel_rfl
theorem cells32 : Try.prog.cellsOf 32 = 1 := by kernel_rfl
theorem plain32 : Try.prog.plainKey 32 = true := by kernel_rfl
theorem eqItems_step (d : Nat) (xs ys : Array Value) (i : Nat) (is : List Nat) (a b : Int) (w : World) (hx : xs[i]? = some (.int .u32 a)) (hy : ys[i]? = some (.int .u32 b)) :
    (Op.eqItems (d + 1) 32 1 xs ys (i :: is)).run Try.prog w = if (a == b) = true then (Op.eqItems (d + 1) 32 1 xs ys is).run Try.prog w else .ok false w := by
  simp only [Op.eqItems, Sem.run_bind, Nat.mul_one, run_part_plain w plain32 hx, run_part_plain w plain32 hy, Result.andThen_ok, run_equalIn_int w d 32 .u32 .u32 a b Try.underlying32]
  cases h : (a == b) <;> simp
theorem run_eql4 (a0 a1 a2 a3 b0 b1 b2 b3 : Int) (w : World) :
    (binOp .eql 34 (.agg #[.int .u32 a0, .int .u32 a1, .int .u32 a2, .int .u32 a3]) (.agg #[.int .u32 b0, .int .u32 b1, .int .u32 b2, .int .u32 b3])).run Try.prog w = .ok (.bool (a0 == b0 && (a1 == b1 && (a2 == b2 && a3 == b3)))) w := by
  obtain ⟨i, hi, _⟩ := info_parts u32_info
  simp only [binOp, Op.equal, Op.maxDepth, Sem.run_bind]
  rw [run_equalIn_array w 9999 _ _ Try.underlying34 hi, cells32]
  rw [show List.range 4 = [0, 1, 2, 3] from rfl]
  rw [eqItems_step 9998 _ _ 0 _ a0 b0 w rfl rfl, eqItems_step 9998 _ _ 1 _ a1 b1 w rfl rfl, eqItems_step 9998 _ _ 2 _ a2 b2 w rfl rfl, eqItems_step 9998 _ _ 3 _ a3 b3 w rfl rfl]
  cases (a0 == b0) <;> cases (a1 == b1) <;> cases (a2 == b2) <;> cases (a3 == b3) <;> simp [Op.eqItems]
/-- the sums are those that are stored -/
def same4 (s p : ByteArray) : Bool := ((ssum 0 (saltOf s).data.toList p.data.toList : Nat) : Int) == piece (restOf s).data.toList 0 && (((ssum 1 (saltOf s).data.toList p.data.toList : Nat) : Int) == piece (restOf s).data.toList 1 &&
  (((ssum 2 (saltOf s).data.toList p.data.toList : Nat) : Int) == piece (restOf s).data.toList 2 && ((ssum 3 (saltOf s).data.toList p.data.toList : Nat) : Int) == piece (restOf s).data.toList 3))
/-- what Check answers -/
def checkB (s p : ByteArray) : Bool := if hid s then decide (p.size ≤ 1024) && same4 s p else s.toList == p.toList
set_option maxHeartbeats 2000000 in
theorem check_any (s p : ByteArray) (w : World) : Calls Try.prog 10 #[.string s, .string p] w fun e w' => e = .returned (.bool (checkB s p)) ∧ Below w.heap.size w w' := by
  by_cases h : hid s
  · have hv : partsV s = .tuple #[.string (saltOf s), .agg #[.int .u32 (piece (restOf s).data.toList 0), .int .u32 (piece (restOf s).data.toList 1), .int .u32 (piece (restOf s).data.toList 2), .int .u32 (piece (restOf s).data.toList 3)], .bool true] := if_pos h
    have hc : checkB s p = (decide (p.size ≤ 1024) && same4 s p) := if_pos h
    have HC := Lib.hid hc
    have a4 : (saltOf s).size ≤ 4000 := by rw [show (saltOf s).size = 4 from size_of (Oct.unB_length _ _)]; omega
    have hag : Value.agg (srow 4 (saltOf s).data.toList p.data.toList) = .agg #[.int .u32 (ssum 0 (saltOf s).data.toList p.data.toList : Nat), .int .u32 (ssum 1 (saltOf s).data.toList p.data.toList : Nat), .int .u32 (ssum 2 (saltOf s).data.toList p.data.toList : Nat), .int .u32 (ssum 3 (saltOf s).data.toList p.data.toList : Nat)] := rfl
    have hsm : same4 s p = (((ssum 0 (saltOf s).data.toList p.data.toList : Nat) : Int) == piece (restOf s).data.toList 0 && (((ssum 1 (saltOf s).data.toList p.data.toList : Nat) : Int) == piece (restOf s).data.toList 1 &&
      (((ssum 2 (saltOf s).data.toList p.data.toList : Nat) : Int) == piece (restOf s).data.toList 2 && ((ssum 3 (saltOf s).data.toList p.data.toList : Nat) : Int) == piece (restOf s).data.toList 3))) := rfl
    generalize same4 s p = B at HC hsm
    generalize ((ssum 0 (saltOf s).data.toList p.data.toList : Nat) : Int) = s0 at hag hsm
    generalize ((ssum 1 (saltOf s).data.toList p.data.toList : Nat) : Int) = s1 at hag hsm
    generalize ((ssum 2 (saltOf s).data.toList p.data.toList : Nat) : Int) = s2 at hag hsm
    generalize ((ssum 3 (saltOf s).data.toList p.data.toList : Nat) : Int) = s3 at hag hsm
    generalize piece (restOf s).data.toList 0 = p0 at hv hsm
    generalize piece (restOf s).data.toList 1 = p1 at hv hsm
    generalize piece (restOf s).data.toList 2 = p2 at hv hsm
    generalize piece (restOf s).data.toList 3 = p3 at hv hsm
    generalize saltOf s = a at hv hag a4
    have heq := fun W => run_eql4 s0 s1 s2 s3 p0 p1 p2 p3 W
    rw [← hsm] at heq
    have HV := Lib.hid hv
    have HA := Lib.hid hag
    have HA4 := Lib.hid a4
    clear hv hc hag hsm a4 h
    by_cases hp : (p.size : Int) ≤ 1024
    · have hd : decide ((p.size : Int) ≤ 1024) = true := decide_eq_true hp
      have HP : Hid (p.size ≤ 4000) := Lib.hid (by omega)
      have HCB : Hid (checkB s p = B) := Lib.hid (by rw [HC.out, decide_eq_true (by omega)]; rfl)
      go_enter Try.func10, Try.ntmps10
      go_wp2_with fail
      refine (partsX s _ _ HV).mono ?_
      rintro e w1 ⟨rfl, c1⟩
      go_wp2_with fail
      go_region_held3 (fun w' => w'.cell? ⟨w1.heap.size, 0, none⟩ = some (.int .u32 p0) ∧ w'.cell? ⟨w1.heap.size, 1, none⟩ = some (.int .u32 p1) ∧ w'.cell? ⟨w1.heap.size, 2, none⟩ = some (.int .u32 p2) ∧ w'.cell? ⟨w1.heap.size, 3, none⟩ = some (.int .u32 p3))
        (first
          | go_keep
          | (refine ⟨?_, ?_, ?_, ?_⟩ <;> (rw [c2.cell (by simp)]; simp)))
        (first | (go_at_call 14; ((with_reducible refine (sumOfX a p _ _ HA4.out HP.out HA).mono ?_)); rintro e w2 ⟨rfl, c2⟩))
      go_wp2_with fail
      go_ret
      exact ⟨by rw [HCB.out]; rfl, ((c1.alloc c1.size _).drew).trans (c2.mono (by have := c1.size; simp; omega))⟩
    · have hd : decide ((p.size : Int) ≤ 1024) = false := decide_eq_false hp
      have HCB : Hid (checkB s p = false) := Lib.hid (by rw [HC.out, decide_eq_false (by omega)]; rfl)
      clear heq
      go_enter Try.func10, Try.ntmps10
      go_wp2_with fail
      refine (partsX s _ _ HV).mono ?_
      rintro e w1 ⟨rfl, c1⟩
      go_wp2_with fail
      go_quiet (fail)
      go_wp2_with fail
      go_ret
      exact ⟨by rw [HCB.out]; rfl, below_drewN (c1.alloc c1.size _) _⟩
  · have hv : partsV s = .tuple #[.string ⟨#[]⟩, .agg #[.int .u32 0, .int .u32 0, .int .u32 0, .int .u32 0], .bool false] := if_neg h
    have hc : checkB s p = (s.toList == p.toList) := if_neg h
    have HC := Lib.hid hc
    have HV := Lib.hid hv
    clear hv hc h
    go_enter Try.func10, Try.ntmps10
    go_wp2_with fail
    refine (partsX s _ _ HV).mono ?_
    rintro e w1 ⟨rfl, c1⟩
    go_wp2_with fail
    go_ret
    exact ⟨by rw [HC.out]; rfl, c1.alloc c1.size _⟩
end Go.Proofs.Yteajgkjiappkiaa
