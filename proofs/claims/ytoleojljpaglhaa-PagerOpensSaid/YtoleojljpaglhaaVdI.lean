/- The contract of the disk's Write. -/
import Derived.Test.YtoleojljpaglhaaVdH
import Derived.StillTailTactics
import Derived.Lib.BufferWrite
import Derived.Deep.WholeRow
namespace Go.Proofs.Ytoleojljpaglhaa
open Go.RowKit Go.Maps
set_option maxRecDepth 20000
/-- no bytes yet -/
def z64 : List UInt8 := List.replicate 64 0
theorem z64_length : z64.length = 64 := by simp [z64]
/-- a write is built -/
theorem wpList_build_wr {ops : Array Oper} {rest : List Oper} {o : Oper} {a : Act} {w : World} {Q : Exit → Act → World → Prop} (hgd : o.guard = none) (x : Operand) (ho : o.op = .build 91 #[(0, x)])
    (n : Nat) (hx : a.eval x = .int .i64 (n : Int)) (h : wpList Try.prog ops Q rest (a.put o.dst (.agg (wcells (n, z64)).toArray)) w) : wpList Try.prog ops Q (o :: rest) a w := by
  refine wpList_plain hgd fun K hK => ?_
  have hrun : (Instr.build 91 #[(0, Value.int .i64 (n : Int))]).run Try.prog w = .ok (.agg (wcells (n, z64)).toArray) w := by kernel_rfl
  unfold Oper.wp execOp
  simp only [ho, Sem.run_bind, Sem.run_pure, List.map_toArray, List.map_cons, List.map_nil, hx, hrun, Result.andThen_ok]
  exact hK _ _ h
/-- a text is copied into a block that was just made -/
theorem wpList_copy_str {P : Program} {ops : Array Oper} {rest : List Oper} {o : Oper} {a : Act} {W : World} {Q : Exit → Act → World → Prop} (hgd : o.guard = none) (d s : Operand) (dT sT : TypeId)
    (ho : o.op = .call { callee := .builtin .copy, args := #[d, s], argTypes := #[dT, sT] }) (elem : TypeId) (hu : P.underlying dT = some (.slice elem)) (hsz : (P.info? elem).map (·.size) = some 1)
    (H : Nat) (hH : W.heap.size = H) (off dLen dCap : Nat) (str : ByteArray) (hd : a.eval d = .slice (some ⟨H, off, none⟩) dLen dCap) (hs : a.eval s = .string str) (cells new : Array Value) (t : TypeId)
    (hle : str.size ≤ dLen) (hfit : off + str.size ≤ cells.size) (hnew : (cells.toList.take off ++ Lib.byteCells str.data.toList ++ cells.toList.drop (off + str.size)).toArray = new)
    (h : wpList P ops Q rest (a.put o.dst (goInt str.size)) (W.alloc (.cells new t))) : wpList P ops Q (o :: rest) a (W.alloc (.cells cells t)) := by
  subst hH
  refine wpList_plain hgd fun K hK => ?_
  have hrun := Lib.run_copy_row_string (P := P) (W.alloc (.cells cells t)) dT sT o.type elem W.heap.size off dLen dCap str cells t hu hsz (Blk.new W t cells) hle hfit
  rw [hnew, World.setRow_alloc_new] at hrun
  unfold Oper.wp
  simp [execOp, ho, resolve, invoke, builtin, hd, hs, hrun, Result.andThen]
  exact hK _ _ h
section
variable {w : World} {g : Nat} {d : Vd.VD} {fp : List Nat}
theorem asked_df (h : DF w g d fp) (a : Int) : Calls Try.prog 74 #[.pointer (some ⟨g, 0, none⟩), .int .i64 a] w fun e w' => e = .returned (.int .i64 (Vd.asked d a)) ∧ w = w' := by
  obtain ⟨S, M, qv, rfl, h⟩ := h
  exact asked_any h a
theorem asked_zero {a : Int} (h : Vd.asked d a = 0) : d.on = true ∧ 0 ≤ a ∧ a < d.secs.length := by
  unfold Vd.asked at h
  split at h
  · split at h
    · cases h
    · exact ⟨by assumption, by omega, by omega⟩
  · cases h
set_option maxHeartbeats 400000 in
theorem write_no1 (h : DF w g d fp) (a : Int) (s : ByteArray) (h0 : Vd.asked d a ≠ 0) :
    Calls Try.prog 57 #[.pointer (some ⟨g, 0, none⟩), .int .i64 a, .string s] w (DPost (.int .i64 (Vd.asked d a)) g d fp w) := by
  have ha := asked_df h a
  obtain ⟨r, hr⟩ : ∃ r, Vd.asked d a = r := ⟨_, rfl⟩
  rw [hr] at ha h0 ⊢
  clear hr
  have h1 : (r == 0) = false := by simpa using h0
  have h2 : (r != 0) = true := by simpa using h0
  have HD := Lib.hid h
  clear h
  go_enter Try.func57, Try.ntmps57
  go_wp2_with fail
  refine ha.mono ?_
  rintro e w1 ⟨rfl, rfl⟩
  go_wp2_with fail
  go_ret
  exact ⟨rfl, _, HD.out, Fr.refl _ _⟩
set_option maxHeartbeats 400000 in
theorem write_no2 (h : DF w g d fp) (a : Int) (s : ByteArray) (h0 : Vd.asked d a = 0) (hs : s.size ≠ 64) (_ : s.size ≤ 9223372036854775807) :
    Calls Try.prog 57 #[.pointer (some ⟨g, 0, none⟩), .int .i64 a, .string s] w (DPost (.int .i64 82) g d fp w) := by
  have ha := asked_df h a
  rw [h0] at ha
  clear h0
  have h1 : ((s.size : Int) == 64) = false := by simpa using (by omega : ¬ (s.size : Int) = 64)
  have h2 : ((s.size : Int) != 64) = true := by simpa using (by omega : ¬ (s.size : Int) = 64)
  have HD := Lib.hid h
  clear h
  go_enter Try.func57, Try.ntmps57
  go_wp2_with fail
  refine ha.mono ?_
  rintro e w1 ⟨rfl, rfl⟩
  go_wp2_with fail
  go_ret
  exact ⟨rfl, _, HD.out, Fr.refl _ _⟩
set_option maxHeartbeats 400000 in
theorem write_no3 (h : DF w g d fp) (a : Int) (s : ByteArray) (h0 : Vd.asked d a = 0) (hs : s.size = 64) (hr : d.room = 0) :
    Calls Try.prog 57 #[.pointer (some ⟨g, 0, none⟩), .int .i64 a, .string s] w (DPost (.int .i64 83) g d fp w) := by
  have ha := asked_df h a
  rw [h0] at ha
  clear h0
  have HD := Lib.hid h
  obtain ⟨S, M, qv, rfl, h⟩ := h
  have c4 := h.cells.c4
  rw [hr] at c4
  clear h hr
  go_enter Try.func57, Try.ntmps57
  go_wp2_with fail
  refine ha.mono ?_
  rintro e w1 ⟨rfl, rfl⟩
  go_wp2_with fail
  go_ret
  exact ⟨rfl, _, HD.out, Fr.refl _ _⟩
set_option maxHeartbeats 400000 in
theorem write_no4 (h : DF w g d fp) (a : Int) (s : ByteArray) (h0 : Vd.asked d a = 0) (hs : s.size = 64) (hr : d.room ≠ 0) (hb : (Vd.burns d).1 = true) :
    Calls Try.prog 57 #[.pointer (some ⟨g, 0, none⟩), .int .i64 a, .string s] w (DPost (.int .i64 80) g (Vd.burns d).2 fp w) := by
  have ha := asked_df h a
  have hbu := burns_any h
  rw [h0] at ha
  rw [hb] at hbu
  clear h0 hb
  obtain ⟨S, M, qv, rfl, h⟩ := h
  have c4 := h.cells.c4
  obtain ⟨rm, hrm⟩ : ∃ rm, d.room = rm := ⟨_, rfl⟩
  rw [hrm] at c4 hr
  have r1 : (rm == 0) = false := by simpa using hr
  clear h hrm
  go_enter Try.func57, Try.ntmps57
  go_wp2_with fail
  refine ha.mono ?_
  rintro e w1 ⟨rfl, rfl⟩
  go_wp2_with fail
  refine hbu.mono ?_
  rintro e w1 ⟨rfl, hF⟩
  go_wp2_with fail
  go_ret
  exact ⟨rfl, hF⟩
theorem burns_no (d : Vd.VD) (h : (Vd.burns d).1 = false) : (Vd.burns d).2.secs = d.secs ∧ (Vd.burns d).2.q = d.q ∧ (Vd.burns d).2.on = d.on ∧ (Vd.burns d).2.room = d.room ∧ (Vd.burns d).2.writes = d.writes := by
  unfold Vd.burns at h ⊢
  cases hf : d.fuse with
  | none => exact ⟨rfl, rfl, rfl, rfl, rfl⟩
  | some x =>
    rw [hf] at h
    obtain ⟨n, keep, torn⟩ := x
    simp only at h ⊢
    split at h
    · rename_i h0
      rw [if_pos h0]
      exact ⟨rfl, rfl, rfl, rfl, rfl⟩
    · cases h
theorem burns_room (d : Vd.VD) (h : (Vd.burns d).1 = false) : (Vd.burns d).2.room = d.room := (burns_no d h).2.2.2.1
end
end Go.Proofs.Ytoleojljpaglhaa
