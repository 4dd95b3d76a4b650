/- The disk's frames in one word; the contracts of Crash and burns in it. -/
import Derived.Test.YtoleojljpaglhaaGreatVdG
import Derived.StillTailTactics
import Derived.Lib.BufferWrite
import Derived.Deep.WholeRow
namespace Go.Proofs.YtoleojljpaglhaaGreat
open Go.RowKit Go.Maps
set_option maxRecDepth 20000
/-- a disk, with the blocks that it owns -/
def DF (w : World) (g : Nat) (d : Vd.VD) (fp : List Nat) : Prop := ∃ S M qv, fp = foot g S M qv ∧ DiskAt w g S M qv d
/-- what a call does to the memory -/
def Fr (fp : List Nat) (w w' : World) (fp' : List Nat) : Prop := Only fp w w' ∧ ∀ b ∈ fp', b ∈ fp ∨ w.heap.size ≤ b
/-- what a call leaves -/
def DPost (v : Value) (g : Nat) (d : Vd.VD) (fp : List Nat) (w : World) (e : Ending) (w' : World) : Prop := e = .returned v ∧ ∃ fp', DF w' g d fp' ∧ Fr fp w w' fp'
theorem Fr.refl (fp : List Nat) (w : World) : Fr fp w w fp := ⟨Only.refl _ _, fun _ h => .inl h⟩
theorem Fr.trans {fp fp1 fp2 : List Nat} {a b c : World} (h : Fr fp a b fp1) (k : Fr fp1 b c fp2) : Fr fp a c fp2 :=
  ⟨h.1.trans k.1 h.2, fun x hx => by
    rcases k.2 x hx with h1 | h1
    · exact h.2 x h1
    · exact .inr (Nat.le_trans h.1.size h1)⟩
theorem ownBlock_lt {w : World} {base : Nat} {e : TypeId} {size n : Nat} {v : Value} {xs : List Value} (h : w.ownsRow base e size v n xs) {k : Nat} (hk : v.ownBlock = some k) : k < w.heap.size := by
  rcases h.2 with ⟨rfl, _⟩ | ⟨g', cap, cur, rfl, _, hh, _⟩
  · simp [Value.ownBlock] at hk
  · have : g' = k := by simpa [Value.ownBlock] using hk
    subst this
    exact (Array.getElem?_eq_some_iff.1 hh).1
theorem DF.lt {w : World} {g : Nat} {d : Vd.VD} {fp : List Nat} (h : DF w g d fp) : ∀ b ∈ fp, b < w.heap.size := by
  obtain ⟨S, M, qv, rfl, h⟩ := h
  intro b hb
  simp only [foot, List.mem_cons, Option.mem_toList] at hb
  rcases hb with rfl | rfl | rfl | hb
  · exact h.self.lt
  · exact h.secs.lt
  · exact h.last.lt
  · exact ownBlock_lt h.queue hb
theorem DF.only {w w' : World} {g : Nat} {d : Vd.VD} {fp fq : List Nat} (h : DF w g d fp) (ho : Only fq w w') (hn : ∀ b ∈ fp, b ∉ fq) : DF w' g d fp := by
  obtain ⟨S, M, qv, rfl, h⟩ := h
  exact ⟨S, M, qv, rfl, h.only ho hn⟩
theorem DF.below {w w' : World} {g : Nat} {d : Vd.VD} {fp : List Nat} (h : DF w g d fp) (hb : Below w.heap.size w w') : DF w' g d fp :=
  h.only ((Only.refl [] w).below hb) (by simp)
theorem Fr.below {fp : List Nat} {w w' : World} (hb : Below w.heap.size w w') : Fr fp w w' fp := ⟨(Only.refl fp w).below hb, fun _ h => .inl h⟩
theorem Only.mono {fp fp' : List Nat} {w w' : World} (h : Only fp w w') (hs : ∀ b ∈ fp, b ∈ fp') : Only fp' w w' := ⟨h.os, h.tape, h.output, h.size, fun k hk hn => h.block k hk (fun hm => hn (hs k hm))⟩
/-- the common ending: the disk's own cells and sectors, a new map, no queue -/
theorem frame_of {w w' : World} {g S M M' : Nat} {qv qv' : Value} (ho : Only [g, S] w w') (hM : M' = M ∨ w.heap.size ≤ M') (hq : qv' = qv ∨ qv'.ownBlock = none) : Fr (foot g S M qv) w w' (foot g S M' qv') := by
  refine ⟨ho.mono (by simp [foot]), ?_⟩
  intro b hb
  simp only [foot, List.mem_cons, Option.mem_toList] at hb ⊢
  rcases hb with rfl | rfl | rfl | hb
  · exact .inl (.inl rfl)
  · exact .inl (.inr (.inl rfl))
  · rcases hM with rfl | hM
    · exact .inl (.inr (.inr (.inl rfl)))
    · exact .inr hM
  · rcases hq with rfl | hq
    · exact .inl (.inr (.inr (.inr hb)))
    · rw [hq] at hb; cases hb
section
variable {w : World} {g : Nat} {d : Vd.VD} {fp : List Nat}
theorem crash_any (h : DF w g d fp) (keep torn : Int) :
    Calls Tryz.prog 63 #[.pointer (some ⟨g, 0, none⟩), .int .i64 keep, .int .i64 torn] w (DPost (.tuple #[]) g (Vd.crash d keep torn) fp w) := by
  obtain ⟨S, M, qv, rfl, h⟩ := h
  by_cases ho : d.on = true
  · have h1 : (0 : Int) ≤ Vd.clamp keep 0 d.q.length := by unfold Vd.clamp; omega
    have h2 : (0 : Int) ≤ Vd.clamp torn 0 64 := by unfold Vd.clamp; omega
    refine (crash_on h keep torn ho (Vd.clamp keep 0 d.q.length).toNat (Vd.clamp torn 0 64).toNat (by omega) (by omega)).mono ?_
    rintro e w' ⟨rfl, ⟨M', hM, hD⟩, hO⟩
    exact ⟨rfl, _, ⟨S, M', _, rfl, hD⟩, frame_of hO (.inr hM) (.inr rfl)⟩
  · refine (crash_off h keep torn (by simpa using ho)).mono ?_
    rintro e w' ⟨rfl, rfl⟩
    refine ⟨rfl, _, ⟨S, M, qv, rfl, ?_⟩, Fr.refl _ _⟩
    unfold Vd.crash
    rw [if_neg ho]
    exact h
set_option maxHeartbeats 400000 in
theorem burns_any (h : DF w g d fp) :
    Calls Tryz.prog 105 #[.pointer (some ⟨g, 0, none⟩)] w (DPost (.bool (Vd.burns d).1) g (Vd.burns d).2 fp w) := by
  have HDF := Lib.hid h
  obtain ⟨S, M, qv, rfl, h⟩ := h
  obtain ⟨c0, c1, c2, c3, c4, c5, c6, c7, c8, c9⟩ := h.cells
  have hglt : g < w.heap.size := h.self.lt
  have f5 := h.self.frozen 5
  have f6 := h.self.frozen 6
  have f7 := h.self.frozen 7
  have f8 := h.self.frozen 8
  have HD := Lib.hid h
  clear h
  cases hf : d.fuse with
  | none =>
    have hv : Vd.burns d = (false, d) := by unfold Vd.burns; rw [hf]
    rw [hv]
    rw [hf] at c5
    have c5' : w.cell? ⟨g, 5, none⟩ = some (.bool false) := c5
    clear c5 hf hv
    go_enter Tryz.func105, Tryz.ntmps105
    go_wp2_with fail
    go_ret
    exact ⟨rfl, _, HDF.out, Fr.refl _ _⟩
  | some x =>
    obtain ⟨n, keep, torn⟩ := x
    rw [hf] at c5 c6 c7 c8
    have c5' : w.cell? ⟨g, 5, none⟩ = some (.bool true) := c5
    have c6' : w.cell? ⟨g, 6, none⟩ = some (.int .i64 n) := c6
    have c7' : w.cell? ⟨g, 7, none⟩ = some (.int .i64 keep) := c7
    have c8' : w.cell? ⟨g, 8, none⟩ = some (.int .i64 torn) := c8
    have hn := HD.out.ok.fuse n keep torn hf
    clear c5 c6 c7 c8
    by_cases h0 : 0 < n
    · have hv : Vd.burns d = (false, { d with fuse := some (n - 1, keep, torn) }) := by unfold Vd.burns; rw [hf]; simp only [if_pos h0]
      rw [hv]
      have HF := Lib.hid hf
      clear hf hv
      have h0' : decide (0 < n) = true := decide_eq_true h0
      obtain ⟨hn1, hn2⟩ := hn
      go_enter Tryz.func105, Tryz.ntmps105
      go_wp2_with fail
      go_ret
      have hok := HD.out.ok
      refine ⟨rfl, _, ⟨S, M, qv, rfl, HD.out.store 6 (.int .i64 (n - 1)) { d with fuse := some (n - 1, keep, torn) } ⟨hok.secs, hok.secs0, hok.q, hok.room, ?_, hok.writes⟩ rfl rfl ?_⟩, frame_of ((Only.refl _ _).setCell (p := ⟨g, 6, none⟩) (.inl (by simp)) _) (.inl rfl) (.inl rfl)⟩
      · intro a b c e
        simp only [Option.some.injEq, Prod.mk.injEq] at e
        omega
      · unfold dcells
        rw [HF.out]
        simp [fset, fn, fkeep, ftorn]
    · obtain rfl : n = 0 := by omega
      have hv : Vd.burns d = (true, Vd.crash { d with fuse := none } keep torn) := by unfold Vd.burns; rw [hf]; rfl
      rw [hv]
      have HF := Lib.hid hf
      clear hf hv
      go_enter Tryz.func105, Tryz.ntmps105
      go_wp2_with fail
      have hok := HD.out.ok
      obtain ⟨w1, hw1⟩ : ∃ w1, w1 = (((w.setCell ⟨g, 5, none⟩ (.bool false)).setCell ⟨g, 6, none⟩ (.int .i64 0)).setCell ⟨g, 7, none⟩ (.int .i64 0)).setCell ⟨g, 8, none⟩ (.int .i64 0) := ⟨_, rfl⟩
      have hO1 : Only [g] w w1 := by rw [hw1]; exact ((((Only.refl _ _).own 5 _).own 6 _).own 7 _).own 8 _
      have hD1 : DiskAt w1 g S M qv { d with fuse := none } := HD.out.self' _ ⟨hok.secs, hok.secs0, hok.q, hok.room, (fun _ _ _ e => by cases e), hok.writes⟩ rfl rfl hO1
        (by rw [hw1]; exact ((((HD.out.self.set_ 5 _).set_ 6 _).set_ 7 _).set_ 8 _).eq_ (by simp [dcells, fset, fn, fkeep, ftorn]))
      rw [← hw1]
      have hF1 : DF (w1.alloc (.cells #[.bool true, .int .i64 0, .int .i64 keep, .int .i64 torn] 67)) g { d with fuse := none } (foot g S M qv) := DF.only ⟨S, M, qv, rfl, hD1⟩ ((Only.refl [] _).alloc _) (by simp)
      clear hw1
      refine (crash_any hF1 keep torn).mono ?_
      rintro e w2 ⟨rfl, fp', hF, hFr⟩
      go_wp2_with fail
      go_ret
      refine ⟨rfl, fp', hF, Fr.trans ?_ hFr⟩
      exact ⟨(hO1.mono (by simp [foot])).alloc _, fun _ h => .inl h⟩
end
end Go.Proofs.YtoleojljpaglhaaGreat
/- The contract of the disk's Write. -/
namespace Go.Proofs.YtoleojljpaglhaaGreat
open Go.RowKit Go.Maps
/-- no bytes yet -/
def z64 : List UInt8 := List.replicate 64 0
theorem z64_length : z64.length = 64 := by simp [z64]
/-- a write is built -/
theorem wpList_build_wr {ops : Array Oper} {rest : List Oper} {o : Oper} {a : Act} {w : World} {Q : Exit → Act → World → Prop} (hgd : o.guard = none) (x : Operand) (ho : o.op = .build 157 #[(0, x)])
    (n : Nat) (hx : a.eval x = .int .i64 (n : Int)) (h : wpList Tryz.prog ops Q rest (a.put o.dst (.agg (wcells (n, z64)).toArray)) w) : wpList Tryz.prog ops Q (o :: rest) a w := by
  refine wpList_plain hgd fun K hK => ?_
  have hrun : (Instr.build 157 #[(0, Value.int .i64 (n : Int))]).run Tryz.prog w = .ok (.agg (wcells (n, z64)).toArray) w := by kernel_rfl
  unfold Oper.wp execOp
  simp only [ho, Sem.run_bind, Sem.run_pure, List.map_toArray, List.map_cons, List.map_nil, hx, hrun, Result.andThen_ok]
  exact hK _ _ h
/-- a text is copied into a block that was just made -/
theorem wpList_copy_str {P : Program} {ops : Array Oper} {rest : List Oper} {o : Oper} {a : Act} {W : World} {Q : Exit → Act → World → Prop} (hgd : o.guard = none) (d s : Operand) (dT sT : TypeId)
    (ho : o.op = .call { callee := .builtin .copy, args := #[d, s], argTypes := #[dT, sT] }) (elem : TypeId) (hu : P.underlying dT = some (.slice elem)) (hsz : (P.info? elem).map (·.size) = some 1)
    (H : Nat) (hH : W.heap.size = H) (off dLen dCap : Nat) (str : ByteArray) (hd : a.eval d = .slice (some ⟨H, off, none⟩) dLen dCap) (hs : a.eval s = .string str) (cells new : Array Value) (t : TypeId)
    (hle : str.size ≤ dLen) (hfit : off + str.size ≤ cells.size) (hnew : (cells.toList.take off ++ Lib.byteCells str.data.toList ++ cells.toList.drop (off + str.size)).toArray = new)
    (h : wpList P ops Q rest (a.put o.dst (goInt str.size)) (W.alloc (.cells new t))) : wpList P ops Q (o :: rest) a (W.alloc (.cells cells t)) := by
  subst hH
  refine wpList_plain hgd fun K hK => ?_
  have hrun := Lib.run_copy_row_string (P := P) (W.alloc (.cells cells t)) dT sT o.type elem W.heap.size off dLen dCap str cells t hu hsz (Blk.new W t cells) hle hfit
  rw [hnew, World.setRow_alloc_new] at hrun
  unfold Oper.wp
  simp [execOp, ho, resolve, invoke, builtin, hd, hs, hrun, Result.andThen]
  exact hK _ _ h
section
variable {w : World} {g : Nat} {d : Vd.VD} {fp : List Nat}
theorem asked_df (h : DF w g d fp) (a : Int) : Calls Tryz.prog 103 #[.pointer (some ⟨g, 0, none⟩), .int .i64 a] w fun e w' => e = .returned (.int .i64 (Vd.asked d a)) ∧ w = w' := by
  obtain ⟨S, M, qv, rfl, h⟩ := h
  exact asked_any h a
theorem asked_zero {a : Int} (h : Vd.asked d a = 0) : d.on = true ∧ 0 ≤ a ∧ a < d.secs.length := by
  unfold Vd.asked at h
  split at h
  · split at h
    · cases h
    · exact ⟨by assumption, by omega, by omega⟩
  · cases h
set_option maxHeartbeats 400000 in
theorem write_no1 (h : DF w g d fp) (a : Int) (s : ByteArray) (h0 : Vd.asked d a ≠ 0) :
    Calls Tryz.prog 74 #[.pointer (some ⟨g, 0, none⟩), .int .i64 a, .string s] w (DPost (.int .i64 (Vd.asked d a)) g d fp w) := by
  have ha := asked_df h a
  obtain ⟨r, hr⟩ : ∃ r, Vd.asked d a = r := ⟨_, rfl⟩
  rw [hr] at ha h0 ⊢
  clear hr
  have h1 : (r == 0) = false := by simpa using h0
  have h2 : (r != 0) = true := by simpa using h0
  have HD := Lib.hid h
  clear h
  go_enter Tryz.func74, Tryz.ntmps74
  go_wp2_with fail
  refine ha.mono ?_
  rintro e w1 ⟨rfl, rfl⟩
  go_wp2_with fail
  go_ret
  exact ⟨rfl, _, HD.out, Fr.refl _ _⟩
set_option maxHeartbeats 400000 in
theorem write_no2 (h : DF w g d fp) (a : Int) (s : ByteArray) (h0 : Vd.asked d a = 0) (hs : s.size ≠ 64) (_ : s.size ≤ 9223372036854775807) :
    Calls Tryz.prog 74 #[.pointer (some ⟨g, 0, none⟩), .int .i64 a, .string s] w (DPost (.int .i64 82) g d fp w) := by
  have ha := asked_df h a
  rw [h0] at ha
  clear h0
  have h1 : ((s.size : Int) == 64) = false := by simpa using (by omega : ¬ (s.size : Int) = 64)
  have h2 : ((s.size : Int) != 64) = true := by simpa using (by omega : ¬ (s.size : Int) = 64)
  have HD := Lib.hid h
  clear h
  go_enter Tryz.func74, Tryz.ntmps74
  go_wp2_with fail
  refine ha.mono ?_
  rintro e w1 ⟨rfl, rfl⟩
  go_wp2_with fail
  go_ret
  exact ⟨rfl, _, HD.out, Fr.refl _ _⟩
set_option maxHeartbeats 400000 in
theorem write_no3 (h : DF w g d fp) (a : Int) (s : ByteArray) (h0 : Vd.asked d a = 0) (hs : s.size = 64) (hr : d.room = 0) :
    Calls Tryz.prog 74 #[.pointer (some ⟨g, 0, none⟩), .int .i64 a, .string s] w (DPost (.int .i64 83) g d fp w) := by
  have ha := asked_df h a
  rw [h0] at ha
  clear h0
  have HD := Lib.hid h
  obtain ⟨S, M, qv, rfl, h⟩ := h
  have c4 := h.cells.c4
  rw [hr] at c4
  clear h hr
  go_enter Tryz.func74, Tryz.ntmps74
  go_wp2_with fail
  refine ha.mono ?_
  rintro e w1 ⟨rfl, rfl⟩
  go_wp2_with fail
  go_ret
  exact ⟨rfl, _, HD.out, Fr.refl _ _⟩
set_option maxHeartbeats 400000 in
theorem write_no4 (h : DF w g d fp) (a : Int) (s : ByteArray) (h0 : Vd.asked d a = 0) (hs : s.size = 64) (hr : d.room ≠ 0) (hb : (Vd.burns d).1 = true) :
    Calls Tryz.prog 74 #[.pointer (some ⟨g, 0, none⟩), .int .i64 a, .string s] w (DPost (.int .i64 80) g (Vd.burns d).2 fp w) := by
  have ha := asked_df h a
  have hbu := burns_any h
  rw [h0] at ha
  rw [hb] at hbu
  clear h0 hb
  obtain ⟨S, M, qv, rfl, h⟩ := h
  have c4 := h.cells.c4
  obtain ⟨rm, hrm⟩ : ∃ rm, d.room = rm := ⟨_, rfl⟩
  rw [hrm] at c4 hr
  have r1 : (rm == 0) = false := by simpa using hr
  clear h hrm
  go_enter Tryz.func74, Tryz.ntmps74
  go_wp2_with fail
  refine ha.mono ?_
  rintro e w1 ⟨rfl, rfl⟩
  go_wp2_with fail
  refine hbu.mono ?_
  rintro e w1 ⟨rfl, hF⟩
  go_wp2_with fail
  go_ret
  exact ⟨rfl, hF⟩
theorem burns_no (d : Vd.VD) (h : (Vd.burns d).1 = false) : (Vd.burns d).2.secs = d.secs ∧ (Vd.burns d).2.q = d.q ∧ (Vd.burns d).2.on = d.on ∧ (Vd.burns d).2.room = d.room ∧ (Vd.burns d).2.writes = d.writes := by
  unfold Vd.burns at h ⊢
  cases hf : d.fuse with
  | none => exact ⟨rfl, rfl, rfl, rfl, rfl⟩
  | some x =>
    rw [hf] at h
    obtain ⟨n, keep, torn⟩ := x
    simp only at h ⊢
    split at h
    · rename_i h0
      rw [if_pos h0]
      exact ⟨rfl, rfl, rfl, rfl, rfl⟩
    · cases h
theorem burns_room (d : Vd.VD) (h : (Vd.burns d).1 = false) : (Vd.burns d).2.room = d.room := (burns_no d h).2.2.2.1
end
end Go.Proofs.YtoleojljpaglhaaGreat
