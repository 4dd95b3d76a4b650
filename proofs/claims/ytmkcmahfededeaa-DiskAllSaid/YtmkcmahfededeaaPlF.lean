/- The walk of the law's play: what comes ahead of the rounds; an operation of the script in memory. -/
import Derived.Test.YtmkcmahfededeaaPlE
import Derived.IntWalk
namespace Go.Proofs.Ytmkcmahfededeaa
open Go.RowKit Go.Maps
attribute [local go_sem ↓] Go.wp_at_zero Go.wp_at_succ
/-- an operation -/
structure OpV where
  k : Int
  u : Int
  a : Int
  b : Int
  q : Int
  s : ByteArray
def OpV.cells (o : OpV) : Array Value := opc o.k o.u o.a o.b o.q o.s
/-- the script in memory -/
def OpsAt (w : World) (A : Option Addr) (n : Nat) (ops : List OpV) : Prop :=
  ops.length = n ∧ n ≤ maxLen ∧ ∀ t, (h : t < ops.length) → ∃ ad, A = some ad ∧ ad.block < w.heap.size ∧ (∀ j v, (ops[t].cells)[j]? = some v → w.cell? (ad.add (t * 6 + j)) = some v) ∧ ops[t].s.size ≤ 9223372036854775807 ∧ ops[t].a ≤ 9223372036854775807
theorem add_of_add (a : Addr) (i j : Nat) : (a.add i).add j = a.add (i + j) := by
  unfold Addr.add
  by_cases hi : i = 0 <;> by_cases hj : j = 0 <;> simp [hi, hj, Nat.add_assoc]
theorem block_of_add' (a : Addr) (n : Nat) : (a.add n).block = a.block := by unfold Addr.add; split <;> rfl
/-- an operation of the script, loaded whole -/
def OpAt (w : World) (v : Value) : Prop := ∃ ad, v = .pointer (some ad) ∧ ∀ j, j < 6 → (w.cell? (ad.add j)).isSome = true
def opOf (w : World) (v : Value) : List Value := match v with
  | .pointer (some ad) => (List.range 6).map fun j => (w.cell? (ad.add j)).getD (.int .i64 0)
  | _ => []
theorem op_size : (Try.prog.info? 68).map (·.size) = some 6 := by kernel_rfl
theorem run_load_op {w : World} (v : Value) (h : OpAt w v) : (Instr.loadAt 68 v).run Try.prog w = .ok (.agg (opOf w v).toArray) w := by
  obtain ⟨ad, rfl, hc⟩ := h
  have hl : (loadCells ad 6).run Try.prog w = .ok (opOf w (.pointer (some ad))).toArray w := by
    have := run_loadCells_list (P := Try.prog) w ad (opOf w (.pointer (some ad))) (fun j v hv => by
      unfold opOf at hv
      have hj : j < 6 := by
        rcases Nat.lt_or_ge j 6 with h1 | h1
        · exact h1
        · rw [List.getElem?_eq_none (by simpa using h1)] at hv; cases hv
      have hs := hc j hj
      cases hq : w.cell? (ad.add j) with
      | none => rw [hq] at hs; cases hs
      | some u =>
        simp [hj, hq] at hv
        rw [hv])
    simpa [opOf] using this
  have hagg : (isAgg 68).run Try.prog w = .ok true w := by
    unfold isAgg
    rw [Sem.run_bind, run_underlying Try.underlying68 w]
    rfl
  simp only [Instr.loadAt, Instr.sureAddr, Sem.run_bind, Sem.run_pure, Result.andThen]
  cases hq : Try.prog.info? 68 with
  | none => have := op_size; rw [hq] at this; cases this
  | some i =>
    have hs : i.size = 6 := by have := op_size; rw [hq] at this; simpa using this
    simp [loadVar, Sem.run_bind, hagg, sizeOf, typeInfo, hq, hs, hl]
theorem opOf_eq {w : World} {ad : Addr} {o : OpV} (h : ∀ j v, (o.cells)[j]? = some v → w.cell? (ad.add j) = some v) : OpAt w (.pointer (some ad)) ∧ opOf w (.pointer (some ad)) = o.cells.toList := by
  have hall : ∀ j, (hj : j < 6) → ∃ v, (o.cells)[j]? = some v ∧ w.cell? (ad.add j) = some v := fun j hj => by
    have : j < (o.cells).size := by simpa [OpV.cells, opc] using hj
    exact ⟨_, Array.getElem?_eq_getElem this, h j _ (Array.getElem?_eq_getElem this)⟩
  refine ⟨⟨ad, rfl, fun j hj => ?_⟩, ?_⟩
  · obtain ⟨v, _, h2⟩ := hall j hj
    rw [h2]; rfl
  · apply List.ext_getElem?
    intro j
    by_cases hj : j < 6
    · obtain ⟨v, h1, h2⟩ := hall j hj
      have h1' : o.cells.toList[j]? = some v := by simpa using h1
      rw [h1']
      simp [opOf, hj, h2]
    · rw [List.getElem?_eq_none (by simp [opOf]; omega), List.getElem?_eq_none (by simp [OpV.cells, opc]; omega)]
theorem and1 (z : Int) : bits .and .i64 z 1 = z % 2 := by
  have h7 : (BitVec.ofInt 64 1).toNat = 1 := by decide
  show IntKind.i64.wrap ((BitVec.ofInt 64 z &&& BitVec.ofInt 64 1).toNat : Int) = _
  rw [BitVec.toNat_and, h7, BitVec.toNat_ofInt, show (1 : Nat) = 2 ^ 1 - 1 from rfl, Nat.and_two_pow_sub_one_eq_mod, IntKind.wrap_i64]
  omega
set_option maxHeartbeats 400000 in
theorem new_no (n : Int) (w : World) (h : n < 1 ∨ 65536 < n) : Calls Try.prog 10 #[.int .i64 n] w fun e w' => e = .returned (.tuple #[.pointer none, .int .i64 1]) ∧ w = w' := by
  by_cases h1 : n < 1
  · clear h
    go_enter Try.func10, Try.ntmps10
    go_wp2_with fail
    go_ret2
    exact ⟨rfl, rfl⟩
  · have h2 : 65536 < n := by omega
    clear h
    go_enter Try.func10, Try.ntmps10
    go_wp2_with fail
    go_ret2
    exact ⟨rfl, rfl⟩
set_option maxHeartbeats 400000 in
theorem refNew_no (n : Int) (w : World) (h : n < 1 ∨ 65536 < n) : Calls Try.prog 29 #[.int .i64 n] w fun e w' => e = .returned (.tuple #[.pointer none, .bool false]) ∧ w = w' := by
  by_cases h1 : n < 1
  · clear h
    go_enter Try.func29, Try.ntmps29
    go_wp2_with fail
    go_ret2
    exact ⟨rfl, rfl⟩
  · have h2 : 65536 < n := by omega
    clear h
    go_enter Try.func29, Try.ntmps29
    go_wp2_with fail
    go_ret2
    exact ⟨rfl, rfl⟩
/-- the start: a disk, its reference, their twins, the two arrays -/
theorem ps_start {w w1 w2 w3 w4 : World} {n g r gt rt sc : Nat} {sr : List Value} {fr ft fq : List Nat} (hD : DB w.heap.size w w1 g (newVD n)) (hR : RF w2 r (newVD n) fr) (hfr : ∀ b ∈ fr, w1.heap.size ≤ b) (hb2 : Below w1.heap.size w1 w2)
    (hT : DF w3 gt { newVD n with sc := sc, sr := sr } ft) (hft : ∀ b ∈ ft, w2.heap.size ≤ b) (hb3 : Below w2.heap.size w2 w3) (hQ : RF w4 rt (newVD n) fq) (hfq : ∀ b ∈ fq, w3.heap.size ≤ b) (hb4 : Below w3.heap.size w3 w4) :
    PS w.heap.size w w4.heap.size (w4.heap.size + 1) g gt r rt (newVD n) { newVD n with sc := sc, sr := sr } ((w4.alloc (.cells #[.pointer (some ⟨g, 0, none⟩), .pointer (some ⟨gt, 0, none⟩)] 64)).alloc (.cells #[.pointer (some ⟨r, 0, none⟩), .pointer (some ⟨rt, 0, none⟩)] 66)) := by
  obtain ⟨_, hbB, fp, hF, hf⟩ := hD
  have s1 := hbB.size
  have s2 := hb2.size
  have s3 := hb3.size
  have s4 := hb4.size
  obtain ⟨W, hW⟩ : ∃ W, W = (w4.alloc (.cells #[.pointer (some ⟨g, 0, none⟩), .pointer (some ⟨gt, 0, none⟩)] 64)).alloc (.cells #[.pointer (some ⟨r, 0, none⟩), .pointer (some ⟨rt, 0, none⟩)] 66) := ⟨_, rfl⟩
  have hbW : Below w4.heap.size w4 W := by rw [hW]; exact ((Below.refl _ _).alloc (Nat.le_refl _) _).alloc (by simp) _
  have hL : Blk W w4.heap.size 64 #[.pointer (some ⟨g, 0, none⟩), .pointer (some ⟨gt, 0, none⟩)] := by rw [hW]; exact (Blk.new _ _ _).alloc _
  have hM : Blk W (w4.heap.size + 1) 66 #[.pointer (some ⟨r, 0, none⟩), .pointer (some ⟨rt, 0, none⟩)] := by
    rw [hW]
    have := Blk.new (w4.alloc (.cells #[.pointer (some ⟨g, 0, none⟩), .pointer (some ⟨gt, 0, none⟩)] 64)) 66 #[.pointer (some ⟨r, 0, none⟩), .pointer (some ⟨rt, 0, none⟩)]
    simpa using this
  have sW := hbW.size
  rw [← hW]
  clear hW
  have b42 : Below w2.heap.size w2 w4 := hb3.trans (hb4.mono s3)
  have b41 : Below w1.heap.size w1 w4 := hb2.trans (b42.mono s2)
  have bW1 : Below w1.heap.size w1 W := b41.trans (hbW.mono (by omega))
  have bW2 : Below w2.heap.size w2 W := b42.trans (hbW.mono (by omega))
  have bW3 : Below w3.heap.size w3 W := hb4.trans (hbW.mono (by omega))
  refine ⟨fun b => if b < w.heap.size then 0 else if b < w1.heap.size then 1 else if b < w2.heap.size then 2 else if b < w3.heap.size then 3 else if b < w4.heap.size then 4 else 0, Nat.le_refl _, by omega, hbB.trans (bW1.mono s1), fun b hb => by simp [hb], hL, hM, ?_, ?_, by omega, by omega, ?_, ?_, ?_, ?_⟩
  · rw [if_neg (by omega), if_neg (by omega), if_neg (by omega), if_neg (by omega), if_neg (by omega)]
  · rw [if_neg (by omega), if_neg (by omega), if_neg (by omega), if_neg (by omega), if_neg (by omega)]
  · refine ⟨fp, hF.below bW1, fun b hb => ⟨?_, hf b hb⟩⟩
    have h1 := hf b hb
    have h2 := hF.lt b hb
    simp only
    rw [if_neg (by omega), if_pos h2]
  · refine ⟨fr, hR.below bW2, fun b hb => ⟨?_, ?_⟩⟩
    · have h1 := hfr b hb
      have h2 := hR.lt b hb
      simp only
      rw [if_neg (by omega), if_neg (by omega), if_pos h2]
    · have h1 := hfr b hb; omega
  · refine ⟨ft, hT.below bW3, fun b hb => ⟨?_, ?_⟩⟩
    · have h1 := hft b hb
      have h2 := hT.lt b hb
      simp only
      rw [if_neg (by omega), if_neg (by omega), if_neg (by omega), if_pos h2]
    · have h1 := hft b hb; omega
  · refine ⟨fq, (hQ.below hbW).ghost sc sr, fun b hb => ⟨?_, ?_⟩⟩
    · have h1 := hfq b hb
      have h2 := hQ.lt b hb
      simp only
      rw [if_neg (by omega), if_neg (by omega), if_neg (by omega), if_neg (by omega), if_pos h2]
    · have h1 := hfq b hb; omega
end Go.Proofs.Ytmkcmahfededeaa
