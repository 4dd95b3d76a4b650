/- The contracts of twin and Begin. -/
import Derived.Test.YtoleojljpaglhaaPaI
import Derived.Deep.MidRow
import Derived.Deep.AppendLies
import Derived.Deep.RegionLaw
namespace Go.Proofs.Ytoleojljpaglhaa
open Go.RowKit
set_option maxRecDepth 20000
theorem scells_lit (M : Nat) (a0 a1 a2 a3 a4 a5 a6 a7 : Int) : scells M [a0, a1, a2, a3, a4, a5, a6, a7] = #[.map (some M), .int .i64 a0, .int .i64 a1, .int .i64 a2, .int .i64 a3, .int .i64 a4, .int .i64 a5, .int .i64 a6, .int .i64 a7] := rfl
section
variable {P : Program} {w : World}
/-- a store by its run, at a step of a region that draws -/
theorem step_store_run {ops : Array Oper} {o : Oper} {a : Act} {K : Act → World → Prop} {Q : Exit → Act → World → Prop} {E : Prop} (hgd : o.guard = none) (ty : TypeId) (x y : Operand) (ho : o.op = .store ty x y) (v u : Value) (hx : a.eval x = v) (hy : a.eval y = u) (w2 : World)
    (hr : (Instr.storeAt ty v u).run P w = .ok () w2) (h : K (a.put o.dst undef) w2) : if Region.wanted o (yielded ops a.tmps) = true then Oper.wp P o a w K Q else E := by
  have hw : Region.wanted o (yielded ops a.tmps) = true := by simp [Region.wanted, hgd]
  rw [if_pos hw]
  unfold Oper.wp execOp
  simp only [ho, hx, hy, Sem.run_bind, Sem.run_pure, Result.andThen_ok, hr]
  exact h
end
/-- cells stored over as many -/
theorem store_all {w : World} {B : Nat} {cs vs : List Value} (h : Blk w B 46 cs.toArray) (hl : vs.length = 9) (hc : cs.length = 9) (h1 : vs.toArray.all (·.oneCell') = true) :
    ∃ w2, (Instr.storeAt 46 (.pointer (some ⟨B, 0, none⟩)) (.agg vs.toArray)).run Try.prog w = .ok () w2 ∧ Blk w2 B 46 vs.toArray ∧ Only [B] w w2 := by
  have hst := run_storeAt_mid (P := Try.prog) w B 0 46 vs.toArray (fun j hj => ⟨by
    rw [Nat.zero_add, h.cell j]
    have : j < cs.length := by
      have e : vs.toArray.size = 9 := by simpa using hl
      omega
    simp [this], h.frozen _⟩) (by simp only [List.size_toArray, hl]; kernel_rfl) h1
  refine ⟨_, hst, ?_, only_setCells (.inl (by simp)) _ _ _ (Only.refl _ _)⟩
  have := Blk.setCells vs 0 w cs h (by omega)
  rw [List.take_zero, List.nil_append, List.drop_of_length_le (by omega), List.append_nil] at this
  exact this
section
variable {S : Nat → Prop} {w0 w w' : World} {G : PH} {d d' : Vd.VD} {L L' : Wa.WL} {P : PP}
set_option maxRecDepth 20000 in
set_option maxHeartbeats 1000000 in
theorem twin_any {M : Nat} {f : Int → Option ByteArray} {sz : Nat} (h : PMap w M f sz) (roots : List Int) (hl : roots.length = 8) :
    Calls Try.prog 36 #[.agg (scells M roots)] w fun e w' => e = .returned (.agg (scells (w.heap.size + 2) roots)) ∧ PMap w' (w.heap.size + 2) f sz ∧ Below w.heap.size w w' := by
  obtain ⟨a0, a1, a2, a3, a4, a5, a6, a7, rfl⟩ := len8 hl
  have hB : Below w.heap.size w ((w.alloc (.cells (scells M [a0, a1, a2, a3, a4, a5, a6, a7]) 46)).alloc (.cells (#[.map none, .int .i64 0, .int .i64 0, .int .i64 0, .int .i64 0, .int .i64 0, .int .i64 0, .int .i64 0, .int .i64 0]) 46)) := ((Below.refl _ _).alloc (Nat.le_refl _) _).alloc (by simp) _
  have hC := (h.below hB).copy
  rw [show ∀ o1 o2, ((w.alloc o1).alloc o2).heap.size = w.heap.size + 2 from fun o1 o2 => by simp] at hC
  rw [scells_lit] at hC hB
  rw [scells_lit, scells_lit]
  obtain ⟨V, hV⟩ : ∃ V, ((w.alloc (.cells (#[.map (some M), .int .i64 a0, .int .i64 a1, .int .i64 a2, .int .i64 a3, .int .i64 a4, .int .i64 a5, .int .i64 a6, .int .i64 a7]) 46)).alloc (.cells (#[.map none, .int .i64 0, .int .i64 0, .int .i64 0, .int .i64 0, .int .i64 0, .int .i64 0, .int .i64 0, .int .i64 0]) 46)) = V := ⟨_, rfl⟩
  have hb1 : Blk V w.heap.size 46 #[.map (some M), .int .i64 a0, .int .i64 a1, .int .i64 a2, .int .i64 a3, .int .i64 a4, .int .i64 a5, .int .i64 a6, .int .i64 a7] := by
    rw [← hV]; exact (Blk.new w _ _).alloc _
  have hb2 : Blk V (w.heap.size + 1) 46 #[.map none, .int .i64 0, .int .i64 0, .int .i64 0, .int .i64 0, .int .i64 0, .int .i64 0, .int .i64 0, .int .i64 0] := by
    rw [← hV]
    have := Blk.new (w.alloc (.cells (#[.map (some M), .int .i64 a0, .int .i64 a1, .int .i64 a2, .int .i64 a3, .int .i64 a4, .int .i64 a5, .int .i64 a6, .int .i64 a7]) 46)) 46 #[.map none, .int .i64 0, .int .i64 0, .int .i64 0, .int .i64 0, .int .i64 0, .int .i64 0, .int .i64 0, .int .i64 0]
    rwa [World.size_alloc] at this
  rw [hV] at hC hB
  have hVs : V.heap.size = w.heap.size + 2 := by rw [← hV]; simp
  have hCd : Calls Try.prog 62 #[.map (some M)] V.drew fun e w' => e = .returned (.map (some (w.heap.size + 2))) ∧ Blk w' w.heap.size 46 #[.map (some M), .int .i64 a0, .int .i64 a1, .int .i64 a2, .int .i64 a3, .int .i64 a4, .int .i64 a5, .int .i64 a6, .int .i64 a7] ∧
      Blk w' (w.heap.size + 1) 46 #[.map none, .int .i64 0, .int .i64 0, .int .i64 0, .int .i64 0, .int .i64 0, .int .i64 0, .int .i64 0, .int .i64 0] ∧ PMap w' (w.heap.size + 2) f sz ∧ Below w.heap.size w w' := by
    have h1 := (h.below (hB.trans ((Below.refl V.heap.size V).drew.mono (by omega)))).copy
    rw [show V.drew.heap.size = w.heap.size + 2 from hVs] at h1
    refine h1.mono ?_
    rintro e w5 ⟨he, hp, _, hb5⟩
    have k1 : Blk w5 w.heap.size 46 #[.map (some M), .int .i64 a0, .int .i64 a1, .int .i64 a2, .int .i64 a3, .int .i64 a4, .int .i64 a5, .int .i64 a6, .int .i64 a7] := hb1.drew.below hb5 (by omega)
    have k2 : Blk w5 (w.heap.size + 1) 46 #[.map none, .int .i64 0, .int .i64 0, .int .i64 0, .int .i64 0, .int .i64 0, .int .i64 0, .int .i64 0, .int .i64 0] := hb2.drew.below hb5 (by omega)
    have hBB : Below w.heap.size w w5 := hB.trans (((Below.refl V.heap.size V).drew.mono (by omega)).trans (hb5.mono (by omega)))
    exact ⟨he, k1, k2, hp, hBB⟩
  have HC := Lib.hid hCd
  have c0 : V.drew.cell? ⟨w.heap.size, 0, none⟩ = _ := hb1.drew.cell 0
  have c1 : V.drew.cell? ⟨w.heap.size, 1, none⟩ = _ := hb1.drew.cell 1
  have c2 : V.drew.cell? ⟨w.heap.size, 2, none⟩ = _ := hb1.drew.cell 2
  have c3 : V.drew.cell? ⟨w.heap.size, 3, none⟩ = _ := hb1.drew.cell 3
  have c4 : V.drew.cell? ⟨w.heap.size, 4, none⟩ = _ := hb1.drew.cell 4
  have c5 : V.drew.cell? ⟨w.heap.size, 5, none⟩ = _ := hb1.drew.cell 5
  have c6 : V.drew.cell? ⟨w.heap.size, 6, none⟩ = _ := hb1.drew.cell 6
  have c7 : V.drew.cell? ⟨w.heap.size, 7, none⟩ = _ := hb1.drew.cell 7
  have c8 : V.drew.cell? ⟨w.heap.size, 8, none⟩ = _ := hb1.drew.cell 8
  clear hC hB h hl hCd hb1 hb2
  go_enter Try.func36, Try.ntmps36
  go_wp2_with fail
  go_region_law (go_simp; go_at_call 62; ((with_reducible refine HC.out.mono ?_)); rintro e w5 ⟨rfl, k1, k2, hp5, hb5⟩; have d0 : w5.cell? ⟨w.heap.size, 0, none⟩ = _ := k1.cell 0; have d1 : w5.cell? ⟨w.heap.size, 1, none⟩ = _ := k1.cell 1; have d2 : w5.cell? ⟨w.heap.size, 2, none⟩ = _ := k1.cell 2; have d3 : w5.cell? ⟨w.heap.size, 3, none⟩ = _ := k1.cell 3; have d4 : w5.cell? ⟨w.heap.size, 4, none⟩ = _ := k1.cell 4; have d5 : w5.cell? ⟨w.heap.size, 5, none⟩ = _ := k1.cell 5; have d6 : w5.cell? ⟨w.heap.size, 6, none⟩ = _ := k1.cell 6; have d7 : w5.cell? ⟨w.heap.size, 7, none⟩ = _ := k1.cell 7; have d8 : w5.cell? ⟨w.heap.size, 8, none⟩ = _ := k1.cell 8; have f0 : w5.cell? ⟨w.heap.size + 1, 0, none⟩ = _ := k2.cell 0; have f1 : w5.cell? ⟨w.heap.size + 1, 1, none⟩ = _ := k2.cell 1; have f2 : w5.cell? ⟨w.heap.size + 1, 2, none⟩ = _ := k2.cell 2; have f3 : w5.cell? ⟨w.heap.size + 1, 3, none⟩ = _ := k2.cell 3; have f4 : w5.cell? ⟨w.heap.size + 1, 4, none⟩ = _ := k2.cell 4; have f5 : w5.cell? ⟨w.heap.size + 1, 5, none⟩ = _ := k2.cell 5; have f6 : w5.cell? ⟨w.heap.size + 1, 6, none⟩ = _ := k2.cell 6; have f7 : w5.cell? ⟨w.heap.size + 1, 7, none⟩ = _ := k2.cell 7; have f8 : w5.cell? ⟨w.heap.size + 1, 8, none⟩ = _ := k2.cell 8; have fz := k2.frozen)
  all_goals
    (have hk6 := Blk.setCells [.map (some (w.heap.size + 2)), .int .i64 a0, .int .i64 a1, .int .i64 a2, .int .i64 a3, .int .i64 a4, .int .i64 a5, .int .i64 a6, .int .i64 a7] 0 w5 [.map none, .int .i64 0, .int .i64 0, .int .i64 0, .int .i64 0, .int .i64 0, .int .i64 0, .int .i64 0, .int .i64 0] k2 (by simp)
     have hO : Only [w.heap.size + 1] w5 (w5.setCells (w.heap.size + 1) 0 [.map (some (w.heap.size + 2)), .int .i64 a0, .int .i64 a1, .int .i64 a2, .int .i64 a3, .int .i64 a4, .int .i64 a5, .int .i64 a6, .int .i64 a7]) := only_setCells (.inl (by simp)) _ _ _ (Only.refl _ _)
     have HBW : Hid (Below w.heap.size w (w5.setCells (w.heap.size + 1) 0 [.map (some (w.heap.size + 2)), .int .i64 a0, .int .i64 a1, .int .i64 a2, .int .i64 a3, .int .i64 a4, .int .i64 a5, .int .i64 a6, .int .i64 a7])) := Lib.hid (hb5.trans ⟨hO.os, hO.tape, hO.output, hO.size, fun k hk => hO.block k (Nat.lt_of_lt_of_le hk hb5.size) (by simp only [List.mem_singleton]; omega)⟩)
     have HPM : Hid (PMap (w5.setCells (w.heap.size + 1) 0 [.map (some (w.heap.size + 2)), .int .i64 a0, .int .i64 a1, .int .i64 a2, .int .i64 a3, .int .i64 a4, .int .i64 a5, .int .i64 a6, .int .i64 a7]) (w.heap.size + 2) f sz) := Lib.hid (hp5.only hO (by simp))
     clear hO hb5 hp5 k1 k2 d0 d1 d2 d3 d4 d5 d6 d7 d8
     go_wp2_with fail
     (try simp only [Exit.inBlock, Exit.then])
     refine bodyPost_ret (v := .agg #[.map (some (w.heap.size + 2)), .int .i64 a0, .int .i64 a1, .int .i64 a2, .int .i64 a3, .int .i64 a4, .int .i64 a5, .int .i64 a6, .int .i64 a7]) (by simp [results, Try.results36, go_sem, f0, f1, f2, f3, f4, f5, f6, f7, f8]) rfl ?_
     exact ⟨rfl, HPM.out, HBW.out⟩)
end
end Go.Proofs.Ytoleojljpaglhaa
