/- The contract of ber.Read. -/
import Derived.Test.YtlkdbopdmieojaaGreatBerR
import Derived.Tactics
import Derived.Tactics2
import Derived.Defers
import Derived.Recover
import Derived.Laws.Pointers
namespace Go.Proofs.YtlkdbopdmieojaaGreat
open Go.RowKit Ber
set_option maxRecDepth 20000
theorem frame18 (a b v : Value) : #[a, b] ++ ((Array.replicate 16 undef).setIfInBounds 3 v).setIfInBounds 0 v = #[a, b, v, undef, undef, v, undef, undef, undef, undef, undef, undef, undef, undef, undef, undef, undef, undef] := by
  apply Array.toList_inj.mp
  simp [List.replicate_succ]
theorem catch_idle (O E : Nat) (w : World) : CallsD Tryz.prog 17 #[.pointer (some ⟨O, 0, none⟩), .pointer (some ⟨E, 0, none⟩)] .returning w fun e u' w' => e = .returned (.tuple #[]) ∧ u' = .returning ∧ w = w' := by
  refine callsD_of_wpS Tryz.func17 rfl fun c₀ cs hu => ?_
  apply wpS_seq
  apply wpS_region
  simp [wpOpsS, go_sem, recoverD, hu, Tryz.ntmps17, Exit.thenS]
  rw [frame18]
  refine wpS_of_wp ?_
  go_wp2_with fail
  cases c₀
  simp_all [bodyPostS, results, Tryz.results17]
theorem catch_panic (O E : Nat) (n : Int) (v0 v1 v2 v3 v4 v5 : Value) (w : World) (hO : Blk w O 47 #[v0, v1, v2, v3, v4]) (hE : Blk w E 48 #[v5]) (hOE : O ≠ E) :
    CallsD Tryz.prog 17 #[.pointer (some ⟨O, 0, none⟩), .pointer (some ⟨E, 0, none⟩)] (.panicking [{ v := .iface 48 (.int .i64 n), recovered := false }]) w fun e u' w' => e = .returned (.tuple #[]) ∧ u' = .panicking [{ v := .iface 48 (.int .i64 n), recovered := true }] ∧
      w' = (((((w.setCell ⟨O, 0, none⟩ (.int .i64 0)).setCell ⟨O, 1, none⟩ (.int .i64 0)).setCell ⟨O, 2, none⟩ (.bool false)).setCell ⟨O, 3, none⟩ (.string ⟨#[]⟩)).setCell ⟨O, 4, none⟩ (.slice none 0 0)).setCell ⟨E, 0, none⟩ (.int .i64 n) := by
  refine callsD_of_wpS Tryz.func17 rfl fun c₀ cs hu => ?_
  apply wpS_seq
  apply wpS_region
  simp [wpOpsS, go_sem, recoverD, hu, Tryz.ntmps17, Exit.thenS]
  rw [frame18]
  refine wpS_of_wp ?_
  obtain ⟨d0, d1, d2, d3, d4⟩ := hO.cells5
  have g0 := hO.frozen 0
  have g1 := hO.frozen 1
  have g2 := hO.frozen 2
  have g3 := hO.frozen 3
  have g4 := hO.frozen 4
  have e0 : w.cell? ⟨E, 0, none⟩ = some v5 := hE.cell 0
  have ef := hE.frozen 0
  clear hO hE
  have hta : ∀ W, (Instr.typeAssert (.iface 48 (.int .i64 n)) 20 48 true).run Tryz.prog W = .ok (.tuple #[.int .i64 n, .bool true]) W := fun W => by kernel_rfl
  go_wp2_with fail
  cases c₀
  simp_all [bodyPostS, results, Tryz.results17]
/-- what Read leaves -/
def TopPost (w0 : World) (q : El × Int) (e : Ending) (w' : World) : Prop :=
  ∃ (c t : Int) (k : Bool) (b : ByteArray) (ks : List El) (v : Value) (r : Int), q = (.mk c t k b ks, r) ∧ e = .returned (.tuple #[.agg #[.int .i64 c, .int .i64 t, .bool k, .string b, v], .int .i64 r]) ∧ KsP (fun b => w0.heap.size ≤ b ∧ b < w'.heap.size) w' ks v ∧ Few b.size ∧ Below w0.heap.size w0 w'
theorem rdTop_err {l : List UInt8} {n : Int} (h : rd 20 l = .error n) : rdTop l = (zeroE, n) := by unfold rdTop; rw [h]
theorem rdTop_ok {l : List UInt8} {x : El} (h : rd 20 l = .ok (x, [])) : rdTop l = (x, 0) := by unfold rdTop; rw [h]; simp
theorem rdTop_mo {l r : List UInt8} {x : El} (h : rd 20 l = .ok (x, r)) (hr : r ≠ []) : rdTop l = (zeroE, 25) := by unfold rdTop; rw [h]; simp [hr]
set_option maxHeartbeats 2000000 in
theorem Read_any (s : ByteArray) (w : World) (hs : s.size ≤ 140737488351232) : Calls Tryz.prog 5 #[.string s] w fun e w' => TopPost w (rdTop s.data.toList) e w' := by
  obtain ⟨q, hq⟩ : ∃ q, rdTop s.data.toList = q := ⟨_, rfl⟩
  rw [hq]
  have HQ := Lib.hid hq
  clear hq
  have hmf : ∀ (fn : Fn) (first cap : Array Value) (w : World), (Instr.makeFunc fn first cap).run Tryz.prog w = .ok (.func fn first cap) w := fun _ _ _ _ => rfl
  go_enter_defers Tryz.func5, Tryz.ntmps5
  go_wp2_with fail
  (with_reducible refine (read_any 20 s 0 _ (Lib.hid (by omega)) (by omega) hs).mono ?_)
  rintro e w3 (⟨er, her, rfl, hb3⟩ | ⟨kc, kt, kk, kb, kks, kv, S', hok, rfl, hk3, hfb, hS', hb3⟩)
  · have hz3 := hb3.size
    simp only [World.size_alloc] at hz3
    have hO := ((Blk.new w 47 #[.int .i64 0, .int .i64 0, .bool false, .string ⟨#[]⟩, .slice none 0 0]).alloc (.cells #[.int .i64 0] 48)).below hb3 (by simp; omega)
    have hE : Blk w3 (w.heap.size + 1) 48 #[.int .i64 0] := by
      have h0 := Blk.new (w.alloc (.cells #[.int .i64 0, .int .i64 0, .bool false, .string ⟨#[]⟩, .slice none 0 0] 47)) 48 #[.int .i64 0]
      rw [World.size_alloc] at h0
      exact h0.below hb3 (by simp)
    have hB3 : Below w.heap.size w w3 := (((Below.refl _ _).alloc (Nat.le_refl _) _).alloc (by simp) _).trans (hb3.mono (by simp; omega))
    have HER := Lib.hid her
    have HB3 := Lib.hid hB3
    have HO := Lib.hid hO
    have HE := Lib.hid hE
    clear her hb3 hB3 hO hE
    unfold panicV
    go_wp2_with fail
    refine leaves_cons (f := 17) (args := #[.pointer (some ⟨w.heap.size, 0, none⟩), .pointer (some ⟨w.heap.size + 1, 0, none⟩)]) (by simp) (by simp [go_sem]) ?_
    refine (catch_panic w.heap.size (w.heap.size + 1) er _ _ _ _ _ _ _ HO.out HE.out (by omega)).mono ?_
    rintro e u' w'' ⟨rfl, rfl, rfl⟩
    obtain ⟨d0, d1, d2, d3, d4⟩ := HO.out.cells5
    have e0 : w3.cell? ⟨w.heap.size + 1, 0, none⟩ = some (.int .i64 0) := HE.out.cell 0
    simp [Leaves, settle, results, Tryz.results5, go_sem, d0, d1, d2, d3, d4, e0]
    refine ⟨0, 0, false, ⟨#[]⟩, [], _, er, ?_, rfl, KsP.nil _ _, by unfold Few; decide, ?_⟩
    · rw [← HQ.out, rdTop_err HER.out]
      rfl
    · exact (below_s5 w.heap.size HB3.out _ _ _ _ _).setCell (p := ⟨w.heap.size + 1, 0, none⟩) (Nat.le_succ _) _
  · obtain ⟨a3, cap3, rfl, _, _⟩ := hk3.at.len
    have hz3 := hb3.size
    simp only [World.size_alloc] at hz3
    have hO := ((Blk.new w 47 #[.int .i64 0, .int .i64 0, .bool false, .string ⟨#[]⟩, .slice none 0 0]).alloc (.cells #[.int .i64 0] 48)).below hb3 (by simp; omega)
    have hE : Blk w3 (w.heap.size + 1) 48 #[.int .i64 0] := by
      have h0 := Blk.new (w.alloc (.cells #[.int .i64 0, .int .i64 0, .bool false, .string ⟨#[]⟩, .slice none 0 0] 47)) 48 #[.int .i64 0]
      rw [World.size_alloc] at h0
      exact h0.below hb3 (by simp)
    have hB3 : Below w.heap.size w w3 := (((Below.refl _ _).alloc (Nat.le_refl _) _).alloc (by simp) _).trans (hb3.mono (by simp; omega))
    obtain ⟨o, ho⟩ : ∃ o : Obj, o = .cells #[.int .i64 kc, .int .i64 kt, .bool kk, .string kb, .slice a3 kks.length cap3] 47 := ⟨_, rfl⟩
    have hOa := hO.alloc o
    have hEa := hE.alloc o
    rw [ho] at hOa hEa
    obtain ⟨d0, d1, d2, d3, d4⟩ := hOa.cells5
    have g0 := hOa.frozen 0
    have g1 := hOa.frozen 1
    have g2 := hOa.frozen 2
    have g3 := hOa.frozen 3
    have g4 := hOa.frozen 4
    have e0 := hEa.cell 0
    have ef := hEa.frozen 0
    have HOK := Lib.hid hok
    have HB3 := Lib.hid hB3
    have HK3 := Lib.hid hk3
    have HFB := Lib.hid hfb
    have HOa := Lib.hid hOa
    have HEa := Lib.hid hEa
    clear hok hb3 hB3 hO hE hk3 hfb hOa hEa ho
    have hne1 : w.heap.size ≠ w3.heap.size := by omega
    have hne2 : w.heap.size + 1 ≠ w3.heap.size := by omega
    by_cases hr : S'.size = 0
    · have hS0 : S'.toList.isEmpty = true := by rw [isEmpty_ba]; exact decide_eq_true hr
      go_wp2_with fail
      refine leaves_cons (f := 17) (args := #[.pointer (some ⟨w.heap.size, 0, none⟩), .pointer (some ⟨w.heap.size + 1, 0, none⟩)]) (by simp) (by simp [go_sem]) ?_
      refine (catch_idle w.heap.size (w.heap.size + 1) _).mono ?_
      rintro e u' w'' ⟨rfl, rfl, rfl⟩
      simp [Leaves, settle, results, Tryz.results5, go_sem, d0, d1, d2, d3, d4, e0]
      have hS : S'.data.toList = [] := List.eq_nil_of_length_eq_zero (by simpa using hr)
      refine ⟨kc, kt, kk, kb, kks, _, 0, ?_, rfl, ?_, HFB.out, ?_⟩
      · have hok := HOK.out
        rw [hS] at hok
        rw [← HQ.out, rdTop_ok hok]
      · refine HK3.out.keep (by simp) fun g hg hS => ⟨?_, by simp at hS; omega, by simp; omega⟩
        simp only [World.size_alloc] at hS
        rw [Below.heap_setCell _ _ _ _ (by show g ≠ w.heap.size + 1; omega)]
        iterate 5 rw [Below.heap_setCell _ _ _ _ (by show g ≠ w.heap.size; omega)]
        exact Below.heap_alloc _ _ _ hg
      · exact (below_s5 w.heap.size (HB3.out.alloc (by omega) _) _ _ _ _ _).setCell (p := ⟨w.heap.size + 1, 0, none⟩) (Nat.le_succ _) _
    · have hS0 : S'.toList.isEmpty = false := by rw [isEmpty_ba]; exact decide_eq_false hr
      go_wp2_with fail
      refine leaves_cons (f := 17) (args := #[.pointer (some ⟨w.heap.size, 0, none⟩), .pointer (some ⟨w.heap.size + 1, 0, none⟩)]) (by simp) (by simp [go_sem]) ?_
      refine (catch_idle w.heap.size (w.heap.size + 1) _).mono ?_
      rintro e u' w'' ⟨rfl, rfl, rfl⟩
      simp [Leaves, settle, results, Tryz.results5, go_sem, d0, d1, d2, d3, d4, e0]
      have hS : S'.data.toList ≠ [] := by
        intro hq
        apply hr
        have := congrArg List.length hq
        simpa using this
      refine ⟨0, 0, false, ⟨#[]⟩, [], _, 25, ?_, rfl, KsP.nil _ _, by unfold Few; decide, ?_⟩
      · rw [← HQ.out, rdTop_mo HOK.out hS]
        rfl
      · exact (below_s5 w.heap.size (HB3.out.alloc (by omega) _) _ _ _ _ _).setCell (p := ⟨w.heap.size + 1, 0, none⟩) (Nat.le_succ _) _
end Go.Proofs.YtlkdbopdmieojaaGreat
