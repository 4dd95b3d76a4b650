/- The contract of pager.Open where the log has no record. -/
import Derived.Test.YtoleojljpaglhaaGreatPaF
import Derived.Deep.MidRow
import Derived.Deep.AppendLies
import Derived.Deep.RegionLaw
set_option maxRecDepth 20000
namespace Go.Proofs.YtoleojljpaglhaaGreat
open Go.RowKit
set_option maxRecDepth 20000
/-- a pager that is not loaded yet -/
def bareP (n : Nat) : PP := { n := n, pages := fun _ => none, sz := 0, roots := List.replicate 8 0, tx := none, up := false, todo := [] }
/-- a pager as it is loaded -/
def loadP (d : Vd.VD) (n : Nat) : PP := { n := n, pages := loadF d (catS d ((n - 8) * 4) 32) (n - 7), sz := loadZ (catS d ((n - 8) * 4) 32) (n - 7), roots := rootsAt (catS d ((n - 8) * 4) 32) (List.replicate 8 0) 8, tx := none, up := true, todo := [] }
theorem bare_cells (dg lg n : Nat) : pcells dg lg n (.map none) (List.replicate 8 0) (.pointer none) (.map none) (.slice none 0 0) = #[.pointer (some ⟨dg, 0, none⟩), .pointer (some ⟨lg, 0, none⟩), .int .i64 (n : Int), .map none, .int .i64 0, .int .i64 0, .int .i64 0, .int .i64 0, .int .i64 0, .int .i64 0, .int .i64 0, .int .i64 0, .pointer none, .map none, .slice none 0 0] := rfl
def bareH (pg dg lg : Nat) (fp : List Nat) (rv : Value) : PH := { pg := pg, dg := dg, lg := lg, M := 0, T := 0, MT := 0, MD := 0, fp := fp, rv := rv, dv := .map none, tv := .slice none 0 0 }
section
variable {S : Nat → Prop} {w0 w w' : World}
theorem bare_pg {dg lg n : Nat} {d : Vd.VD} {L : Wa.WL} {fp : List Nat} {rv : Value} (h : LG S w0 w dg d lg L fp rv) :
    PG S w0 (w.alloc (.cells (pcells dg lg n (.map none) (List.replicate 8 0) (.pointer none) (.map none) (.slice none 0 0)) 81)) (bareH w.heap.size dg lg fp rv) d L (bareP n) := by
  have hB : Below w.heap.size w (w.alloc (.cells (pcells dg lg n (.map none) (List.replicate 8 0) (.pointer none) (.map none) (.slice none 0 0)) 81)) := (Below.refl _ _).alloc (Nat.le_refl _) _
  refine ⟨h.later hB, Blk.new _ _ _, rfl, (fun hu => by cases hu), (fun t ht => by cases ht), World.ownsRow_nil _ _ _ _, fun b hb => ?_⟩
  rcases hb with hb | ⟨hb, _⟩ | ⟨hb, _⟩ | hb
  · rw [hb]
    refine ⟨h.up _ h.bel.size, ?_, fun hm => ?_, fun he => ?_⟩
    · have h2 := h.blk.lt
      show w.heap.size ≠ lg
      omega
    · have h2 := h.disk.lt _ hm
      exact absurd h2 (Nat.lt_irrefl _)
    · have h2 := ownBlock_lt h.row he
      exact absurd h2 (Nat.lt_irrefl _)
  · cases hb
  · exact absurd rfl hb
  · simp [bareH, Value.ownBlock] at hb
set_option maxRecDepth 20000 in
set_option maxHeartbeats 2000000 in
theorem popen_plain {dg n : Nat} {d : Vd.VD} {fp0 : List Nat} (hD : DF w dg d fp0) (hon : d.on = true) (hn : 8 ≤ n) (hn2 : n ≤ 5000) (hs : 12 * n ≤ d.secs.length)
    (hO : Calls Tryz.prog 22 #[.pointer (some ⟨dg, 0, none⟩), .int .i64 (4 * (n : Int)), .int .i64 (8 * (n : Int))] w fun e w' => ∃ lg L fp rv, e = .returned (.tuple #[.pointer (some ⟨lg, 0, none⟩), .int .i64 0]) ∧ Wok L ∧ L.recs = [] ∧ LG S w0 w' dg d lg L fp rv) :
    Calls Tryz.prog 8 #[.pointer (some ⟨dg, 0, none⟩), .int .i64 (n : Int)] w fun e w' => ∃ G L, e = .returned (.tuple #[.pointer (some ⟨G.pg, 0, none⟩), .int .i64 0]) ∧ G.dg = dg ∧ Wok L ∧ L.recs = [] ∧ PG S w0 w' G d L (loadP d n) := by
  have hsec : Calls Tryz.prog 21 #[.pointer (some ⟨dg, 0, none⟩)] w fun e w' => e = .returned (.int .i64 (d.secs.length : Int)) ∧ w = w' := sectors_df hD
  have hsl : d.secs.length ≤ 65536 := by
    obtain ⟨S, M, qv, _, hd⟩ := hD
    exact hd.secs1
  obtain ⟨sl, hsl2⟩ : ∃ sl : Int, (d.secs.length : Int) = sl := ⟨_, rfl⟩
  rw [hsl2] at hsec
  have j1 : ¬ (n : Int) < 8 := by omega
  have j2 : ¬ 5000 < (n : Int) := by omega
  have j3 : ¬ sl < 12 * (n : Int) := by omega
  have j4 : (n : Int) ≤ 5000 := by omega
  have HSL := Lib.hid hsl
  have HS := Lib.hid hsec
  have HO := Lib.hid hO
  have HN1 := Lib.hid hn
  have HN2 := Lib.hid hn2
  have HSS := Lib.hid hs
  have HON := Lib.hid hon
  clear hsec hO hD hsl hsl2 hn hn2 hs hon
  go_enter Tryz.func8, Tryz.ntmps8
  go_wp2_with fail
  (with_reducible refine HS.out.mono ?_)
  rintro e w1 ⟨rfl, rfl⟩
  go_wp2_with fail
  (with_reducible refine HO.out.mono ?_)
  rintro e w1 ⟨lg, L, fp, rv, rfl, hk, hr, hlg⟩
  have hpg := bare_pg (n := n) hlg
  rw [bare_cells] at hpg
  have hrc := records_any hpg.log hk
  rw [hr] at hrc
  have hrc : Calls Tryz.prog 23 #[.pointer (some ⟨lg, 0, none⟩)] _ _ := hrc
  have HPG := Lib.hid hpg
  have HK := Lib.hid hk
  have HR := Lib.hid hr
  have HRC := Lib.hid hrc
  clear hpg hk hr hlg hrc
  go_wp2_with fail
  (with_reducible refine HRC.out.mono ?_)
  rintro e w2 ⟨v, rfl, ho⟩
  obtain ⟨p8, cap8, hv⟩ := os_slice ho
  have hv : v = .slice p8 0 cap8 := hv
  subst hv
  have h2 := HPG.out.later ho.bel
  have HST : Hid (Calls Tryz.prog 25 #[.pointer (some ⟨w1.heap.size, 0, none⟩)] w2 fun e w' => e = .returned (.int .i64 0) ∧ PG S w0 w' (bareH w1.heap.size dg lg fp rv) d L (bareP n)) := Lib.hid (settle_nil h2 rfl)
  clear ho h2
  go_wp2_with fail
  (with_reducible refine HST.out.mono ?_)
  rintro e w3 ⟨rfl, h3⟩
  have HLD : Hid (Calls Tryz.prog 26 #[.pointer (some ⟨w1.heap.size, 0, none⟩)] w3 fun e w' => e = .returned (.int .i64 0) ∧ ∃ M, PG S w0 w' { bareH w1.heap.size dg lg fp rv with M := M } d L (loadP d n)) := Lib.hid (load_ok h3 rfl HN1.out HN2.out HON.out (by have := HSS.out; show n * 4 ≤ _; omega))
  clear h3
  go_wp2_with fail
  (with_reducible refine HLD.out.mono ?_)
  rintro e w4 ⟨rfl, M, h4⟩
  have H4 := Lib.hid h4
  clear h4
  go_wp2_with fail
  go_ret2
  exact ⟨{ bareH w1.heap.size dg lg fp rv with M := M }, L, rfl, rfl, HK.out, HR.out, H4.out⟩
end
end Go.Proofs.YtoleojljpaglhaaGreat
/- The contracts of pager.Open on nothing, on bad numbers, on a disk without power, on a new disk. -/
namespace Go.Proofs.YtoleojljpaglhaaGreat
open Go.RowKit
set_option maxRecDepth 20000 in
theorem popen_nil (n : Int) (w : World) : Calls Tryz.prog 8 #[.pointer none, .int .i64 n] w fun e w' => e = .returned (.tuple #[.pointer none, .int .i64 1]) ∧ w = w' := by
  go_enter Tryz.func8, Tryz.ntmps8
  go_wp2_with fail
  go_ret2
  exact ⟨rfl, rfl⟩
section
variable {S : Nat → Prop} {w0 w w' : World}
set_option maxRecDepth 20000 in
set_option maxHeartbeats 1000000 in
theorem popen_arg {dg : Nat} {d : Vd.VD} {fp0 : List Nat} (hD : DF w dg d fp0) (n : Int) (h : n < 8 ∨ 5000 < n ∨ (d.secs.length : Int) < 12 * n) : Calls Tryz.prog 8 #[.pointer (some ⟨dg, 0, none⟩), .int .i64 n] w fun e w' => e = .returned (.tuple #[.pointer none, .int .i64 1]) ∧ w = w' := by
  have hsec : Calls Tryz.prog 21 #[.pointer (some ⟨dg, 0, none⟩)] w fun e w' => e = .returned (.int .i64 (d.secs.length : Int)) ∧ w = w' := sectors_df hD
  obtain ⟨sl, hsl2⟩ : ∃ sl : Int, (d.secs.length : Int) = sl := ⟨_, rfl⟩
  rw [hsl2] at hsec h
  clear hsl2 hD
  by_cases h1 : n < 8
  · clear h hsec
    go_enter Tryz.func8, Tryz.ntmps8
    go_wp2_with fail
    go_ret2
    exact ⟨rfl, rfl⟩
  · by_cases h2 : 5000 < n
    · clear h hsec
      go_enter Tryz.func8, Tryz.ntmps8
      go_wp2_with fail
      go_ret2
      exact ⟨rfl, rfl⟩
    · have h3 : sl < 12 * n := by omega
      have j4 : n ≤ 5000 := by omega
      have HS := Lib.hid hsec
      clear h hsec
      go_enter Tryz.func8, Tryz.ntmps8
      go_wp2_with fail
      (with_reducible refine HS.out.mono ?_)
      rintro e w1 ⟨rfl, rfl⟩
      go_wp2_with fail
      go_ret2
      exact ⟨rfl, rfl⟩
set_option maxRecDepth 20000 in
set_option maxHeartbeats 1000000 in
theorem wopen_off {dg : Nat} {d : Vd.VD} {fp0 : List Nat} (hD : DF w dg d fp0) (hon : d.on = false) (fr n : Int) (h0 : 0 ≤ fr) (h1 : 1 ≤ n) (h2 : fr + n ≤ (d.secs.length : Int)) : Calls Tryz.prog 22 #[.pointer (some ⟨dg, 0, none⟩), .int .i64 fr, .int .i64 n] w fun e w' => e = .returned (.tuple #[.pointer none, .int .i64 80]) ∧ Below w.heap.size w w' := by
  have hsl : d.secs.length ≤ 65536 := by
    obtain ⟨S, M, qv, _, hd⟩ := hD
    exact hd.secs1
  have hsec : Calls Tryz.prog 21 #[.pointer (some ⟨dg, 0, none⟩)] w fun e w' => e = .returned (.int .i64 (d.secs.length : Int)) ∧ w = w' := sectors_df hD
  have hr : Calls Tryz.prog 65 #[.pointer (some ⟨dg, 0, none⟩), .int .i64 fr] w fun e w' => e = .returned (.tuple #[.string ⟨#[]⟩, .int .i64 80]) ∧ Below w.heap.size w w' := by
    have := read_any hD fr
    have hr : Vd.read d fr = (80, []) := by
      unfold Vd.read Vd.asked
      simp [hon]
    rwa [hr] at this
  obtain ⟨sl, hsl2⟩ : ∃ sl : Int, (d.secs.length : Int) = sl := ⟨_, rfl⟩
  rw [hsl2] at hsec h2
  have i1 : sl ≤ 65536 := by omega
  have j1 : ¬ n < 1 := by omega
  have j2 : ¬ fr < 0 := by omega
  have j3 : ¬ sl < fr := by omega
  have j4 : ¬ sl - fr < n := by omega
  have HS := Lib.hid hsec
  have HR := Lib.hid hr
  clear hsec hr hD hon hsl hsl2
  go_enter Tryz.func22, Tryz.ntmps22
  go_wp2_with fail
  (with_reducible refine HS.out.mono ?_)
  rintro e w1 ⟨rfl, rfl⟩
  go_wp2_with fail
  (with_reducible refine HS.out.mono ?_)
  rintro e w1 ⟨rfl, rfl⟩
  go_wp2_with fail
  (with_reducible refine HR.out.mono ?_)
  rintro e w1 ⟨rfl, hb1⟩
  go_wp2_with fail
  go_ret2
  exact ⟨rfl, hb1⟩
set_option maxRecDepth 20000 in
set_option maxHeartbeats 1000000 in
theorem popen_off {dg n : Nat} {d : Vd.VD} {fp0 : List Nat} (hD : DF w dg d fp0) (hon : d.on = false) (hn : 8 ≤ n) (hn2 : n ≤ 5000) (hs : 12 * n ≤ d.secs.length) :
    Calls Tryz.prog 8 #[.pointer (some ⟨dg, 0, none⟩), .int .i64 (n : Int)] w fun e w' => e = .returned (.tuple #[.pointer none, .int .i64 80]) ∧ Below w.heap.size w w' := by
  have hsec : Calls Tryz.prog 21 #[.pointer (some ⟨dg, 0, none⟩)] w fun e w' => e = .returned (.int .i64 (d.secs.length : Int)) ∧ w = w' := sectors_df hD
  have hO := wopen_off hD hon (4 * (n : Int)) (8 * (n : Int)) (by omega) (by omega) (by omega)
  obtain ⟨sl, hsl2⟩ : ∃ sl : Int, (d.secs.length : Int) = sl := ⟨_, rfl⟩
  rw [hsl2] at hsec
  have j1 : ¬ (n : Int) < 8 := by omega
  have j2 : ¬ 5000 < (n : Int) := by omega
  have j3 : ¬ sl < 12 * (n : Int) := by omega
  have j4 : (n : Int) ≤ 5000 := by omega
  have HS := Lib.hid hsec
  have HO := Lib.hid hO
  clear hsec hO hD hsl2 hn hn2 hs hon
  go_enter Tryz.func8, Tryz.ntmps8
  go_wp2_with fail
  (with_reducible refine HS.out.mono ?_)
  rintro e w1 ⟨rfl, rfl⟩
  go_wp2_with fail
  (with_reducible refine HO.out.mono ?_)
  rintro e w1 ⟨rfl, hb⟩
  go_wp2_with fail
  go_ret2
  exact ⟨rfl, hb⟩
end
/-- a pager on a new disk -/
def freshP (n : Nat) : PP := { n := n, pages := fun _ => none, sz := 0, roots := List.replicate 8 0, tx := none, up := true, todo := [] }
theorem catS_zero (m : Nat) : ∀ k at_ : Nat, at_ + k ≤ m → catS (newVD m) at_ k = List.replicate (64 * k) 0 := by
  intro k
  induction k with
  | zero => intro _ _; rfl
  | succ k ih =>
    intro at_ h
    rw [catS_succ, ih at_ (by omega), new_look _ _ (by omega), List.replicate_append_replicate]
    rfl
theorem bitOf_zero (m q : Nat) : bitOf (List.replicate m 0) q = false := by
  unfold bitOf
  have : (List.replicate m (0 : UInt8)).getD (32 + q / 8) 0 = 0 := by
    rw [List.getD_eq_getElem?_getD, List.getElem?_replicate]
    split <;> rfl
  rw [this]
  simp
theorem loadP_new (m n : Nat) (h : 8 ≤ n) (hm : 12 * n ≤ m) : loadP (newVD m) n = freshP n := by
  unfold loadP freshP
  rw [catS_zero m 32 ((n - 8) * 4) (by omega)]
  have e1 : loadF (newVD m) (List.replicate (64 * 32) 0) (n - 7) = fun _ => none := by
    funext x
    unfold loadF
    rw [if_neg]
    rw [bitOf_zero]
    simp
  have e2 : loadZ (List.replicate (64 * 32) 0) (n - 7) = 0 := by
    unfold loadZ
    rw [List.length_eq_zero_iff, List.filter_eq_nil_iff]
    intro q _
    rw [bitOf_zero]
    simp
  have e3 : rootsAt (List.replicate (64 * 32) 0) (List.replicate 8 0) 8 = List.replicate 8 0 := by decide +kernel
  rw [e1, e2, e3]
theorem freshL_ok (a b : Nat) (h1 : a ≤ 65536) (h2 : b ≤ 65536) : Wok (freshL a b 0) := ⟨h2, h1, by simp [freshL], by simp [freshL], by simp [freshL]⟩
theorem popen_new {S : Nat → Prop} {w0 w : World} {dg n m : Nat} {fp0 : List Nat} (hbel : KeepS S w0 w) (hup : ∀ k, w0.heap.size ≤ k → S k) (hD : DF w dg (newVD m) fp0) (hlow : ∀ b ∈ fp0, S b) (hn : 8 ≤ n) (hn2 : n ≤ 5000) (hs : 12 * n ≤ m) (hm : m ≤ 65536) :
    Calls Tryz.prog 8 #[.pointer (some ⟨dg, 0, none⟩), .int .i64 (n : Int)] w fun e w' => ∃ G L, e = .returned (.tuple #[.pointer (some ⟨G.pg, 0, none⟩), .int .i64 0]) ∧ G.dg = dg ∧ Wok L ∧ L.recs = [] ∧ PG S w0 w' G (newVD m) L (freshP n) := by
  have hl : (newVD m).secs.length = m := by simp [newVD]
  have hO := open_zero (S := S) hbel hup hD hlow (4 * n) (8 * n) rfl (by omega) (by rw [hl]; omega) (by rw [hl]; omega) (new_look m (4 * n) (by omega))
  rw [Int.natCast_mul, Int.natCast_mul] at hO
  rw [← loadP_new m n hn hs]
  refine popen_plain hD rfl hn hn2 (by rw [hl]; omega) (hO.mono ?_)
  rintro e w' ⟨lg, he, hL⟩
  exact ⟨lg, _, _, _, he, freshL_ok _ _ (by omega) (by omega), rfl, hL⟩
end Go.Proofs.YtoleojljpaglhaaGreat
/- The contracts of twin and Begin. -/
namespace Go.Proofs.YtoleojljpaglhaaGreat
open Go.RowKit
theorem scells_lit (M : Nat) (a0 a1 a2 a3 a4 a5 a6 a7 : Int) : scells M [a0, a1, a2, a3, a4, a5, a6, a7] = #[.map (some M), .int .i64 a0, .int .i64 a1, .int .i64 a2, .int .i64 a3, .int .i64 a4, .int .i64 a5, .int .i64 a6, .int .i64 a7] := rfl
section
variable {P : Program} {w : World}
/-- a store by its run, at a step of a region that draws -/
theorem step_store_run {ops : Array Oper} {o : Oper} {a : Act} {K : Act → World → Prop} {Q : Exit → Act → World → Prop} {E : Prop} (hgd : o.guard = none) (ty : TypeId) (x y : Operand) (ho : o.op = .store ty x y) (v u : Value) (hx : a.eval x = v) (hy : a.eval y = u) (w2 : World)
    (hr : (Instr.storeAt ty v u).run P w = .ok () w2) (h : K (a.put o.dst undef) w2) : if Region.wanted o (yielded ops a.tmps) = true then Oper.wp P o a w K Q else E := by
  have hw : Region.wanted o (yielded ops a.tmps) = true := by simp [Region.wanted, hgd]
  rw [if_pos hw]
  unfold Oper.wp execOp
  simp only [ho, hx, hy, Sem.run_bind, Sem.run_pure, Result.andThen_ok, hr]
  exact h
end
/-- cells stored over as many -/
theorem store_all {w : World} {B : Nat} {cs vs : List Value} (h : Blk w B 76 cs.toArray) (hl : vs.length = 9) (hc : cs.length = 9) (h1 : vs.toArray.all (·.oneCell') = true) :
    ∃ w2, (Instr.storeAt 76 (.pointer (some ⟨B, 0, none⟩)) (.agg vs.toArray)).run Tryz.prog w = .ok () w2 ∧ Blk w2 B 76 vs.toArray ∧ Only [B] w w2 := by
  have hst := run_storeAt_mid (P := Tryz.prog) w B 0 76 vs.toArray (fun j hj => ⟨by
    rw [Nat.zero_add, h.cell j]
    have : j < cs.length := by
      have e : vs.toArray.size = 9 := by simpa using hl
      omega
    simp [this], h.frozen _⟩) (by simp only [List.size_toArray, hl]; kernel_rfl) h1
  refine ⟨_, hst, ?_, only_setCells (.inl (by simp)) _ _ _ (Only.refl _ _)⟩
  have := Blk.setCells vs 0 w cs h (by omega)
  rw [List.take_zero, List.nil_append, List.drop_of_length_le (by omega), List.append_nil] at this
  exact this
section
variable {S : Nat → Prop} {w0 w w' : World} {G : PH} {d d' : Vd.VD} {L L' : Wa.WL} {P : PP}
set_option maxRecDepth 20000 in
set_option maxHeartbeats 1000000 in
theorem twin_any {M : Nat} {f : Int → Option ByteArray} {sz : Nat} (h : PMap w M f sz) (roots : List Int) (hl : roots.length = 8) :
    Calls Tryz.prog 87 #[.agg (scells M roots)] w fun e w' => e = .returned (.agg (scells (w.heap.size + 2) roots)) ∧ PMap w' (w.heap.size + 2) f sz ∧ Below w.heap.size w w' := by
  obtain ⟨a0, a1, a2, a3, a4, a5, a6, a7, rfl⟩ := len8 hl
  have hB : Below w.heap.size w ((w.alloc (.cells (scells M [a0, a1, a2, a3, a4, a5, a6, a7]) 76)).alloc (.cells (#[.map none, .int .i64 0, .int .i64 0, .int .i64 0, .int .i64 0, .int .i64 0, .int .i64 0, .int .i64 0, .int .i64 0]) 76)) := ((Below.refl _ _).alloc (Nat.le_refl _) _).alloc (by simp) _
  have hC := (h.below hB).copy
  rw [show ∀ o1 o2, ((w.alloc o1).alloc o2).heap.size = w.heap.size + 2 from fun o1 o2 => by simp] at hC
  rw [scells_lit] at hC hB
  rw [scells_lit, scells_lit]
  obtain ⟨V, hV⟩ : ∃ V, ((w.alloc (.cells (#[.map (some M), .int .i64 a0, .int .i64 a1, .int .i64 a2, .int .i64 a3, .int .i64 a4, .int .i64 a5, .int .i64 a6, .int .i64 a7]) 76)).alloc (.cells (#[.map none, .int .i64 0, .int .i64 0, .int .i64 0, .int .i64 0, .int .i64 0, .int .i64 0, .int .i64 0, .int .i64 0]) 76)) = V := ⟨_, rfl⟩
  have hb1 : Blk V w.heap.size 76 #[.map (some M), .int .i64 a0, .int .i64 a1, .int .i64 a2, .int .i64 a3, .int .i64 a4, .int .i64 a5, .int .i64 a6, .int .i64 a7] := by
    rw [← hV]; exact (Blk.new w _ _).alloc _
  have hb2 : Blk V (w.heap.size + 1) 76 #[.map none, .int .i64 0, .int .i64 0, .int .i64 0, .int .i64 0, .int .i64 0, .int .i64 0, .int .i64 0, .int .i64 0] := by
    rw [← hV]
    have := Blk.new (w.alloc (.cells (#[.map (some M), .int .i64 a0, .int .i64 a1, .int .i64 a2, .int .i64 a3, .int .i64 a4, .int .i64 a5, .int .i64 a6, .int .i64 a7]) 76)) 76 #[.map none, .int .i64 0, .int .i64 0, .int .i64 0, .int .i64 0, .int .i64 0, .int .i64 0, .int .i64 0, .int .i64 0]
    rwa [World.size_alloc] at this
  rw [hV] at hC hB
  have hVs : V.heap.size = w.heap.size + 2 := by rw [← hV]; simp
  have hCd : Calls Tryz.prog 110 #[.map (some M)] V.drew fun e w' => e = .returned (.map (some (w.heap.size + 2))) ∧ Blk w' w.heap.size 76 #[.map (some M), .int .i64 a0, .int .i64 a1, .int .i64 a2, .int .i64 a3, .int .i64 a4, .int .i64 a5, .int .i64 a6, .int .i64 a7] ∧
      Blk w' (w.heap.size + 1) 76 #[.map none, .int .i64 0, .int .i64 0, .int .i64 0, .int .i64 0, .int .i64 0, .int .i64 0, .int .i64 0, .int .i64 0] ∧ PMap w' (w.heap.size + 2) f sz ∧ Below w.heap.size w w' := by
    have h1 := (h.below (hB.trans ((Below.refl V.heap.size V).drew.mono (by omega)))).copy
    rw [show V.drew.heap.size = w.heap.size + 2 from hVs] at h1
    refine h1.mono ?_
    rintro e w5 ⟨he, hp, _, hb5⟩
    have k1 : Blk w5 w.heap.size 76 #[.map (some M), .int .i64 a0, .int .i64 a1, .int .i64 a2, .int .i64 a3, .int .i64 a4, .int .i64 a5, .int .i64 a6, .int .i64 a7] := hb1.drew.below hb5 (by omega)
    have k2 : Blk w5 (w.heap.size + 1) 76 #[.map none, .int .i64 0, .int .i64 0, .int .i64 0, .int .i64 0, .int .i64 0, .int .i64 0, .int .i64 0, .int .i64 0] := hb2.drew.below hb5 (by omega)
    have hBB : Below w.heap.size w w5 := hB.trans (((Below.refl V.heap.size V).drew.mono (by omega)).trans (hb5.mono (by omega)))
    exact ⟨he, k1, k2, hp, hBB⟩
  have HC := Lib.hid hCd
  have c0 : V.drew.cell? ⟨w.heap.size, 0, none⟩ = _ := hb1.drew.cell 0
  have c1 : V.drew.cell? ⟨w.heap.size, 1, none⟩ = _ := hb1.drew.cell 1
  have c2 : V.drew.cell? ⟨w.heap.size, 2, none⟩ = _ := hb1.drew.cell 2
  have c3 : V.drew.cell? ⟨w.heap.size, 3, none⟩ = _ := hb1.drew.cell 3
  have c4 : V.drew.cell? ⟨w.heap.size, 4, none⟩ = _ := hb1.drew.cell 4
  have c5 : V.drew.cell? ⟨w.heap.size, 5, none⟩ = _ := hb1.drew.cell 5
  have c6 : V.drew.cell? ⟨w.heap.size, 6, none⟩ = _ := hb1.drew.cell 6
  have c7 : V.drew.cell? ⟨w.heap.size, 7, none⟩ = _ := hb1.drew.cell 7
  have c8 : V.drew.cell? ⟨w.heap.size, 8, none⟩ = _ := hb1.drew.cell 8
  clear hC hB h hl hCd hb1 hb2
  go_enter Tryz.func87, Tryz.ntmps87
  go_wp2_with fail
  go_region_law (go_simp; go_at_call 110; ((with_reducible refine HC.out.mono ?_)); rintro e w5 ⟨rfl, k1, k2, hp5, hb5⟩; have d0 : w5.cell? ⟨w.heap.size, 0, none⟩ = _ := k1.cell 0; have d1 : w5.cell? ⟨w.heap.size, 1, none⟩ = _ := k1.cell 1; have d2 : w5.cell? ⟨w.heap.size, 2, none⟩ = _ := k1.cell 2; have d3 : w5.cell? ⟨w.heap.size, 3, none⟩ = _ := k1.cell 3; have d4 : w5.cell? ⟨w.heap.size, 4, none⟩ = _ := k1.cell 4; have d5 : w5.cell? ⟨w.heap.size, 5, none⟩ = _ := k1.cell 5; have d6 : w5.cell? ⟨w.heap.size, 6, none⟩ = _ := k1.cell 6; have d7 : w5.cell? ⟨w.heap.size, 7, none⟩ = _ := k1.cell 7; have d8 : w5.cell? ⟨w.heap.size, 8, none⟩ = _ := k1.cell 8; have f0 : w5.cell? ⟨w.heap.size + 1, 0, none⟩ = _ := k2.cell 0; have f1 : w5.cell? ⟨w.heap.size + 1, 1, none⟩ = _ := k2.cell 1; have f2 : w5.cell? ⟨w.heap.size + 1, 2, none⟩ = _ := k2.cell 2; have f3 : w5.cell? ⟨w.heap.size + 1, 3, none⟩ = _ := k2.cell 3; have f4 : w5.cell? ⟨w.heap.size + 1, 4, none⟩ = _ := k2.cell 4; have f5 : w5.cell? ⟨w.heap.size + 1, 5, none⟩ = _ := k2.cell 5; have f6 : w5.cell? ⟨w.heap.size + 1, 6, none⟩ = _ := k2.cell 6; have f7 : w5.cell? ⟨w.heap.size + 1, 7, none⟩ = _ := k2.cell 7; have f8 : w5.cell? ⟨w.heap.size + 1, 8, none⟩ = _ := k2.cell 8; have fz := k2.frozen)
  all_goals
    (have hk6 := Blk.setCells [.map (some (w.heap.size + 2)), .int .i64 a0, .int .i64 a1, .int .i64 a2, .int .i64 a3, .int .i64 a4, .int .i64 a5, .int .i64 a6, .int .i64 a7] 0 w5 [.map none, .int .i64 0, .int .i64 0, .int .i64 0, .int .i64 0, .int .i64 0, .int .i64 0, .int .i64 0, .int .i64 0] k2 (by simp)
     have hO : Only [w.heap.size + 1] w5 (w5.setCells (w.heap.size + 1) 0 [.map (some (w.heap.size + 2)), .int .i64 a0, .int .i64 a1, .int .i64 a2, .int .i64 a3, .int .i64 a4, .int .i64 a5, .int .i64 a6, .int .i64 a7]) := only_setCells (.inl (by simp)) _ _ _ (Only.refl _ _)
     have HBW : Hid (Below w.heap.size w (w5.setCells (w.heap.size + 1) 0 [.map (some (w.heap.size + 2)), .int .i64 a0, .int .i64 a1, .int .i64 a2, .int .i64 a3, .int .i64 a4, .int .i64 a5, .int .i64 a6, .int .i64 a7])) := Lib.hid (hb5.trans ⟨hO.os, hO.tape, hO.output, hO.size, fun k hk => hO.block k (Nat.lt_of_lt_of_le hk hb5.size) (by simp only [List.mem_singleton]; omega)⟩)
     have HPM : Hid (PMap (w5.setCells (w.heap.size + 1) 0 [.map (some (w.heap.size + 2)), .int .i64 a0, .int .i64 a1, .int .i64 a2, .int .i64 a3, .int .i64 a4, .int .i64 a5, .int .i64 a6, .int .i64 a7]) (w.heap.size + 2) f sz) := Lib.hid (hp5.only hO (by simp))
     clear hO hb5 hp5 k1 k2 d0 d1 d2 d3 d4 d5 d6 d7 d8
     go_wp2_with fail
     (try simp only [Exit.inBlock, Exit.then])
     refine bodyPost_ret (v := .agg #[.map (some (w.heap.size + 2)), .int .i64 a0, .int .i64 a1, .int .i64 a2, .int .i64 a3, .int .i64 a4, .int .i64 a5, .int .i64 a6, .int .i64 a7]) (by simp [results, Tryz.results87, go_sem, f0, f1, f2, f3, f4, f5, f6, f7, f8]) rfl ?_
     exact ⟨rfl, HPM.out, HBW.out⟩)
end
end Go.Proofs.YtoleojljpaglhaaGreat
