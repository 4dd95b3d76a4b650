/- The law's step: Read and Alloc. -/
import Derived.Test.YtoleojljpaglhaaGreatPeH
set_option maxRecDepth 20000
namespace Go.Proofs.YtoleojljpaglhaaGreat
open Go.RowKit
set_option maxRecDepth 20000
section
variable {S : Nat → Prop} {w0 w w' wr : World} {B g dg pg : Nat} {H : Kept}
theorem full_free {f : Int → Option ByteArray} {roots : List Int} (h : Pb.Wf 40 f roots 32) : freeAt f 32 1 = 0 := by
  by_cases h0 : freeAt f 32 1 = 0
  · exact h0
  · obtain ⟨h1, h2, h3⟩ := freeAt_ge f 32 1 h0
    have hz := h.sz
    have hall : ∀ q ∈ List.range 32, Pb.usedP f q = true := by
      have h4 : ((List.range 32).filter (Pb.usedP f)).length = (List.range 32).length := by rw [List.length_range]; exact hz.symm
      exact List.length_filter_eq_length_iff.1 h4
    have h5 := hall (freeAt f 32 1 - 1) (List.mem_range.2 (by omega))
    unfold Pb.usedP at h5
    have e : ((freeAt f 32 1 - 1 : Nat) : Int) + 1 = (freeAt f 32 1 : Nat) := by omega
    rw [e, h3] at h5
    cases h5
theorem at_no {l : List Int} {k r : Int} (hr : AtR l k r) (hk : k ∉ l) : r = -1 := by
  rcases hr with ⟨h1, _⟩ | ⟨i, _, hi⟩
  · exact h1
  · exact absurd (List.mem_of_getElem? hi) hk
set_option maxHeartbeats 1000000 in
theorem step8 (h : Bo w0 B dg pg g noH w) (hg : g ≤ 250) (a b : Int) (ha : (Lit.int .i64 a).wf = true) : Calls Tryz.prog 19 #[.pointer (some ⟨B, 0, none⟩), .agg #[.int .i64 8, .int .i64 a, .int .i64 b]] w (StepP w0 B dg g) := by
  have h1 := h.push (.cells #[.int .i64 8, .int .i64 a, .int .i64 b] 62 (0, 0))
  have n0 : (w.alloc (.cells #[.int .i64 8, .int .i64 a, .int .i64 b] 62)).cell? ⟨w.heap.size, 0, none⟩ = some (.int .i64 8) := h1.mid.blk.cell 0
  have n1 : (w.alloc (.cells #[.int .i64 8, .int .i64 a, .int .i64 b] 62)).cell? ⟨w.heap.size, 1, none⟩ = some (.int .i64 a) := h1.mid.blk.cell 1
  have HPG := Lib.hid (bo_page h1 hg a ha)
  have H1 := Lib.hid h1
  clear h h1
  go_enter Tryz.func19, Tryz.ntmps19
  go_wp2_with fail
  (with_reducible refine HPG.out.mono ?_)
  rintro e w2 ⟨k, rfl, hk, hb2⟩
  have h2 := H1.out.later hb2
  have HB := Lib.hid (h2.more (Nat.le_succ g))
  obtain ⟨G, d, L, P, o, V, R, hS, hpg, rfl, hA⟩ := h2.ex
  have hup : (P.opn o).up = true := hA.hi.inv.up
  have hrd := pread_any hS.pg hup k hk
  have hat := hS.ref.at_ k (by have := hA.small; omega)
  have c1 := hS.ref.cells.c1
  have c14 := hS.ref.cells.c14
  rw [hpg] at hrd c1
  clear n0 n1 HPG H1
  cases hs : (P.opn o).seen k with
  | none =>
    have e1 : prd (P.opn o) k = .tuple #[.string ⟨#[]⟩, .int .i64 91] := by unfold prd; rw [hs]; rfl
    rw [e1] at hrd
    have hno : k ∉ R.now.page := fun hm => by have := hA.now.used.2 hm; rw [hs] at this; cases this
    have HR := Lib.hid hrd
    have HAT := Lib.hid hat
    have HNO := Lib.hid hno
    clear hrd hat hno e1 hs hS hA hup hk c14 hb2 h2
    go_wp2_with fail
    (with_reducible refine HR.out.mono ?_)
    rintro e w3 ⟨rfl, rfl⟩
    go_wp2_with fail
    (with_reducible refine HAT.out.mono ?_)
    rintro e w3 ⟨⟨r, rfl, hr⟩, rfl⟩
    obtain rfl : r = -1 := at_no hr HNO.out
    clear hr
    go_wp2_with fail
    go_ret
    exact StepP.of HB.out
  | some s =>
    have e1 : prd (P.opn o) k = .tuple #[.string s, .int .i64 0] := by unfold prd; rw [hs]; rfl
    rw [e1] at hrd
    obtain ⟨i, hi⟩ := List.getElem?_of_mem (hA.now.used.1 (by rw [hs]; rfl))
    obtain ⟨s', hd, hf⟩ := hA.now.at_ i k hi
    obtain rfl : s = s' := by rw [hs] at hf; injection hf
    obtain ⟨_, A, cap, hv, hcell⟩ := row_form hS.ref.rows.nd
    obtain ⟨q, hA', hc⟩ := hcell i (.string s) (by unfold bsl; rw [List.getElem?_map, hd]; rfl)
    subst hA'
    rw [hv] at c14
    have hil := (List.getElem?_eq_some_iff.1 hd).1
    obtain ⟨m, hm⟩ : ∃ m, R.now.data.length = m := ⟨_, rfl⟩
    rw [hm] at c14 hil
    have i1 : (i : Int) < (m : Int) := by omega
    have i2 : (0 : Int) ≤ (i : Int) := by omega
    have i3 : ¬ ((i : Int) < 0) := by omega
    have HR := Lib.hid hrd
    have HAT := Lib.hid hat
    have HI := Lib.hid hi
    have HND := Lib.hid hA.now.nd
    clear hrd hat e1 hs hS hA hup hk hb2 h2 hi hd hf hcell hv hm hil
    go_wp2_with fail
    (with_reducible refine HR.out.mono ?_)
    rintro e w3 ⟨rfl, rfl⟩
    go_wp2_with fail
    (with_reducible refine HAT.out.mono ?_)
    rintro e w3 ⟨⟨r, rfl, hr⟩, rfl⟩
    obtain rfl : r = (i : Int) := at_yes hr HND.out HI.out
    clear hr
    go_wp2_with fail
    go_ret
    exact StepP.of HB.out
set_option maxHeartbeats 2000000 in
theorem step4 (h : Bo w0 B dg pg g noH w) (hg : g ≤ 250) (a b : Int) : Calls Tryz.prog 19 #[.pointer (some ⟨B, 0, none⟩), .agg #[.int .i64 4, .int .i64 a, .int .i64 b]] w (StepP w0 B dg g) := by
  have h1 := h.push (.cells #[.int .i64 4, .int .i64 a, .int .i64 b] 62 (0, 0))
  have n0 : (w.alloc (.cells #[.int .i64 4, .int .i64 a, .int .i64 b] 62)).cell? ⟨w.heap.size, 0, none⟩ = some (.int .i64 4) := h1.mid.blk.cell 0
  clear h
  have HB := Lib.hid (h1.more (Nat.le_succ g))
  obtain ⟨G, d, L, P, o, V, R, hS, hpg, rfl, hA⟩ := h1.ex
  clear h1
  have c1 := hS.ref.cells.c1
  have c23 := hS.ref.cells.c23
  rw [hpg] at c1
  rw [hA.busy] at c23
  cases o with
  | none =>
    have hal := palloc_closed hS.pg rfl
    rw [hpg] at hal
    have HAL := Lib.hid hal
    clear hal hS hA
    simp only [Option.isSome_none] at c23
    go_enter Tryz.func19, Tryz.ntmps19
    go_wp2_with fail
    (with_reducible refine HAL.out.mono ?_)
    rintro e w3 ⟨rfl, rfl⟩
    go_wp2_with fail
    go_ret
    exact StepP.of HB.out
  | some t =>
    simp only [Option.isSome_some] at c23
    have hT := hA.tx t rfl
    have hzz : t.sz < maxLen ∧ t.dz < maxLen := (txi_len hT).resolve_right (fun h => h hA.hi.inv.hn2)
    have hsz : t.sz = R.now.page.length := hA.now.sz
    by_cases hz : t.sz = 32
    · have hal := palloc_some hS.pg.rebase hA.hi.inv.hn hA.hi.inv.hn2 rfl hzz
      have h0 : freeAt t.pages (P.n - 8) 1 = 0 := by
        have hk := hA.wf
        have hk : Pb.Wf 40 t.pages t.roots t.sz := hk
        rw [hz] at hk
        rw [hA.n]
        exact full_free hk
      have e1 : allocE (P.opn (some t)) = (0, 83) := if_pos h0
      have e2 : allocP (P.opn (some t)) = P.opn (some t) := if_pos h0
      rw [e1, e2, hpg] at hal
      have HAL := Lib.hid hal
      have HS := Lib.hid hS
      have HA := Lib.hid hA
      have HPG := Lib.hid hpg
      have HZ : Hid (R.now.page.length = 32) := Lib.hid (by omega)
      clear hal hS hA hpg e1 e2 h0 hzz hT hz hsz HB
      go_enter Tryz.func19, Tryz.ntmps19
      go_wp2_with fail
      (with_reducible refine HAL.out.mono ?_)
      rintro e w3 ⟨rfl, hP3⟩
      have hS3 := HS.out.viaPg hP3 rfl rfl
      have d23 : w3.cell? ⟨B, 23, none⟩ = some (.bool true) := by
        have := hS3.ref.cells.c23
        rw [HA.out.busy] at this
        exact this
      obtain ⟨_, A, cap, hv, _⟩ := row_form hS3.ref.rows.np
      have d13 := hS3.ref.cells.c13
      rw [hv] at d13
      have hfu := rfull_any (m := 0) hS3.ref.cells.c2 d13
      rw [HZ.out] at hfu
      have HFU := Lib.hid hfu
      have H3 : Hid (Bo w0 B G.dg pg (g + 1) (oneH w.heap.size (.cells #[.int .i64 4, .int .i64 a, .int .i64 b] 62 (0, 0))) w3) := Lib.hid ⟨G, d, L, P, some t, V, R, hS3, HPG.out, rfl, HA.out.more (Nat.le_succ g)⟩
      clear n0 c1 c23 hP3 hS3 hv d13 hfu
      go_wp2_with fail
      (with_reducible refine HFU.out.mono ?_)
      rintro e w4 ⟨rfl, hb4⟩
      have H4 := Lib.hid (H3.out.later hb4)
      clear hb4 d23
      go_wp2_with fail
      go_ret
      exact StepP.of H4.out
    · have hle := Pb.wf_sz_le hT.ok.wf
      have hal := tx_alloc hS.pg.rebase hT hA.hi.inv.hn hA.hi.inv.hn2 (by have := hA.n; omega)
      rw [hpg] at hal
      have HAL := Lib.hid hal
      have HS := Lib.hid hS
      have HA := Lib.hid hA
      have HPG := Lib.hid hpg
      have HZ : Hid (R.now.page.length < 32) := Lib.hid (by have := hA.n; omega)
      clear hal hS hA hpg hzz hT hz hsz HB hle
      go_enter Tryz.func19, Tryz.ntmps19
      go_wp2_with fail
      (with_reducible refine HAL.out.mono ?_)
      rintro e w3 ⟨k, t', rfl, hk, hno, rfl, hT', hz', hP3⟩
      have hS3 := HS.out.viaPg hP3 rfl rfl
      have d23 : w3.cell? ⟨B, 23, none⟩ = some (.bool true) := by
        have := hS3.ref.cells.c23
        rw [HA.out.busy] at this
        exact this
      obtain ⟨_, A, cap, hv, _⟩ := row_form hS3.ref.rows.np
      have d13 := hS3.ref.cells.c13
      rw [hv] at d13
      have hfu := rfull_any (m := 0) hS3.ref.cells.c2 d13
      rw [decide_eq_false (by have := HZ.out; omega)] at hfu
      have HFU := Lib.hid hfu
      have HS3 := Lib.hid hS3
      have hnk : k ∉ R.now.page := fun hm => by
        have := HA.out.now.used.2 hm
        have hno : ((P.opn (some t)).seen k) = none := hno
        rw [hno] at this
        cases this
      have HNK := Lib.hid hnk
      have HNO := Lib.hid hno
      have HT' := Lib.hid hT'
      have hk32 : k ≤ 32 := by have := HA.out.n; omega
      have HK : Hid (1 ≤ k ∧ k ≤ 32) := Lib.hid ⟨hk.1, hk32⟩
      have hk1 : ¬ (k < 1) := by omega
      clear n0 c1 c23 hP3 hS3 hv d13 hfu hno hT' hz' hnk hk hk32
      go_wp2_with fail
      (with_reducible refine HFU.out.mono ?_)
      rintro e w4 ⟨rfl, hb4⟩
      have hS4 := HS3.out.later hb4
      have HAT := Lib.hid (hS4.ref.at_ k (by have := HZ.out; omega))
      have HRA := Lib.hid (ralloc_any hS4.ref hS4.low (by have := HZ.out; omega) (by have := HZ.out; have := HA.out.now.len; omega) k)
      have HS4 := Lib.hid hS4
      clear hb4 hS4 d23
      go_wp2_with fail
      (with_reducible refine HAT.out.mono ?_)
      rintro e w5 ⟨⟨r, rfl, hr⟩, rfl⟩
      obtain rfl : r = -1 := at_no hr HNK.out
      clear hr
      go_wp2_with fail
      (with_reducible refine HRA.out.mono ?_)
      rintro e w6 ⟨rfl, hp6⟩
      obtain ⟨V6, hS6⟩ := HS4.out.viaRef hp6
      obtain ⟨i0, hi0, hx0, hx1, hx2⟩ := info_parts i64_info
      have Hi0 := Lib.hid hi0
      have Hz0 := Lib.hid hx0
      have Hz1 := Lib.hid hx1
      have Hz2 := Lib.hid hx2
      have c24 := hS6.ref.cells.c24
      have hov := hS6.ref.rows.ov
      simp only at c24 hov
      obtain ⟨vo, hvo⟩ : ∃ vo, V6.ov = vo := ⟨_, rfl⟩
      rw [hvo] at c24 hov
      have HVO := Lib.hid hvo
      have HOV := Lib.hid hov
      have HS6 := Lib.hid hS6
      have HOL : Hid (R.out.length ≤ 250) := Lib.hid (by have := HA.out.out; omega)
      clear hp6 hS6 hi0 hx0 hx1 hx2 hov hvo
      go_wp2_with (at_builtin; refine wpList_append_own_at _ rfl _ _ 51 rfl w0.heap.size 3 i0 _ 1 8 Tryz.underlying51 Hi0.out Hz0.out Hz1.out Hz2.out rfl (by decide) vo R.out.length (pis R.out) rfl (HOV.out.alloc _) ⟨w6.heap.size, 0, none⟩ 1 1 [.int .i64 k] rfl rfl (cell_one_new _ _ _) (int_one' k) ?c3 ?c4 ?c5 ?_)
      case c3 => have := HOL.out; unfold maxLen; omega
      case c4 => have := HOL.out; omega
      case c5 => have := HS6.out.low; simp; omega
      intro v7 w7 hown7 hgrow hnil hblock
      obtain ⟨_, A7, cp7, rfl, _⟩ := row_form hown7
      have hk7 : KeepS (fun q => V6.ov.ownBlock = some q) w6 w7 := keep_grown ((Below.refl _ _).alloc (Nat.le_refl _) _) (by rw [HVO.out]; exact hgrow)
      have hnB : ¬ (V6.ov.ownBlock = some B) := fun e => HS6.out.ref.offB (.inr (.inr (.inr (.inr e)))) rfl
      have d24 := (HS6.out.ref.cell_of hk7 hnB 24).1.trans c24
      have g24 := (HS6.out.ref.cell_of hk7 hnB 24).2
      have h8 := HS6.out.ref.newOv hk7 (v' := .slice A7 (R.out.length + 1) cp7) (l := R.out ++ [k]) (by unfold pis at hown7 ⊢; simpa using hown7) (fun q hq => by
        rcases hblock with e | e
        · rw [hq, ← HVO.out] at e; exact .inl e.symm
        · rw [hq] at e
          injection e with e
          rw [e]
          exact .inr (by simp))
      obtain ⟨V8, hS8⟩ := HS6.out.viaRef ⟨_, h8.1, h8.2.1, h8.2.2⟩
      have H8 : Hid (Bo w0 B G.dg pg (g + 1) (oneH w.heap.size (.cells #[.int .i64 4, .int .i64 a, .int .i64 b] 62 (0, 0))) (w7.setCell ⟨B, 24, none⟩ (.slice A7 (R.out.length + 1) cp7))) := Lib.hid ⟨G, d, L, P, some (writeT t k zeros), V8, _, hS8, HPG.out, rfl, HA.out.tn, HA.out.n, HA.out.hi, fun t' ht => by injection ht with ht; subst ht; exact HT'.out, HA.out.left, HA.out.now.alloc HNO.out zeros, HA.out.busy, Nat.le_succ_of_le HA.out.gen, by have := HA.out.wr; omega, by have := HA.out.out; simp; omega, fun x hx => by
        rcases List.mem_append.1 hx with hx | hx
        · exact HA.out.in_ x hx
        · rw [List.mem_singleton.1 hx]; exact HK.out⟩
      clear hk7 hnB hown7 hgrow hnil hblock c24 h8 hS8
      go_wp2_with fail
      go_ret
      exact StepP.of H8.out
end
end Go.Proofs.YtoleojljpaglhaaGreat
/- The law's step: Write, a new life, and what is no step. -/
set_option maxRecDepth 20000
namespace Go.Proofs.YtoleojljpaglhaaGreat
open Go.RowKit
section
variable {S : Nat → Prop} {w0 w w' wr : World} {B g dg pg : Nat} {H : Kept} {G G' : PH} {d d' : Vd.VD} {L L' : Wa.WL} {P P' P1 : PP} {V : RV} {R R' : RR} {o : Option PT}
theorem RefAt.setPg {b0 : Nat} (h : RefAt w b0 B dg pg V R) (p : Nat) : RefAt (w.setCell ⟨B, 1, none⟩ (.pointer (some ⟨p, 0, none⟩))) b0 B dg p V R := by
  have ho : Only [B] w (w.setCell ⟨B, 1, none⟩ (.pointer (some ⟨p, 0, none⟩))) := (Only.refl _ _).own 1 _
  have hk : KeepS (fun q => q = B) w (w.setCell ⟨B, 1, none⟩ (.pointer (some ⟨p, 0, none⟩))) := (KeepS.refl _ _).only ho (fun b hb => List.mem_singleton.1 hb)
  have hr := h.turn hk
  exact ⟨(h.blk.set_ 1 _).eq_ ((bcl_set V R h.lr h.nr).2.2.2.2.1 p), h.lr, h.nr, hr⟩
theorem Side.reopen (h : Side w0 B H G d L P1 V R wr) (k : PG (fun x => x ∈ G.fp ∨ wr.heap.size ≤ x) wr w' G' d' L' P') (hg : G'.dg = G.dg) : Side w0 B H G' d' L' P' V R (w'.setCell ⟨B, 1, none⟩ (.pointer (some ⟨G'.pg, 0, none⟩))) := by
  have hT : ∀ x, x < wr.heap.size → ¬ PFoot G P1 wr x → ¬ (x ∈ G.fp ∨ wr.heap.size ≤ x) := fun x h1 h2 h3 => by
    rcases h3 with h3 | h3
    · exact h2 (.inr (.inr (.inl h3)))
    · omega
  have hlow : w0.heap.size ≤ wr.heap.size := h.pg.log.bel.size
  have hP : PG (Up w0.heap.size) w0 w' G' d' L' P' := PG.over h.pg.log.bel (fun _ hk => hk) (fun x hx => by
    rcases hx with hx | hx
    · exact h.pg.log.low x hx
    · exact Nat.le_trans hlow hx) k
  have hR := h.ref.keep k.log.bel (fun q hq => hT q (h.ref.lt hq) (h.sep q hq))
  have hsep : ∀ q, RB B V q → ¬ PFoot G' P' w' q := fun q hq hp => hT q (h.ref.lt hq) (h.sep q hq) (k.pfoot q hp)
  have ho : Only [B] w' (w'.setCell ⟨B, 1, none⟩ (.pointer (some ⟨G'.pg, 0, none⟩))) := (Only.refl _ _).own 1 _
  refine ⟨hP.aside ho (fun b hb => by rw [List.mem_singleton.1 hb]; exact ⟨h.base, hsep B (.inl rfl)⟩), by rw [hg]; exact hR.setPg _, fun q hq => pfoot_stays ho.size (hR.lt hq) (hsep q hq), h.base, fun q x hx => ?_⟩
  obtain ⟨h1, h2, h3⟩ := h.kept q x hx
  have hlt : q < wr.heap.size := (Array.getElem?_eq_some_iff.1 h1).1
  have hlt' : q < w'.heap.size := Nat.lt_of_lt_of_le hlt k.log.bel.size
  refine ⟨(ho.block q hlt' (fun hm => h3 (.inl (List.mem_singleton.1 hm)))).trans ((k.log.bel.block q hlt (hT q hlt h2)).trans h1), pfoot_stays ho.size hlt' (fun hp => hT q hlt h2 (k.pfoot q hp)), h3⟩
set_option maxHeartbeats 2000000 in
theorem step9 (h : Bo w0 B dg pg g noH w) (hg : g ≤ 250) (a b : Int) : Calls Tryz.prog 19 #[.pointer (some ⟨B, 0, none⟩), .agg #[.int .i64 9, .int .i64 a, .int .i64 b]] w (StepP w0 B dg g) := by
  have h1 := h.push (.cells #[.int .i64 9, .int .i64 a, .int .i64 b] 62 (0, 0))
  have n0 : (w.alloc (.cells #[.int .i64 9, .int .i64 a, .int .i64 b] 62)).cell? ⟨w.heap.size, 0, none⟩ = some (.int .i64 9) := h1.mid.blk.cell 0
  have n1 : (w.alloc (.cells #[.int .i64 9, .int .i64 a, .int .i64 b] 62)).cell? ⟨w.heap.size, 1, none⟩ = some (.int .i64 a) := h1.mid.blk.cell 1
  have n2 : (w.alloc (.cells #[.int .i64 9, .int .i64 a, .int .i64 b] 62)).cell? ⟨w.heap.size, 2, none⟩ = some (.int .i64 b) := h1.mid.blk.cell 2
  have c0 := h1.mid.c0
  clear h
  obtain ⟨G, d, L, P, o, V, R, hS, hpg, rfl, hA⟩ := h1.ex
  have hS1 := hS.later (Below.refl _ _).drew
  have HCR := Lib.hid (hcrash hS1.pg.rebase hA.hi.inv.on hA.hi.q a b)
  have HS1 := Lib.hid hS1
  have HA := Lib.hid hA
  clear h1 hS hS1 hA hpg
  go_enter Tryz.func19, Tryz.ntmps19
  go_wp2_with fail
  go_region_held3 (fun w' => w'.cell? ⟨B, 0, none⟩ = some (.pointer (some ⟨G.dg, 0, none⟩)) ∧ w'.cell? ⟨w.heap.size, 1, none⟩ = some (.int .i64 a) ∧ w'.cell? ⟨w.heap.size, 2, none⟩ = some (.int .i64 b)) (first | exact ⟨c0, n1, n2⟩ | exact ⟨k0, k1, k2⟩ | go_keep) (((with_reducible refine HCR.out.mono ?_); rintro e w3 ⟨rfl, G3, e31, e32, hP3⟩; have hm3 := (HS1.out.viaPg hP3 e31 e32).mid; have k0 := hm3.c0; rw [e32] at k0; have k1 : w3.cell? ⟨w.heap.size, 1, none⟩ = some (.int .i64 a) := hm3.blk.cell 1; have k2 : w3.cell? ⟨w.heap.size, 2, none⟩ = some (.int .i64 b) := hm3.blk.cell 2; clear hm3))
  all_goals
    have hS3 := HS1.out.viaPg hP3 e31 e32
    have hre := hrestore hS3.pg.rebase HA.out.hi.inv.on
    have c0 := hS3.mid.c0
    rw [e32] at hre c0
    have HRE := Lib.hid hre
    have HS3 := Lib.hid hS3
    have HE3 := Lib.hid e32
    clear hS3 hre hP3 n0 n1 n2 e31 e32 k0 k1 k2
    go_wp2_with fail
    (with_reducible refine HRE.out.mono ?_)
    rintro e w4 ⟨rfl, G4, e41, e42, hP4⟩
    have e4 : G4.dg = G.dg := e42
    have hS4 := HS3.out.viaPg hP4 e41 (e42.trans HE3.out.symm)
    have hop := hopen hS4.pg HA.out.hi (HA.out.wlt hg)
    have hn40 : ((P.n : Nat) : Int) = 40 := by rw [HA.out.n]; rfl
    have c0 := hS4.mid.c0
    rw [e4] at hop c0
    rw [hn40] at hop
    have HOP := Lib.hid hop
    have HS4 := Lib.hid hS4
    have HE4 := Lib.hid e4
    clear hS4 hop hP4 e41 e42 e4 hn40
    go_wp2_with fail
    (with_reducible refine HOP.out.mono ?_)
    rintro e w5 ⟨G5, d5, L5, rfl, e5, hP5, hI5, hg5, hr5⟩
    have hS5 := HS4.out.reopen hP5 (e5.trans HE4.out.symm)
    obtain ⟨hc1, hf1⟩ := HS4.out.ref.cell_of hP5.log.bel (fun hm => by
      rcases hm with hm | hm
      · exact HS4.out.sep B (.inl rfl) (.inr (.inr (.inl hm)))
      · have := HS4.out.ref.blk.lt; omega) 1
    have c1 := hc1.trans HS4.out.ref.cells.c1
    have HS5 := Lib.hid hS5
    have HE5 := Lib.hid e5
    have HI5 := Lib.hid hI5
    have HG5 := Lib.hid hg5
    have HR5 := Lib.hid hr5
    have c23 := hS5.ref.cells.c23
    have f23 := hS5.ref.cells.fz 23
    obtain ⟨W5, hW5⟩ : ∃ W5, w5.setCell ⟨B, 1, none⟩ (.pointer (some ⟨G5.pg, 0, none⟩)) = W5 := ⟨_, rfl⟩
    have HW5 := Lib.hid hW5
    rw [hW5] at HS5 c23 f23
    have hS6 := HS5.out.viaRef (R' := { R with busy := false }) ⟨V, HS5.out.ref.setBusy false, keep_one 23 _, fun q hq => .inl hq⟩
    obtain ⟨V6, hS6⟩ := hS6
    have HEN := Lib.hid (rend_closed hS6.ref rfl false)
    have hsm := HA.out.small
    have HBG := Lib.hid (rbegin_free hS6.ref rfl hS6.low (by show R.left.page.length ≤ 1000; omega) (by show R.left.data.length ≤ 1000; omega))
    have HS6 := Lib.hid hS6
    clear hS5 hS6 hP5 e5 hI5 hg5 hr5 hc1 hsm c0
    go_upto_region 47 with fail
    (try rw [HW5.out])
    clear c1 hf1 hW5
    go_wp2_with fail
    (with_reducible refine HEN.out.mono ?_)
    rintro e w7 ⟨rfl, rfl⟩
    go_wp2_with fail
    (with_reducible refine HBG.out.mono ?_)
    rintro e w8 ⟨rfl, hp8⟩
    obtain ⟨V8, hS8⟩ := HS6.out.viaRef hp8
    have hsm := HA.out.small
    have HAB := Lib.hid (rend_abort hS8.ref rfl hS8.low (by show R.left.page.length ≤ 1000; omega) (by show R.left.data.length ≤ 1000; omega))
    have HS8 := Lib.hid hS8
    clear hp8 hS8 hsm
    go_wp2_with fail
    (with_reducible refine HAB.out.mono ?_)
    rintro e w9 ⟨rfl, hp9⟩
    obtain ⟨V9, hS9⟩ := HS8.out.viaRef hp9
    have H9 : Hid (Bo w0 B G.dg G5.pg (g + 1) (oneH w.heap.size (.cells #[.int .i64 9, .int .i64 a, .int .i64 b] 62 (0, 0))) w9) := Lib.hid ⟨G5, d5, L5, openedP P.n P.pages P.sz P.roots, none, V9, _, hS9, rfl, HE5.out, rfl, HA.out.n, HI5.out, fun t ht => (by cases ht), HA.out.left, HA.out.left, rfl, by have := HG5.out; have := HA.out.gen; omega, by have := HR5.out.wr; have := HA.out.wr; omega, Nat.le_succ_of_le HA.out.out, HA.out.in_⟩
    clear hp9 hS9
    go_wp2_with fail
    go_ret
    exact StepP.of H9.out
set_option maxHeartbeats 1000000 in
theorem step6y (h : Bo w0 B dg pg g noH w) (hg : g ≤ 250) (a b : Int) (ha : (Lit.int .i64 a).wf = true) (hbw : (Lit.int .i64 b).wf = true) (h0 : b < 0) : Calls Tryz.prog 19 #[.pointer (some ⟨B, 0, none⟩), .agg #[.int .i64 6, .int .i64 a, .int .i64 b]] w (StepP w0 B dg g) := by
  have h1 := h.push (.cells #[.int .i64 6, .int .i64 a, .int .i64 b] 62 (0, 0))
  have n0 : (w.alloc (.cells #[.int .i64 6, .int .i64 a, .int .i64 b] 62)).cell? ⟨w.heap.size, 0, none⟩ = some (.int .i64 6) := h1.mid.blk.cell 0
  have n1 : (w.alloc (.cells #[.int .i64 6, .int .i64 a, .int .i64 b] 62)).cell? ⟨w.heap.size, 1, none⟩ = some (.int .i64 a) := h1.mid.blk.cell 1
  have HPG := Lib.hid (bo_page h1 hg a ha)
  have H1 := Lib.hid h1
  obtain ⟨hb1, hb2⟩ := wf_lo hbw
  clear h h1 hbw
  go_enter Tryz.func19, Tryz.ntmps19
  go_wp2_with fail
  (with_reducible refine HPG.out.mono ?_)
  rintro e w2 ⟨k, rfl, hk, hb2'⟩
  have h2 := H1.out.later hb2'
  have m2 : w2.cell? ⟨w.heap.size, 2, none⟩ = some (.int .i64 b) := h2.mid.blk.cell 2
  have HRW := Lib.hid (row12_any b w2)
  have HK := Lib.hid hk
  have H2 := Lib.hid h2
  clear hk hb2' h2 n0 n1
  go_wp2_with fail
  (with_reducible refine HRW.out.mono ?_)
  rintro e w3 ⟨s, rfl, hs, hb3⟩
  have h3 := H2.out.later hb3
  have c1 := h3.mid.c1
  have p2 : w3.cell? ⟨w.heap.size, 2, none⟩ = some (.int .i64 b) := h3.mid.blk.cell 2
  obtain ⟨m, hm⟩ : ∃ m : Nat, min (-(b + 1)) 255 = (m : Int) := ⟨(min (-(b + 1)) 255).toNat, by omega⟩
  have hm1 : m ≤ 255 := by omega
  have hm2 : (m : Int) ≤ (s.size : Int) := by omega
  have hm0 : (0 : Int) ≤ (m : Int) := by omega
  have H3 := Lib.hid (h3.later (Below.refl _ _).drew)
  have HP := Lib.hid (bo_write H3.out k (s.extract 0 m) HK.out (by simp; omega))
  clear hb3 h3 m2
  go_wp2_with fail
  go_region_held3 (fun w' => w'.cell? ⟨B, 1, none⟩ = some (.pointer (some ⟨pg, 0, none⟩))) (first | exact c1 | exact k1 | exact l1 | go_keep)
    ((first
      | ((with_reducible refine HP.out.mono ?_); rintro e w4 ⟨c, rfl, hm, hn⟩; have k1 := hm.c1; have HN := Lib.hid (hn w4 (Below.refl _ _)); clear hm hn)
      | ((with_reducible refine HN.out.mono ?_); rintro e w5 ⟨rfl, h4⟩; have l1 := h4.mid.c1; have H4 := Lib.hid h4; clear h4)))
  all_goals
    clear c1 k1 l1
    go_wp2_with fail
    go_ret
    exact StepP.of H4.out
set_option maxHeartbeats 1000000 in
theorem step6n (h : Bo w0 B dg pg g noH w) (hg : g ≤ 250) (a b : Int) (ha : (Lit.int .i64 a).wf = true) (hbw : (Lit.int .i64 b).wf = true) (h0 : ¬ b < 0) : Calls Tryz.prog 19 #[.pointer (some ⟨B, 0, none⟩), .agg #[.int .i64 6, .int .i64 a, .int .i64 b]] w (StepP w0 B dg g) := by
  have h1 := h.push (.cells #[.int .i64 6, .int .i64 a, .int .i64 b] 62 (0, 0))
  have n0 : (w.alloc (.cells #[.int .i64 6, .int .i64 a, .int .i64 b] 62)).cell? ⟨w.heap.size, 0, none⟩ = some (.int .i64 6) := h1.mid.blk.cell 0
  have n1 : (w.alloc (.cells #[.int .i64 6, .int .i64 a, .int .i64 b] 62)).cell? ⟨w.heap.size, 1, none⟩ = some (.int .i64 a) := h1.mid.blk.cell 1
  have HPG := Lib.hid (bo_page h1 hg a ha)
  have H1 := Lib.hid h1
  obtain ⟨hb1, hb2⟩ := wf_lo hbw
  clear h h1 hbw
  go_enter Tryz.func19, Tryz.ntmps19
  go_wp2_with fail
  (with_reducible refine HPG.out.mono ?_)
  rintro e w2 ⟨k, rfl, hk, hb2'⟩
  have h2 := H1.out.later hb2'
  have m2 : w2.cell? ⟨w.heap.size, 2, none⟩ = some (.int .i64 b) := h2.mid.blk.cell 2
  have HRW := Lib.hid (row12_any b w2)
  have HK := Lib.hid hk
  have H2 := Lib.hid h2
  clear hk hb2' h2 n0 n1
  go_wp2_with fail
  (with_reducible refine HRW.out.mono ?_)
  rintro e w3 ⟨s, rfl, hs, hb3⟩
  have h3 := H2.out.later hb3
  have c1 := h3.mid.c1
  have p2 : w3.cell? ⟨w.heap.size, 2, none⟩ = some (.int .i64 b) := h3.mid.blk.cell 2
  have H3 := Lib.hid (h3.later (Below.refl _ _).drew)
  have HP := Lib.hid (bo_write H3.out k s HK.out (by omega))
  clear hb3 h3 m2
  go_wp2_with fail
  go_region_held3 (fun w' => w'.cell? ⟨B, 1, none⟩ = some (.pointer (some ⟨pg, 0, none⟩))) (first | exact c1 | exact k1 | exact l1 | go_keep)
    ((first
      | ((with_reducible refine HP.out.mono ?_); rintro e w4 ⟨c, rfl, hm, hn⟩; have k1 := hm.c1; have HN := Lib.hid (hn w4 (Below.refl _ _)); clear hm hn)
      | ((with_reducible refine HN.out.mono ?_); rintro e w5 ⟨rfl, h4⟩; have l1 := h4.mid.c1; have H4 := Lib.hid h4; clear h4)))
  all_goals
    clear c1 k1 l1
    go_wp2_with fail
    go_ret
    exact StepP.of H4.out
theorem step6 (h : Bo w0 B dg pg g noH w) (hg : g ≤ 250) (a b : Int) (ha : (Lit.int .i64 a).wf = true) (hbw : (Lit.int .i64 b).wf = true) : Calls Tryz.prog 19 #[.pointer (some ⟨B, 0, none⟩), .agg #[.int .i64 6, .int .i64 a, .int .i64 b]] w (StepP w0 B dg g) := by
  by_cases h0 : b < 0
  · exact step6y h hg a b ha hbw h0
  · exact step6n h hg a b ha hbw h0
theorem step0 (h : Bo w0 B dg pg g noH w) (k a b : Int) (h1 : (k == 1) = false) (h2 : (k == 2) = false) (h3 : (k == 3) = false) (h4 : (k == 4) = false) (h5 : (k == 5) = false) (h6 : (k == 6) = false) (h7 : (k == 7) = false) (h8 : (k == 8) = false) (h9 : (k == 9) = false) :
    Calls Tryz.prog 19 #[.pointer (some ⟨B, 0, none⟩), .agg #[.int .i64 k, .int .i64 a, .int .i64 b]] w (StepP w0 B dg g) := by
  have hh := h.push (.cells #[.int .i64 k, .int .i64 a, .int .i64 b] 62 (0, 0))
  have n0 : (w.alloc (.cells #[.int .i64 k, .int .i64 a, .int .i64 b] 62)).cell? ⟨w.heap.size, 0, none⟩ = some (.int .i64 k) := hh.mid.blk.cell 0
  have HB := Lib.hid (hh.more (Nat.le_succ g))
  clear h hh
  go_enter Tryz.func19, Tryz.ntmps19
  go_wp2_with fail
  go_ret
  exact StepP.of HB.out
end
end Go.Proofs.YtoleojljpaglhaaGreat
