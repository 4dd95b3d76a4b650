/- The contracts of Abort, Root, SetRoot, Free, Write, Alloc. -/
import Derived.Test.YtoleojljpaglhaaGreatPaL
import Derived.Test.YtoleojljpaglhaaGreatPbU
namespace Go.Proofs.YtoleojljpaglhaaGreat
open Go.RowKit
set_option maxRecDepth 20000
section
variable {S : Nat → Prop} {w0 w w' : World} {G : PH} {d d' : Vd.VD} {L L' : Wa.WL} {P : PP} {t : PT}
theorem PG.txCells (h : PG S w0 w G d L P) (ht : P.tx = some t) : w.cell? ⟨G.pg, 12, none⟩ = some (.pointer (some ⟨G.T, 0, none⟩)) ∧ w.cell? ⟨G.T, 0, none⟩ = some (.map (some G.MT)) ∧ w.cell? ⟨G.pg, 13, none⟩ = some (.map (some G.MD)) := by
  have h1 := h.cells.ct
  have h2 := h.cells.cd
  have h3 := h.tx t ht
  rw [ht] at h1
  rw [h3.dv] at h2
  exact ⟨h1, scell0 h3.blk, h2⟩
theorem PG.txMap (h : PG S w0 w G d L P) (ht : P.tx = some t) {f : Int → Option ByteArray} {sz : Nat} (ho : Only [G.MT] w w') (hm : PMap w' G.MT f sz) : PG S w0 w' G d L { P with tx := some { t with pages := f, sz := sz } } := by
  have k := h.tx t ht
  have hne : P.tx ≠ none := by rw [ht]; simp
  refine ⟨h.log.aside ho (fun b hb => ?_), ?_, h.len, fun hu => (h.pm hu).only ho (by simpa using k.ne1.symm), fun t' hx => ?_, ownsRow_only h.row ho (fun q hq hm' => ?_), fun b hb => ?_⟩
  · rw [List.mem_singleton] at hb
    exact h.own b (.inr (.inr (.inl ⟨hne, .inr (.inl hb)⟩)))
  · have e : txv G (some { t with pages := f, sz := sz }) = txv G P.tx := by rw [ht]; rfl
    show Blk w' G.pg _ (pcells G.dg G.lg P.n (mapv G P.up) P.roots (txv G (some { t with pages := f, sz := sz })) G.dv G.tv)
    rw [e]
    exact h.blk.only ho (by have := k.pm.ne_blk h.blk; simpa using this.symm)
  · have hx' : ({ t with pages := f, sz := sz } : PT) = t' := by
      have : some ({ t with pages := f, sz := sz } : PT) = some t' := hx
      injection this
    subst hx'
    exact ⟨k.blk.only ho (by have := k.pm.ne_blk k.blk; simpa using this.symm), k.len, hm, k.sm.only ho (by simpa using k.ne3), k.dv, k.ne1, k.ne2, k.ne3⟩
  · rw [List.mem_singleton] at hm'
    exact row_ne_map h.row k.pm.isMap q hq hm'
  · refine h.own b ?_
    rcases hb with hb | hb | ⟨_, hb⟩ | hb
    · exact .inl hb
    · exact .inr (.inl hb)
    · exact .inr (.inr (.inl ⟨hne, hb⟩))
    · exact .inr (.inr (.inr hb))
theorem PG.txDirty (h : PG S w0 w G d L P) (ht : P.tx = some t) {g : Int → Bool} {dz : Nat} (ho : Only [G.MD] w w') (hm : SMap w' G.MD g dz) : PG S w0 w' G d L { P with tx := some { t with dirty := g, dz := dz } } := by
  have k := h.tx t ht
  have hne : P.tx ≠ none := by rw [ht]; simp
  refine ⟨h.log.aside ho (fun b hb => ?_), ?_, h.len, fun hu => (h.pm hu).only ho (by simpa using k.ne2.symm), fun t' hx => ?_, ownsRow_only h.row ho (fun q hq hm' => ?_), fun b hb => ?_⟩
  · rw [List.mem_singleton] at hb
    exact h.own b (.inr (.inr (.inl ⟨hne, .inr (.inr hb)⟩)))
  · have e : txv G (some { t with dirty := g, dz := dz }) = txv G P.tx := by rw [ht]; rfl
    show Blk w' G.pg _ (pcells G.dg G.lg P.n (mapv G P.up) P.roots (txv G (some { t with dirty := g, dz := dz })) G.dv G.tv)
    rw [e]
    exact h.blk.only ho (by have := k.sm.ne_blk h.blk; simpa using this.symm)
  · have hx' : ({ t with dirty := g, dz := dz } : PT) = t' := by
      have : some ({ t with dirty := g, dz := dz } : PT) = some t' := hx
      injection this
    subst hx'
    exact ⟨k.blk.only ho (by have := k.sm.ne_blk k.blk; simpa using this.symm), k.len, k.pm.only ho (by simpa using k.ne3.symm), hm, k.dv, k.ne1, k.ne2, k.ne3⟩
  · rw [List.mem_singleton] at hm'
    exact row_ne_map h.row k.sm.isMap q hq hm'
  · refine h.own b ?_
    rcases hb with hb | hb | ⟨_, hb⟩ | hb
    · exact .inl hb
    · exact .inr (.inl hb)
    · exact .inr (.inr (.inl ⟨hne, hb⟩))
    · exact .inr (.inr (.inr hb))
theorem scells_set (M : Nat) (r : List Int) (h : r.length = 8) (i : Nat) (hi : i < 8) (v : Int) : (scells M r).setIfInBounds (1 + i) (.int .i64 v) = scells M (r.set i v) := by
  obtain ⟨a0, a1, a2, a3, a4, a5, a6, a7, rfl⟩ := len8 h
  match i, hi with
  | 0, _ | 1, _ | 2, _ | 3, _ | 4, _ | 5, _ | 6, _ | 7, _ => rfl
theorem PG.txRoot (h : PG S w0 w G d L P) (ht : P.tx = some t) (i : Nat) (hi : i < 8) (v : Int) : PG S w0 (w.setCell ⟨G.T, 1 + i, none⟩ (.int .i64 v)) G d L { P with tx := some (rootT t i v) } := by
  have k := h.tx t ht
  have hne : P.tx ≠ none := by rw [ht]; simp
  have ho : Only [G.T] w (w.setCell ⟨G.T, 1 + i, none⟩ (.int .i64 v)) := (Only.refl [G.T] w).setCell (.inl (by simp)) _
  refine ⟨h.log.aside ho (fun b hb => ?_), ?_, h.len, fun hu => (h.pm hu).only ho (by have := (h.pm hu).ne_blk k.blk; simpa using this), fun t' hx => ?_, ownsRow_only h.row ho (fun q hq hm' => ?_), fun b hb => ?_⟩
  · rw [List.mem_singleton] at hb
    exact h.own b (.inr (.inr (.inl ⟨hne, .inl hb⟩)))
  · have e : txv G (some (rootT t i v)) = txv G P.tx := by rw [ht]; rfl
    show Blk _ G.pg _ (pcells G.dg G.lg P.n (mapv G P.up) P.roots (txv G (some (rootT t i v))) G.dv G.tv)
    rw [e]
    exact h.blk.only ho (by have := k.blk.ne_type h.blk (by decide); simpa using this.symm)
  · have hx' : rootT t i v = t' := by
      have : some (rootT t i v) = some t' := hx
      injection this
    subst hx'
    refine ⟨?_, by show (t.roots.set i v).length = 8; rw [List.length_set]; exact k.len, k.pm.only ho (by have := k.pm.ne_blk k.blk; simpa using this), k.sm.only ho (by have := k.sm.ne_blk k.blk; simpa using this), k.dv, k.ne1, k.ne2, k.ne3⟩
    have := k.blk.set_ (1 + i) (.int .i64 v)
    rwa [scells_set _ _ k.len i hi] at this
  · rw [List.mem_singleton] at hm'
    subst hm'
    exact own_ne_blk h.row k.blk (by decide) hq
  · refine h.own b ?_
    rcases hb with hb | hb | ⟨_, hb⟩ | hb
    · exact .inl hb
    · exact .inr (.inl hb)
    · exact .inr (.inr (.inl ⟨hne, hb⟩))
    · exact .inr (.inr (.inr hb))
/-- the transaction is gone -/
theorem PG.txEnd (h : PG S w0 w G d L P) : PG S w0 (w.setCell ⟨G.pg, 12, none⟩ (.pointer none)) G d L { P with tx := none } := by
  obtain ⟨k, kb⟩ := h.poke 12 (.pointer none)
  refine ⟨k.log, kb _ (pcells_set _ _ _ _ _ _ _ _ _ h.len).2.1, h.len, fun hu => k.pm _ _ _ (h.pm hu), (fun t hx => by cases hx), k.row, fun b hb => ?_⟩
  refine h.own b ?_
  rcases hb with hb | hb | ⟨hb, _⟩ | hb
  · exact .inl hb
  · exact .inr (.inl hb)
  · exact absurd rfl hb
  · exact .inr (.inr (.inr hb))
set_option maxRecDepth 20000 in
theorem pabort_any (h : PG S w0 w G d L P) : Calls Tryz.prog 52 #[.pointer (some ⟨G.pg, 0, none⟩)] w fun e w' => e = .returned (.int .i64 (openE P)) ∧ PG S w0 w' G d L { P with tx := none } := by
  have H := Lib.hid (popen_any h)
  have HP := Lib.hid h
  have ct := h.cells.ct
  have fz := h.cells.fz 12
  have HE := Lib.hid h.txEnd
  clear h
  cases ht : P.tx with
  | none =>
    have e : openE P = 90 := by unfold openE; rw [ht]
    rw [e] at H ⊢
    have hp : { P with tx := none } = P := by rw [← ht]
    rw [hp]
    clear HE ct e hp
    go_enter Tryz.func52, Tryz.ntmps52
    go_wp2_with fail
    (with_reducible refine H.out.mono ?_)
    rintro e w1 ⟨rfl, rfl⟩
    go_wp2_with fail
    go_ret
    exact ⟨rfl, HP.out⟩
  | some t =>
    have e : openE P = 0 := by unfold openE; rw [ht]
    rw [e] at H ⊢
    clear e
    go_enter Tryz.func52, Tryz.ntmps52
    go_wp2_with fail
    (with_reducible refine H.out.mono ?_)
    rintro e w1 ⟨rfl, rfl⟩
    go_wp2_with fail
    go_ret
    exact ⟨rfl, HE.out⟩
/-- the roots that are seen -/
def PP.seenRoots (P : PP) : List Int := match P.tx with | none => P.roots | some t => t.roots
theorem PG.seenRoot (h : PG S w0 w G d L P) (i : Nat) (hi : i < 8) : w.cell? ⟨(nowA G P).block, (nowA G P).off + 1 + i, none⟩ = some (.int .i64 (P.seenRoots.getD i 0)) := by
  unfold PP.seenRoots nowA
  cases ht : P.tx with
  | none =>
    have := h.root i hi
    show w.cell? ⟨G.pg, 3 + 1 + i, none⟩ = _
    exact this
  | some t =>
    have k := h.tx t ht
    obtain ⟨a0, a1, a2, a3, a4, a5, a6, a7, e⟩ := len8 k.len
    have hb := k.blk
    show w.cell? ⟨G.T, 0 + 1 + i, none⟩ = some (.int .i64 (t.roots.getD i 0))
    rw [e] at hb ⊢
    have := hb.cell (0 + 1 + i)
    rw [this]
    match i, hi with
    | 0, _ | 1, _ | 2, _ | 3, _ | 4, _ | 5, _ | 6, _ | 7, _ => rfl
def prootV (P : PP) (i : Int) : Value := if 0 ≤ i ∧ i < 8 then .tuple #[.int .i64 (P.seenRoots.getD i.toNat 0), .int .i64 0] else .tuple #[.int .i64 0, .int .i64 3]
set_option maxRecDepth 20000 in
theorem proot_any (h : PG S w0 w G d L P) (i : Int) : Calls Tryz.prog 28 #[.pointer (some ⟨G.pg, 0, none⟩), .int .i64 i] w fun e w' => e = .returned (prootV P i) ∧ w = w' := by
  have H := Lib.hid (pnone_any h)
  have HN := now_any h
  obtain ⟨g, o, he⟩ := nowA_off G P
  have hroot := h.seenRoot
  rw [he] at HN hroot
  have HN := Lib.hid HN
  unfold prootV
  by_cases h1 : 0 ≤ i ∧ i < 8
  · rw [if_pos h1]
    obtain ⟨h2, h3⟩ := h1
    obtain ⟨k, rfl⟩ : ∃ k : Nat, i = k := ⟨i.toNat, by omega⟩
    have hc := hroot k (by omega)
    simp only at hc
    rw [Int.toNat_natCast]
    obtain ⟨v, hv⟩ : ∃ v, P.seenRoots.getD k 0 = v := ⟨_, rfl⟩
    rw [hv] at hc ⊢
    clear h he hroot hv
    go_enter Tryz.func28, Tryz.ntmps28
    go_wp2_with fail
    (with_reducible refine H.out.mono ?_)
    rintro e w1 ⟨rfl, rfl⟩
    go_wp2_with fail
    (with_reducible refine HN.out.mono ?_)
    rintro e w1 ⟨rfl, rfl⟩
    go_wp2_with fail
    go_ret2
    exact ⟨rfl, rfl⟩
  · rw [if_neg h1]
    clear h he hroot HN
    by_cases h2 : i < 0
    · clear h1
      go_enter Tryz.func28, Tryz.ntmps28
      go_wp2_with fail
      (with_reducible refine H.out.mono ?_)
      rintro e w1 ⟨rfl, rfl⟩
      go_wp2_with fail
      go_ret2
      exact ⟨rfl, rfl⟩
    · have h3 : 8 ≤ i := by omega
      have h4 : 0 ≤ i := by omega
      clear h1
      go_enter Tryz.func28, Tryz.ntmps28
      go_wp2_with fail
      (with_reducible refine H.out.mono ?_)
      rintro e w1 ⟨rfl, rfl⟩
      go_wp2_with fail
      go_ret2
      exact ⟨rfl, rfl⟩
/-- a transaction's state is another -/
def PP.with_ (P : PP) (t : PT) : PP := { P with tx := some t }
/-- what Free tells -/
def freeE (P : PP) (k : Int) : Int := match P.tx with | none => 90 | some t => if (t.pages k).isSome = true then 0 else 91
def freeP (P : PP) (k : Int) : PP := match P.tx with | none => P | some t => if (t.pages k).isSome = true then P.with_ (freeT t k) else P
set_option maxRecDepth 20000 in
theorem pfree_any (h : PG S w0 w G d L P) (k : Int) (hk : (Lit.int .i64 k).wf = true) : Calls Tryz.prog 57 #[.pointer (some ⟨G.pg, 0, none⟩), .int .i64 k] w fun e w' => e = .returned (.int .i64 (freeE P k)) ∧ PG S w0 w' G d L (freeP P k) := by
  have H := Lib.hid (popen_any h)
  have HP := Lib.hid h
  cases ht : P.tx with
  | none =>
    have e : openE P = 90 := by unfold openE; rw [ht]
    rw [e] at H
    have e2 : freeE P k = 90 := by unfold freeE; rw [ht]
    have e3 : freeP P k = P := by unfold freeP; rw [ht]
    rw [e2, e3]
    clear h e e2 e3
    go_enter Tryz.func57, Tryz.ntmps57
    go_wp2_with fail
    (with_reducible refine H.out.mono ?_)
    rintro e w1 ⟨rfl, rfl⟩
    go_wp2_with fail
    go_ret
    exact ⟨rfl, HP.out⟩
  | some t =>
    have e : openE P = 0 := by unfold openE; rw [ht]
    rw [e] at H
    obtain ⟨c1, c2, c3⟩ := h.txCells ht
    have hl := (h.tx t ht).pm.look k hk
    cases hs : t.pages k with
    | none =>
      rw [hs] at hl
      simp only [Option.getD_none, Option.isSome_none] at hl
      have e2 : freeE P k = 91 := by unfold freeE; rw [ht]; simp only; rw [hs]; rfl
      have e3 : freeP P k = P := by unfold freeP; rw [ht]; simp only; rw [hs]; rfl
      rw [e2, e3]
      clear h e e2 e3 hs
      go_enter Tryz.func57, Tryz.ntmps57
      go_wp2_with fail
      (with_reducible refine H.out.mono ?_)
      rintro e w1 ⟨rfl, rfl⟩
      go_wp2_with fail
      go_ret
      exact ⟨rfl, HP.out⟩
    | some b =>
      rw [hs] at hl
      simp only [Option.getD_some, Option.isSome_some] at hl
      have e2 : freeE P k = 0 := by unfold freeE; rw [ht]; simp only; rw [hs]; rfl
      have e3 : freeP P k = P.with_ (freeT t k) := by unfold freeP; rw [ht]; simp only; rw [hs]; rfl
      rw [e2, e3]
      obtain ⟨w6, hrun, hm, hT⟩ := (h.tx t ht).pm.drop k hk 0
      have HF : Hid (PG S w0 w6 G d L (P.with_ (freeT t k))) := Lib.hid (h.txMap ht (turned_only hT) hm)
      clear h e e2 e3 hs hm hT
      go_enter Tryz.func57, Tryz.ntmps57
      go_wp2_with fail
      (with_reducible refine H.out.mono ?_)
      rintro e w1 ⟨rfl, rfl⟩
      go_wp2_with fail
      go_ret
      exact ⟨rfl, HF.out⟩
end
end Go.Proofs.YtoleojljpaglhaaGreat
/- The contracts of SetRoot, Write, Alloc. -/
namespace Go.Proofs.YtoleojljpaglhaaGreat
open Go.RowKit
section
variable {S : Nat → Prop} {w0 w w' : World} {G : PH} {d d' : Vd.VD} {L L' : Wa.WL} {P : PP} {t : PT}
/-- what SetRoot tells, and makes -/
def setRootE (P : PP) (i v : Int) : Int := match P.tx with | none => 90 | some t => if i < 0 ∨ 8 ≤ i then 3 else if (t.pages v).isSome = true ∨ v = 0 then 0 else 91
def setRootP (P : PP) (i v : Int) : PP := match P.tx with | none => P | some t => if i < 0 ∨ 8 ≤ i then P else if (t.pages v).isSome = true ∨ v = 0 then P.with_ (rootT t i.toNat v) else P
theorem PG.txRootCell (h : PG S w0 w G d L P) (ht : P.tx = some t) (i : Nat) (hi : i < 8) : w.cell? ⟨G.T, 1 + i, none⟩ = some (.int .i64 (t.roots.getD i 0)) := by
  have := h.seenRoot i hi
  unfold PP.seenRoots nowA at this
  rw [ht] at this
  simp only at this
  rwa [Nat.zero_add] at this
set_option maxRecDepth 20000 in
set_option maxHeartbeats 1000000 in
theorem psetRoot_any (h : PG S w0 w G d L P) (i v : Int) (hv : (Lit.int .i64 v).wf = true) : Calls Tryz.prog 44 #[.pointer (some ⟨G.pg, 0, none⟩), .int .i64 i, .int .i64 v] w fun e w' => e = .returned (.int .i64 (setRootE P i v)) ∧ PG S w0 w' G d L (setRootP P i v) := by
  have H := Lib.hid (popen_any h)
  have HP := Lib.hid h
  cases ht : P.tx with
  | none =>
    have e : openE P = 90 := by unfold openE; rw [ht]
    rw [e] at H
    have e2 : setRootE P i v = 90 := by unfold setRootE; rw [ht]
    have e3 : setRootP P i v = P := by unfold setRootP; rw [ht]
    rw [e2, e3]
    clear h e e2 e3
    go_enter Tryz.func44, Tryz.ntmps44
    go_wp2_with fail
    (with_reducible refine H.out.mono ?_)
    rintro e w1 ⟨rfl, rfl⟩
    go_wp2_with fail
    go_ret
    exact ⟨rfl, HP.out⟩
  | some t =>
    have e : openE P = 0 := by unfold openE; rw [ht]
    rw [e] at H
    clear e
    by_cases h1 : i < 0
    · have e2 : setRootE P i v = 3 := by unfold setRootE; rw [ht]; simp only; rw [if_pos (.inl h1)]
      have e3 : setRootP P i v = P := by unfold setRootP; rw [ht]; simp only; rw [if_pos (.inl h1)]
      rw [e2, e3]
      clear h e2 e3
      go_enter Tryz.func44, Tryz.ntmps44
      go_wp2_with fail
      (with_reducible refine H.out.mono ?_)
      rintro e w1 ⟨rfl, rfl⟩
      go_wp2_with fail
      go_ret
      exact ⟨rfl, HP.out⟩
    · by_cases h2 : 8 ≤ i
      · have e2 : setRootE P i v = 3 := by unfold setRootE; rw [ht]; simp only; rw [if_pos (.inr h2)]
        have e3 : setRootP P i v = P := by unfold setRootP; rw [ht]; simp only; rw [if_pos (.inr h2)]
        rw [e2, e3]
        clear h e2 e3
        go_enter Tryz.func44, Tryz.ntmps44
        go_wp2_with fail
        (with_reducible refine H.out.mono ?_)
        rintro e w1 ⟨rfl, rfl⟩
        go_wp2_with fail
        go_ret
        exact ⟨rfl, HP.out⟩
      · have hno : ¬ (i < 0 ∨ 8 ≤ i) := by omega
        obtain ⟨k, rfl⟩ : ∃ k : Nat, i = k := ⟨i.toNat, by omega⟩
        have hk8 : k < 8 := by omega
        obtain ⟨c1, c2, c3⟩ := h.txCells ht
        have hrc := h.txRootCell ht k hk8
        have hl := (h.tx t ht).pm.look v hv
        have hfz := (h.tx t ht).blk.frozen (1 + k)
        have HR := Lib.hid (h.txRoot ht k hk8 v)
        obtain ⟨old, hold⟩ : ∃ old, t.roots.getD k 0 = old := ⟨_, rfl⟩
        rw [hold] at hrc
        have i1 : (0 : Int) ≤ (k : Int) := by omega
        have i2 : ((k : Int)) < 8 := by omega
        cases hs : t.pages v with
        | some b =>
          rw [hs] at hl
          simp only [Option.getD_some, Option.isSome_some] at hl
          have hyes : (t.pages v).isSome = true ∨ v = 0 := .inl (by rw [hs]; rfl)
          have e2 : setRootE P k v = 0 := by unfold setRootE; rw [ht]; simp only; rw [if_neg hno, if_pos hyes]
          have e3 : setRootP P k v = P.with_ (rootT t k v) := by unfold setRootP; rw [ht]; simp only; rw [if_neg hno, if_pos hyes, Int.toNat_natCast]
          rw [e2, e3]
          clear h e2 e3 hs hyes hold hno h1 h2 hk8
          go_enter Tryz.func44, Tryz.ntmps44
          go_wp2_with fail
          (with_reducible refine H.out.mono ?_)
          rintro e w1 ⟨rfl, rfl⟩
          go_wp2_with fail
          go_ret
          exact ⟨rfl, HR.out⟩
        | none =>
          rw [hs] at hl
          simp only [Option.getD_none, Option.isSome_none] at hl
          by_cases hv0 : v = 0
          · subst hv0
            have hyes : (t.pages 0).isSome = true ∨ (0 : Int) = 0 := .inr rfl
            have e2 : setRootE P k 0 = 0 := by unfold setRootE; rw [ht]; simp only; rw [if_neg hno, if_pos (.inr trivial)]
            have e3 : setRootP P k 0 = P.with_ (rootT t k 0) := by unfold setRootP; rw [ht]; simp only; rw [if_neg hno, if_pos (.inr trivial), Int.toNat_natCast]
            rw [e2, e3]
            clear h e2 e3 hs hyes hold hno h1 h2 hk8
            go_enter Tryz.func44, Tryz.ntmps44
            go_wp2_with fail
            (with_reducible refine H.out.mono ?_)
            rintro e w1 ⟨rfl, rfl⟩
            go_wp2_with fail
            go_ret
            exact ⟨rfl, HR.out⟩
          · have hyes : ¬ ((t.pages v).isSome = true ∨ v = 0) := by rw [hs]; simp [hv0]
            have e2 : setRootE P k v = 91 := by unfold setRootE; rw [ht]; simp only; rw [if_neg hno, if_neg hyes]
            have e3 : setRootP P k v = P := by unfold setRootP; rw [ht]; simp only; rw [if_neg hno, if_neg hyes]
            rw [e2, e3]
            have hvb : (v == 0) = false := by simpa using hv0
            clear h e2 e3 hs hyes hold hno h1 h2 hk8 HR hv0
            go_enter Tryz.func44, Tryz.ntmps44
            go_wp2_with fail
            (with_reducible refine H.out.mono ?_)
            rintro e w1 ⟨rfl, rfl⟩
            go_wp2_with fail
            go_ret
            exact ⟨rfl, HP.out⟩
/-- what Write tells, and makes -/
def writeE (P : PP) (k : Int) (s : ByteArray) : Int := match P.tx with | none => 90 | some t => if (t.pages k).isSome = true then (if s.size = 256 then 0 else 82) else 91
def writeP (P : PP) (k : Int) (s : ByteArray) : PP := match P.tx with | none => P | some t => if (t.pages k).isSome = true then (if s.size = 256 then P.with_ (writeT t k s) else P) else P
theorem PG.writeTx (h : PG S w0 w G d L P) (ht : P.tx = some t) (k : Int) (s : ByteArray) (hk : (Lit.int .i64 k).wf = true) (hs : s.size ≤ maxLen) (hz : t.sz < maxLen) (hd : t.dz < maxLen) :
    ∃ w6, (Instr.mapUpdate 74 (.map (some G.MT)) (.int .i64 k) (.string s)).run Tryz.prog w = .ok () w6 ∧ w6.cell? ⟨G.pg, 12, none⟩ = some (.pointer (some ⟨G.T, 0, none⟩)) ∧ w6.cell? ⟨G.T, 0, none⟩ = some (.map (some G.MT)) ∧ w6.cell? ⟨G.pg, 13, none⟩ = some (.map (some G.MD)) ∧
      ∃ w7, (Instr.mapUpdate 78 (.map (some G.MD)) (.int .i64 k) (.agg #[])).run Tryz.prog w6 = .ok () w7 ∧ PG S w0 w7 G d L (P.with_ (writeT t k s)) := by
  have kx := h.tx t ht
  obtain ⟨w6, hrun, hm, hT⟩ := kx.pm.store hz k s hk hs
  have h6 := h.txMap ht (turned_only hT) hm
  obtain ⟨c1, c2, c3⟩ := h6.txCells rfl
  have kx6 := h6.tx _ rfl
  obtain ⟨w7, hrun7, hm7, hT7⟩ := kx6.sm.store hd k hk
  have h7 := h6.txDirty rfl (turned_only hT7) hm7
  exact ⟨w6, hrun, c1, c2, c3, w7, hrun7, h7⟩
set_option maxRecDepth 20000 in
set_option maxHeartbeats 1000000 in
theorem pwrite_any (h : PG S w0 w G d L P) (k : Int) (s : ByteArray) (hk : (Lit.int .i64 k).wf = true) (hs : s.size ≤ 140737488351232) (hz : ∀ t, P.tx = some t → t.sz < maxLen ∧ t.dz < maxLen) : Calls Tryz.prog 60 #[.pointer (some ⟨G.pg, 0, none⟩), .int .i64 k, .string s] w fun e w' => e = .returned (.int .i64 (writeE P k s)) ∧ PG S w0 w' G d L (writeP P k s) := by
  have H := Lib.hid (popen_any h)
  have HP := Lib.hid h
  cases ht : P.tx with
  | none =>
    have e : openE P = 90 := by unfold openE; rw [ht]
    rw [e] at H
    have e2 : writeE P k s = 90 := by unfold writeE; rw [ht]
    have e3 : writeP P k s = P := by unfold writeP; rw [ht]
    rw [e2, e3]
    clear h e e2 e3
    go_enter Tryz.func60, Tryz.ntmps60
    go_wp2_with fail
    (with_reducible refine H.out.mono ?_)
    rintro e w1 ⟨rfl, rfl⟩
    go_wp2_with fail
    go_ret
    exact ⟨rfl, HP.out⟩
  | some t =>
    have e : openE P = 0 := by unfold openE; rw [ht]
    rw [e] at H
    clear e
    obtain ⟨c1, c2, c3⟩ := h.txCells ht
    have hl := (h.tx t ht).pm.look k hk
    cases hsk : t.pages k with
    | none =>
      rw [hsk] at hl
      simp only [Option.getD_none, Option.isSome_none] at hl
      have e2 : writeE P k s = 91 := by unfold writeE; rw [ht]; simp only; rw [hsk]; rfl
      have e3 : writeP P k s = P := by unfold writeP; rw [ht]; simp only; rw [hsk]; rfl
      rw [e2, e3]
      clear h e2 e3 hsk hz
      go_enter Tryz.func60, Tryz.ntmps60
      go_wp2_with fail
      (with_reducible refine H.out.mono ?_)
      rintro e w1 ⟨rfl, rfl⟩
      go_wp2_with fail
      go_ret
      exact ⟨rfl, HP.out⟩
    | some b =>
      rw [hsk] at hl
      simp only [Option.getD_some, Option.isSome_some] at hl
      by_cases h256 : s.size = 256
      · have e2 : writeE P k s = 0 := by unfold writeE; rw [ht]; simp only; rw [hsk]; exact (if_pos rfl).trans (if_pos h256)
        have e3 : writeP P k s = P.with_ (writeT t k s) := by unfold writeP; rw [ht]; simp only; rw [hsk]; exact (if_pos rfl).trans (if_pos h256)
        rw [e2, e3]
        have hcl : Calls Tryz.prog 101 #[.string s] w.drew fun e w' => e = .returned (.string s) ∧ w'.cell? ⟨G.pg, 12, none⟩ = some (.pointer (some ⟨G.T, 0, none⟩)) ∧ w'.cell? ⟨G.T, 0, none⟩ = some (.map (some G.MT)) ∧
            ∃ w6, (Instr.mapUpdate 74 (.map (some G.MT)) (.int .i64 k) (.string s)).run Tryz.prog w' = .ok () w6 ∧ w6.cell? ⟨G.pg, 12, none⟩ = some (.pointer (some ⟨G.T, 0, none⟩)) ∧ w6.cell? ⟨G.T, 0, none⟩ = some (.map (some G.MT)) ∧ w6.cell? ⟨G.pg, 13, none⟩ = some (.map (some G.MD)) ∧
            ∃ w7, (Instr.mapUpdate 78 (.map (some G.MD)) (.int .i64 k) (.agg #[])).run Tryz.prog w6 = .ok () w7 ∧ PG S w0 w7 G d L (P.with_ (writeT t k s)) := by
          refine (sclone_any s w.drew hs).mono ?_
          rintro e w5 ⟨he, hb5⟩
          have h5 := h.drew.later hb5
          obtain ⟨d1, d2, d3⟩ := h5.txCells ht
          exact ⟨he, d1, d2, h5.writeTx ht k s hk (by unfold maxLen; omega) (hz t ht).1 (hz t ht).2⟩
        have HC := Lib.hid hcl
        have c1' : w.drew.cell? ⟨G.pg, 12, none⟩ = some (.pointer (some ⟨G.T, 0, none⟩)) := c1
        have c2' : w.drew.cell? ⟨G.T, 0, none⟩ = some (.map (some G.MT)) := c2
        have i1 : (s.size : Int) = 256 := by omega
        clear h e2 e3 hsk hz hcl h256
        go_enter Tryz.func60, Tryz.ntmps60
        go_wp2_with fail
        (with_reducible refine H.out.mono ?_)
        rintro e w1 ⟨rfl, rfl⟩
        go_wp2_with fail
        go_region_held3 (fun w' => w'.cell? ⟨G.pg, 12, none⟩ = some (.pointer (some ⟨G.T, 0, none⟩)) ∧ w'.cell? ⟨G.T, 0, none⟩ = some (.map (some G.MT))) (first | exact ⟨d61, d62⟩ | exact ⟨d51, d52⟩ | exact ⟨c1', c2'⟩ | go_keep)
          (first | (go_at_call 101; ((with_reducible refine HC.out.mono ?_)); rintro e w5 ⟨rfl, d51, d52, w6, hrun6, d61, d62, d63, w7, hrun7, hP7⟩))
        have HP7 := Lib.hid hP7
        clear hP7 d51 d52 hrun6 c1' c2' c1 c2 c3 hl
        go_wp2_with fail
        go_ret
        exact ⟨rfl, HP7.out⟩
      · have e2 : writeE P k s = 82 := by unfold writeE; rw [ht]; simp only; rw [hsk]; exact (if_pos rfl).trans (if_neg h256)
        have e3 : writeP P k s = P := by unfold writeP; rw [ht]; simp only; rw [hsk]; exact (if_pos rfl).trans (if_neg h256)
        rw [e2, e3]
        obtain ⟨n, hn⟩ : ∃ n : Int, (s.size : Int) = n := ⟨_, rfl⟩
        have i1 : (n == 256) = false := by rw [beq_eq_false_iff_ne]; omega
        clear h e2 e3 hsk hz h256
        go_enter Tryz.func60, Tryz.ntmps60
        go_wp2_with fail
        (with_reducible refine H.out.mono ?_)
        rintro e w1 ⟨rfl, rfl⟩
        go_wp2_with fail
        go_ret
        exact ⟨rfl, HP.out⟩
/-- the first page that is not used, among j from the k-th on; 0: none -/
def freeAt (f : Int → Option ByteArray) : Nat → Nat → Nat
  | 0, _ => 0
  | j + 1, k => if (f (k : Int)).isSome = true then freeAt f j (k + 1) else k
theorem freeAt_succ (f : Int → Option ByteArray) (j k : Nat) : freeAt f (j + 1) k = if (f (k : Int)).isSome = true then freeAt f j (k + 1) else k := rfl
theorem freeAt_ge (f : Int → Option ByteArray) : ∀ j k, freeAt f j k ≠ 0 → k ≤ freeAt f j k ∧ freeAt f j k < k + j ∧ f (freeAt f j k : Nat) = none := by
  intro j
  induction j with
  | zero => intro k h; exact absurd rfl h
  | succ j ih =>
    intro k h
    unfold freeAt at h ⊢
    by_cases hs : (f (k : Int)).isSome = true
    · rw [if_pos hs] at h ⊢
      have := ih (k + 1) h
      exact ⟨by omega, by omega, this.2.2⟩
    · rw [if_neg hs]
      exact ⟨Nat.le_refl _, by omega, by simpa using hs⟩
theorem freeAt_zero (f : Int → Option ByteArray) : ∀ j k, 1 ≤ k → freeAt f j k = 0 → ∀ x : Nat, k ≤ x → x < k + j → (f (x : Int)).isSome = true := by
  intro j
  induction j with
  | zero => intro k _ _ x h1 h2; omega
  | succ j ih =>
    intro k hk h x h1 h2
    unfold freeAt at h
    by_cases hs : (f (k : Int)).isSome = true
    · rw [if_pos hs] at h
      by_cases hx : x = k
      · rw [hx]; exact hs
      · exact ih (k + 1) (by omega) h x (by omega) (by omega)
    · rw [if_neg hs] at h
      omega
/-- 256 zero bytes -/
def zeros : ByteArray := ⟨(List.replicate 256 0).toArray⟩
theorem zeros_size : zeros.size = 256 := List.size_toArray.trans (List.length_replicate)
/-- what Alloc tells, and makes -/
def allocE (P : PP) : Int × Int := match P.tx with | none => (0, 90) | some t => if freeAt t.pages (P.n - 8) 1 = 0 then (0, 83) else (freeAt t.pages (P.n - 8) 1, 0)
def allocP (P : PP) : PP := match P.tx with | none => P | some t => if freeAt t.pages (P.n - 8) 1 = 0 then P else P.with_ (writeT t (freeAt t.pages (P.n - 8) 1 : Nat) zeros)
theorem repeat0 (W : World) : Calls Tryz.prog 93 #[.string ⟨#[0]⟩, .int .i64 256] W fun e w' => e = .returned (.string zeros) ∧ Below W.heap.size W w' := by
  have h := strings_Repeat ⟨#[0]⟩ 256 W (by omega) (by show 1 * 256 ≤ _; omega)
  refine h.mono ?_
  rintro e w' ⟨he, hb⟩
  refine ⟨he.trans ?_, hb⟩
  show Ending.returned (.string ⟨(Lib.repeatL [0] 256).toArray⟩) = _
  rw [rep_one]
  rfl
set_option maxRecDepth 20000 in
set_option maxHeartbeats 2000000 in
theorem palloc_some (h : PG S w0 w G d L P) (hn : 8 ≤ P.n) (hn2 : P.n ≤ 5000) (ht : P.tx = some t) (hz : t.sz < maxLen ∧ t.dz < maxLen) : Calls Tryz.prog 45 #[.pointer (some ⟨G.pg, 0, none⟩)] w fun e w' => e = .returned (.tuple #[.int .i64 (allocE P).1, .int .i64 (allocE P).2]) ∧ PG S w0 w' G d L (allocP P) := by
  have H := popen_any h
  have e : openE P = 0 := by unfold openE; rw [ht]
  rw [e] at H
  have H := Lib.hid H
  have HP := Lib.hid h
  obtain ⟨E1, hE1⟩ : ∃ E1, (allocE P).1 = E1 := ⟨_, rfl⟩
  obtain ⟨E2, hE2⟩ : ∃ E2, (allocE P).2 = E2 := ⟨_, rfl⟩
  obtain ⟨Q, hQ⟩ : ∃ Q, allocP P = Q := ⟨_, rfl⟩
  rw [hE1, hE2, hQ]
  have HE1 := Lib.hid hE1
  have HE2 := Lib.hid hE2
  have HQ := Lib.hid hQ
  obtain ⟨c1, c2, c3⟩ := h.txCells ht
  have HM := Lib.hid (most_any h hn2)
  have hlk := fun k hk => (h.tx t ht).pm.look k hk
  have HLK := Lib.hid hlk
  have hrp : Calls Tryz.prog 93 #[.string ⟨#[0]⟩, .int .i64 256] w.drew fun e w' => e = .returned (.string zeros) ∧ w'.cell? ⟨G.pg, 12, none⟩ = some (.pointer (some ⟨G.T, 0, none⟩)) ∧ w'.cell? ⟨G.T, 0, none⟩ = some (.map (some G.MT)) ∧
      ∀ k : Int, (Lit.int .i64 k).wf = true → ∃ w6, (Instr.mapUpdate 74 (.map (some G.MT)) (.int .i64 k) (.string zeros)).run Tryz.prog w' = .ok () w6 ∧ w6.cell? ⟨G.pg, 12, none⟩ = some (.pointer (some ⟨G.T, 0, none⟩)) ∧ w6.cell? ⟨G.T, 0, none⟩ = some (.map (some G.MT)) ∧ w6.cell? ⟨G.pg, 13, none⟩ = some (.map (some G.MD)) ∧
      ∃ w7, (Instr.mapUpdate 78 (.map (some G.MD)) (.int .i64 k) (.agg #[])).run Tryz.prog w6 = .ok () w7 ∧ PG S w0 w7 G d L (P.with_ (writeT t k zeros)) := by
    refine (repeat0 w.drew).mono ?_
    rintro e w5 ⟨he, hb5⟩
    have h5 := h.drew.later hb5
    obtain ⟨d1, d2, d3⟩ := h5.txCells ht
    exact ⟨he, d1, d2, fun k hk => h5.writeTx ht k zeros hk (by rw [zeros_size]; unfold maxLen; omega) hz.1 hz.2⟩
  have HR := Lib.hid hrp
  have c1' : w.drew.cell? ⟨G.pg, 12, none⟩ = some (.pointer (some ⟨G.T, 0, none⟩)) := c1
  have c2' : w.drew.cell? ⟨G.T, 0, none⟩ = some (.map (some G.MT)) := c2
  have HN1 := Lib.hid hn
  have HN2 := Lib.hid hn2
  have i0 : (P.n : Int) ≤ 5000 := by omega
  clear h e hE1 hE2 hQ hlk hrp hn hn2
  go_enter Tryz.func45, Tryz.ntmps45
  go_wp2_with fail
  (with_reducible refine H.out.mono ?_)
  rintro e w1 ⟨rfl, rfl⟩
  go_wp2_with fail
  go_loopw [5] (fun i wr => ∃ q : Nat, q + 8 ≤ P.n ∧ i = .int .i64 ((q : Int) + 1) ∧ wr = w ∧ freeAt t.pages (P.n - 8) 1 = freeAt t.pages (P.n - 8 - q) (1 + q)) (fun i _ => P.n - (intOf i).toNat)
  case atStart => exact ⟨0, by have := HN1.out; omega, rfl, rfl, rfl⟩
  case round =>
    obtain ⟨q, hq, rfl, rfl, hf⟩ := hrel
    by_cases hlt : q + 8 < P.n
    · have i4 : (q : Int) + 1 ≤ (P.n : Int) - 8 := by omega
      have hwf : (Lit.int .i64 ((q : Int) + 1)).wf = true := wf64 (by omega) (by omega)
      have hl := HLK.out ((q : Int) + 1) hwf
      have hst : P.n - 8 - q = (P.n - 8 - (q + 1)) + 1 := by omega
      have ek : ((1 + q : Nat) : Int) = (q : Int) + 1 := by omega
      rw [hst, freeAt_succ, ek] at hf
      have HF := Lib.hid hf
      clear hf hst
      cases hs : t.pages ((q : Int) + 1) with
      | some b =>
        rw [hs] at hl
        simp only [Option.getD_some, Option.isSome_some] at hl
        have HS := Lib.hid hs
        clear hs hwf ek
        go_wp2_with fail
        (with_reducible refine HM.out.mono ?_)
        rintro e w5 ⟨rfl, rfl⟩
        go_wp2_with fail
        go_roundw
        case rel =>
          refine ⟨q + 1, by omega, by go_num, (by first | trivial | rfl), ?_⟩
          have := HF.out
          rw [HS.out] at this
          exact this.trans (if_pos rfl)
        case measure => simp [intOf]; omega
      | none =>
        rw [hs] at hl
        simp only [Option.getD_none, Option.isSome_none] at hl
        have hfa : freeAt t.pages (P.n - 8) 1 = 1 + q := by
          have := HF.out
          rw [hs] at this
          exact this.trans (if_neg (by simp))
        have HFA := Lib.hid hfa
        have HWF := Lib.hid hwf
        clear hs hwf hfa ek
        go_wp2_with fail
        (with_reducible refine HM.out.mono ?_)
        rintro e w5 ⟨rfl, rfl⟩
        go_wp2_with fail
        go_region_held3 (fun w' => w'.cell? ⟨G.pg, 12, none⟩ = some (.pointer (some ⟨G.T, 0, none⟩)) ∧ w'.cell? ⟨G.T, 0, none⟩ = some (.map (some G.MT))) (first | exact ⟨d61, d62⟩ | exact ⟨d51, d52⟩ | exact ⟨c1', c2'⟩ | go_keep)
          (first | (go_at_call 93; ((with_reducible refine HR.out.mono ?_)); rintro e w5 ⟨rfl, d51, d52, hall⟩; obtain ⟨w6, hrun6, d61, d62, d63, w7, hrun7, hP7⟩ := hall ((q : Int) + 1) HWF.out))
        have HP7 := Lib.hid hP7
        clear hP7 hall d51 d52 hrun6 c1' c2' c1 c2 c3 hl
        go_wp2_with fail
        go_ret2
        have e1 := HE1.out
        have e2 := HE2.out
        have e3 := HQ.out
        have hne : ¬ freeAt t.pages (P.n - 8) 1 = 0 := by rw [HFA.out]; omega
        have e4 : allocE P = (((freeAt t.pages (P.n - 8) 1 : Nat) : Int), 0) := by unfold allocE; rw [ht]; exact if_neg hne
        have e5 : allocP P = P.with_ (writeT t (freeAt t.pages (P.n - 8) 1 : Nat) zeros) := by unfold allocP; rw [ht]; exact if_neg hne
        rw [HFA.out, show ((1 + q : Nat) : Int) = (q : Int) + 1 by omega] at e4 e5
        rw [e4] at e1 e2
        rw [e5] at e3
        subst e1 e2 e3
        exact ⟨rfl, HP7.out⟩
    · have i4 : ¬ (q : Int) + 1 ≤ (P.n : Int) - 8 := by omega
      have hfa : freeAt t.pages (P.n - 8) 1 = 0 := by rw [hf, show P.n - 8 - q = 0 by omega]; rfl
      have HFA := Lib.hid hfa
      clear hf hfa
      go_wp2_with fail
      (with_reducible refine HM.out.mono ?_)
      rintro e w5 ⟨rfl, rfl⟩
      go_wp2_with fail
      go_ret2
      have e1 := HE1.out
      have e2 := HE2.out
      have e3 := HQ.out
      have e4 : allocE P = (0, 83) := by unfold allocE; rw [ht]; exact if_pos HFA.out
      have e5 : allocP P = P := by unfold allocP; rw [ht]; exact if_pos HFA.out
      rw [e4] at e1 e2
      rw [e5] at e3
      subst e1 e2 e3
      exact ⟨rfl, HP.out⟩
set_option maxRecDepth 20000 in
theorem palloc_closed (h : PG S w0 w G d L P) (ht : P.tx = none) : Calls Tryz.prog 45 #[.pointer (some ⟨G.pg, 0, none⟩)] w fun e w' => e = .returned (.tuple #[.int .i64 0, .int .i64 90]) ∧ w = w' := by
  have H := popen_any h
  have e : openE P = 90 := by unfold openE; rw [ht]
  rw [e] at H
  have H := Lib.hid H
  clear h
  go_enter Tryz.func45, Tryz.ntmps45
  go_wp2_with fail
  (with_reducible refine H.out.mono ?_)
  rintro e w1 ⟨rfl, rfl⟩
  go_wp2_with fail
  go_ret2
  exact ⟨rfl, rfl⟩
end
end Go.Proofs.YtoleojljpaglhaaGreat
