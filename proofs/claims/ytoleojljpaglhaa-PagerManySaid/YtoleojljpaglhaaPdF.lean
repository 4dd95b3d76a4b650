/- The steps of PagerMany: an open transaction beside a list of pages. -/
import Derived.Test.YtoleojljpaglhaaPdC
set_option maxRecDepth 20000
namespace Go.Proofs.Ytoleojljpaglhaa
open Go.RowKit
set_option maxRecDepth 20000
section
variable {S : Nat → Prop} {w0 w w' wr : World} {G G' : PH} {d d' : Vd.VD} {L L' : Wa.WL} {P P' : PP} {t : PT}
theorem rows_stay {b e size n : Nat} {v : Value} {xs : List Value} (hrow : w.ownsRow b e size v n xs) (hs : ∀ q, v.ownBlock = some q → ¬ PFoot G P w q) (k : PG (PFoot G P w) w w' G' d' L' P') :
    w'.ownsRow b e size v n xs ∧ ∀ q, v.ownBlock = some q → ¬ PFoot G' P' w' q :=
  ⟨ownsRow_keep hrow k.log.bel hs, fun q hq => (k.stays (ownBlock_lt hrow hq) (hs q hq)).2⟩
theorem PG.aside {ob : List Nat} (h : PG S w0 w G d L P) (ho : Only ob w w') (hb : ∀ b ∈ ob, S b ∧ ¬ PFoot G P w b) : PG S w0 w' G d L P := by
  have nO : ∀ b, Own G P b → b ∉ ob := fun b h1 h2 => (hb b h2).2 (.inl h1)
  have hk : KeepS (fun b => b ∈ ob) w w' := (KeepS.refl _ w).only ho (fun b h => h)
  refine ⟨h.log.aside ho (fun b hm => ⟨(hb b hm).1, fun e => (hb b hm).2 (.inr (.inl e)), fun e => (hb b hm).2 (.inr (.inr (.inl e))), fun e => (hb b hm).2 (.inr (.inr (.inr (.inl e))))⟩), h.blk.only ho (nO _ (.inl rfl)), h.len,
    fun hu => (h.pm hu).at (hk.block _ (h.pm hu).lt (nO _ (.inr (.inl ⟨hu, rfl⟩)))), fun t ht => ?_, ownsRow_only h.row ho (fun q hq => nO q (.inr (.inr (.inr hq)))), h.own⟩
  have hne : P.tx ≠ none := by rw [ht]; simp
  exact (h.tx t ht).keep hk (nO _ (.inr (.inr (.inl ⟨hne, .inl rfl⟩)))) (nO _ (.inr (.inr (.inl ⟨hne, .inr (.inl rfl)⟩)))) (nO _ (.inr (.inr (.inl ⟨hne, .inr (.inr rfl)⟩))))
/-- a block that was not there when the pager last changed is none of its own -/
theorem PG.fresh_not (h : PG S w0 w G d L P) {q : Nat} (h1 : w.heap.size ≤ q) (h2 : q < w'.heap.size) : ¬ PFoot G P w' q := by
  rintro (h3 | h3 | h3 | h3 | h3)
  · have := h.lt q h3; omega
  · have := h.log.blk.lt; omega
  · have := h.log.disk.lt q h3; omega
  · have := ownBlock_lt h.log.row h3; omega
  · omega
theorem full_free {f : Int → Option ByteArray} {roots : List Int} (h : Pb.Wf 40 f roots 32) : freeAt f 32 1 = 0 := by
  by_cases h0 : freeAt f 32 1 = 0
  · exact h0
  · obtain ⟨h1, h2, h3⟩ := freeAt_ge f 32 1 h0
    have hz := h.sz
    have hall : ∀ q ∈ List.range 32, Pb.usedP f q = true := by
      have h4 : ((List.range 32).filter (Pb.usedP f)).length = (List.range 32).length := by rw [List.length_range]; exact hz.symm
      exact List.length_filter_eq_length_iff.1 h4
    have h5 := hall (freeAt f 32 1 - 1) (List.mem_range.2 (by omega))
    unfold Pb.usedP at h5
    have e : ((freeAt f 32 1 - 1 : Nat) : Int) + 1 = (freeAt f 32 1 : Nat) := by omega
    rw [e, h3] at h5
    cases h5
/-- an open transaction, and a list of pages beside it -/
structure Mn (w : World) (pg : Nat) (ks us gs : List Int) (sz g : Nat) (v : Value) (wr : World) : Prop where
  ex : ∃ G d L P t, PG (Up w.heap.size) w wr G d L (P.with_ t) ∧ G.pg = pg ∧ P.tx = none ∧ P.n = 40 ∧ Pb.Inv d L P [] ∧ Pb.TxI P t ∧ L.gen ≤ g ∧ d.writes ≤ 100000 * (g : Int) ∧ d.room = -1 ∧ d.fuse = none ∧ t.sz = sz ∧ (∀ k ∈ us, (t.pages k).isSome = true) ∧ (∀ k ∈ gs, t.pages k = none) ∧
    wr.ownsRow w.heap.size 3 1 v ks.length (pis ks) ∧ (∀ q, v.ownBlock = some q → ¬ PFoot G (P.with_ t) wr q)
variable {pg sz g : Nat} {ks us gs : List Int} {v : Value}
theorem Mn.later (h : Mn w pg ks us gs sz g v wr) (hb : Below wr.heap.size wr w') : Mn w pg ks us gs sz g v w' := by
  obtain ⟨G, d, L, P, t, hP, rfl, htn, hn, hI, hT, hg, hw, hrm, hf, hz, hus, hgs, hrow, hsep⟩ := h.ex
  have k := hP.rebase.later hb
  obtain ⟨h1, h2⟩ := rows_stay hrow hsep k
  exact ⟨G, d, L, P, t, hP.via k, rfl, htn, hn, hI, hT, hg, hw, hrm, hf, hz, hus, hgs, h1, h2⟩
theorem Mn.below (h : Mn w pg ks us gs sz g v wr) : Below w.heap.size w wr := by
  obtain ⟨G, d, L, P, t, hP, _⟩ := h.ex
  exact keepS_below hP.log.bel
theorem Mn.shape (h : Mn w pg ks us gs sz g v wr) : ∃ A cap, v = .slice A ks.length cap ∧ ∀ j, (hj : j < ks.length) → ∃ q, A = some ⟨q, 0, none⟩ ∧ wr.cell? ⟨q, j, none⟩ = some (.int .i64 ks[j]) := by
  obtain ⟨G, d, L, P, t, hP, _, _, _, _, _, _, _, _, _, _, _, _, hrow, _⟩ := h.ex
  rcases hrow.2 with ⟨rfl, h0⟩ | ⟨q, cap, cur, rfl, _⟩
  · exact ⟨none, 0, by rw [h0], fun j hj => by omega⟩
  · refine ⟨_, cap, rfl, fun j hj => ⟨q, rfl, ?_⟩⟩
    rw [hrow.cellAt j (by omega)]
    unfold pis
    rw [List.getElem?_map, List.getElem?_eq_getElem hj]
    rfl
theorem Mn.cell {A : Option Addr} {n cap : Nat} (h : Mn w pg ks us gs sz g (.slice A n cap) wr) : n = ks.length ∧ ∀ j, (hj : j < ks.length) → ∃ q, A = some ⟨q, 0, none⟩ ∧ wr.cell? ⟨q, j, none⟩ = some (.int .i64 ks[j]) := by
  obtain ⟨A', cap', he, hc⟩ := h.shape
  injection he with h1 h2 h3
  subst h1 h2
  exact ⟨rfl, hc⟩
theorem Mn.row (h : Mn w pg ks us gs sz g v wr) : wr.ownsRow w.heap.size 3 1 v ks.length (pis ks) := by
  obtain ⟨G, d, L, P, t, hP, _, _, _, _, _, _, _, _, _, _, _, _, hrow, _⟩ := h.ex
  exact hrow
theorem Mn.forget (h : Mn w pg ks us gs sz g v wr) : Mn w pg [] [] [] sz g (.slice none 0 0) wr := by
  obtain ⟨G, d, L, P, t, hP, h1, htn, hn, hI, hT, hg, hw, hrm, hf, hz, hus, hgs, hrow, hsep⟩ := h.ex
  exact ⟨G, d, L, P, t, hP, h1, htn, hn, hI, hT, hg, hw, hrm, hf, hz, (fun k hk => by cases hk), (fun k hk => by cases hk), World.ownsRow_nil _ _ _ _, fun q hq => by cases hq⟩
theorem mn_alloc (h : Mn w pg ks us gs sz g v wr) (hs : sz < 32) : Calls Try.prog 11 #[.pointer (some ⟨pg, 0, none⟩)] wr fun e w' => ∃ k : Int, e = .returned (.tuple #[.int .i64 k, .int .i64 0]) ∧ (1 ≤ k ∧ k ≤ 32) ∧ k ∉ us ∧ Mn w pg ks (us ++ [k]) [] (sz + 1) g v w' ∧
    Calls Try.prog 16 #[.pointer (some ⟨pg, 0, none⟩), .int .i64 k] w' fun e w'' => e = .returned (.tuple #[.string zeros, .int .i64 0]) ∧ w' = w'' := by
  obtain ⟨G, d, L, P, t, hP, rfl, htn, hn, hI, hT, hg, hw, hrm, hf, hz, hus, hgs, hrow, hsep⟩ := h.ex
  refine (tx_alloc hP.rebase hT hI.hn hI.hn2 (by omega)).mono ?_
  rintro e w' ⟨k, t', he, hk, hno, rfl, hT', hz', hk'⟩
  obtain ⟨h1, h2⟩ := rows_stay hrow hsep hk'
  have hput : (writeT t k zeros).pages k = some zeros := by
    show putF t.pages k zeros k = some zeros
    unfold putF
    rw [if_pos rfl]
  refine ⟨k, he, by omega, fun hm => ?_, ⟨G, d, L, P, _, hP.via hk', rfl, htn, hn, hI, hT', hg, hw, hrm, hf, by omega, fun x hx => ?_, (fun k hk => by cases hk), h1, h2⟩, ?_⟩
  · have := hus k hm
    rw [hno] at this
    cases this
  · rcases List.mem_append.1 hx with hx | hx
    · show (putF t.pages k zeros x).isSome = true
      unfold putF
      split
      · rfl
      · exact hus x hx
    · rw [List.mem_singleton] at hx
      subst hx
      rw [hput]
      rfl
  · have hr := pread_any hk' hI.up k (wf64 (by omega) (by omega))
    have e1 : prd (P.with_ (writeT t k zeros)) k = .tuple #[.string zeros, .int .i64 0] := by
      unfold prd
      have e2 : (P.with_ (writeT t k zeros)).seen k = some zeros := hput
      rw [e2]
      rfl
    rw [e1] at hr
    exact hr
theorem mn_full (h : Mn w pg ks us gs 32 g v wr) : Calls Try.prog 11 #[.pointer (some ⟨pg, 0, none⟩)] wr fun e w' => ∃ k : Int, e = .returned (.tuple #[.int .i64 k, .int .i64 83]) ∧ Mn w pg ks us gs 32 g v w' := by
  obtain ⟨G, d, L, P, t, hP, rfl, htn, hn, hI, hT, hg, hw, hrm, hf, hz, hus, hgs, hrow, hsep⟩ := h.ex
  have hzz : t.sz < maxLen ∧ t.dz < maxLen := (txi_len hT).resolve_right (fun h => h hI.hn2)
  refine (palloc_some hP.rebase hI.hn hI.hn2 rfl hzz).mono ?_
  rintro e w' ⟨he, hk'⟩
  have h0 : freeAt t.pages (P.n - 8) 1 = 0 := by
    have hk := hT.ok.wf
    rw [hn, hz] at hk
    rw [hn]
    exact full_free hk
  have e1 : allocE (P.with_ t) = (0, 83) := if_pos h0
  have e2 : allocP (P.with_ t) = P.with_ t := if_pos h0
  rw [e1] at he
  rw [e2] at hk'
  obtain ⟨h1, h2⟩ := rows_stay hrow hsep hk'
  exact ⟨0, he, G, d, L, P, t, hP.via hk', rfl, htn, hn, hI, hT, hg, hw, hrm, hf, hz, hus, hgs, h1, h2⟩
theorem mn_write (h : Mn w pg ks us gs sz g v wr) (k : Int) (hk : k ∈ us) (hk2 : 1 ≤ k ∧ k ≤ 32) (s : ByteArray) (hs : s.size = 256) : Calls Try.prog 12 #[.pointer (some ⟨pg, 0, none⟩), .int .i64 k, .string s] wr fun e w' => e = .returned (.int .i64 0) ∧ Mn w pg ks us [] sz g v w' := by
  obtain ⟨G, d, L, P, t, hP, rfl, htn, hn, hI, hT, hg, hw, hrm, hf, hz, hus, hgs, hrow, hsep⟩ := h.ex
  refine (tx_write hP.rebase hT hI.hn2 k s (wf64 (by omega) (by omega)) hs).mono ?_
  rintro e w' ⟨c, t', he, _, hc, hT', hz', hu', hk'⟩
  obtain ⟨h1, h2⟩ := rows_stay hrow hsep hk'
  have hc0 := hc (hus k hk)
  subst hc0
  exact ⟨he, G, d, L, P, t', hP.via hk', rfl, htn, hn, hI, hT', hg, hw, hrm, hf, by omega, fun x hx => hu' x (hus x hx), (fun k hk => by cases hk), h1, h2⟩
theorem mn_free {k : Int} (h : Mn w pg ks (k :: us) gs sz g v wr) (hnk : k ∉ us) : Calls Try.prog 15 #[.pointer (some ⟨pg, 0, none⟩), .int .i64 k] wr fun e w' => e = .returned (.int .i64 0) ∧ Mn w pg ks us [k] (sz - 1) g v w' := by
  obtain ⟨G, d, L, P, t, hP, rfl, htn, hn, hI, hT, hg, hw, hrm, hf, hz, hus, hgs, hrow, hsep⟩ := h.ex
  have hu := hus k List.mem_cons_self
  obtain ⟨b, hb⟩ := Option.isSome_iff_exists.1 hu
  have hd := hT.ok.wf.dom k b hb
  refine (pfree_any hP.rebase k (wf64 (by omega) (by omega))).mono ?_
  rintro e w' ⟨he, hk'⟩
  have e1 : freeE (P.with_ t) k = 0 := if_pos hu
  have e2 : freeP (P.with_ t) k = P.with_ (freeT t k) := if_pos hu
  rw [e1] at he
  rw [e2] at hk'
  obtain ⟨h1, h2⟩ := rows_stay hrow hsep hk'
  refine ⟨he, G, d, L, P, _, hP.via hk', rfl, htn, hn, hI, hT.free k hd, hg, hw, hrm, hf, ?_, fun x hx => ?_, fun x hx => ?_, h1, h2⟩
  · show delSz t.pages t.sz k = sz - 1
    unfold delSz
    rw [if_pos hu, hz]
  · show (delF t.pages k x).isSome = true
    unfold delF
    rw [if_neg (fun e => hnk (by rw [← e]; exact hx))]
    exact hus x (List.mem_cons_of_mem _ hx)
  · rw [List.mem_singleton] at hx
    subst hx
    show delF t.pages x x = none
    unfold delF
    rw [if_pos rfl]
theorem mn_free2 {k : Int} (h : Mn w pg ks us [k] sz g v wr) (hd : 1 ≤ k ∧ k ≤ 32) : Calls Try.prog 15 #[.pointer (some ⟨pg, 0, none⟩), .int .i64 k] wr fun e w' => e = .returned (.int .i64 91) ∧ Mn w pg ks us [] sz g v w' := by
  obtain ⟨G, d, L, P, t, hP, rfl, htn, hn, hI, hT, hg, hw, hrm, hf, hz, hus, hgs, hrow, hsep⟩ := h.ex
  have hu : ¬ (t.pages k).isSome = true := by
    rw [hgs k (List.mem_singleton_self k)]
    simp
  refine (pfree_any hP.rebase k (wf64 (by omega) (by omega))).mono ?_
  rintro e w' ⟨he, hk'⟩
  have e1 : freeE (P.with_ t) k = 91 := if_neg hu
  have e2 : freeP (P.with_ t) k = P.with_ t := if_neg hu
  rw [e1] at he
  rw [e2] at hk'
  obtain ⟨h1, h2⟩ := rows_stay hrow hsep hk'
  exact ⟨he, G, d, L, P, t, hP.via hk', rfl, htn, hn, hI, hT, hg, hw, hrm, hf, hz, hus, (fun k hk => by cases hk), h1, h2⟩
theorem mn_used (h : Mn w pg ks us gs sz g v wr) : Calls Try.prog 17 #[.pointer (some ⟨pg, 0, none⟩)] wr fun e w' => e = .returned (.int .i64 (sz : Int)) ∧ wr = w' := by
  obtain ⟨G, d, L, P, t, hP, rfl, htn, hn, hI, hT, hg, hw, hrm, hf, hz, _⟩ := h.ex
  have := pused_any hP hI.up
  rw [← hz]
  exact this
theorem mn_commit (h : Mn w pg ks us gs sz g v wr) (hg2 : g < 200) : Calls Try.prog 14 #[.pointer (some ⟨pg, 0, none⟩)] wr fun e w' => e = .returned (.int .i64 0) ∧ Hid (Below w.heap.size w w') ∧
    Hid (Calls Try.prog 10 #[.pointer (some ⟨pg, 0, none⟩)] w' fun e w'' => e = .returned (.int .i64 0) ∧ Mn w pg ks us [] sz (g + 1) v w'') := by
  obtain ⟨G, d, L, P, t, hP, rfl, htn, hn, hI, hT, hg, hw, hrm, hf, hz, hus, hgs, hrow, hsep⟩ := h.ex
  refine (rcommit_any hP.rebase htn hI hT (by omega) (by omega)).mono ?_
  rintro e w' ⟨c, G', d', L', P', he, h1, h2, h3, h4, h5, h6, hr, hres⟩
  have hwr := hr.wr
  rw [hn] at hwr
  obtain ⟨r1, r2⟩ := rows_stay hrow hsep h3
  rcases hres with ⟨rfl, k1, k2, k3, l, k4, k5⟩ | ⟨_, _, _, k⟩ | ⟨_, _, k⟩
  · have hl := k5 hrm
    subst hl
    have hP' := hP.via h3
    refine ⟨he, Lib.hid (keepS_below hP'.log.bel), Lib.hid ?_⟩
    rw [← h1]
    refine (rbegin_any hP'.rebase h4 k4 (by push_cast at hwr; omega)).mono ?_
    rintro e w'' ⟨c, G2, d2, he2, g1, g2, hr2, (⟨rfl, g3, g4⟩ | ⟨_, _, _, g3⟩ | ⟨_, _, g3⟩)⟩
    · obtain ⟨q1, q2⟩ := rows_stay r1 r2 g3
      have hw2 := hr2.wr
      refine ⟨he2, G2, d2, L', { P' with todo := [] }, freshT P', hP'.via g3, g1, h4, h5.trans hn, g4, Pb.TxI.fresh (P := { P' with todo := [] }) g4.wf, by omega, ?_, hr2.room (hr.room hrm), hr2.fuse (hr.fuse hf), ?_, fun x hx => ?_, (fun k hk => by cases hk), q1, q2⟩
      · push_cast at hwr hw2 ⊢
        simp only [List.length_nil] at hw2
        omega
      · show P'.sz = sz
        rw [k3, hz]
      · show (P'.pages x).isSome = true
        rw [k1]
        exact hus x hx
    · exact absurd (hr.room hrm) g3
    · exact absurd rfl g3
  · exact absurd hrm k
  · exact absurd hf k
theorem mn_begin (h : PG (Up w.heap.size) w wr G d L P) (htn : P.tx = none) (hn : P.n = 40) (hz : P.sz = 0) (hI : Pb.Inv d L P []) (hg : L.gen = 0) (hw : d.writes ≤ 0) (hrm : d.room = -1) (hf : d.fuse = none) :
    Calls Try.prog 10 #[.pointer (some ⟨G.pg, 0, none⟩)] wr fun e w' => e = .returned (.int .i64 0) ∧ Mn w G.pg [] [] [] 0 1 (.slice none 0 0) w' := by
  refine (rbegin_any h htn hI (by omega)).mono ?_
  rintro e w' ⟨c, G2, d2, he2, g1, g2, hr2, (⟨rfl, g3, g4⟩ | ⟨_, _, _, g3⟩ | ⟨_, _, g3⟩)⟩
  · have hw2 := hr2.wr
    refine ⟨he2, G2, d2, L, { P with todo := [] }, freshT P, g3, g1, htn, hn, g4, Pb.TxI.fresh (P := { P with todo := [] }) g4.wf, by omega, ?_, hr2.room hrm, hr2.fuse hf, hz, (fun k hk => by cases hk), (fun k hk => by cases hk), World.ownsRow_nil _ _ _ _, fun q hq => by cases hq⟩
    simp only [List.length_nil] at hw2
    push_cast at hw2 ⊢
    omega
  · exact absurd hrm g3
  · exact absurd rfl g3
theorem mn_push {k : Int} {v' : Value} (h : Mn w pg ks us gs sz g v wr) (hown : w'.ownsRow w.heap.size 3 1 v' (ks.length + 1) (pis ks ++ [.int .i64 k])) (hgrow : (wr.alloc (.cells #[.int .i64 k] 3)).grownBy w' v.ownBlock) (hat : v'.ownBlock = v.ownBlock ∨ v'.ownBlock = some (wr.heap.size + 1)) :
    Mn w pg (ks ++ [k]) us gs sz g v' w' := by
  have h1 := h.later ((Below.refl _ _).alloc (Nat.le_refl _) (.cells #[.int .i64 k] 3))
  obtain ⟨G, d, L, P, t, hP, rfl, htn, hn, hI, hT, hg, hw, hrm, hf, hz, hus, hgs, hrow, hsep⟩ := h1.ex
  have ho : Only (v.ownBlock.toList) (wr.alloc (.cells #[.int .i64 k] 3)) w' := (Only.refl _ _).grown hgrow (fun q hq => .inl (by simp [hq]))
  have hbs : ∀ b ∈ v.ownBlock.toList, Up w.heap.size b ∧ ¬ PFoot G (P.with_ t) (wr.alloc (.cells #[.int .i64 k] 3)) b := fun b hb => by
    rw [Option.mem_toList] at hb
    exact ⟨(hrow.lt b hb).1, hsep b hb⟩
  have hP' := hP.aside ho hbs
  refine ⟨G, d, L, P, t, hP', rfl, htn, hn, hI, hT, hg, hw, hrm, hf, hz, hus, hgs, ?_, fun q hq => ?_⟩
  · have e : pis (ks ++ [k]) = pis ks ++ [.int .i64 k] := by unfold pis; rw [List.map_append]; rfl
    rw [e, List.length_append]
    exact hown
  · have hlt := ownBlock_lt hown hq
    rcases hat with h2 | h2
    · have hs2 := hsep q (h2.symm.trans hq)
      rintro (h3 | h3 | h3 | h3 | h3)
      · exact hs2 (.inl h3)
      · exact hs2 (.inr (.inl h3))
      · exact hs2 (.inr (.inr (.inl h3)))
      · exact hs2 (.inr (.inr (.inr (.inl h3))))
      · omega
    · rw [h2] at hq
      injection hq with hq
      exact hP.fresh_not (by rw [World.size_alloc]; omega) hlt
end
end Go.Proofs.Ytoleojljpaglhaa
