/- The reference's state against a pager's; a pager with power and room all the time, and what it leaves on its disk. -/
import Derived.Test.YtoleojljpaglhaaGreatPdA
import Derived.Deep.MidRow
import Derived.Maps.AppendAt
import Derived.Deep.Onto
namespace Go.Proofs.YtoleojljpaglhaaGreat
open Go.RowKit
set_option maxRecDepth 20000
/-- a state of the reference -/
structure RS where
  page : List Int
  data : List ByteArray
  root : List Int
/-- it is the pager's -/
structure Sm (f : Int → Option ByteArray) (roots : List Int) (sz : Nat) (s : RS) : Prop where
  len : s.data.length = s.page.length
  nd : s.page.Nodup
  at_ : ∀ (i : Nat) (k : Int), s.page[i]? = some k → ∃ b, s.data[i]? = some b ∧ f k = some b
  dom : ∀ k, (f k).isSome = true → k ∈ s.page
  sz : sz = s.page.length
  root : roots = s.root
section
variable {f : Int → Option ByteArray} {roots : List Int} {sz i : Nat} {k : Int} {s : RS} {b : ByteArray}
theorem nodup_at {l : List Int} (h : l.Nodup) {i j : Nat} {k : Int} (hi : l[i]? = some k) (hj : l[j]? = some k) : i = j := by
  obtain ⟨hi', hi⟩ := List.getElem?_eq_some_iff.1 hi
  obtain ⟨hj', hj⟩ := List.getElem?_eq_some_iff.1 hj
  rcases Nat.lt_trichotomy i j with h1 | h1 | h1
  · exact absurd (hi.trans hj.symm) (List.pairwise_iff_getElem.1 h i j hi' hj' h1)
  · exact h1
  · exact absurd (hj.trans hi.symm) (List.pairwise_iff_getElem.1 h j i hj' hi' h1)
theorem Sm.used (h : Sm f roots sz s) : (f k).isSome = true ↔ k ∈ s.page := by
  refine ⟨h.dom k, fun hm => ?_⟩
  obtain ⟨i, hi⟩ := List.getElem?_of_mem hm
  obtain ⟨b, _, hb⟩ := h.at_ i k hi
  rw [hb]
  rfl
theorem Sm.put (h : Sm f roots sz s) (hi : s.page[i]? = some k) (b : ByteArray) : Sm (putF f k b) roots (putSz f sz k) { s with data := s.data.set i b } := by
  have hu : (f k).isSome = true := h.used.2 (List.mem_of_getElem? hi)
  refine ⟨by simp [h.len], h.nd, fun j x hj => ?_, fun x hx => ?_, ?_, h.root⟩
  · have hj : s.page[j]? = some x := hj
    by_cases hji : j = i
    · subst hji
      rw [hi] at hj
      injection hj with hj
      subst hj
      obtain ⟨hlt, _⟩ := List.getElem?_eq_some_iff.1 hi
      refine ⟨b, List.getElem?_set_self (by rw [h.len]; exact hlt), ?_⟩
      unfold putF
      rw [if_pos rfl]
    · obtain ⟨b', h1, h2⟩ := h.at_ j x hj
      refine ⟨b', by show (s.data.set i b)[j]? = some b'; rw [List.getElem?_set_ne (fun e => hji e.symm)]; exact h1, ?_⟩
      unfold putF
      rw [if_neg (fun e => hji (nodup_at h.nd hj (by rw [e]; exact hi)))]
      exact h2
  · unfold putF at hx
    split at hx
    · next e => rw [e]; exact List.mem_of_getElem? hi
    · exact h.dom x hx
  · unfold putSz
    rw [if_pos hu]
    exact h.sz
theorem Sm.alloc (h : Sm f roots sz s) (hn : f k = none) (b : ByteArray) : Sm (putF f k b) roots (putSz f sz k) { s with page := s.page ++ [k], data := s.data ++ [b] } := by
  have hk : k ∉ s.page := fun hm => by have := h.used.2 hm; rw [hn] at this; cases this
  refine ⟨by simp [h.len], ?_, fun j x hj => ?_, fun x hx => ?_, ?_, h.root⟩
  · show (s.page ++ [k]).Nodup
    rw [List.nodup_append]
    refine ⟨h.nd, (by simp), fun a ha c hc e => hk ?_⟩
    rw [List.mem_singleton] at hc
    rw [← hc, ← e]
    exact ha
  · have hj : (s.page ++ [k])[j]? = some x := hj
    show ∃ b', (s.data ++ [b])[j]? = some b' ∧ _
    by_cases hjl : j < s.page.length
    · rw [List.getElem?_append_left hjl] at hj
      obtain ⟨b', h1, h2⟩ := h.at_ j x hj
      refine ⟨b', by rw [List.getElem?_append_left (by rw [h.len]; exact hjl)]; exact h1, ?_⟩
      unfold putF
      rw [if_neg (fun e => hk (by rw [← e]; exact List.mem_of_getElem? hj))]
      exact h2
    · rw [List.getElem?_append_right (by omega)] at hj
      have h0 : j - s.page.length = 0 := by
        obtain ⟨h1, _⟩ := List.getElem?_eq_some_iff.1 hj
        rw [List.length_singleton] at h1
        omega
      rw [h0] at hj
      injection hj with hj
      subst hj
      refine ⟨b, by rw [List.getElem?_append_right (by rw [h.len]; omega), h.len, h0]; rfl, ?_⟩
      unfold putF
      rw [if_pos rfl]
  · show x ∈ s.page ++ [k]
    unfold putF at hx
    split at hx
    · next e => rw [e]; exact List.mem_append_right _ (List.mem_singleton_self k)
    · exact List.mem_append_left _ (h.dom x hx)
  · unfold putSz
    rw [hn]
    show sz + 1 = (s.page ++ [k]).length
    rw [List.length_append, h.sz]
    rfl
theorem Sm.free (h : Sm f roots sz s) (hi : s.page[i]? = some k) : Sm (delF f k) roots (delSz f sz k) { s with page := s.page.eraseIdx i, data := s.data.eraseIdx i } := by
  have hu : (f k).isSome = true := h.used.2 (List.mem_of_getElem? hi)
  obtain ⟨hlt, hik⟩ := List.getElem?_eq_some_iff.1 hi
  refine ⟨by simp only [List.length_eraseIdx, h.len], h.nd.sublist (List.eraseIdx_sublist _ _), fun j x hj => ?_, fun x hx => ?_, ?_, h.root⟩
  · have hj : (s.page.eraseIdx i)[j]? = some x := hj
    show ∃ b', (s.data.eraseIdx i)[j]? = some b' ∧ _
    rw [List.getElem?_eraseIdx] at hj ⊢
    have hne : ∀ j', j' ≠ i → s.page[j']? = some x → delF f k x = f x := fun j' hj' he => by
      unfold delF
      rw [if_neg (fun e => hj' (nodup_at h.nd he (by rw [e]; exact hi)))]
    by_cases hji : j < i
    · rw [if_pos hji] at hj ⊢
      obtain ⟨b', h1, h2⟩ := h.at_ j x hj
      exact ⟨b', h1, (hne j (by omega) hj).trans h2⟩
    · rw [if_neg hji] at hj ⊢
      obtain ⟨b', h1, h2⟩ := h.at_ (j + 1) x hj
      exact ⟨b', h1, (hne (j + 1) (by omega) hj).trans h2⟩
  · show x ∈ s.page.eraseIdx i
    unfold delF at hx
    split at hx
    · cases hx
    · next hne =>
      obtain ⟨j, hj⟩ := List.getElem?_of_mem (h.dom x hx)
      exact List.mem_eraseIdx_iff_getElem?.2 ⟨j, fun e => hne (by
        subst e
        rw [hi] at hj
        injection hj with hj
        exact hj.symm), hj⟩
  · unfold delSz
    rw [if_pos hu]
    show sz - 1 = (s.page.eraseIdx i).length
    rw [List.length_eraseIdx, if_pos hlt, h.sz]
theorem Sm.setRoot (h : Sm f roots sz s) (i : Nat) (v : Int) : Sm f (roots.set i v) sz { s with root := s.root.set i v } :=
  ⟨h.len, h.nd, h.at_, h.dom, h.sz, by rw [h.root]⟩
end
namespace Pb
open Go Go.RowKit Vd Wa
theorem Fnd.gen {s : List (List UInt8)} {n ga : Nat} {o : Option (List UInt8)} (h : Fnd s n o ga) : genB (sec s (4 * n) 0) = (ga : Int) := by
  rcases h with ⟨_, rfl, h⟩ | ⟨rec, T, _, _, hA, _⟩
  · rw [h]
    decide +kernel
  · exact hA.first.2
/-- a pager over its disk, with power and room all the time; what it wrote is there -/
structure HI (d : VD) (L : WL) (P : PP) : Prop where
  inv : Inv d L P []
  q : d.q = []
  gen : genB (sec d.secs (4 * P.n) 0) = (L.gen : Int)
  room : d.room = -1
  fuse : d.fuse = none
theorem todo_nil {d : VD} {L : WL} {P : PP} (h : Inv d L P []) : ({ P with todo := [] } : PP) = P := by
  have := h.todo
  cases P
  simp only at this ⊢
  rw [this]
  rfl
theorem commit_hot {d : VD} {L : WL} {P : PP} {t : PT} {ch : List Int} (h : Inv d L P []) (ht : TxOk P t) (hc : Chg P t ch) (hg : L.gen + 1 < 256) (hf : (allP [recL P.n t.pages t.roots ch]).length ≤ 8 * P.n) (hrm : d.room = -1) (hfu : d.fuse = none) :
    (commitV d L P t ch).2.1.q = [] ∧ genB (sec (commitV d L P t ch).2.1.secs (4 * P.n) 0) = ((L.gen + 1 : Nat) : Int) := by
  have hput := h.put ht hc hg hf
  obtain ⟨rc, hrc⟩ : ∃ rc, recL P.n t.pages t.roots ch = rc := ⟨_, rfl⟩
  obtain ⟨W, hW⟩ : ∃ W, sq L.fr (L.gen + 1) 0 (allP [rc]) = W := ⟨_, rfl⟩
  have hWb : ∀ x ∈ W, x.1 < d.secs.length ∧ x.2.length = 64 := fun x hx => by
    rw [← hW] at hx
    have := sq_bounds _ _ _ _ (allP_ok _) x hx
    have := h.len
    have := h.fr
    rw [hrc] at hf
    exact ⟨by omega, by omega⟩
  have hW4 : W = sq (4 * P.n) (L.gen + 1) 0 (allP [recL P.n t.pages t.roots ch]) := by rw [← hW, h.fr, hrc]
  unfold commitV
  rw [hrc, hW]
  obtain ⟨hr1, h1⟩ := safe_seq W d (Φ := fun _ => True) (h.safe.imp (fun s hs => trivial)) hWb h.z (fun j hj t' ht' => trivial)
  rcases h1 with ⟨e0, hs1, hse1, hq1⟩ | ⟨_, _, _, _, hrm'⟩ | ⟨_, _, hfu'⟩
  · rw [if_neg (by simp only [ne_eq]; omega)]
    have hlay1 : lay (wrSeq d W).2.secs (wrSeq d W).2.q = lay (lay d.secs d.q) W := by rw [hse1, hq1, lay_append]
    obtain ⟨hr2, h2⟩ := safe_sync hs1
    rcases h2 with ⟨e2, hs2, hse2, hq2⟩ | ⟨_, _, _, h', _⟩ | ⟨_, _, hfu'⟩
    · rw [if_neg (by simp only [ne_eq]; omega)]
      obtain ⟨d2, hd2⟩ : ∃ d2, (Vd.sync (wrSeq d W).2).2 = d2 := ⟨_, rfl⟩
      rw [hd2] at hs2 hse2 hq2 hr2 ⊢
      have hsec2 : d2.secs = lay (lay d.secs d.q) W := hse2.trans hlay1
      have hrel := hr1.trans hr2
      have hC : Cold d2 P.n t.pages t.roots t.sz (targL P.n t.pages t.roots ch) (L.gen + 1) := by
        refine ⟨hs2.1, hq2, h.hn, h.hn2, ht.wf, by rw [hrel.len]; exact h.len, by rw [hsec2]; exact lay_z _ _ h.z (fun x hx => (hWb x hx).2), .inr ⟨ch, rfl, ?_, ?_, hc.ok⟩⟩
        · rw [hsec2, hW4]
          exact hput.all
        · rw [hsec2, hW4]
          exact hput.near
      obtain ⟨_, h3⟩ := hC.settle
      rcases h3 with ⟨_, _, k1, _, _, k2, _⟩ | ⟨_, hrm'⟩ | ⟨_, _, hfu'⟩
      · refine ⟨k1, ?_⟩
        have e : sec (settleV d2 (targL P.n t.pages t.roots ch)).2.secs (4 * P.n) 0 = sec d2.secs (4 * P.n) 0 := k2 (4 * P.n + 0) (by omega)
        show genB (sec (settleV d2 (targL P.n t.pages t.roots ch)).2.secs (4 * P.n) 0) = _
        rw [e, hsec2, hW4]
        exact hput.all.gen
      · exact absurd (hrel.room hrm) hrm'
      · exact absurd (hrel.fuse hfu) hfu'
    · exact h'.elim
    · exact absurd (hr1.fuse hfu) hfu'
  · exact absurd hrm hrm'
  · exact absurd hfu hfu'
/-- what stands on the disk of such a pager -/
theorem HI.cold {d : VD} {L : WL} {P : PP} (h : HI d L P) (hz : ∀ s ∈ d.secs, s.length = 64) : ∃ l, Cold d P.n P.pages P.roots P.sz l L.gen := by
  obtain ⟨l, ga, hC⟩ := cold_of h.inv.on h.q h.inv.hn h.inv.hn2 h.inv.wf h.inv.len hz h.inv.safe.secs
  have hg : genB (sec d.secs (4 * P.n) 0) = (ga : Int) := by
    rcases hC.body with ⟨_, hF, _⟩ | ⟨_, _, hF, _⟩
    · exact hF.gen
    · exact hF.gen
  have : (ga : Int) = (L.gen : Int) := hg.symm.trans h.gen
  have e : ga = L.gen := by omega
  subst e
  exact ⟨l, hC⟩
end Pb
section
variable {S T : Nat → Prop} {w0 w w' : World} {G G' : PH} {d d' : Vd.VD} {L L' : Wa.WL} {P P' : PP} {t : PT}
/-- a pager that was made of blocks of T, from some world on -/
theorem PG.over (hb : KeepS S w0 w) (hup : ∀ k, w0.heap.size ≤ k → S k) (hT : ∀ k, T k → S k) (k : PG T w w' G' d' L' P') : PG S w0 w' G' d' L' P' :=
  ⟨⟨hb.trans k.log.bel hT, hup, k.log.disk, fun b hb => hT b (k.log.low b hb), hT _ k.log.lb, k.log.blk, k.log.out, k.log.row, fun q hq => hT q (k.log.rs q hq), k.log.sep⟩, k.blk, k.len, k.pm, k.tx, k.row, fun b hb => ⟨hT b (k.own b hb).1, (k.own b hb).2⟩⟩
theorem hbegin (h : PG S w0 w G d L P) (htn : P.tx = none) (hI : Pb.HI d L P) (hw : d.writes < 800000000) :
    Calls Tryz.prog 40 #[.pointer (some ⟨G.pg, 0, none⟩)] w fun e w' => e = .returned (.int .i64 0) ∧ ∃ G', G'.pg = G.pg ∧ G'.dg = G.dg ∧ PG S w0 w' G' d L (P.with_ (freshT P)) := by
  refine (pbegin_any h hI.inv.up htn [] hI.inv.todo hI.inv.places hI.inv.on (by simp only [List.length_nil]; omega) (by simp)).mono ?_
  rintro e w' ⟨he, G', h1, h2, h3⟩
  refine ⟨he, G', h1, h2, ?_⟩
  have e1 : (if (Pb.settleV d []).1 = 0 then beginT { P with todo := [] } else P) = P.with_ (freshT P) := by
    have e2 : ({ P with todo := [] } : PP) = P := Pb.todo_nil hI.inv
    rw [e2]
    exact if_pos rfl
  rw [e1] at h3
  exact h3
theorem hcommit (h : PG S w0 w G d L (P.with_ t)) (htn : P.tx = none) (hI : Pb.HI d L P) (ht : Pb.TxI P t) (hg : L.gen + 1 < 256) (hw : d.writes < 800000000) :
    Calls Tryz.prog 50 #[.pointer (some ⟨G.pg, 0, none⟩)] w fun e w' => e = .returned (.int .i64 0) ∧ ∃ G' d' L' P', G'.pg = G.pg ∧ G'.dg = G.dg ∧ PG S w0 w' G' d' L' P' ∧ P'.tx = none ∧ P'.n = P.n ∧ P'.pages = t.pages ∧ P'.roots = t.roots ∧ P'.sz = t.sz ∧ Pb.HI d' L' P' ∧ L'.gen ≤ L.gen + 1 ∧ Pb.Rel d d' (12 * P.n) := by
  refine (pcommit_some h htn hI.inv ht hg hw).mono ?_
  rintro e w' (⟨he, hP, hp, hz, hr⟩ | ⟨ch, hc, hcl, G', h1, h2, he, hP⟩)
  · exact ⟨he, G, d, L, P, rfl, rfl, hP, htn, rfl, hp.symm, hr.symm, hz.symm, hI, by omega, (Pb.Rel.refl d).more (Nat.zero_le _)⟩
  · have hfit := Pb.rec_fits ht.ok.wf hI.inv.hn hI.inv.hn2 ch hc.ok hcl
    obtain ⟨g1, g2, g3⟩ := commitV_gen d L P t ch
    obtain ⟨hrel, hres⟩ := hI.inv.commit ht.ok hc hg hfit
    obtain ⟨q1, q2⟩ := Pb.commit_hot hI.inv ht.ok hc hg hfit hI.room hI.fuse
    have htl := targ_len P.n t.pages t.roots ch
    rcases hres with ⟨c0, k1, k2, k3, l, k4, k5⟩ | ⟨_, _, _, k3⟩ | ⟨_, _, k2⟩
    · rw [c0] at he
      have hl := k5 hI.room
      subst hl
      exact ⟨he, G', _, _, _, h1, h2, hP, g3, g2, k1, k2, k3, ⟨k4, q1, by rw [g2, g1]; exact q2, hrel.room hI.room, hrel.fuse hI.fuse⟩, by omega, hrel.more (by have := hI.inv.hn; omega)⟩
    · exact absurd hI.room k3
    · exact absurd hI.fuse k2
theorem crash_idle {d : Vd.VD} (hon : d.on = true) (hq : d.q = []) (a b : Int) : Vd.crash d a b = { d with on := false } := by
  rw [Pb.crash_cut hon, hq, Pb.cut_nil]
theorem hcrash (h : PG S w0 w G d L P) (hon : d.on = true) (hq : d.q = []) (a b : Int) :
    Calls Tryz.prog 63 #[.pointer (some ⟨G.dg, 0, none⟩), .int .i64 a, .int .i64 b] w fun e w' => e = .returned (.tuple #[]) ∧ ∃ G', G'.pg = G.pg ∧ G'.dg = G.dg ∧ PG S w0 w' G' { d with on := false } L P := by
  refine pg_call h (fun fp hD => ?_)
  have := crash_any hD a b
  rw [crash_idle hon hq] at this
  exact this
theorem hrestore (h : PG S w0 w G { d with on := false } L P) (hon : d.on = true) :
    Calls Tryz.prog 64 #[.pointer (some ⟨G.dg, 0, none⟩)] w fun e w' => e = .returned (.tuple #[]) ∧ ∃ G', G'.pg = G.pg ∧ G'.dg = G.dg ∧ PG S w0 w' G' d L P := by
  refine pg_call h (fun fp hD => ?_)
  obtain ⟨S, M, qv, rfl, h⟩ := hD
  refine (restore_any h).mono ?_
  rintro e w' ⟨rfl, hD, hO⟩
  have e1 : ({ ({ d with on := false } : Vd.VD) with on := true } : Vd.VD) = d := by
    cases d
    simp only at hon
    subst hon
    rfl
  rw [e1] at hD
  exact ⟨rfl, _, ⟨S, M, qv, rfl, hD⟩, ⟨hO.mono (by simp [foot]), fun b hb => .inl hb⟩⟩
/-- it is opened anew -/
theorem hopen {P1 : PP} (h : PG S w0 w G d L P1) (hI : Pb.HI d L P) (hw : d.writes < 800000000) :
    Calls Tryz.prog 8 #[.pointer (some ⟨G.dg, 0, none⟩), .int .i64 (P.n : Int)] w fun e w' => ∃ G' d' L', e = .returned (.tuple #[.pointer (some ⟨G'.pg, 0, none⟩), .int .i64 0]) ∧ G'.dg = G.dg ∧ PG (fun k => k ∈ G.fp ∨ w.heap.size ≤ k) w w' G' d' L' (openedP P.n P.pages P.sz P.roots) ∧ Pb.HI d' L' (openedP P.n P.pages P.sz P.roots) ∧ L'.gen = L.gen ∧ Pb.Rel d d' 40000 := by
  have hD := h.log.disk
  have hok : d.ok := by
    obtain ⟨_, _, _, _, hd⟩ := hD
    exact hd.ok
  obtain ⟨l, hC⟩ := hI.cold hok.secs
  have hsh := hC.short
  refine (popen_cold (S := fun k => k ∈ G.fp ∨ w.heap.size ≤ k) (KeepS.refl _ w) (fun k hk => .inr hk) hD (fun b hb => .inl hb) hC (by omega)).mono ?_
  rintro e w' (⟨G', L', d', he, hg, _, hL, hP, hrel, hh⟩ | ⟨_, _, _, _, _, _, _, _, hf⟩ | hrm)
  · have hst : Pb.Stamps d.secs P.n L.gen := by
      have := hI.inv.st
      rw [hI.q] at this
      exact this
    have hi := inv_opened hh hI.inv.wf hL hst hI.inv.hn hI.inv.hn2 (by rw [hrel.len]; exact hI.inv.len)
    refine ⟨G', d', L', he, hg, hP, ⟨hi, hh.q, ?_, hrel.room hI.room, hrel.fuse hI.fuse⟩, hL.gen, hrel.more hsh⟩
    have e1 : Wa.sec d'.secs (4 * P.n) 0 = Wa.sec d.secs (4 * P.n) 0 := hh.high (4 * P.n + 0) (by omega)
    show Wa.genB (Wa.sec d'.secs (4 * P.n) 0) = _
    rw [e1, hL.gen]
    exact hI.gen
  · exact absurd hI.fuse hf
  · exact absurd hI.room hrm
end
end Go.Proofs.YtoleojljpaglhaaGreat
/- The reference's pager in memory; the contracts of its At, Full, copyState. -/
set_option maxRecDepth 20000
namespace Go.Proofs.YtoleojljpaglhaaGreat
open Go.RowKit
/-- append of elements in memory onto nothing -/
theorem run_append_els {P : Program} (w : World) (base : Nat) (t ty e : TypeId) (i : TypeInfo) (z : Value) (size bytes : Nat) (ht : P.underlying t = some (.slice e)) (hi : P.info? e = some i) (hz : i.zero = some z)
    (hsize : i.size = size) (hby : i.bytes = bytes) (hzs : z.cells.size = size) (hsz : 0 < size) (a : Option Addr) (m cap : Nat) (xs : List Value) (hl : xs.length = m * size) (ha : 0 < m → ∃ ad, a = some ad ∧ ∀ j u, xs[j]? = some u → w.cell? (ad.add j) = some u) (h1 : ∀ u ∈ xs, u.oneCell' = true)
    (h63 : m ≤ maxLen) (hbytes : m * bytes ≤ 140737488355328) (hbase : base ≤ w.heap.size) :
    ∃ p c w', (Builtin.append_ #[t, t] ty #[.slice none 0 0, .slice a m cap]).run P w = .ok (.slice p m c) w' ∧ w'.ownsRow base e size (.slice p m c) m xs ∧ w.grownBy w' none := by
  by_cases hm : m = 0
  · subst hm
    have hx : xs = [] := List.eq_nil_of_length_eq_zero (by simpa using hl)
    subst hx
    refine ⟨none, 0, w, ?_, World.ownsRow_nil _ _ _ _, World.grownBy.refl w _⟩
    cases a <;> simp [Builtin.append_, run_underlying ht, sizeOf, typeInfo, hi, Builtin.lenOf, Builtin.firstCells, loadCells, loadCellsFrom]
  · obtain ⟨ad, rfl, hc⟩ := ha (by omega)
    obtain ⟨v', w', hrun, h2, h3, _, h5⟩ := run_append_own_at (P := P) w base t ty e i z size bytes ht hi hz hsize hby hzs hsz (.slice none 0 0) 0 [] (World.ownsRow_nil _ _ _ _) ad m cap xs hl hc h1 (by simpa using h63) (by simpa using hbytes) hbase
    simp only [Nat.zero_add, List.nil_append] at h2
    rcases h2.2 with ⟨_, h0⟩ | ⟨g, c, cur, rfl, _⟩
    · omega
    · exact ⟨_, c, w', hrun, h2, h3⟩
theorem wpList_append_els {P : Program} {w : World} {ops : Array Oper} {rest : List Oper} {o : Oper} {a : Act} {Q : Exit → Act → World → Prop} (hgd : o.guard = none) (s x : Operand) (t : TypeId)
    (ho : o.op = .call { callee := .builtin .append, args := #[s, x], argTypes := #[t, t] })
    (base : Nat) (e : TypeId) (i : TypeInfo) (z : Value) (size bytes : Nat) (ht : P.underlying t = some (.slice e)) (hi : P.info? e = some i) (hz : i.zero = some z)
    (hsize : i.size = size) (hby : i.bytes = bytes) (hzs : z.cells.size = size) (hsz : 0 < size) (ad : Option Addr) (m cap : Nat) (xs : List Value) (hs : a.eval s = .slice none 0 0) (hx : a.eval x = .slice ad m cap)
    (hl : xs.length = m * size) (ha : 0 < m → ∃ d, ad = some d ∧ ∀ j u, xs[j]? = some u → w.cell? (d.add j) = some u) (h1 : ∀ u ∈ xs, u.oneCell' = true) (h63 : m ≤ maxLen) (hbytes : m * bytes ≤ 140737488355328) (hbase : base ≤ w.heap.size)
    (h : ∀ p c w', w'.ownsRow base e size (.slice p m c) m xs → w.grownBy w' none → wpList P ops Q rest (a.put o.dst (.slice p m c)) w') : wpList P ops Q (o :: rest) a w := by
  obtain ⟨p, c, w', hrun, h2, h3⟩ := run_append_els (P := P) w base t o.type e i z size bytes ht hi hz hsize hby hzs hsz ad m cap xs hl ha h1 h63 hbytes hbase
  refine wpList_plain hgd fun K hK => ?_
  unfold Oper.wp execOp
  simp only [ho, resolve, invoke, builtin, Sem.run_bind, Sem.run_pure, Result.andThen_ok, List.map_toArray, List.map_cons, List.map_nil, hs, hx, hrun]
  exact hK _ _ (h p c w' h2 h3)
/-- texts as cells -/
def bsl (l : List ByteArray) : List Value := l.map Value.string
theorem bsl_one (l : List ByteArray) : ∀ u ∈ bsl l, u.oneCell' = true := by
  intro u hu
  unfold bsl at hu
  obtain ⟨b, _, rfl⟩ := List.mem_map.1 hu
  rfl
/-- a row's shape -/
theorem row_form {w : World} {b : Nat} {e : TypeId} {n : Nat} {v : Value} {xs : List Value} (h : w.ownsRow b e 1 v n xs) :
    xs.length = n ∧ ∃ A cap, v = .slice A n cap ∧ ∀ j u, xs[j]? = some u → ∃ q, A = some ⟨q, 0, none⟩ ∧ w.cell? ⟨q, j, none⟩ = some u := by
  refine ⟨by have := h.1; omega, ?_⟩
  rcases h.2 with ⟨rfl, h0⟩ | ⟨q, cap, cur, rfl, _⟩
  · refine ⟨none, 0, by rw [h0], fun j u hu => ?_⟩
    have := (List.getElem?_eq_some_iff.1 hu).1
    have := h.1
    omega
  · refine ⟨_, cap, rfl, fun j u hu => ⟨q, rfl, ?_⟩⟩
    have hj := (List.getElem?_eq_some_iff.1 hu).1
    have := h.1
    rw [h.cellAt j (by omega)]
    exact hu
theorem row_src {w : World} {b : Nat} {e : TypeId} {n cap : Nat} {A : Option Addr} {xs : List Value} (h : w.ownsRow b e 1 (.slice A n cap) n xs) : 0 < n → ∃ d, A = some d ∧ ∀ j u, xs[j]? = some u → w.cell? (d.add j) = some u := by
  intro h0
  rcases h.2 with ⟨_, h1⟩ | ⟨q, c, cur, he, _⟩
  · omega
  · injection he with he
    subst he
    exact ⟨_, rfl, h.cells rfl⟩
theorem only_below {w w' : World} {fp : List Nat} (h : Only fp w w') (B : Nat) (hB : ∀ b ∈ fp, B ≤ b) (hs : B ≤ w.heap.size) : Below B w w' :=
  ⟨h.os, h.tape, h.output, h.size, fun k hk => h.block k (Nat.lt_of_lt_of_le hk hs) (fun hm => by have := hB k hm; omega)⟩
/-- a state's cells -/
def stc (vp vd : Value) (r : List Int) : Array Value := ([vp, vd] ++ ints r).toArray
theorem st_one (A1 A2 : Option Addr) (n1 c1 n2 c2 : Nat) (a0 a1 a2 a3 a4 a5 a6 a7 : Int) : (#[.slice A1 n1 c1, .slice A2 n2 c2, .int .i64 a0, .int .i64 a1, .int .i64 a2, .int .i64 a3, .int .i64 a4, .int .i64 a5, .int .i64 a6, .int .i64 a7] : Array Value).all (·.oneCell') = true := all_oneCell_toArray (fun v hv => by
  simp only [List.mem_cons, List.not_mem_nil, or_false] at hv
  rcases hv with rfl | rfl | rfl | rfl | rfl | rfl | rfl | rfl | rfl | rfl <;> rfl)
theorem stc_lit (vp vd : Value) (a0 a1 a2 a3 a4 a5 a6 a7 : Int) : stc vp vd [a0, a1, a2, a3, a4, a5, a6, a7] = #[vp, vd, .int .i64 a0, .int .i64 a1, .int .i64 a2, .int .i64 a3, .int .i64 a4, .int .i64 a5, .int .i64 a6, .int .i64 a7] := rfl
section
variable {w w' : World}
/-- what At tells -/
def AtR (l : List Int) (k r : Int) : Prop := (r = -1 ∧ k ∉ l) ∨ ∃ i : Nat, r = (i : Int) ∧ l[i]? = some k
theorem rat_any {B b0 : Nat} {l : List Int} {vp : Value} (k : Int) (h0 : w.cell? ⟨B, 13, none⟩ = some vp) (hrow : w.ownsRow b0 3 1 vp l.length (pis l)) (hlen : l.length ≤ 1000) :
    Calls Tryz.prog 54 #[.pointer (some ⟨B, 13, none⟩), .int .i64 k] w fun e w' => (∃ r : Int, e = .returned (.int .i64 r) ∧ AtR l k r) ∧ w = w' := by
  obtain ⟨_, A, cap, rfl, hcell⟩ := row_form hrow
  obtain ⟨n, hn⟩ : ∃ n, l.length = n := ⟨_, rfl⟩
  have hall : ∀ j, (hj : j < l.length) → ∃ q, A = some ⟨q, 0, none⟩ ∧ w.cell? ⟨q, j, none⟩ = some (.int .i64 l[j]) := fun j hj => hcell j _ (by unfold pis; rw [List.getElem?_map, List.getElem?_eq_getElem hj]; rfl)
  have HALL := Lib.hid hall
  have HN := Lib.hid hn
  have HLE := Lib.hid hlen
  rw [hn] at h0
  clear hrow hcell hall hlen hn
  go_enter Tryz.func54, Tryz.ntmps54
  go_wp2_with fail
  go_loopw [5] (fun s5 wr => ∃ i : Nat, s5 = .int .i64 (i : Int) ∧ i ≤ n ∧ Hid (∀ j, j < i → l[j]? ≠ some k) ∧ wr = w) (fun i _ => n - (intOf i).toNat)
  case atStart => exact ⟨0, rfl, Nat.zero_le _, Lib.hid (fun j hj => by omega), rfl⟩
  case round =>
    obtain ⟨i, rfl, hi, HNO, rfl⟩ := hrel
    by_cases hlt : i < n
    · have hlen : i < l.length := by have := HN.out; omega
      obtain ⟨q, hA, hc⟩ := HALL.out i hlen
      subst hA
      obtain ⟨x, hx⟩ : ∃ x, l[i] = x := ⟨_, rfl⟩
      rw [hx] at hc
      have hx2 : l[i]? = some x := by rw [List.getElem?_eq_getElem hlen, hx]
      have HX := Lib.hid hx2
      have i1 : (i : Int) < (n : Int) := by omega
      have HLT := Lib.hid hlt
      have hib : i ≤ 1000 := by have := HN.out; have := HLE.out; omega
      clear hlen hx hx2 hlt hi
      by_cases hxk : x = k
      · subst hxk
        go_wp2_with fail
        go_ret
        exact ⟨⟨_, rfl, .inr ⟨i, rfl, HX.out⟩⟩, rfl⟩
      · have e1 : (x == k) = false := beq_eq_false_iff_ne.2 hxk
        go_wp2_with fail
        go_roundw
        case rel => exact ⟨i + 1, by go_num, by have := HLT.out; omega, Lib.hid (fun j hj => by
          by_cases hji : j = i
          · subst hji
            rw [HX.out]
            exact fun e => hxk (by injection e)
          · exact HNO.out j (by omega)), by first | rfl | trivial⟩
        case measure => have := HLT.out; simp [intOf]; omega
    · have i1 : ¬ (i : Int) < (n : Int) := by omega
      have HI := Lib.hid (show i = n by omega)
      clear hlt hi
      go_wp2_with fail
      go_ret
      refine ⟨⟨-1, rfl, .inl ⟨rfl, fun hm => ?_⟩⟩, rfl⟩
      obtain ⟨j, hj⟩ := List.getElem?_of_mem hm
      have := (List.getElem?_eq_some_iff.1 hj).1
      exact HNO.out j (by have h1 := HI.out; have h2 := HN.out; omega) hj
theorem rfull_any {B n m cap : Nat} {A : Option Addr} (h2 : w.cell? ⟨B, 2, none⟩ = some (.int .i64 40)) (h13 : w.cell? ⟨B, 13, none⟩ = some (.slice A n cap)) :
    Calls Tryz.prog 53 #[.pointer (some ⟨B, 2, none⟩)] w fun e w' => e = .returned (.bool (decide (32 ≤ n))) ∧ Below w.heap.size w w' := by
  obtain ⟨b, hb⟩ : ∃ b, decide (32 ≤ n) = b := ⟨_, rfl⟩
  rw [hb]
  cases b with
  | true =>
    have i1 : (32 : Int) ≤ (n : Int) := by have := of_decide_eq_true hb; omega
    clear hb
    go_enter Tryz.func53, Tryz.ntmps53
    go_wp2_with fail
    go_quiet (fail)
    all_goals
      go_wp2_with fail
      go_ret
      exact ⟨by first | rfl | (simp [i1]), by repeat (first | exact Below.refl _ _ | apply Below.drew | apply below_drewN)⟩
  | false =>
    have i1 : ¬ (32 : Int) ≤ (n : Int) := by have := of_decide_eq_false hb; omega
    clear hb
    go_enter Tryz.func53, Tryz.ntmps53
    go_wp2_with fail
    go_quiet (fail)
    all_goals
      go_wp2_with fail
      go_ret
      exact ⟨by first | rfl | (simp [i1]), by repeat (first | exact Below.refl _ _ | apply Below.drew | apply below_drewN)⟩
set_option maxHeartbeats 1000000 in
theorem copyState_any {b0 : Nat} {vp vd : Value} {l : List Int} {ds : List ByteArray} {r : List Int} (hp : w.ownsRow b0 3 1 vp l.length (pis l)) (hd : w.ownsRow b0 9 1 vd ds.length (bsl ds)) (hr : r.length = 8) (hl : l.length ≤ 1000) (hl2 : ds.length ≤ 1000) :
    Calls Tryz.prog 94 #[.agg (stc vp vd r)] w fun e w' => ∃ vp' vd', e = .returned (.agg (stc vp' vd' r)) ∧ w'.ownsRow w.heap.size 3 1 vp' l.length (pis l) ∧ w'.ownsRow w.heap.size 9 1 vd' ds.length (bsl ds) ∧ Below w.heap.size w w' := by
  obtain ⟨a0, a1, a2, a3, a4, a5, a6, a7, rfl⟩ := len8 hr
  obtain ⟨hpl, A, cap, rfl, _⟩ := row_form hp
  obtain ⟨hdl, A2, cap2, rfl, _⟩ := row_form hd
  obtain ⟨i0, hi0, hz0, hz1, hz2⟩ := info_parts i64_info
  obtain ⟨i1, hi1, hy0, hy1, hy2⟩ := info_parts str_info
  rw [stc_lit]
  obtain ⟨n, hn⟩ : ∃ n, l.length = n := ⟨_, rfl⟩
  obtain ⟨m, hm⟩ : ∃ m, ds.length = m := ⟨_, rfl⟩
  rw [hn] at hp hl ⊢
  rw [hm] at hd hl2 ⊢
  rw [hn] at hpl
  rw [hm] at hdl
  have hB : Below w.heap.size w ((w.alloc (.cells #[.slice A n cap, .slice A2 m cap2, .int .i64 a0, .int .i64 a1, .int .i64 a2, .int .i64 a3, .int .i64 a4, .int .i64 a5, .int .i64 a6, .int .i64 a7] 55)).alloc (.cells #[.slice none 0 0, .slice none 0 0, .int .i64 0, .int .i64 0, .int .i64 0, .int .i64 0, .int .i64 0, .int .i64 0, .int .i64 0, .int .i64 0] 55)) := ((Below.refl _ _).alloc (Nat.le_refl _) _).alloc (by simp) _
  obtain ⟨V, hV⟩ : ∃ V, ((w.alloc (.cells #[.slice A n cap, .slice A2 m cap2, .int .i64 a0, .int .i64 a1, .int .i64 a2, .int .i64 a3, .int .i64 a4, .int .i64 a5, .int .i64 a6, .int .i64 a7] 55)).alloc (.cells #[.slice none 0 0, .slice none 0 0, .int .i64 0, .int .i64 0, .int .i64 0, .int .i64 0, .int .i64 0, .int .i64 0, .int .i64 0, .int .i64 0] 55)) = V := ⟨_, rfl⟩
  have hb1 : Blk V w.heap.size 55 #[.slice A n cap, .slice A2 m cap2, .int .i64 a0, .int .i64 a1, .int .i64 a2, .int .i64 a3, .int .i64 a4, .int .i64 a5, .int .i64 a6, .int .i64 a7] := by
    rw [← hV]; exact (Blk.new w _ _).alloc _
  have hb2 : Blk V (w.heap.size + 1) 55 #[.slice none 0 0, .slice none 0 0, .int .i64 0, .int .i64 0, .int .i64 0, .int .i64 0, .int .i64 0, .int .i64 0, .int .i64 0, .int .i64 0] := by
    rw [← hV]
    have := Blk.new (w.alloc (.cells #[.slice A n cap, .slice A2 m cap2, .int .i64 a0, .int .i64 a1, .int .i64 a2, .int .i64 a3, .int .i64 a4, .int .i64 a5, .int .i64 a6, .int .i64 a7] 55)) 55 #[.slice none 0 0, .slice none 0 0, .int .i64 0, .int .i64 0, .int .i64 0, .int .i64 0, .int .i64 0, .int .i64 0, .int .i64 0, .int .i64 0]
    rwa [World.size_alloc] at this
  rw [hV] at hB
  have hVs : V.heap.size = w.heap.size + 2 := by rw [← hV]; simp
  have hp1 : V.ownsRow b0 3 1 (.slice A n cap) n (pis l) := ownsRow_only hp ((Only.refl [] w).below hB) (by simp)
  have hd1 : V.ownsRow b0 9 1 (.slice A2 m cap2) m (bsl ds) := ownsRow_only hd ((Only.refl [] w).below hB) (by simp)
  have c0 : V.cell? ⟨w.heap.size, 0, none⟩ = some (.slice A n cap) := hb1.cell 0
  have f0 : V.frozen? ⟨w.heap.size, 0, none⟩ = false := hb1.frozen 0
  have Hi0 := Lib.hid hi0
  have Hz0 := Lib.hid hz0
  have Hz1 := Lib.hid hz1
  have Hz2 := Lib.hid hz2
  have Hi1 := Lib.hid hi1
  have Hy0 := Lib.hid hy0
  have Hy1 := Lib.hid hy1
  have Hy2 := Lib.hid hy2
  have HP1 := Lib.hid hp1
  have HD1 := Lib.hid hd1
  have HB := Lib.hid hB
  have HVS := Lib.hid hVs
  have HB1 := Lib.hid hb1
  have HB2 := Lib.hid hb2
  have HL := Lib.hid hl
  have HL2 := Lib.hid hl2
  have HPL := Lib.hid hpl
  have HDL := Lib.hid hdl
  clear hp hd hB hp1 hd1 hb1 hb2 hVs hi0 hz0 hz1 hz2 hi1 hy0 hy1 hy2 hl hl2 hr hn hm hpl hdl
  go_enter Tryz.func94, Tryz.ntmps94
  go_wp2_with (at_builtin; refine wpList_append_els rfl _ _ 51 rfl V.heap.size 3 i0 (.int .i64 0) 1 8 Tryz.underlying51 Hi0.out Hz0.out Hz1.out Hz2.out rfl (by decide) A n cap (pis l) rfl rfl (by rw [HPL.out, Nat.mul_one]) (row_src HP1.out) (ints_oneCell .i64 l) (by have := HL.out; unfold maxLen; omega) (by have := HL.out; omega) (by have := HVS.out; omega) ?_)
  intro p c w5 hown5 hgrow5
  have hb5 : Below V.heap.size V w5 := (Below.refl _ _).grown hgrow5 (Nat.le_refl _) (by simp)
  have hk1 := HB1.out.below hb5 (by have := HVS.out; omega)
  have hk2 := HB2.out.below hb5 (by have := HVS.out; omega)
  have hd5 : w5.ownsRow b0 9 1 (.slice A2 m cap2) m (bsl ds) := ownsRow_only HD1.out ((Only.refl [] V).below hb5) (by simp)
  have c0 : w5.cell? ⟨w.heap.size, 0, none⟩ = some (.slice A n cap) := hk1.cell 0
  have c1 : w5.cell? ⟨w.heap.size, 1, none⟩ = some (.slice A2 m cap2) := hk1.cell 1
  have f0 : w5.frozen? ⟨w.heap.size, 0, none⟩ = false := hk1.frozen 0
  have f1 : w5.frozen? ⟨w.heap.size, 1, none⟩ = false := hk1.frozen 1
  have HO5 := Lib.hid hown5
  have HB5 := Lib.hid hb5
  have HK1 := Lib.hid hk1
  have HK2 := Lib.hid hk2
  have ho6 : Only [w.heap.size] w5 (w5.setCell ⟨w.heap.size, 0, none⟩ (.slice p n c)) := (Only.refl _ _).own 0 _
  have hd6 : (w5.setCell ⟨w.heap.size, 0, none⟩ (.slice p n c)).ownsRow b0 9 1 (.slice A2 m cap2) m (bsl ds) := ownsRow_only hd5 ho6 (fun q hq hm => by
    rw [List.mem_singleton] at hm
    subst hm
    exact own_ne_blk hd5 hk1 (by decide) hq)
  have HD6 := Lib.hid hd6
  have HO6 := Lib.hid ho6
  clear hown5 hgrow5 hb5 hk1 hk2 hd5 ho6 hd6
  go_wp2_with (at_builtin; refine wpList_append_els rfl _ _ 52 rfl V.heap.size 9 i1 (.string ⟨#[]⟩) 1 16 Tryz.underlying52 Hi1.out Hy0.out Hy1.out Hy2.out rfl (by decide) A2 m cap2 (bsl ds) rfl rfl (by rw [HDL.out, Nat.mul_one]) (row_src HD6.out) (bsl_one ds) (by have := HL2.out; unfold maxLen; omega) (by have := HL2.out; omega) (by have h1 := HO6.out.size; have h2 := HB5.out.size; omega) ?_)
  intro p2 c2 w7 hown7 hgrow7
  have hb7 : Below (w5.setCell ⟨w.heap.size, 0, none⟩ (.slice p n c)).heap.size (w5.setCell ⟨w.heap.size, 0, none⟩ (.slice p n c)) w7 := (Below.refl _ _).grown hgrow7 (Nat.le_refl _) (by simp)
  have hs5 : w.heap.size + 2 ≤ w5.heap.size := by have h1 := HB5.out.size; have h2 := HVS.out; omega
  have hs6 : w.heap.size + 2 ≤ (w5.setCell ⟨w.heap.size, 0, none⟩ (.slice p n c)).heap.size := by have := HO6.out.size; omega
  have hk1 := (HK1.out.set_ 0 (.slice p n c)).below hb7 (by omega)
  have hk2 := (HK2.out.only HO6.out (by simp)).below hb7 (by omega)
  have d0 : w7.cell? ⟨w.heap.size, 0, none⟩ = some (.slice p n c) := hk1.cell 0
  have d1 : w7.cell? ⟨w.heap.size, 1, none⟩ = some (.slice A2 m cap2) := hk1.cell 1
  have d2 : w7.cell? ⟨w.heap.size, 2, none⟩ = some (.int .i64 a0) := hk1.cell 2
  have d3 : w7.cell? ⟨w.heap.size, 3, none⟩ = some (.int .i64 a1) := hk1.cell 3
  have d4 : w7.cell? ⟨w.heap.size, 4, none⟩ = some (.int .i64 a2) := hk1.cell 4
  have d5 : w7.cell? ⟨w.heap.size, 5, none⟩ = some (.int .i64 a3) := hk1.cell 5
  have d6 : w7.cell? ⟨w.heap.size, 6, none⟩ = some (.int .i64 a4) := hk1.cell 6
  have d7 : w7.cell? ⟨w.heap.size, 7, none⟩ = some (.int .i64 a5) := hk1.cell 7
  have d8 : w7.cell? ⟨w.heap.size, 8, none⟩ = some (.int .i64 a6) := hk1.cell 8
  have d9 : w7.cell? ⟨w.heap.size, 9, none⟩ = some (.int .i64 a7) := hk1.cell 9
  have z1 : w7.frozen? ⟨w.heap.size, 1, none⟩ = false := hk1.frozen 1
  have ho8 : Only [w.heap.size, w.heap.size + 1] w7 (w7.setCell ⟨w.heap.size, 1, none⟩ (.slice p2 m c2)) := (Only.refl _ _).setCell (.inl (by simp)) _
  have hk8 := hk2.only (fp := [w.heap.size]) (w := w7.setCell ⟨w.heap.size, 1, none⟩ (.slice p2 m c2)) ((Only.refl _ _).own 1 _) (by simp)
  have e0 : (w7.setCell ⟨w.heap.size, 1, none⟩ (.slice p2 m c2)).cell? ⟨w.heap.size + 1, 0, none⟩ = some (.slice none 0 0) := hk8.cell 0
  have e1 : (w7.setCell ⟨w.heap.size, 1, none⟩ (.slice p2 m c2)).cell? ⟨w.heap.size + 1, 1, none⟩ = some (.slice none 0 0) := hk8.cell 1
  have e2 : (w7.setCell ⟨w.heap.size, 1, none⟩ (.slice p2 m c2)).cell? ⟨w.heap.size + 1, 2, none⟩ = some (.int .i64 0) := hk8.cell 2
  have hth : (w7.setCell ⟨w.heap.size, 1, none⟩ (.slice p2 m c2)).there (w.heap.size + 1) 0 10 := fun j hj => by
    rw [Nat.zero_add]
    refine ⟨?_, hk8.frozen j⟩
    rw [hk8.cell j, Array.getElem?_eq_getElem (by simpa using hj)]
    rfl
  have hr9 : (w7.setCell ⟨w.heap.size, 1, none⟩ (.slice p2 m c2)).rangeAt w.heap.size 0 [.slice p n c, .slice p2 m c2, .int .i64 a0, .int .i64 a1, .int .i64 a2, .int .i64 a3, .int .i64 a4, .int .i64 a5, .int .i64 a6, .int .i64 a7] := fun j v hj => by
    have hkk : Blk (w7.setCell ⟨w.heap.size, 1, none⟩ (.slice p2 m c2)) w.heap.size 55 #[.slice p n c, .slice p2 m c2, .int .i64 a0, .int .i64 a1, .int .i64 a2, .int .i64 a3, .int .i64 a4, .int .i64 a5, .int .i64 a6, .int .i64 a7] := (hk1.set_ 1 (.slice p2 m c2)).eq_ (by simp)
    rw [Nat.zero_add, hkk.cell j]
    exact List.getElem?_toArray.trans hj
  have HR9 := Lib.hid hr9
  have HTH := Lib.hid hth
  have HK8 := Lib.hid hk8
  have HO8 := Lib.hid ho8
  have HO7 := Lib.hid hown7
  have HB7 := Lib.hid hb7
  have HS5 := Lib.hid hs5
  have HS6 := Lib.hid hs6
  clear hown7 hgrow7 hb7 hs5 hs6 hk1 hk2 hk8 ho8 hth hr9 c0 c1 f0 f1 d2 d3 d4 d5 d6 d7 d8 d9 e0 e1 e2
  go_wp2_with (first
    | (refine wpList_load_mid rfl 55 (.tmp 1) rfl w.heap.size 0 rfl _ _ HR9.out Tryz.underlying55 rfl (by kernel_rfl) ?_)
    | (refine wpList_store_mid rfl 55 (.tmp 2) (.tmp 11) rfl (w.heap.size + 1) 0 _ rfl rfl HTH.out (by kernel_rfl) (st_one _ _ _ _ _ _ _ _ _ _ _ _ _ _) ?_))
  (try simp only [Exit.inBlock, Exit.then])
  have hk9 := Blk.setCells [.slice p n c, .slice p2 m c2, .int .i64 a0, .int .i64 a1, .int .i64 a2, .int .i64 a3, .int .i64 a4, .int .i64 a5, .int .i64 a6, .int .i64 a7] 0 _ [.slice none 0 0, .slice none 0 0, .int .i64 0, .int .i64 0, .int .i64 0, .int .i64 0, .int .i64 0, .int .i64 0, .int .i64 0, .int .i64 0] HK8.out (by simp)
  have hO9 : Only [w.heap.size, w.heap.size + 1] w7 ((w7.setCell ⟨w.heap.size, 1, none⟩ (.slice p2 m c2)).setCells (w.heap.size + 1) 0 [.slice p n c, .slice p2 m c2, .int .i64 a0, .int .i64 a1, .int .i64 a2, .int .i64 a3, .int .i64 a4, .int .i64 a5, .int .i64 a6, .int .i64 a7]) := only_setCells (.inl (by simp)) _ _ _ HO8.out
  have g0 := hk9.cell 0
  have g1 := hk9.cell 1
  have g2 := hk9.cell 2
  have g3 := hk9.cell 3
  have g4 := hk9.cell 4
  have g5 := hk9.cell 5
  have g6 := hk9.cell 6
  have g7 := hk9.cell 7
  have g8 := hk9.cell 8
  have g9 := hk9.cell 9
  refine bodyPost_ret (v := .agg #[.slice p n c, .slice p2 m c2, .int .i64 a0, .int .i64 a1, .int .i64 a2, .int .i64 a3, .int .i64 a4, .int .i64 a5, .int .i64 a6, .int .i64 a7]) (by simp [results, Tryz.results94, go_sem, g0, g1, g2, g3, g4, g5, g6, g7, g8, g9]) rfl ?_
  have hvs := HVS.out
  have hs5 := HS5.out
  have hs6 := HS6.out
  have h7s := HB7.out.size
  refine ⟨.slice p n c, .slice p2 m c2, rfl, ?_, ?_, ?_⟩
  · have r5 := HO5.out
    have r6 := ownsRow_only r5 HO6.out (fun q hq hm => by
      rw [List.mem_singleton] at hm
      have := (r5.lt q hq).1
      omega)
    have r7 := ownsRow_only r6 ((Only.refl [] _).below HB7.out) (by simp)
    have r9 := ownsRow_only r7 hO9 (fun q hq hm => by
      have := (r7.lt q hq).1
      simp only [List.mem_cons, List.not_mem_nil, or_false] at hm
      omega)
    exact r9.mono (by omega)
  · have r7 := HO7.out
    have r9 := ownsRow_only r7 hO9 (fun q hq hm => by
      have := (r7.lt q hq).1
      simp only [List.mem_cons, List.not_mem_nil, or_false] at hm
      omega)
    exact r9.mono (by omega)
  · exact ((((HB.out.trans (HB5.out.mono (by omega))).trans (only_below HO6.out _ (by simp) (by omega))).trans (HB7.out.mono (by omega))).trans (only_below hO9 _ (by simp) (by omega)))
end
end Go.Proofs.YtoleojljpaglhaaGreat
/- The reference's pager in memory: the contracts of its Begin, End, Write, Alloc, Free, SetRoot. -/
set_option maxRecDepth 20000
namespace Go.Proofs.YtoleojljpaglhaaGreat
open Go.RowKit
/-- where the reference's rows lie -/
structure RV where
  lp : Value
  ld : Value
  np : Value
  nd : Value
  ov : Value
/-- the reference's pager, and the pages that were handed out -/
structure RR where
  left : RS
  now : RS
  busy : Bool
  out : List Int
/-- the cells of both -/
def bcl (dg pg : Nat) (V : RV) (R : RR) : List Value :=
  [.pointer (some ⟨dg, 0, none⟩), .pointer (some ⟨pg, 0, none⟩), .int .i64 40] ++ (([V.lp, V.ld] ++ ints R.left.root) ++ (([V.np, V.nd] ++ ints R.now.root) ++ [.bool R.busy, V.ov]))
/-- own blocks of the rows -/
def Ob (V : RV) (q : Nat) : Prop := V.lp.ownBlock = some q ∨ V.ld.ownBlock = some q ∨ V.np.ownBlock = some q ∨ V.nd.ownBlock = some q ∨ V.ov.ownBlock = some q
def RB (B : Nat) (V : RV) (q : Nat) : Prop := q = B ∨ Ob V q
structure Rows5 (w : World) (b0 : Nat) (V : RV) (R : RR) : Prop where
  lp : w.ownsRow b0 3 1 V.lp R.left.page.length (pis R.left.page)
  ld : w.ownsRow b0 9 1 V.ld R.left.data.length (bsl R.left.data)
  np : w.ownsRow b0 3 1 V.np R.now.page.length (pis R.now.page)
  nd : w.ownsRow b0 9 1 V.nd R.now.data.length (bsl R.now.data)
  ov : w.ownsRow b0 3 1 V.ov R.out.length (pis R.out)
  s1 : ∀ q, V.lp.ownBlock = some q → V.np.ownBlock ≠ some q ∧ V.ov.ownBlock ≠ some q
  s2 : ∀ q, V.np.ownBlock = some q → V.ov.ownBlock ≠ some q
  s3 : ∀ q, V.ld.ownBlock = some q → V.nd.ownBlock ≠ some q
structure RefAt (w : World) (b0 B dg pg : Nat) (V : RV) (R : RR) : Prop where
  blk : Blk w B 59 (bcl dg pg V R).toArray
  lr : R.left.root.length = 8
  nr : R.now.root.length = 8
  rows : Rows5 w b0 V R
section
variable {w w' w'' : World} {b0 B dg pg : Nat} {V V' : RV} {R R' : RR} {T : Nat → Prop}
theorem own_types {b b' e e' n n' : Nat} {v v' : Value} {xs xs' : List Value} (h : w.ownsRow b e 1 v n xs) (h' : w.ownsRow b' e' 1 v' n' xs') (hne : e ≠ e') {q : Nat} (hq : v.ownBlock = some q) : v'.ownBlock ≠ some q := by
  intro hq'
  rcases h.2 with ⟨rfl, _⟩ | ⟨g, cap, cur, rfl, _, hh, _⟩
  · cases hq
  · rcases h'.2 with ⟨rfl, _⟩ | ⟨g', cap', cur', rfl, _, hh', _⟩
    · cases hq'
    · have e1 : g = q := by simpa [Value.ownBlock] using hq
      have e2 : g' = q := by simpa [Value.ownBlock] using hq'
      subst e1 e2
      rw [hh] at hh'
      injection hh' with hh'
      injection hh' with _ h2
      exact hne h2
theorem Rows5.lt (h : Rows5 w b0 V R) {q : Nat} (hq : Ob V q) : b0 ≤ q ∧ q < w.heap.size := by
  rcases hq with hq | hq | hq | hq | hq
  · exact h.lp.lt q hq
  · exact h.ld.lt q hq
  · exact h.np.lt q hq
  · exact h.nd.lt q hq
  · exact h.ov.lt q hq
theorem Rows5.keep (h : Rows5 w b0 V R) (k : KeepS T w w') (hn : ∀ q, Ob V q → ¬ T q) : Rows5 w' b0 V R :=
  ⟨ownsRow_keep h.lp k (fun q hq => hn q (.inl hq)), ownsRow_keep h.ld k (fun q hq => hn q (.inr (.inl hq))), ownsRow_keep h.np k (fun q hq => hn q (.inr (.inr (.inl hq)))), ownsRow_keep h.nd k (fun q hq => hn q (.inr (.inr (.inr (.inl hq))))), ownsRow_keep h.ov k (fun q hq => hn q (.inr (.inr (.inr (.inr hq))))), h.s1, h.s2, h.s3⟩
theorem RefAt.offB (h : RefAt w b0 B dg pg V R) {q : Nat} (hq : Ob V q) : q ≠ B := by
  intro e
  subst e
  rcases hq with hq | hq | hq | hq | hq
  · exact own_ne_blk h.rows.lp h.blk (by decide) hq
  · exact own_ne_blk h.rows.ld h.blk (by decide) hq
  · exact own_ne_blk h.rows.np h.blk (by decide) hq
  · exact own_ne_blk h.rows.nd h.blk (by decide) hq
  · exact own_ne_blk h.rows.ov h.blk (by decide) hq
theorem RefAt.lt (h : RefAt w b0 B dg pg V R) {q : Nat} (hq : RB B V q) : q < w.heap.size := by
  rcases hq with rfl | hq
  · exact h.blk.lt
  · exact (h.rows.lt hq).2
theorem RefAt.keep (h : RefAt w b0 B dg pg V R) (k : KeepS T w w') (hn : ∀ q, RB B V q → ¬ T q) : RefAt w' b0 B dg pg V R :=
  ⟨(k.block B h.blk.lt (hn B (.inl rfl))).trans h.blk, h.lr, h.nr, h.rows.keep k (fun q hq => hn q (.inr hq))⟩
theorem RefAt.below (h : RefAt w b0 B dg pg V R) (hb : Below w.heap.size w w') : RefAt w' b0 B dg pg V R :=
  h.keep ((KeepS.refl (fun _ => False) w).below hb) (fun _ _ h => h)
/-- only the block of both has turned, and new ones have come -/
theorem RefAt.turn (h : RefAt w b0 B dg pg V R) (k : KeepS (fun q => q = B) w w') : Rows5 w' b0 V R := h.rows.keep k (fun q hq e => h.offB hq e)
/-- what a call of the reference leaves -/
def RPost (w : World) (b0 B dg pg : Nat) (V : RV) (R' : RR) (w' : World) : Prop := ∃ V', RefAt w' b0 B dg pg V' R' ∧ KeepS (RB B V) w w' ∧ ∀ q, RB B V' q → RB B V q ∨ w.heap.size ≤ q
theorem RefAt.same (h : RefAt w b0 B dg pg V R) : RPost w b0 B dg pg V R w := ⟨V, h, KeepS.refl _ _, fun _ h => .inl h⟩
/-- the cells, one by one -/
structure Cells25 (w : World) (B dg pg : Nat) (V : RV) (R : RR) : Prop where
  c0 : w.cell? ⟨B, 0, none⟩ = some (.pointer (some ⟨dg, 0, none⟩))
  c1 : w.cell? ⟨B, 1, none⟩ = some (.pointer (some ⟨pg, 0, none⟩))
  c2 : w.cell? ⟨B, 2, none⟩ = some (.int .i64 40)
  c3 : w.cell? ⟨B, 3, none⟩ = some V.lp
  c4 : w.cell? ⟨B, 4, none⟩ = some V.ld
  c13 : w.cell? ⟨B, 13, none⟩ = some V.np
  c14 : w.cell? ⟨B, 14, none⟩ = some V.nd
  c23 : w.cell? ⟨B, 23, none⟩ = some (.bool R.busy)
  c24 : w.cell? ⟨B, 24, none⟩ = some V.ov
  root : ∀ i, i < 8 → w.cell? ⟨B, 15 + i, none⟩ = some (.int .i64 (R.now.root.getD i 0))
  fz : ∀ i, w.frozen? ⟨B, i, none⟩ = false
theorem RefAt.cells (h : RefAt w b0 B dg pg V R) : Cells25 w B dg pg V R := by
  obtain ⟨a0, a1, a2, a3, a4, a5, a6, a7, e1⟩ := len8 h.lr
  obtain ⟨r0, r1, r2, r3, r4, r5, r6, r7, e2⟩ := len8 h.nr
  have hb := h.blk
  unfold bcl at hb
  rw [e1, e2] at hb
  refine ⟨hb.cell 0, hb.cell 1, hb.cell 2, hb.cell 3, hb.cell 4, hb.cell 13, hb.cell 14, hb.cell 23, hb.cell 24, fun i hi => ?_, hb.frozen⟩
  rw [e2]
  match i, hi with
  | 0, _ => exact hb.cell 15
  | 1, _ => exact hb.cell 16
  | 2, _ => exact hb.cell 17
  | 3, _ => exact hb.cell 18
  | 4, _ => exact hb.cell 19
  | 5, _ => exact hb.cell 20
  | 6, _ => exact hb.cell 21
  | 7, _ => exact hb.cell 22
/-- the states' cells, as a struct is read -/
theorem RefAt.ranges (h : RefAt w b0 B dg pg V R) : w.rangeAt B 3 ([V.lp, V.ld] ++ ints R.left.root) ∧ w.rangeAt B 13 ([V.np, V.nd] ++ ints R.now.root) := by
  obtain ⟨a0, a1, a2, a3, a4, a5, a6, a7, e1⟩ := len8 h.lr
  obtain ⟨r0, r1, r2, r3, r4, r5, r6, r7, e2⟩ := len8 h.nr
  have hb := h.blk
  unfold bcl at hb
  rw [e1, e2] at hb
  rw [e1, e2]
  refine ⟨fun j v hj => ?_, fun j v hj => ?_⟩
  · rw [hb.cell (3 + j), List.getElem?_toArray]
    have hlt := (List.getElem?_eq_some_iff.1 hj).1
    have hlt : j < 10 := hlt
    have : ∀ j, j < 10 → ∀ v, ([V.lp, V.ld] ++ ints [a0, a1, a2, a3, a4, a5, a6, a7])[j]? = some v → ([Value.pointer (some ⟨dg, 0, none⟩), .pointer (some ⟨pg, 0, none⟩), .int .i64 40] ++ (([V.lp, V.ld] ++ ints [a0, a1, a2, a3, a4, a5, a6, a7]) ++ (([V.np, V.nd] ++ ints [r0, r1, r2, r3, r4, r5, r6, r7]) ++ [.bool R.busy, V.ov])))[3 + j]? = some v := fun j hj v hv => by
      rw [List.getElem?_append_right (by simp), List.getElem?_append_left (by simp [ints]; omega)]
      rw [← hv]
      congr 1
      simp
    exact this j hlt v hj
  · rw [hb.cell (13 + j), List.getElem?_toArray]
    have hlt := (List.getElem?_eq_some_iff.1 hj).1
    have hlt : j < 10 := hlt
    rw [List.getElem?_append_right (by simp; omega), List.getElem?_append_right (by simp [ints]; omega), List.getElem?_append_left (by simp [ints]; omega)]
    rw [← hj]
    congr 1
    simp [ints]
    omega
theorem RefAt.there (h : RefAt w b0 B dg pg V R) (o : Nat) (ho : o ≤ 15) : w.there B o 10 := fun j hj => by
  refine ⟨?_, h.blk.frozen _⟩
  have hs : (bcl dg pg V R).toArray.size = 25 := by
    rw [List.size_toArray]
    unfold bcl ints
    simp [h.lr, h.nr]
  rw [h.blk.cell (o + j), Array.getElem?_eq_getElem (by omega)]
  rfl
theorem bcl_now (V : RV) (R : RR) (h1 : R.left.root.length = 8) (h2 : R.now.root.length = 8) (np nd : Value) (s : RS) (hs : s.root.length = 8) : (bcl dg pg V R).take 13 ++ (([np, nd] ++ ints s.root) ++ (bcl dg pg V R).drop (13 + ([np, nd] ++ ints s.root).length)) = bcl dg pg { V with np := np, nd := nd } { R with now := s } := by
  obtain ⟨a0, a1, a2, a3, a4, a5, a6, a7, e1⟩ := len8 h1
  obtain ⟨r0, r1, r2, r3, r4, r5, r6, r7, e2⟩ := len8 h2
  obtain ⟨t0, t1, t2, t3, t4, t5, t6, t7, e3⟩ := len8 hs
  unfold bcl
  simp only
  rw [e1, e2, e3]
  rfl
theorem bcl_left (V : RV) (R : RR) (h1 : R.left.root.length = 8) (h2 : R.now.root.length = 8) (lp ld : Value) (s : RS) (hs : s.root.length = 8) : (bcl dg pg V R).take 3 ++ (([lp, ld] ++ ints s.root) ++ (bcl dg pg V R).drop (3 + ([lp, ld] ++ ints s.root).length)) = bcl dg pg { V with lp := lp, ld := ld } { R with left := s } := by
  obtain ⟨a0, a1, a2, a3, a4, a5, a6, a7, e1⟩ := len8 h1
  obtain ⟨r0, r1, r2, r3, r4, r5, r6, r7, e2⟩ := len8 h2
  obtain ⟨t0, t1, t2, t3, t4, t5, t6, t7, e3⟩ := len8 hs
  unfold bcl
  simp only
  rw [e1, e2, e3]
  rfl
theorem bcl_set (V : RV) (R : RR) (h1 : R.left.root.length = 8) (h2 : R.now.root.length = 8) : (∀ b, (bcl dg pg V R).toArray.setIfInBounds 23 (.bool b) = (bcl dg pg V { R with busy := b }).toArray) ∧ (∀ v, (bcl dg pg V R).toArray.setIfInBounds 13 v = (bcl dg pg { V with np := v } R).toArray) ∧ (∀ v, (bcl dg pg V R).toArray.setIfInBounds 14 v = (bcl dg pg { V with nd := v } R).toArray) ∧ (∀ v, (bcl dg pg V R).toArray.setIfInBounds 24 v = (bcl dg pg { V with ov := v } R).toArray) ∧ (∀ p, (bcl dg pg V R).toArray.setIfInBounds 1 (.pointer (some ⟨p, 0, none⟩)) = (bcl dg p V R).toArray) ∧ (∀ i, i < 8 → ∀ x, (bcl dg pg V R).toArray.setIfInBounds (15 + i) (.int .i64 x) = (bcl dg pg V { R with now := { R.now with root := R.now.root.set i x } }).toArray) := by
  obtain ⟨a0, a1, a2, a3, a4, a5, a6, a7, e1⟩ := len8 h1
  obtain ⟨r0, r1, r2, r3, r4, r5, r6, r7, e2⟩ := len8 h2
  unfold bcl
  simp only
  rw [e1, e2]
  refine ⟨fun b => by simp [ints], fun v => by simp [ints], fun v => by simp [ints], fun v => by simp [ints], fun p => by simp [ints], fun i hi x => ?_⟩
  match i, hi with
  | 0, _ => simp [ints]
  | 1, _ => simp [ints]
  | 2, _ => simp [ints]
  | 3, _ => simp [ints]
  | 4, _ => simp [ints]
  | 5, _ => simp [ints]
  | 6, _ => simp [ints]
  | 7, _ => simp [ints]
/-- one cell of both is written over -/
theorem RefAt.setBusy (h : RefAt w b0 B dg pg V R) (b : Bool) : RefAt (w.setCell ⟨B, 23, none⟩ (.bool b)) b0 B dg pg V { R with busy := b } := by
  have ho : Only [B] w (w.setCell ⟨B, 23, none⟩ (.bool b)) := (Only.refl _ _).own 23 _
  have hk : KeepS (fun q => q = B) w (w.setCell ⟨B, 23, none⟩ (.bool b)) := (KeepS.refl _ _).only ho (fun b hb => List.mem_singleton.1 hb)
  have hr := h.turn hk
  exact ⟨(h.blk.set_ 23 _).eq_ ((bcl_set V R h.lr h.nr).1 b), h.lr, h.nr, ⟨hr.lp, hr.ld, hr.np, hr.nd, hr.ov, hr.s1, hr.s2, hr.s3⟩⟩
theorem keep_one (o : Nat) (v : Value) : KeepS (RB B V) w (w.setCell ⟨B, o, none⟩ v) := (KeepS.refl _ _).only (fp := [B]) ((Only.refl _ _).own o _) (fun b hb => .inl (List.mem_singleton.1 hb))
/-- Now becomes a copy of Left -/
theorem RefAt.toNow {np nd : Value} (h : RefAt w b0 B dg pg V R) (hb : Below w.heap.size w w') (hbase : b0 ≤ w.heap.size) (hp : w'.ownsRow w.heap.size 3 1 np R.left.page.length (pis R.left.page)) (hd : w'.ownsRow w.heap.size 9 1 nd R.left.data.length (bsl R.left.data)) :
    RefAt (w'.setCells B 13 ([np, nd] ++ ints R.left.root)) b0 B dg pg { V with np := np, nd := nd } { R with now := R.left } ∧ KeepS (RB B V) w (w'.setCells B 13 ([np, nd] ++ ints R.left.root)) := by
  have h1 := h.below hb
  have ho : Only [B] w' (w'.setCells B 13 ([np, nd] ++ ints R.left.root)) := only_setCells (.inl (by simp)) _ _ _ (Only.refl _ _)
  have hk : KeepS (fun q => q = B) w' (w'.setCells B 13 ([np, nd] ++ ints R.left.root)) := (KeepS.refl _ _).only ho (fun b hb => List.mem_singleton.1 hb)
  have hr := h1.turn hk
  have hlt := h.blk.lt
  have hblk := Blk.setCells ([np, nd] ++ ints R.left.root) 13 w' (bcl dg pg V R) h1.blk (by
    unfold bcl ints
    simp [h.lr, h.nr])
  rw [bcl_now V R h.lr h.nr np nd R.left h.lr] at hblk
  refine ⟨⟨hblk, h.lr, h.lr, ⟨hr.lp, hr.ld, ?_, ?_, hr.ov, fun q hq => ⟨fun e => ?_, (hr.s1 q hq).2⟩, fun q hq e => ?_, fun q hq e => ?_⟩⟩, ?_⟩
  · exact (ownsRow_keep hp hk (fun q hq e => by have := (hp.lt q hq).1; omega)).mono hbase
  · exact (ownsRow_keep hd hk (fun q hq e => by have := (hd.lt q hq).1; omega)).mono hbase
  · have := (hp.lt q e).1
    have := (h.rows.lp.lt q hq).2
    omega
  · have := (hp.lt q hq).1
    have := (h.rows.ov.lt q e).2
    omega
  · have := (hd.lt q e).1
    have := (h.rows.ld.lt q hq).2
    omega
  · exact ((KeepS.refl _ w).below hb).trans hk (fun x e => .inl e)
/-- Left becomes a copy of Now -/
theorem RefAt.toLeft {lp ld : Value} (h : RefAt w b0 B dg pg V R) (hb : Below w.heap.size w w') (hbase : b0 ≤ w.heap.size) (hp : w'.ownsRow w.heap.size 3 1 lp R.now.page.length (pis R.now.page)) (hd : w'.ownsRow w.heap.size 9 1 ld R.now.data.length (bsl R.now.data)) :
    RefAt (w'.setCells B 3 ([lp, ld] ++ ints R.now.root)) b0 B dg pg { V with lp := lp, ld := ld } { R with left := R.now } ∧ KeepS (RB B V) w (w'.setCells B 3 ([lp, ld] ++ ints R.now.root)) := by
  have h1 := h.below hb
  have ho : Only [B] w' (w'.setCells B 3 ([lp, ld] ++ ints R.now.root)) := only_setCells (.inl (by simp)) _ _ _ (Only.refl _ _)
  have hk : KeepS (fun q => q = B) w' (w'.setCells B 3 ([lp, ld] ++ ints R.now.root)) := (KeepS.refl _ _).only ho (fun b hb => List.mem_singleton.1 hb)
  have hr := h1.turn hk
  have hlt := h.blk.lt
  have hblk := Blk.setCells ([lp, ld] ++ ints R.now.root) 3 w' (bcl dg pg V R) h1.blk (by
    unfold bcl ints
    simp [h.lr, h.nr])
  rw [bcl_left V R h.lr h.nr lp ld R.now h.nr] at hblk
  refine ⟨⟨hblk, h.nr, h.nr, ⟨?_, ?_, hr.np, hr.nd, hr.ov, fun q hq => ⟨fun e => ?_, fun e => ?_⟩, hr.s2, fun q hq e => ?_⟩⟩, ?_⟩
  · exact (ownsRow_keep hp hk (fun q hq e => by have := (hp.lt q hq).1; omega)).mono hbase
  · exact (ownsRow_keep hd hk (fun q hq e => by have := (hd.lt q hq).1; omega)).mono hbase
  · have := (hp.lt q hq).1
    have := (h.rows.np.lt q e).2
    omega
  · have := (hp.lt q hq).1
    have := (h.rows.ov.lt q e).2
    omega
  · have := (hd.lt q hq).1
    have := (h.rows.nd.lt q e).2
    omega
  · exact ((KeepS.refl _ w).below hb).trans hk (fun x e => .inl e)
end
end Go.Proofs.YtoleojljpaglhaaGreat
/- The contracts of the reference's Begin, End, Write, SetRoot. -/
set_option maxRecDepth 20000
namespace Go.Proofs.YtoleojljpaglhaaGreat
open Go.RowKit
section
variable {w w' w'' : World} {b0 B dg pg : Nat} {V V' : RV} {R R' R'' : RR}
theorem RPost.trans' (h1 : KeepS (RB B V) w w') (h2 : ∀ q, RB B V' q → RB B V q ∨ w.heap.size ≤ q) (h : RPost w' b0 B dg pg V' R' w'') : RPost w b0 B dg pg V R' w'' := by
  obtain ⟨V'', h3, h4, h5⟩ := h
  refine ⟨V'', h3, ⟨h4.os.trans h1.os, h4.tape.trans h1.tape, h4.output.trans h1.output, Nat.le_trans h1.size h4.size, fun x hx hn => ?_⟩, fun q hq => ?_⟩
  · refine (h4.block x (Nat.lt_of_lt_of_le hx h1.size) (fun hm => ?_)).trans (h1.block x hx hn)
    rcases h2 x hm with h6 | h6
    · exact hn h6
    · omega
  · rcases h5 q hq with h6 | h6
    · exact h2 q h6
    · exact .inr (Nat.le_trans h1.size h6)
theorem rbegin_busy (h : RefAt w b0 B dg pg V R) (hb : R.busy = true) : Calls Tryz.prog 49 #[.pointer (some ⟨B, 2, none⟩)] w fun e w' => e = .returned (.int .i64 90) ∧ w = w' := by
  have c23 := h.cells.c23
  rw [hb] at c23
  clear h
  go_enter Tryz.func49, Tryz.ntmps49
  go_wp2_with fail
  go_ret
  exact ⟨rfl, rfl⟩
theorem now_fresh {np nd : Value} {b : Nat} {l : List Int} {ds : List ByteArray} {n m : Nat} (hp : w'.ownsRow b 3 1 np n (pis l)) (hd : w'.ownsRow b 9 1 nd m (bsl ds)) : ∀ q, RB B { V with np := np, nd := nd } q → RB B V q ∨ b ≤ q := by
  rintro q (h | h | h | h | h | h)
  · exact .inl (.inl h)
  · exact .inl (.inr (.inl h))
  · exact .inl (.inr (.inr (.inl h)))
  · exact .inr (hp.lt q h).1
  · exact .inr (hd.lt q h).1
  · exact .inl (.inr (.inr (.inr (.inr (.inr h)))))
theorem left_fresh {lp ld : Value} {b : Nat} {l : List Int} {ds : List ByteArray} {n m : Nat} (hp : w'.ownsRow b 3 1 lp n (pis l)) (hd : w'.ownsRow b 9 1 ld m (bsl ds)) : ∀ q, RB B { V with lp := lp, ld := ld } q → RB B V q ∨ b ≤ q := by
  rintro q (h | h | h | h | h | h)
  · exact .inl (.inl h)
  · exact .inr (hp.lt q h).1
  · exact .inr (hd.lt q h).1
  · exact .inl (.inr (.inr (.inr (.inl h))))
  · exact .inl (.inr (.inr (.inr (.inr (.inl h)))))
  · exact .inl (.inr (.inr (.inr (.inr (.inr h)))))
set_option maxHeartbeats 1000000 in
theorem rbegin_free (h : RefAt w b0 B dg pg V R) (hb : R.busy = false) (hbase : b0 ≤ w.heap.size) (hl : R.left.page.length ≤ 1000) (hl2 : R.left.data.length ≤ 1000) :
    Calls Tryz.prog 49 #[.pointer (some ⟨B, 2, none⟩)] w fun e w' => e = .returned (.int .i64 0) ∧ RPost w b0 B dg pg V { R with busy := true, now := R.left } w' := by
  obtain ⟨a0, a1, a2, a3, a4, a5, a6, a7, e1⟩ := len8 h.lr
  have c23 := h.cells.c23
  rw [hb] at c23
  have f23 := h.cells.fz 23
  have h1 := h.setBusy true
  have hk1 : KeepS (RB B V) w (w.setCell ⟨B, 23, none⟩ (.bool true)) := keep_one 23 _
  have hrg : (w.setCell ⟨B, 23, none⟩ (.bool true)).rangeAt B 3 [V.lp, V.ld, .int .i64 a0, .int .i64 a1, .int .i64 a2, .int .i64 a3, .int .i64 a4, .int .i64 a5, .int .i64 a6, .int .i64 a7] := by
    have := h1.ranges.1
    have e2 : ({ R with busy := true } : RR).left.root = [a0, a1, a2, a3, a4, a5, a6, a7] := e1
    rw [e2] at this
    exact this
  have hcp := copyState_any (r := [a0, a1, a2, a3, a4, a5, a6, a7]) h1.rows.lp h1.rows.ld rfl hl hl2
  rw [stc_lit] at hcp
  have HRG := Lib.hid hrg
  have HCP := Lib.hid hcp
  have H1 := Lib.hid h1
  have HK1 := Lib.hid hk1
  have HBS := Lib.hid hbase
  have HE1 := Lib.hid e1
  clear h hrg hcp h1 hk1 hbase hl hl2 e1
  go_enter Tryz.func49, Tryz.ntmps49
  go_wp2_with (refine wpList_load_mid rfl 55 (.tmp 13) rfl B 3 rfl _ _ HRG.out Tryz.underlying55 rfl (by kernel_rfl) ?_)
  (with_reducible refine HCP.out.mono ?_)
  rintro e w2 ⟨vp, vd, rfl, hp, hd, hb2⟩
  obtain ⟨_, A1, p1, rfl, _⟩ := row_form hp
  obtain ⟨_, A2, p2, rfl, _⟩ := row_form hd
  have hth := (H1.out.below hb2).there 13 (by omega)
  have hnow := H1.out.toNow hb2 (by have := HK1.out.size; have := HBS.out; omega) hp hd
  have HTH := Lib.hid hth
  have HNOW := Lib.hid hnow
  have HFR := Lib.hid (now_fresh (B := B) (V := V) hp hd)
  clear hth hnow hp hd hb2 c23 f23
  rw [stc_lit]
  go_wp2_with (refine wpList_store_mid rfl 55 (.tmp 17) (.tmp 15) rfl B 13 _ rfl rfl HTH.out (by kernel_rfl) (st_one _ _ _ _ _ _ _ _ _ _ _ _ _ _) ?_)
  go_ret
  refine ⟨rfl, ?_⟩
  obtain ⟨hR, hK⟩ := HNOW.out
  have e2 : ({ R with busy := true } : RR).left.root = [a0, a1, a2, a3, a4, a5, a6, a7] := HE1.out
  rw [e2] at hR hK
  refine RPost.trans' HK1.out (fun q hq => .inl hq) ⟨_, hR, hK, fun q hq => ?_⟩
  exact HFR.out q hq
end
end Go.Proofs.YtoleojljpaglhaaGreat
