/- A pager and its reference side by side: what a call of the one leaves of the other. -/
import Derived.Test.YtoleojljpaglhaaGreatPeB
import Derived.Test.YtoleojljpaglhaaGreatPeE
import Derived.Test.YtoleojljpaglhaaGreatPeG
set_option maxRecDepth 20000
namespace Go.Proofs.YtoleojljpaglhaaGreat
open Go.RowKit
set_option maxRecDepth 20000
/-- with a transaction, or with none -/
def PP.opn (P : PP) (o : Option PT) : PP := { P with tx := o }
theorem opn_none {P : PP} (h : P.tx = none) : P.opn none = P := no_tx P h
theorem opn_some (P : PP) (t : PT) : P.opn (some t) = P.with_ t := rfl
/-- blocks that are kept as they are -/
abbrev Kept := Nat → Option Obj
def noH : Kept := fun _ => none
def oneH (b : Nat) (x : Obj) : Kept := fun q => if q = b then some x else none
theorem oneH_self (b : Nat) (x : Obj) : oneH b x b = some x := if_pos rfl
structure Side (w0 : World) (B : Nat) (H : Kept) (G : PH) (d : Vd.VD) (L : Wa.WL) (P : PP) (V : RV) (R : RR) (wr : World) : Prop where
  pg : PG (Up w0.heap.size) w0 wr G d L P
  ref : RefAt wr w0.heap.size B G.dg G.pg V R
  sep : ∀ q, RB B V q → ¬ PFoot G P wr q
  base : w0.heap.size ≤ B
  kept : ∀ q x, H q = some x → wr.heap[q]? = some x ∧ ¬ PFoot G P wr q ∧ ¬ RB B V q
def rbl (B : Nat) (V : RV) : List Nat := B :: [V.lp, V.ld, V.np, V.nd, V.ov].filterMap Value.ownBlock
theorem mem_rbl {B : Nat} {V : RV} {q : Nat} : q ∈ rbl B V ↔ RB B V q := by
  unfold rbl RB Ob
  rw [List.mem_cons, List.mem_filterMap]
  constructor
  · rintro (h | ⟨v, hv, h⟩)
    · exact .inl h
    · simp only [List.mem_cons, List.not_mem_nil, or_false] at hv
      rcases hv with rfl | rfl | rfl | rfl | rfl
      · exact .inr (.inl h)
      · exact .inr (.inr (.inl h))
      · exact .inr (.inr (.inr (.inl h)))
      · exact .inr (.inr (.inr (.inr (.inl h))))
      · exact .inr (.inr (.inr (.inr (.inr h))))
  · rintro (h | h | h | h | h | h)
    · exact .inl h
    · exact .inr ⟨V.lp, by simp, h⟩
    · exact .inr ⟨V.ld, by simp, h⟩
    · exact .inr ⟨V.np, by simp, h⟩
    · exact .inr ⟨V.nd, by simp, h⟩
    · exact .inr ⟨V.ov, by simp, h⟩
section
variable {S : Nat → Prop} {w0 w w' wr : World} {B g dg pg : Nat} {H : Kept} {G G' : PH} {d d' : Vd.VD} {L L' : Wa.WL} {P P' : PP} {V : RV} {R R' : RR} {o : Option PT} {t : PT}
theorem PG.aside {ob : List Nat} (h : PG S w0 w G d L P) (ho : Only ob w w') (hb : ∀ b ∈ ob, S b ∧ ¬ PFoot G P w b) : PG S w0 w' G d L P := by
  have nO : ∀ b, Own G P b → b ∉ ob := fun b h1 h2 => (hb b h2).2 (.inl h1)
  have hk : KeepS (fun b => b ∈ ob) w w' := (KeepS.refl _ w).only ho (fun b h => h)
  refine ⟨h.log.aside ho (fun b hm => ⟨(hb b hm).1, fun e => (hb b hm).2 (.inr (.inl e)), fun e => (hb b hm).2 (.inr (.inr (.inl e))), fun e => (hb b hm).2 (.inr (.inr (.inr (.inl e))))⟩), h.blk.only ho (nO _ (.inl rfl)), h.len,
    fun hu => (h.pm hu).at (hk.block _ (h.pm hu).lt (nO _ (.inr (.inl ⟨hu, rfl⟩)))), fun t ht => ?_, ownsRow_only h.row ho (fun q hq => nO q (.inr (.inr (.inr hq)))), h.own⟩
  have hne : P.tx ≠ none := by rw [ht]; simp
  exact (h.tx t ht).keep hk (nO _ (.inr (.inr (.inl ⟨hne, .inl rfl⟩)))) (nO _ (.inr (.inr (.inl ⟨hne, .inr (.inl rfl)⟩)))) (nO _ (.inr (.inr (.inl ⟨hne, .inr (.inr rfl)⟩))))
/-- a block that was not there when the pager last changed is none of its own -/
theorem PG.fresh_not (h : PG S w0 w G d L P) {q : Nat} (h1 : w.heap.size ≤ q) (h2 : q < w'.heap.size) : ¬ PFoot G P w' q := by
  rintro (h3 | h3 | h3 | h3 | h3)
  · have := h.lt q h3; omega
  · have := h.log.blk.lt; omega
  · have := h.log.disk.lt q h3; omega
  · have := ownBlock_lt h.log.row h3; omega
  · omega
theorem pfoot_stays (hs : w.heap.size ≤ w'.heap.size) {q : Nat} (hq : q < w.heap.size) (hn : ¬ PFoot G P w q) : ¬ PFoot G P w' q := by
  rintro (h1 | h1 | h1 | h1 | h1)
  · exact hn (.inl h1)
  · exact hn (.inr (.inl h1))
  · exact hn (.inr (.inr (.inl h1)))
  · exact hn (.inr (.inr (.inr (.inl h1))))
  · omega
theorem Side.viaPg (h : Side w0 B H G d L P V R wr) (k : PG (PFoot G P wr) wr w' G' d' L' P') (e1 : G'.pg = G.pg) (e2 : G'.dg = G.dg) : Side w0 B H G' d' L' P' V R w' := by
  refine ⟨h.pg.via k, ?_, fun q hq => (k.stays (h.ref.lt hq) (h.sep q hq)).2, h.base, fun q x hx => ?_⟩
  · rw [e1, e2]
    exact h.ref.keep k.log.bel h.sep
  · obtain ⟨h1, h2, h3⟩ := h.kept q x hx
    have hlt : q < wr.heap.size := (Array.getElem?_eq_some_iff.1 h1).1
    obtain ⟨k1, k2⟩ := k.stays hlt h2
    exact ⟨k1.trans h1, k2, h3⟩
theorem Side.viaRef (h : Side w0 B H G d L P V R wr) (hp : RPost wr w0.heap.size B G.dg G.pg V R' w') : ∃ V', Side w0 B H G d L P V' R' w' := by
  obtain ⟨V', hR, hK, hN⟩ := hp
  have ho : Only (rbl B V) wr w' := ⟨hK.os, hK.tape, hK.output, hK.size, fun k hk hn => hK.block k hk (fun h => hn (mem_rbl.2 h))⟩
  have hup : ∀ q, RB B V q → Up w0.heap.size q := fun q hq => by
    rcases hq with rfl | hq
    · exact h.base
    · exact (h.ref.rows.lt hq).1
  have hP := h.pg.aside ho (fun b hb => ⟨hup b (mem_rbl.1 hb), h.sep b (mem_rbl.1 hb)⟩)
  refine ⟨V', hP, hR, fun q hq => ?_, h.base, fun q x hx => ?_⟩
  · rcases hN q hq with h1 | h1
    · exact pfoot_stays hK.size (h.ref.lt h1) (h.sep q h1)
    · exact h.pg.fresh_not h1 (hR.lt hq)
  · obtain ⟨h1, h2, h3⟩ := h.kept q x hx
    have hlt : q < wr.heap.size := (Array.getElem?_eq_some_iff.1 h1).1
    refine ⟨(ho.block q hlt (fun hm => h3 (mem_rbl.1 hm))).trans h1, pfoot_stays hK.size hlt h2, fun hm => ?_⟩
    rcases hN q hm with h4 | h4
    · exact h3 h4
    · omega
theorem Side.later (h : Side w0 B H G d L P V R wr) (hb : Below wr.heap.size wr w') : Side w0 B H G d L P V R w' := h.viaPg (h.pg.rebase.later hb) rfl rfl
theorem Side.forget (h : Side w0 B H G d L P V R wr) : Side w0 B noH G d L P V R wr := ⟨h.pg, h.ref, h.sep, h.base, fun q x hx => (by cases hx)⟩
theorem Side.push (h : Side w0 B noH G d L P V R wr) (x : Obj) : Side w0 B (oneH wr.heap.size x) G d L P V R (wr.alloc x) := by
  have h1 := h.later ((Below.refl _ wr).alloc (Nat.le_refl _) x)
  refine ⟨h1.pg, h1.ref, h1.sep, h1.base, fun q y hy => ?_⟩
  unfold oneH at hy
  split at hy
  · next e =>
    subst e
    injection hy with hy
    subst hy
    refine ⟨heap_alloc_new wr x, h.pg.fresh_not (Nat.le_refl _) (by simp), fun hm => ?_⟩
    have := h.ref.lt hm
    omega
  · cases hy
theorem Side.below (h : Side w0 B H G d L P V R wr) (_hw : w0.heap.size ≤ wr.heap.size) : Below w0.heap.size w0 wr := h.pg.log.bel.toBelow (Nat.le_refl _)
/-- the reference's state is the pager's -/
structure Alike (d : Vd.VD) (L : Wa.WL) (P : PP) (o : Option PT) (R : RR) (g : Nat) : Prop where
  tn : P.tx = none
  n : P.n = 40
  hi : Pb.HI d L P
  tx : ∀ t, o = some t → Pb.TxI P t
  left : Sm P.pages P.roots P.sz R.left
  now : Sm (P.opn o).seen (P.opn o).seenRoots (P.opn o).seenSz R.now
  busy : R.busy = o.isSome
  gen : L.gen ≤ g
  wr : d.writes ≤ 100000 * (g : Int)
  out : R.out.length ≤ g
  in_ : ∀ k ∈ R.out, 1 ≤ k ∧ k ≤ 32
theorem Alike.wf (h : Alike d L P o R g) : Pb.Wf 40 (P.opn o).seen (P.opn o).seenRoots (P.opn o).seenSz := by
  rw [← h.n]
  cases ho : o with
  | none => exact h.hi.inv.wf
  | some t => exact (h.tx t ho).ok.wf
theorem Alike.small (h : Alike d L P o R g) : (R.left.page.length ≤ 32 ∧ R.left.data.length ≤ 32) ∧ (R.now.page.length ≤ 32 ∧ R.now.data.length ≤ 32) := by
  have h1 := Pb.wf_sz_le h.wf
  have h2 := Pb.wf_sz_le h.hi.inv.wf
  have h3 := h.left.sz
  have h4 := h.now.sz
  have h5 := h.left.len
  have h6 := h.now.len
  have := h.n
  omega
theorem Alike.more (h : Alike d L P o R g) {g' : Nat} (hg : g ≤ g') : Alike d L P o R g' :=
  ⟨h.tn, h.n, h.hi, h.tx, h.left, h.now, h.busy, Nat.le_trans h.gen hg, by have := h.wr; omega, Nat.le_trans h.out hg, h.in_⟩
theorem Alike.dom (h : Alike d L P o R g) {k : Int} (hk : k ∈ R.now.page) : 1 ≤ k ∧ k ≤ 32 := by
  obtain ⟨b, hb⟩ := Option.isSome_iff_exists.1 (h.now.used.2 hk)
  have := h.wf.dom k b hb
  omega
/-- the law's both at work -/
structure Bo (w0 : World) (B dg pg g : Nat) (H : Kept) (wr : World) : Prop where
  ex : ∃ G d L P o V R, Side w0 B H G d L (P.opn o) V R wr ∧ G.pg = pg ∧ G.dg = dg ∧ Alike d L P o R g
theorem Bo.later (h : Bo w0 B dg pg g H wr) (hb : Below wr.heap.size wr w') : Bo w0 B dg pg g H w' := by
  obtain ⟨G, d, L, P, o, V, R, hS, h1, h2, hA⟩ := h.ex
  exact ⟨G, d, L, P, o, V, R, hS.later hb, h1, h2, hA⟩
theorem Bo.forget (h : Bo w0 B dg pg g H wr) : Bo w0 B dg pg g noH wr := by
  obtain ⟨G, d, L, P, o, V, R, hS, h1, h2, hA⟩ := h.ex
  exact ⟨G, d, L, P, o, V, R, hS.forget, h1, h2, hA⟩
theorem Bo.push (h : Bo w0 B dg pg g noH wr) (x : Obj) : Bo w0 B dg pg g (oneH wr.heap.size x) (wr.alloc x) := by
  obtain ⟨G, d, L, P, o, V, R, hS, h1, h2, hA⟩ := h.ex
  exact ⟨G, d, L, P, o, V, R, hS.push x, h1, h2, hA⟩
theorem Bo.more (h : Bo w0 B dg pg g H wr) {g' : Nat} (hg : g ≤ g') : Bo w0 B dg pg g' H wr := by
  obtain ⟨G, d, L, P, o, V, R, hS, h1, h2, hA⟩ := h.ex
  exact ⟨G, d, L, P, o, V, R, hS, h1, h2, hA.more hg⟩
/-- what stands between two calls -/
structure Mid (B dg pg : Nat) (H : Kept) (wr : World) : Prop where
  c0 : wr.cell? ⟨B, 0, none⟩ = some (.pointer (some ⟨dg, 0, none⟩))
  c1 : wr.cell? ⟨B, 1, none⟩ = some (.pointer (some ⟨pg, 0, none⟩))
  kept : ∀ q x, H q = some x → wr.heap[q]? = some x
theorem Side.mid (h : Side w0 B H G d L P V R wr) : Mid B G.dg G.pg H wr := ⟨h.ref.cells.c0, h.ref.cells.c1, fun q x hx => (h.kept q x hx).1⟩
theorem Bo.mid (h : Bo w0 B dg pg g H wr) : Mid B dg pg H wr := by
  obtain ⟨G, d, L, P, o, V, R, hS, rfl, rfl, hA⟩ := h.ex
  exact hS.mid
theorem Mid.blk {op : Nat} {ty : TypeId} {cs : Array Value} (h : Mid B dg pg (oneH op (.cells cs ty (0, 0))) wr) : Blk wr op ty cs := h.kept op _ (oneH_self _ _)
/-- two calls that answer alike, the one behind the other -/
@[reducible] def Pair (f1 f2 : Nat) (a1 a2 : Array Value) (wr : World) (M K : World → Prop) : Prop :=
  Calls Tryz.prog f1 a1 wr fun e w' => ∃ c : Int, e = .returned (.int .i64 c) ∧ M w' ∧ ∀ W, Below w'.heap.size w' W → Calls Tryz.prog f2 a2 W fun e w'' => e = .returned (.int .i64 c) ∧ K w''
end
end Go.Proofs.YtoleojljpaglhaaGreat
/- The law's both: a call of the pager and the reference's, the one behind the other. -/
set_option maxRecDepth 20000
namespace Go.Proofs.YtoleojljpaglhaaGreat
open Go.RowKit
section
variable {S : Nat → Prop} {w0 w w' wr : World} {B g dg pg : Nat} {H : Kept} {G G' : PH} {d d' : Vd.VD} {L L' : Wa.WL} {P P' : PP} {V : RV} {R R' : RR} {o : Option PT} {t : PT}
theorem Side.low (h : Side w0 B H G d L P V R wr) : w0.heap.size ≤ wr.heap.size := Nat.le_trans h.base (Nat.le_of_lt h.ref.blk.lt)
theorem Alike.wlt (h : Alike d L P o R g) (hg : g ≤ 250) : d.writes < 800000000 := by have := h.wr; omega
theorem mid_of (h : Side w0 B H G' d L P V R wr) (e1 : G'.pg = G.pg) (e2 : G'.dg = G.dg) : Mid B G.dg G.pg H wr := by
  have := h.mid
  rwa [e1, e2] at this
theorem bo_begin (h : Bo w0 B dg pg g H wr) (hg : g ≤ 250) : Pair 40 49 #[.pointer (some ⟨pg, 0, none⟩)] #[.pointer (some ⟨B, 2, none⟩)] wr (Mid B dg pg H) (Bo w0 B dg pg (g + 1) H) := by
  obtain ⟨G, d, L, P, o, V, R, hS, rfl, rfl, hA⟩ := h.ex
  have hsm := hA.small
  have hw := hA.wlt hg
  unfold Pair
  cases o with
  | none =>
    rw [opn_none hA.tn] at hS
    refine (hbegin hS.pg.rebase hA.tn hA.hi hw).mono ?_
    rintro e w' ⟨he, G', e1, e2, hP⟩
    have hS' := hS.viaPg hP e1 e2
    refine ⟨0, he, mid_of hS' e1 e2, fun W hW => ?_⟩
    have hS2 := hS'.later hW
    have hb : R.busy = false := hA.busy
    refine (rbegin_free hS2.ref hb hS2.low (by omega) (by omega)).mono ?_
    rintro e w'' ⟨he, hp⟩
    obtain ⟨V', hS3⟩ := hS2.viaRef hp
    exact ⟨he, ⟨G', d, L, P, some (freshT P), V', _, hS3, e1, e2, hA.tn, hA.n, hA.hi, fun t ht => (by injection ht with ht; subst ht; exact Pb.TxI.fresh hA.hi.inv.wf), hA.left, hA.left, rfl, Nat.le_succ_of_le hA.gen, by have := hA.wr; omega, Nat.le_succ_of_le hA.out, hA.in_⟩⟩
  | some t =>
    refine (pbegin_busy hS.pg hA.hi.inv.on t rfl).mono ?_
    rintro e w' ⟨he, rfl⟩
    refine ⟨90, he, hS.mid, fun W hW => ?_⟩
    have hS2 := hS.later hW
    refine (rbegin_busy hS2.ref hA.busy).mono ?_
    rintro e w'' ⟨he, rfl⟩
    exact ⟨he, ⟨G, d, L, P, some t, V, R, hS2, rfl, rfl, hA.more (Nat.le_succ g)⟩⟩
theorem bo_commit (h : Bo w0 B dg pg g H wr) (hg : g ≤ 250) : Pair 50 51 #[.pointer (some ⟨pg, 0, none⟩)] #[.pointer (some ⟨B, 2, none⟩), .bool true] wr (Mid B dg pg H) (Bo w0 B dg pg (g + 1) H) := by
  obtain ⟨G, d, L, P, o, V, R, hS, rfl, rfl, hA⟩ := h.ex
  have hsm := hA.small
  have hw := hA.wlt hg
  unfold Pair
  cases o with
  | none =>
    refine (pcommit_closed hS.pg rfl).mono ?_
    rintro e w' ⟨he, hb⟩
    have hS1 := hS.later hb
    refine ⟨90, he, hS1.mid, fun W hW => ?_⟩
    have hS2 := hS1.later hW
    refine (rend_closed hS2.ref hA.busy true).mono ?_
    rintro e w'' ⟨he, rfl⟩
    exact ⟨he, ⟨G, d, L, P, none, V, R, hS2, rfl, rfl, hA.more (Nat.le_succ g)⟩⟩
  | some t =>
    refine (hcommit hS.pg.rebase hA.tn hA.hi (hA.tx t rfl) (by have := hA.gen; omega) hw).mono ?_
    rintro e w' ⟨he, G', d', L', P', e1, e2, hP, k1, k2, k3, k4, k5, k6, k7, k8⟩
    have hS' := hS.viaPg hP e1 e2
    refine ⟨0, he, mid_of hS' e1 e2, fun W hW => ?_⟩
    have hS2 := hS'.later hW
    refine (rend_commit hS2.ref hA.busy hS2.low (by omega) (by omega)).mono ?_
    rintro e w'' ⟨he, hp⟩
    obtain ⟨V', hS3⟩ := hS2.viaRef hp
    rw [← opn_none k1] at hS3
    have hn := hA.now
    have hn2 : Sm t.pages t.roots t.sz R.now := hn
    rw [← k3, ← k4, ← k5] at hn2
    exact ⟨he, ⟨G', d', L', P', none, V', _, hS3, e1, e2, k1, k2.trans hA.n, k6, fun t ht => (by cases ht), hn2, hn2, rfl, by have := hA.gen; omega, by have := hA.wr; have := k8.wr; have := hA.n; omega, Nat.le_succ_of_le hA.out, hA.in_⟩⟩
theorem bo_abort (h : Bo w0 B dg pg g H wr) (hg : g ≤ 250) : Pair 52 51 #[.pointer (some ⟨pg, 0, none⟩)] #[.pointer (some ⟨B, 2, none⟩), .bool false] wr (Mid B dg pg H) (Bo w0 B dg pg (g + 1) H) := by
  obtain ⟨G, d, L, P, o, V, R, hS, rfl, rfl, hA⟩ := h.ex
  have hsm := hA.small
  unfold Pair
  refine (pabort_any hS.pg.rebase).mono ?_
  rintro e w' ⟨he, hP⟩
  have hS' := hS.viaPg hP rfl rfl
  cases o with
  | none =>
    refine ⟨90, he, hS'.mid, fun W hW => ?_⟩
    have hS2 := hS'.later hW
    refine (rend_closed hS2.ref hA.busy false).mono ?_
    rintro e w'' ⟨he, rfl⟩
    exact ⟨he, ⟨G, d, L, P, none, V, R, hS2, rfl, rfl, hA.more (Nat.le_succ g)⟩⟩
  | some t =>
    refine ⟨0, he, hS'.mid, fun W hW => ?_⟩
    have hS2 := hS'.later hW
    refine (rend_abort hS2.ref hA.busy hS2.low (by omega) (by omega)).mono ?_
    rintro e w'' ⟨he, hp⟩
    obtain ⟨V', hS3⟩ := hS2.viaRef hp
    exact ⟨he, ⟨G, d, L, P, none, V', _, hS3, rfl, rfl, hA.tn, hA.n, hA.hi, fun t ht => (by cases ht), hA.left, hA.left, rfl, Nat.le_succ_of_le hA.gen, by have := hA.wr; omega, Nat.le_succ_of_le hA.out, hA.in_⟩⟩
theorem bo_free (h : Bo w0 B dg pg g H wr) (k : Int) (hk : (Lit.int .i64 k).wf = true) : Pair 57 58 #[.pointer (some ⟨pg, 0, none⟩), .int .i64 k] #[.pointer (some ⟨B, 2, none⟩), .int .i64 k] wr (Mid B dg pg H) (Bo w0 B dg pg (g + 1) H) := by
  obtain ⟨G, d, L, P, o, V, R, hS, rfl, rfl, hA⟩ := h.ex
  have hsm := hA.small
  unfold Pair
  refine (pfree_any hS.pg.rebase k hk).mono ?_
  rintro e w' ⟨he, hP⟩
  have hS' := hS.viaPg hP rfl rfl
  cases o with
  | none =>
    refine ⟨90, he, hS'.mid, fun W hW => ?_⟩
    have hS2 := hS'.later hW
    refine (rfree_closed hS2.ref hA.busy (by omega) k).mono ?_
    rintro e w'' ⟨he, rfl⟩
    exact ⟨he, ⟨G, d, L, P, none, V, R, hS2, rfl, rfl, hA.more (Nat.le_succ g)⟩⟩
  | some t =>
    by_cases hu : (t.pages k).isSome = true
    · have e1 : freeE (P.opn (some t)) k = 0 := if_pos hu
      have e2 : freeP (P.opn (some t)) k = P.opn (some (freeT t k)) := if_pos hu
      rw [e1] at he
      rw [e2] at hS'
      obtain ⟨i, hi⟩ := List.getElem?_of_mem (hA.now.used.1 hu)
      have hdom := hA.dom (hA.now.used.1 hu)
      refine ⟨0, he, hS'.mid, fun W hW => ?_⟩
      have hS2 := hS'.later hW
      refine (rfree_ok hS2.ref hA.busy hS2.low (by omega) hA.now.len k hA.now.nd hi).mono ?_
      rintro e w'' ⟨he, hp⟩
      obtain ⟨V', hS3⟩ := hS2.viaRef hp
      exact ⟨he, ⟨G, d, L, P, some (freeT t k), V', _, hS3, rfl, rfl, hA.tn, hA.n, hA.hi, fun t' ht => by injection ht with ht; subst ht; exact (hA.tx t rfl).free k (by rw [hA.n]; omega), hA.left, hA.now.free hi, hA.busy, Nat.le_succ_of_le hA.gen, by have := hA.wr; omega, Nat.le_succ_of_le hA.out, hA.in_⟩⟩
    · have e1 : freeE (P.opn (some t)) k = 91 := if_neg hu
      have e2 : freeP (P.opn (some t)) k = P.opn (some t) := if_neg hu
      rw [e1] at he
      rw [e2] at hS'
      refine ⟨91, he, hS'.mid, fun W hW => ?_⟩
      have hS2 := hS'.later hW
      refine (rfree_none hS2.ref hA.busy (by omega) k (fun hm => hu (hA.now.used.2 hm))).mono ?_
      rintro e w'' ⟨he, rfl⟩
      exact ⟨he, ⟨G, d, L, P, some t, V, R, hS2, rfl, rfl, hA.more (Nat.le_succ g)⟩⟩
theorem bo_write (h : Bo w0 B dg pg g H wr) (k : Int) (s : ByteArray) (hk : (Lit.int .i64 k).wf = true) (hs : s.size ≤ 140737488351232) : Pair 60 61 #[.pointer (some ⟨pg, 0, none⟩), .int .i64 k, .string s] #[.pointer (some ⟨B, 2, none⟩), .int .i64 k, .string s] wr (Mid B dg pg H) (Bo w0 B dg pg (g + 1) H) := by
  obtain ⟨G, d, L, P, o, V, R, hS, rfl, rfl, hA⟩ := h.ex
  have hsm := hA.small
  unfold Pair
  refine (pwrite_any hS.pg.rebase k s hk hs (fun t ht => (txi_len (hA.tx t ht)).resolve_right (fun h => h hA.hi.inv.hn2))).mono ?_
  rintro e w' ⟨he, hP⟩
  have hS' := hS.viaPg hP rfl rfl
  cases o with
  | none =>
    refine ⟨90, he, hS'.mid, fun W hW => ?_⟩
    have hS2 := hS'.later hW
    refine (rwrite_closed hS2.ref hA.busy (by omega) k s).mono ?_
    rintro e w'' ⟨he, rfl⟩
    exact ⟨he, ⟨G, d, L, P, none, V, R, hS2, rfl, rfl, hA.more (Nat.le_succ g)⟩⟩
  | some t =>
    by_cases hu : (t.pages k).isSome = true
    · obtain ⟨i, hi⟩ := List.getElem?_of_mem (hA.now.used.1 hu)
      have hdom := hA.dom (hA.now.used.1 hu)
      by_cases hss : s.size = 256
      · have e1 : writeE (P.opn (some t)) k s = 0 := (if_pos hu).trans (if_pos hss)
        have e2 : writeP (P.opn (some t)) k s = P.opn (some (writeT t k s)) := (if_pos hu).trans (if_pos hss)
        rw [e1] at he
        rw [e2] at hS'
        refine ⟨0, he, hS'.mid, fun W hW => ?_⟩
        have hS2 := hS'.later hW
        refine (rwrite_ok hS2.ref hA.busy (by omega) hA.now.len k s hA.now.nd hi hss).mono ?_
        rintro e w'' ⟨he, hp⟩
        obtain ⟨V', hS3⟩ := hS2.viaRef hp
        exact ⟨he, ⟨G, d, L, P, some (writeT t k s), V', _, hS3, rfl, rfl, hA.tn, hA.n, hA.hi, fun t' ht => by injection ht with ht; subst ht; exact (hA.tx t rfl).write k s (by rw [hA.n]; omega) hss, hA.left, hA.now.put hi s, hA.busy, Nat.le_succ_of_le hA.gen, by have := hA.wr; omega, Nat.le_succ_of_le hA.out, hA.in_⟩⟩
      · have e1 : writeE (P.opn (some t)) k s = 82 := (if_pos hu).trans (if_neg hss)
        have e2 : writeP (P.opn (some t)) k s = P.opn (some t) := (if_pos hu).trans (if_neg hss)
        rw [e1] at he
        rw [e2] at hS'
        refine ⟨82, he, hS'.mid, fun W hW => ?_⟩
        have hS2 := hS'.later hW
        refine (rwrite_size hS2.ref hA.busy (by omega) k s hA.now.nd hi hss).mono ?_
        rintro e w'' ⟨he, rfl⟩
        exact ⟨he, ⟨G, d, L, P, some t, V, R, hS2, rfl, rfl, hA.more (Nat.le_succ g)⟩⟩
    · have e1 : writeE (P.opn (some t)) k s = 91 := if_neg hu
      have e2 : writeP (P.opn (some t)) k s = P.opn (some t) := if_neg hu
      rw [e1] at he
      rw [e2] at hS'
      refine ⟨91, he, hS'.mid, fun W hW => ?_⟩
      have hS2 := hS'.later hW
      refine (rwrite_none hS2.ref hA.busy (by omega) k s (fun hm => hu (hA.now.used.2 hm))).mono ?_
      rintro e w'' ⟨he, rfl⟩
      exact ⟨he, ⟨G, d, L, P, some t, V, R, hS2, rfl, rfl, hA.more (Nat.le_succ g)⟩⟩
theorem bo_setRoot (h : Bo w0 B dg pg g H wr) (i k : Int) (hk : (Lit.int .i64 k).wf = true) : Pair 44 62 #[.pointer (some ⟨pg, 0, none⟩), .int .i64 i, .int .i64 k] #[.pointer (some ⟨B, 2, none⟩), .int .i64 i, .int .i64 k] wr (Mid B dg pg H) (Bo w0 B dg pg (g + 1) H) := by
  obtain ⟨G, d, L, P, o, V, R, hS, rfl, rfl, hA⟩ := h.ex
  have hsm := hA.small
  unfold Pair
  refine (psetRoot_any hS.pg.rebase i k hk).mono ?_
  rintro e w' ⟨he, hP⟩
  have hS' := hS.viaPg hP rfl rfl
  cases o with
  | none =>
    refine ⟨90, he, hS'.mid, fun W hW => ?_⟩
    have hS2 := hS'.later hW
    refine (rset_closed hS2.ref hA.busy i k).mono ?_
    rintro e w'' ⟨he, rfl⟩
    exact ⟨he, ⟨G, d, L, P, none, V, R, hS2, rfl, rfl, hA.more (Nat.le_succ g)⟩⟩
  | some t =>
    by_cases hi : i < 0 ∨ 8 ≤ i
    · have e1 : setRootE (P.opn (some t)) i k = 3 := if_pos hi
      have e2 : setRootP (P.opn (some t)) i k = P.opn (some t) := if_pos hi
      rw [e1] at he
      rw [e2] at hS'
      refine ⟨3, he, hS'.mid, fun W hW => ?_⟩
      have hS2 := hS'.later hW
      refine (rset_index hS2.ref hA.busy i k hi).mono ?_
      rintro e w'' ⟨he, rfl⟩
      exact ⟨he, ⟨G, d, L, P, some t, V, R, hS2, rfl, rfl, hA.more (Nat.le_succ g)⟩⟩
    · obtain ⟨j, rfl⟩ : ∃ j : Nat, i = (j : Int) := ⟨i.toNat, by omega⟩
      have hj : j < 8 := by omega
      by_cases hu : (t.pages k).isSome = true ∨ k = 0
      · have e1 : setRootE (P.opn (some t)) (j : Int) k = 0 := (if_neg hi).trans (if_pos hu)
        have e2 : setRootP (P.opn (some t)) (j : Int) k = P.opn (some (rootT t j k)) := (if_neg hi).trans (if_pos hu)
        rw [e1] at he
        rw [e2] at hS'
        have hkb : 0 ≤ k ∧ k ≤ 5000 := by
          rcases hu with hu | hu
          · have := hA.dom (hA.now.used.1 hu); omega
          · omega
        have hkm : k = 0 ∨ k ∈ R.now.page := by
          rcases hu with hu | hu
          · exact .inr (hA.now.used.1 hu)
          · exact .inl hu
        refine ⟨0, he, hS'.mid, fun W hW => ?_⟩
        have hS2 := hS'.later hW
        refine (rset_ok hS2.ref hA.busy (by omega) j hj k hkm).mono ?_
        rintro e w'' ⟨he, hp⟩
        obtain ⟨V', hS3⟩ := hS2.viaRef hp
        exact ⟨he, ⟨G, d, L, P, some (rootT t j k), V', _, hS3, rfl, rfl, hA.tn, hA.n, hA.hi, fun t' ht => by injection ht with ht; subst ht; exact (hA.tx t rfl).root j k hkb, hA.left, hA.now.setRoot j k, hA.busy, Nat.le_succ_of_le hA.gen, by have := hA.wr; omega, Nat.le_succ_of_le hA.out, hA.in_⟩⟩
      · have e1 : setRootE (P.opn (some t)) (j : Int) k = 91 := (if_neg hi).trans (if_neg hu)
        have e2 : setRootP (P.opn (some t)) (j : Int) k = P.opn (some t) := (if_neg hi).trans (if_neg hu)
        rw [e1] at he
        rw [e2] at hS'
        refine ⟨91, he, hS'.mid, fun W hW => ?_⟩
        have hS2 := hS'.later hW
        refine (rset_none hS2.ref hA.busy (by omega) j hj k (fun h => hu (.inr h)) (fun hm => hu (.inl (hA.now.used.2 hm)))).mono ?_
        rintro e w'' ⟨he, rfl⟩
        exact ⟨he, ⟨G, d, L, P, some t, V, R, hS2, rfl, rfl, hA.more (Nat.le_succ g)⟩⟩
end
end Go.Proofs.YtoleojljpaglhaaGreat
/- The law's step: Begin, Commit, Abort, Free, SetRoot; which page is meant. -/
set_option maxRecDepth 20000
namespace Go.Proofs.YtoleojljpaglhaaGreat
open Go.RowKit
section
variable {S : Nat → Prop} {w0 w w' wr : World} {B g dg pg : Nat} {H : Kept}
/-- how a step ends -/
def StepP (w0 : World) (B dg g : Nat) (e : Ending) (w' : World) : Prop := e = .returned (.bool true) ∧ ∃ pg', Bo w0 B dg pg' (g + 1) noH w'
theorem StepP.of (h : Bo w0 B dg pg (g + 1) H w') : StepP w0 B dg g (.returned (.bool true)) w' := ⟨rfl, pg, h.forget⟩
theorem wf_lo {n : Int} (h : (Lit.int .i64 n).wf = true) : -9223372036854775808 ≤ n ∧ n ≤ 9223372036854775807 := by
  have e1 : IntKind.i64.max = 9223372036854775807 := by decide
  have e2 : IntKind.i64.min = -9223372036854775808 := by decide
  have h2 : IntKind.i64.min ≤ n ∧ n ≤ IntKind.i64.max := by simpa [Lit.wf] using h
  omega
theorem bo_page (h : Bo w0 B dg pg g H wr) (hg : g ≤ 250) (a : Int) (ha : (Lit.int .i64 a).wf = true) : Calls Tryz.prog 56 #[.pointer (some ⟨B, 0, none⟩), .int .i64 a] wr fun e w' => ∃ k : Int, e = .returned (.int .i64 k) ∧ (Lit.int .i64 k).wf = true ∧ Below wr.heap.size wr w' := by
  obtain ⟨G, d, L, P, o, V, R, hS, rfl, rfl, hA⟩ := h.ex
  have ho := hA.out
  have hin := hA.in_
  have hc := hS.ref.cells.c24
  obtain ⟨_, A, cap, hv, hcell⟩ := row_form hS.ref.rows.ov
  rw [hv] at hc
  obtain ⟨ha1, ha2⟩ := wf_lo ha
  clear hS hA h ha
  by_cases h0 : a < 0
  · have HK : Hid ((Lit.int .i64 (a + 3)).wf = true) := Lib.hid (wf64 (by omega) (by omega))
    clear ho hin hc hcell hv
    go_enter Tryz.func56, Tryz.ntmps56
    go_wp2_with fail
    go_ret
    exact ⟨_, rfl, (by first | exact HK.out | (go_num; exact HK.out)), Below.refl _ _⟩
  · obtain ⟨m, hm⟩ : ∃ m, R.out.length = m := ⟨_, rfl⟩
    have h0' : 0 ≤ a := by omega
    rw [hm] at hc ho
    by_cases hm0 : m = 0
    · subst hm0
      obtain ⟨r, hr⟩ : ∃ r, Int.tmod a 60 = r := ⟨_, rfl⟩
      have hr2 : 0 ≤ r ∧ r < 60 := by
        rw [Int.tmod_eq_emod_of_nonneg h0'] at hr
        omega
      obtain ⟨hr0, hr1⟩ := hr2
      have HK : Hid ((Lit.int .i64 (1 + r)).wf = true) := Lib.hid (wf64 (by omega) (by omega))
      clear ho hin hcell hv hm
      go_enter Tryz.func56, Tryz.ntmps56
      go_wp2_with fail
      go_ret
      exact ⟨_, rfl, (by first | exact HK.out | (go_num; exact HK.out)), Below.refl _ _⟩
    · have hmp : 0 < m := by omega
      obtain ⟨j, hj⟩ : ∃ j : Nat, Int.tmod a (m : Int) = (j : Int) := ⟨(a % (m : Int)).toNat, by
        rw [Int.tmod_eq_emod_of_nonneg h0']
        have := Int.emod_nonneg a (show (m : Int) ≠ 0 by omega)
        omega⟩
      have hjm : (j : Int) < (m : Int) := by
        rw [← hj, Int.tmod_eq_emod_of_nonneg h0']
        exact Int.emod_lt_of_pos a (by omega)
      have hjl : j < R.out.length := by omega
      obtain ⟨q, hq, hce⟩ := hcell j (.int .i64 R.out[j]) (by unfold pis; rw [List.getElem?_map, List.getElem?_eq_getElem hjl]; rfl)
      subst hq
      have hkb := hin _ (List.getElem_mem hjl)
      obtain ⟨k, hk⟩ : ∃ k, R.out[j] = k := ⟨_, rfl⟩
      rw [hk] at hce hkb
      have HK : Hid ((Lit.int .i64 k).wf = true) := Lib.hid (wf64 (by omega) (by omega))
      have hm1 : ¬ ((m : Int) = 0) := by omega
      have hm2 : ((m : Int) == 0) = false := beq_eq_false_iff_ne.2 hm1
      have hm3 : (m : Int) ≤ 250 := by omega
      have hj0 : (0 : Int) ≤ (j : Int) := by omega
      clear ho hin hcell hv hm hjl hkb hk
      go_enter Tryz.func56, Tryz.ntmps56
      go_wp2_with fail
      go_quiet (fail)
      all_goals
        go_wp2_with fail
        go_ret
        exact ⟨k, rfl, HK.out, by repeat (first | exact Below.refl _ _ | exact below_drewN (Below.refl _ _) _ | apply Below.drew)⟩
set_option maxHeartbeats 1000000 in
theorem step1 (h : Bo w0 B dg pg g noH w) (hg : g ≤ 250) (a b : Int) : Calls Tryz.prog 19 #[.pointer (some ⟨B, 0, none⟩), .agg #[.int .i64 1, .int .i64 a, .int .i64 b]] w (StepP w0 B dg g) := by
  have h1 := h.push (.cells #[.int .i64 1, .int .i64 a, .int .i64 b] 62 (0, 0))
  have n0 : (w.alloc (.cells #[.int .i64 1, .int .i64 a, .int .i64 b] 62)).cell? ⟨w.heap.size, 0, none⟩ = some (.int .i64 1) := h1.mid.blk.cell 0
  have c1 := h1.mid.c1
  have HP := Lib.hid (bo_begin (h1.later (Below.refl _ _).drew) hg)
  clear h h1
  go_enter Tryz.func19, Tryz.ntmps19
  go_wp2_with fail
  go_region_held3 (fun w' => w'.cell? ⟨B, 1, none⟩ = some (.pointer (some ⟨pg, 0, none⟩))) (first | exact c1 | exact k1 | exact l1 | go_keep)
    ((first
      | ((with_reducible refine HP.out.mono ?_); rintro e w3 ⟨c, rfl, hm, hn⟩; have k1 := hm.c1; have HN := Lib.hid (hn w3 (Below.refl _ _)); clear hm hn)
      | ((with_reducible refine HN.out.mono ?_); rintro e w4 ⟨rfl, h4⟩; have l1 := h4.mid.c1; have H4 := Lib.hid h4; clear h4)))
  all_goals
    clear n0 c1 k1 l1
    go_wp2_with fail
    go_ret
    exact StepP.of H4.out
set_option maxHeartbeats 1000000 in
theorem step2 (h : Bo w0 B dg pg g noH w) (hg : g ≤ 250) (a b : Int) : Calls Tryz.prog 19 #[.pointer (some ⟨B, 0, none⟩), .agg #[.int .i64 2, .int .i64 a, .int .i64 b]] w (StepP w0 B dg g) := by
  have h1 := h.push (.cells #[.int .i64 2, .int .i64 a, .int .i64 b] 62 (0, 0))
  have n0 : (w.alloc (.cells #[.int .i64 2, .int .i64 a, .int .i64 b] 62)).cell? ⟨w.heap.size, 0, none⟩ = some (.int .i64 2) := h1.mid.blk.cell 0
  have c1 := h1.mid.c1
  have HP := Lib.hid (bo_commit (h1.later (Below.refl _ _).drew) hg)
  clear h h1
  go_enter Tryz.func19, Tryz.ntmps19
  go_wp2_with fail
  go_region_held3 (fun w' => w'.cell? ⟨B, 1, none⟩ = some (.pointer (some ⟨pg, 0, none⟩))) (first | exact c1 | exact k1 | exact l1 | go_keep)
    ((first
      | ((with_reducible refine HP.out.mono ?_); rintro e w3 ⟨c, rfl, hm, hn⟩; have k1 := hm.c1; have HN := Lib.hid (hn w3 (Below.refl _ _)); clear hm hn)
      | ((with_reducible refine HN.out.mono ?_); rintro e w4 ⟨rfl, h4⟩; have l1 := h4.mid.c1; have H4 := Lib.hid h4; clear h4)))
  all_goals
    clear n0 c1 k1 l1
    go_wp2_with fail
    go_ret
    exact StepP.of H4.out
set_option maxHeartbeats 1000000 in
theorem step3 (h : Bo w0 B dg pg g noH w) (hg : g ≤ 250) (a b : Int) : Calls Tryz.prog 19 #[.pointer (some ⟨B, 0, none⟩), .agg #[.int .i64 3, .int .i64 a, .int .i64 b]] w (StepP w0 B dg g) := by
  have h1 := h.push (.cells #[.int .i64 3, .int .i64 a, .int .i64 b] 62 (0, 0))
  have n0 : (w.alloc (.cells #[.int .i64 3, .int .i64 a, .int .i64 b] 62)).cell? ⟨w.heap.size, 0, none⟩ = some (.int .i64 3) := h1.mid.blk.cell 0
  have c1 := h1.mid.c1
  have HP := Lib.hid (bo_abort (h1.later (Below.refl _ _).drew) hg)
  clear h h1
  go_enter Tryz.func19, Tryz.ntmps19
  go_wp2_with fail
  go_region_held3 (fun w' => w'.cell? ⟨B, 1, none⟩ = some (.pointer (some ⟨pg, 0, none⟩))) (first | exact c1 | exact k1 | exact l1 | go_keep)
    ((first
      | ((with_reducible refine HP.out.mono ?_); rintro e w3 ⟨c, rfl, hm, hn⟩; have k1 := hm.c1; have HN := Lib.hid (hn w3 (Below.refl _ _)); clear hm hn)
      | ((with_reducible refine HN.out.mono ?_); rintro e w4 ⟨rfl, h4⟩; have l1 := h4.mid.c1; have H4 := Lib.hid h4; clear h4)))
  all_goals
    clear n0 c1 k1 l1
    go_wp2_with fail
    go_ret
    exact StepP.of H4.out
set_option maxHeartbeats 1000000 in
theorem step5 (h : Bo w0 B dg pg g noH w) (hg : g ≤ 250) (a b : Int) (ha : (Lit.int .i64 a).wf = true) : Calls Tryz.prog 19 #[.pointer (some ⟨B, 0, none⟩), .agg #[.int .i64 5, .int .i64 a, .int .i64 b]] w (StepP w0 B dg g) := by
  have h1 := h.push (.cells #[.int .i64 5, .int .i64 a, .int .i64 b] 62 (0, 0))
  have n0 : (w.alloc (.cells #[.int .i64 5, .int .i64 a, .int .i64 b] 62)).cell? ⟨w.heap.size, 0, none⟩ = some (.int .i64 5) := h1.mid.blk.cell 0
  have n1 : (w.alloc (.cells #[.int .i64 5, .int .i64 a, .int .i64 b] 62)).cell? ⟨w.heap.size, 1, none⟩ = some (.int .i64 a) := h1.mid.blk.cell 1
  have HPG := Lib.hid (bo_page h1 hg a ha)
  have H1 := Lib.hid h1
  clear h h1
  go_enter Tryz.func19, Tryz.ntmps19
  go_wp2_with fail
  (with_reducible refine HPG.out.mono ?_)
  rintro e w2 ⟨k, rfl, hk, hb2⟩
  have h2 := H1.out.later hb2
  have c1 := h2.mid.c1
  have HP := Lib.hid (bo_free (h2.later (Below.refl _ _).drew) k hk)
  clear hk hb2 h2 n0 n1
  go_wp2_with fail
  go_region_held3 (fun w' => w'.cell? ⟨B, 1, none⟩ = some (.pointer (some ⟨pg, 0, none⟩))) (first | exact c1 | exact k1 | exact l1 | go_keep)
    ((first
      | ((with_reducible refine HP.out.mono ?_); rintro e w3 ⟨c, rfl, hm, hn⟩; have k1 := hm.c1; have HN := Lib.hid (hn w3 (Below.refl _ _)); clear hm hn)
      | ((with_reducible refine HN.out.mono ?_); rintro e w4 ⟨rfl, h4⟩; have l1 := h4.mid.c1; have H4 := Lib.hid h4; clear h4)))
  all_goals
    clear c1 k1 l1
    go_wp2_with fail
    go_ret
    exact StepP.of H4.out
set_option maxHeartbeats 1000000 in
theorem step7y (h : Bo w0 B dg pg g noH w) (hg : g ≤ 250) (a b : Int) (ha : (Lit.int .i64 a).wf = true) (h5 : (Int.tmod a 5 == 4) = true) : Calls Tryz.prog 19 #[.pointer (some ⟨B, 0, none⟩), .agg #[.int .i64 7, .int .i64 a, .int .i64 b]] w (StepP w0 B dg g) := by
  have h1 := h.push (.cells #[.int .i64 7, .int .i64 a, .int .i64 b] 62 (0, 0))
  have n0 : (w.alloc (.cells #[.int .i64 7, .int .i64 a, .int .i64 b] 62)).cell? ⟨w.heap.size, 0, none⟩ = some (.int .i64 7) := h1.mid.blk.cell 0
  have n1 : (w.alloc (.cells #[.int .i64 7, .int .i64 a, .int .i64 b] 62)).cell? ⟨w.heap.size, 1, none⟩ = some (.int .i64 a) := h1.mid.blk.cell 1
  have HPG := Lib.hid (bo_page h1 hg a ha)
  have H1 := Lib.hid h1
  clear h h1
  go_enter Tryz.func19, Tryz.ntmps19
  go_wp2_with fail
  (with_reducible refine HPG.out.mono ?_)
  rintro e w2 ⟨k, rfl, hk, hb2⟩
  have h2 := H1.out.later hb2
  have c1 := h2.mid.c1
  have m1 : w2.cell? ⟨w.heap.size, 1, none⟩ = some (.int .i64 a) := h2.mid.blk.cell 1
  have m2 : w2.cell? ⟨w.heap.size, 2, none⟩ = some (.int .i64 b) := h2.mid.blk.cell 2
  have HP := Lib.hid (bo_setRoot (h2.later (Below.refl _ _).drew) b 0 (by decide))
  clear hk hb2 h2 n0 n1
  go_wp2_with fail
  go_region_held3 (fun w' => w'.cell? ⟨B, 1, none⟩ = some (.pointer (some ⟨pg, 0, none⟩)) ∧ w'.cell? ⟨w.heap.size, 2, none⟩ = some (.int .i64 b)) (first | exact ⟨c1, m2⟩ | exact ⟨k1, k2⟩ | exact ⟨l1, l2⟩ | go_keep)
    ((first
      | ((with_reducible refine HP.out.mono ?_); rintro e w3 ⟨c, rfl, hm, hn⟩; have k1 := hm.c1; have k2 : w3.cell? ⟨w.heap.size, 2, none⟩ = some (.int .i64 b) := hm.blk.cell 2; have HN := Lib.hid (hn w3 (Below.refl _ _)); clear hm hn)
      | ((with_reducible refine HN.out.mono ?_); rintro e w4 ⟨rfl, h4⟩; have l1 := h4.mid.c1; have l2 : w4.cell? ⟨w.heap.size, 2, none⟩ = some (.int .i64 b) := h4.mid.blk.cell 2; have H4 := Lib.hid h4; clear h4)))
  all_goals
    clear c1 k1 l1 m1 m2 k2 l2
    go_wp2_with fail
    go_ret
    exact StepP.of H4.out
set_option maxHeartbeats 1000000 in
theorem step7n (h : Bo w0 B dg pg g noH w) (hg : g ≤ 250) (a b : Int) (ha : (Lit.int .i64 a).wf = true) (h5 : (Int.tmod a 5 == 4) = false) : Calls Tryz.prog 19 #[.pointer (some ⟨B, 0, none⟩), .agg #[.int .i64 7, .int .i64 a, .int .i64 b]] w (StepP w0 B dg g) := by
  have h1 := h.push (.cells #[.int .i64 7, .int .i64 a, .int .i64 b] 62 (0, 0))
  have n0 : (w.alloc (.cells #[.int .i64 7, .int .i64 a, .int .i64 b] 62)).cell? ⟨w.heap.size, 0, none⟩ = some (.int .i64 7) := h1.mid.blk.cell 0
  have n1 : (w.alloc (.cells #[.int .i64 7, .int .i64 a, .int .i64 b] 62)).cell? ⟨w.heap.size, 1, none⟩ = some (.int .i64 a) := h1.mid.blk.cell 1
  have HPG := Lib.hid (bo_page h1 hg a ha)
  have H1 := Lib.hid h1
  clear h h1
  go_enter Tryz.func19, Tryz.ntmps19
  go_wp2_with fail
  (with_reducible refine HPG.out.mono ?_)
  rintro e w2 ⟨k, rfl, hk, hb2⟩
  have h2 := H1.out.later hb2
  have c1 := h2.mid.c1
  have m1 : w2.cell? ⟨w.heap.size, 1, none⟩ = some (.int .i64 a) := h2.mid.blk.cell 1
  have m2 : w2.cell? ⟨w.heap.size, 2, none⟩ = some (.int .i64 b) := h2.mid.blk.cell 2
  have HP := Lib.hid (bo_setRoot (h2.later (Below.refl _ _).drew) b k hk)
  clear hk hb2 h2 n0 n1
  go_wp2_with fail
  go_region_held3 (fun w' => w'.cell? ⟨B, 1, none⟩ = some (.pointer (some ⟨pg, 0, none⟩)) ∧ w'.cell? ⟨w.heap.size, 2, none⟩ = some (.int .i64 b)) (first | exact ⟨c1, m2⟩ | exact ⟨k1, k2⟩ | exact ⟨l1, l2⟩ | go_keep)
    ((first
      | ((with_reducible refine HP.out.mono ?_); rintro e w3 ⟨c, rfl, hm, hn⟩; have k1 := hm.c1; have k2 : w3.cell? ⟨w.heap.size, 2, none⟩ = some (.int .i64 b) := hm.blk.cell 2; have HN := Lib.hid (hn w3 (Below.refl _ _)); clear hm hn)
      | ((with_reducible refine HN.out.mono ?_); rintro e w4 ⟨rfl, h4⟩; have l1 := h4.mid.c1; have l2 : w4.cell? ⟨w.heap.size, 2, none⟩ = some (.int .i64 b) := h4.mid.blk.cell 2; have H4 := Lib.hid h4; clear h4)))
  all_goals
    clear c1 k1 l1 m1 m2 k2 l2
    go_wp2_with fail
    go_ret
    exact StepP.of H4.out
theorem step7 (h : Bo w0 B dg pg g noH w) (hg : g ≤ 250) (a b : Int) (ha : (Lit.int .i64 a).wf = true) : Calls Tryz.prog 19 #[.pointer (some ⟨B, 0, none⟩), .agg #[.int .i64 7, .int .i64 a, .int .i64 b]] w (StepP w0 B dg g) := by
  cases h5 : (Int.tmod a 5 == 4) with
  | true => exact step7y h hg a b ha h5
  | false => exact step7n h hg a b ha h5
end
end Go.Proofs.YtoleojljpaglhaaGreat
