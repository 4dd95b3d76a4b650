/- The contract of the pager's reader (a function literal in load). -/
import Derived.Test.YtoleojljpaglhaaGreatPaD
import Derived.Test.YtoleojljpaglhaaGreatBerW
import Derived.Test.YtoleojljpaglhaaGreatPaS
set_option maxRecDepth 20000
namespace Go.Proofs.YtoleojljpaglhaaGreat
open Go.RowKit
set_option maxRecDepth 20000
theorem Bu.below {B b : Nat} {bs : List Value} {w w' : World} (h : Bu B b bs w) (hb : Below w.heap.size w w') : Bu B b bs w' := by
  have key : ∀ p, Lib.BuilderAt 123 5 B b p bs w → Lib.BuilderAt 123 5 B b p bs w' := by
    rintro p ⟨hB, v, hbk, hown, hne⟩
    have hlt : b < w.heap.size := (Array.getElem?_eq_some_iff.1 hbk).1
    refine ⟨hB, v, (hb.block b hlt).trans hbk, ⟨hown.1, ?_⟩, hne⟩
    rcases hown.2 with hn | ⟨g, cap, cur, hv, hbg, hg, rest⟩
    · exact .inl hn
    · have hlg : g < w.heap.size := (Array.getElem?_eq_some_iff.1 hg).1
      exact .inr ⟨g, cap, cur, hv, hbg, (hb.block g hlg).trans hg, rest⟩
  exact h.elim (fun x => .inl (key _ x)) (fun x => .inr (key _ x))
theorem Bu.eq_ {B b : Nat} {bs bs' : List Value} {w : World} (h : Bu B b bs w) (e : bs = bs') : Bu B b bs' w := e ▸ h
theorem Bu.lt {B b : Nat} {bs : List Value} {w : World} (h : Bu B b bs w) : b < w.heap.size := h.elim (·.lt) (·.lt)
theorem bu_fresh (w : World) : Bu w.heap.size w.heap.size [] (w.alloc (.cells #[.pointer none, .slice none 0 0] 123)) := Lib.fresh_isBuilder _ _ w
theorem bstring_any (B b : Nat) (l : List UInt8) (w : World) (h : Bu B b (Lib.byteCells l) w) (hBw : B ≤ w.heap.size) :
    Calls Tryz.prog 78 #[.pointer (some ⟨b, 0, none⟩)] w fun e w' => e = .returned (.string ⟨l.toArray⟩) ∧ Below B w w' := builder_String B b l w h hBw
theorem look_64 {d : Vd.VD} (h : d.ok) (a : Nat) (ha : a < d.secs.length) : (Vd.look d a).length = 64 := by
  have h1 : a < (Vd.lay d.secs d.q).length := by rw [Vd.lay_length]; exact ha
  unfold Vd.look
  rw [List.getD_eq_getElem?_getD, List.getElem?_eq_getElem h1]
  exact lay_64 d.q d.secs h.secs (fun x hx => (h.q x hx).2) _ (List.getElem_mem h1)
/-- sectors one behind the other -/
def catS (d : Vd.VD) (at_ k : Nat) : List UInt8 := (List.range k).flatMap fun i => Vd.look d (at_ + i)
theorem catS_succ (d : Vd.VD) (at_ k : Nat) : catS d at_ (k + 1) = catS d at_ k ++ Vd.look d (at_ + k) := by
  unfold catS
  rw [List.range_succ, List.flatMap_append, List.flatMap_cons, List.flatMap_nil, List.append_nil]
theorem catS_length {d : Vd.VD} (h : d.ok) (at_ : Nat) : ∀ k, at_ + k ≤ d.secs.length → (catS d at_ k).length = 64 * k := by
  intro k
  induction k with
  | zero => intro _; rfl
  | succ k ih => intro hk; rw [catS_succ, List.length_append, ih (by omega), look_64 h _ (by omega)]; omega
section
variable {S : Nat → Prop} {w0 w w' : World} {G : PH} {d d' : Vd.VD} {L L' : Wa.WL} {P : PP}
theorem PG.dok (h : PG S w0 w G d L P) : d.ok ∧ d.secs.length ≤ 65536 := by
  obtain ⟨S, M, qv, _, hd⟩ := h.log.disk
  exact ⟨hd.ok, hd.secs1⟩
set_option maxHeartbeats 1000000 in
theorem reader_ok (h : PG S w0 w G d L P) (pb : Nat) (hb : w.cell? ⟨pb, 0, none⟩ = some (.pointer (some ⟨G.pg, 0, none⟩))) (at_ k : Nat) (hon : d.on = true) (hk : at_ + k ≤ d.secs.length) :
    Calls Tryz.prog 76 #[.int .i64 (at_ : Int), .int .i64 (k : Int), .pointer (some ⟨pb, 0, none⟩)] w fun e w' => e = .returned (rdV (0, catS d at_ k)) ∧ Below w.heap.size w w' := by
  obtain ⟨hok, hsl⟩ := h.dok
  have hpl : pb < w.heap.size := World.block_lt_of_cell? _ _ hb
  have hpg := h.blk.lt
  have hrd : ∀ W, Below w.heap.size w W → ∀ i : Nat, i < k → Calls Tryz.prog 65 #[.pointer (some ⟨G.dg, 0, none⟩), .int .i64 ((at_ : Int) + (i : Int))] W fun e w' => e = .returned (rdV (0, Vd.look d (at_ + i))) ∧ Below W.heap.size W w' := fun W hW i hi => by
    have := read_any (h.log.disk.below hW) ((at_ + i : Nat) : Int)
    have ha : Vd.asked d ((at_ + i : Nat) : Int) = 0 := by unfold Vd.asked; rw [if_pos hon, if_neg (by omega)]
    have hr : Vd.read d ((at_ + i : Nat) : Int) = (0, Vd.look d (at_ + i)) := by
      unfold Vd.read
      rw [if_neg (by rw [ha]; simp), Int.toNat_natCast]
    rw [hr, Int.natCast_add] at this
    exact this
  have hcell : ∀ W, Below w.heap.size w W → W.cell? ⟨pb, 0, none⟩ = some (.pointer (some ⟨G.pg, 0, none⟩)) ∧ W.cell? ⟨G.pg, 0, none⟩ = some (.pointer (some ⟨G.dg, 0, none⟩)) := fun W hW => ⟨(hW.cell (p := ⟨pb, 0, none⟩) hpl).trans hb, (hW.cell (p := ⟨G.pg, 0, none⟩) hpg).trans h.cells.c0⟩
  have hll : ∀ i : Nat, i < k → (Vd.look d (at_ + i)).length = 64 := fun i hi => look_64 hok _ (by omega)
  have hcl : ∀ i : Nat, i ≤ k → (catS d at_ i).length = 64 * i := fun i hi => catS_length hok at_ i (by omega)
  have b1 : at_ ≤ 65536 := by omega
  have b2 : k ≤ 65536 := by omega
  have HR := Lib.hid hrd
  have HC := Lib.hid hcell
  have HLL := Lib.hid hll
  have HCL := Lib.hid hcl
  clear hrd hcell hll hcl h hb hon hk hok hsl hpl hpg
  go_enter Tryz.func76, Tryz.ntmps76
  go_wp2_with fail
  go_loopw [12] (fun i wr => ∃ j : Nat, j ≤ k ∧ i = .int .i64 (j : Int) ∧ Bu w.heap.size w.heap.size (Lib.byteCells (catS d at_ j)) wr ∧ Below w.heap.size w wr) (fun i _ => k - (intOf i).toNat)
  case atStart => exact ⟨0, Nat.zero_le _, rfl, bu_fresh w, (Below.refl _ _).alloc (Nat.le_refl _) _⟩
  case round =>
    obtain ⟨j, hj, rfl, hbu, hbel⟩ := hrel
    have hsz := hbel.size
    by_cases hlt : j < k
    · have i1 : ((j : Int) < (k : Int)) := by omega
      obtain ⟨c1, c2⟩ := HC.out wr hbel
      have hrd := HR.out wr hbel j hlt
      obtain ⟨S, hS⟩ : ∃ S : ByteArray, (⟨(Vd.look d (at_ + j)).toArray⟩ : ByteArray) = S := ⟨_, rfl⟩
      unfold rdV at hrd
      simp only [hS] at hrd
      have hss : S.data.toList = Vd.look d (at_ + j) := by rw [← hS]
      have hsz2 : S.size = 64 := by rw [← hS]; exact List.size_toArray.trans (HLL.out j hlt)
      have HRD := Lib.hid hrd
      have HB := Lib.hid hbu
      have HBL := Lib.hid hbel
      have HSS := Lib.hid hss
      have HS2 := Lib.hid hsz2
      have HSZ := Lib.hid hsz
      clear hbu hbel hrd hS hss hsz2 hsz
      go_wp2_with fail
      (with_reducible refine HRD.out.mono ?_)
      rintro e w1 ⟨rfl, hb1⟩
      have hu1 := HB.out.below hb1
      have HB1 := Lib.hid hb1
      have HW := Lib.hid (writeString_any w.heap.size w.heap.size _ S w1 hu1 (by rw [Lib.byteCells_length, HCL.out j hj, HS2.out]; omega) (by have := HB1.out.size; have := HSZ.out; omega))
      clear hb1 hu1
      go_wp2_with fail
      (with_reducible refine HW.out.mono ?_)
      rintro e w2 ⟨rfl, hu2, hb2, ho2⟩
      have HU2 := Lib.hid hu2
      have HB2 := Lib.hid hb2
      clear hu2 hb2 ho2
      go_wp2_with fail
      go_roundw
      case rel =>
        refine ⟨j + 1, by omega, by go_num, HU2.out.eq_ ?_, ?_⟩
        · rw [catS_succ, Lib.byteCells_append, Lib.strCells_eq, HSS.out]
        · exact (HBL.out.trans (HB1.out.mono HSZ.out)).trans HB2.out
      case measure => simp [intOf]; omega
    · obtain rfl : j = k := by omega
      have i1 : ¬ ((j : Int) < (j : Int)) := by omega
      have HSt := Lib.hid (bstring_any w.heap.size w.heap.size (catS d at_ j) wr hbu hsz)
      have HBL := Lib.hid hbel
      clear hbu hbel
      go_wp2_with fail
      (with_reducible refine HSt.out.mono ?_)
      rintro e w1 ⟨rfl, hb1⟩
      go_wp2_with fail
      go_ret2
      exact ⟨rfl, HBL.out.trans hb1⟩
set_option maxHeartbeats 1000000 in
theorem reader_off (h : PG S w0 w G d L P) (pb : Nat) (hb : w.cell? ⟨pb, 0, none⟩ = some (.pointer (some ⟨G.pg, 0, none⟩))) (at_ k : Nat) (hon : d.on = false) (h1 : at_ ≤ 65536) (h2 : 1 ≤ k) (h3 : k ≤ 65536) :
    Calls Tryz.prog 76 #[.int .i64 (at_ : Int), .int .i64 (k : Int), .pointer (some ⟨pb, 0, none⟩)] w fun e w' => e = .returned (rdV (80, [])) ∧ Below w.heap.size w w' := by
  have hpl : pb < w.heap.size := World.block_lt_of_cell? _ _ hb
  have hpg := h.blk.lt
  have hB : Below w.heap.size w (w.alloc (.cells #[.pointer none, .slice none 0 0] 123)) := (Below.refl _ _).alloc (Nat.le_refl _) _
  have hrd : Calls Tryz.prog 65 #[.pointer (some ⟨G.dg, 0, none⟩), .int .i64 (at_ : Int)] (w.alloc (.cells #[.pointer none, .slice none 0 0] 123)) fun e w' => e = .returned (.tuple #[.string ⟨#[]⟩, .int .i64 80]) ∧ Below (w.alloc (.cells #[.pointer none, .slice none 0 0] 123)).heap.size (w.alloc (.cells #[.pointer none, .slice none 0 0] 123)) w' := by
    have := read_any (h.log.disk.below hB) (at_ : Int)
    have hr : Vd.read d (at_ : Int) = (80, []) := by
      unfold Vd.read Vd.asked
      simp [hon]
    rwa [hr] at this
  have c1 := (hB.cell (p := ⟨pb, 0, none⟩) hpl).trans hb
  have c2 := (hB.cell (p := ⟨G.pg, 0, none⟩) hpg).trans h.cells.c0
  have HR := Lib.hid hrd
  have HBB := Lib.hid hB
  clear hrd h hb hon hpl hpg hB
  have i1 : (0 : Int) < (k : Int) := by omega
  go_enter Tryz.func76, Tryz.ntmps76
  go_wp2_with fail
  go_loopw [12] (fun i wr => i = .int .i64 0 ∧ wr = w.alloc (.cells #[.pointer none, .slice none 0 0] 123)) (fun _ _ => 0)
  case atStart => exact ⟨rfl, rfl⟩
  case round =>
    obtain ⟨rfl, rfl⟩ := hrel
    go_wp2_with fail
    (with_reducible refine HR.out.mono ?_)
    rintro e w1 ⟨rfl, hb1⟩
    go_wp2_with fail
    go_ret2
    exact ⟨rfl, HBB.out.trans (hb1.mono (by simp))⟩
end
end Go.Proofs.YtoleojljpaglhaaGreat
/- The pager's cells written; settle with nothing to do. -/
namespace Go.Proofs.YtoleojljpaglhaaGreat
open Go.RowKit
section
variable {S : Nat → Prop} {w0 w w' : World} {G : PH} {d d' : Vd.VD} {L L' : Wa.WL} {P : PP}
theorem PMap.ne_blk {M f sz g t cs} (h : PMap w M f sz) (hb : Blk w g t cs) : M ≠ g := by
  rintro rfl
  obtain ⟨es, clock, he⟩ := h.isMap
  rw [show w.heap[M]? = _ from hb] at he
  cases he
theorem SMap.ne_blk {M f sz g t cs} (h : SMap w M f sz) (hb : Blk w g t cs) : M ≠ g := by
  rintro rfl
  obtain ⟨es, clock, he⟩ := h.isMap
  rw [show w.heap[M]? = _ from hb] at he
  cases he
theorem Blk.ne_type {g g' : Nat} {t t' : TypeId} {cs cs' : Array Value} (h : Blk w g t cs) (h' : Blk w g' t' cs') (hne : t ≠ t') : g ≠ g' := by
  rintro rfl
  have e : some (Obj.cells cs t (0, 0)) = some (Obj.cells cs' t' (0, 0)) := (show w.heap[g]? = _ from h).symm.trans h'
  injection e with e
  injection e with _ e _
  exact hne e
/-- what a write into a cell of the pager leaves -/
structure Poked (S : Nat → Prop) (w0 w w' : World) (G : PH) (d : Vd.VD) (L : Wa.WL) (P : PP) : Prop where
  log : LG S w0 w' G.dg d G.lg L G.fp G.rv
  pm : ∀ M f sz, PMap w M f sz → PMap w' M f sz
  sm : ∀ M f sz, SMap w M f sz → SMap w' M f sz
  tx : ∀ t, P.tx = some t → TxAt w' G t
  row : w'.ownsRow 0 119 2 G.tv P.todo.length (tcells P.todo)
theorem PG.poke (h : PG S w0 w G d L P) (j : Nat) (u : Value) : Poked S w0 w (w.setCell ⟨G.pg, j, none⟩ u) G d L P ∧ ∀ cs, (pcells G.dg G.lg P.n (mapv G P.up) P.roots (txv G P.tx) G.dv G.tv).setIfInBounds j u = cs → Blk (w.setCell ⟨G.pg, j, none⟩ u) G.pg 81 cs := by
  have ho : Only [G.pg] w (w.setCell ⟨G.pg, j, none⟩ u) := (Only.refl [G.pg] w).setCell (.inl (by simp)) u
  have pm : ∀ M f sz, PMap w M f sz → PMap (w.setCell ⟨G.pg, j, none⟩ u) M f sz := fun M f sz hm => hm.only ho (by simpa using hm.ne_blk h.blk)
  have sm : ∀ M f sz, SMap w M f sz → SMap (w.setCell ⟨G.pg, j, none⟩ u) M f sz := fun M f sz hm => hm.only ho (by simpa using hm.ne_blk h.blk)
  refine ⟨⟨h.log.aside ho (fun b hb => ?_), pm, sm, fun t ht => ?_, ownsRow_only h.row ho (fun q hq hm => ?_)⟩, fun cs hc => ?_⟩
  · rw [List.mem_singleton] at hb
    exact h.own b (.inl hb)
  · have := h.tx t ht
    exact ⟨this.blk.only ho (by simpa using this.blk.ne_type h.blk (by decide)), this.len, pm _ _ _ this.pm, sm _ _ _ this.sm, this.dv, this.ne1, this.ne2, this.ne3⟩
  · rw [List.mem_singleton] at hm
    subst hm
    exact own_ne_blk h.row h.blk (by decide) hq
  · subst hc
    exact heap_setCell_same w G.pg j _ _ u h.blk
theorem pcells_set (a b n : Nat) (mv : Value) (r : List Int) (x y z u : Value) (h : r.length = 8) :
    (pcells a b n mv r x y z).setIfInBounds 3 u = pcells a b n u r x y z ∧ (pcells a b n mv r x y z).setIfInBounds 12 u = pcells a b n mv r u y z ∧ (pcells a b n mv r x y z).setIfInBounds 13 u = pcells a b n mv r x u z ∧ (pcells a b n mv r x y z).setIfInBounds 14 u = pcells a b n mv r x y u := by
  obtain ⟨a0, a1, a2, a3, a4, a5, a6, a7, rfl⟩ := len8 h
  exact ⟨rfl, rfl, rfl, rfl⟩
theorem pcells_root (a b n : Nat) (mv : Value) (r : List Int) (x y z : Value) (v : Int) (i : Nat) (h : r.length = 8) (hi : i < 8) :
    (pcells a b n mv r x y z).setIfInBounds (4 + i) (.int .i64 v) = pcells a b n mv (r.set i v) x y z := by
  obtain ⟨a0, a1, a2, a3, a4, a5, a6, a7, rfl⟩ := len8 h
  match i, hi with
  | 0, _ | 1, _ | 2, _ | 3, _ | 4, _ | 5, _ | 6, _ | 7, _ => rfl
theorem PG.todo0 (h : PG S w0 w G d L P) : PG S w0 (w.setCell ⟨G.pg, 14, none⟩ (.slice none 0 0)) { G with tv := .slice none 0 0 } d L { P with todo := [] } := by
  obtain ⟨k, kb⟩ := h.poke 14 (.slice none 0 0)
  refine ⟨k.log, kb _ (pcells_set _ _ _ _ _ _ _ _ _ h.len).2.2.2, h.len, fun hu => k.pm _ _ _ (h.pm hu), fun t ht => ?_, World.ownsRow_nil _ _ _ _, fun b hb => ?_⟩
  · have := k.tx t ht
    exact ⟨this.blk, this.len, this.pm, this.sm, this.dv, this.ne1, this.ne2, this.ne3⟩
  · refine h.own b ?_
    rcases hb with hb | hb | hb | hb
    · exact .inl hb
    · exact .inr (.inl hb)
    · exact .inr (.inr (.inl hb))
    · simp [Value.ownBlock] at hb
theorem PG.setRoot (h : PG S w0 w G d L P) (i : Nat) (v : Int) (hi : i < 8) : PG S w0 (w.setCell ⟨G.pg, 4 + i, none⟩ (.int .i64 v)) G d L { P with roots := P.roots.set i v } := by
  obtain ⟨k, kb⟩ := h.poke (4 + i) (.int .i64 v)
  exact ⟨k.log, kb _ (pcells_root _ _ _ _ _ _ _ _ _ _ h.len hi), by simpa using h.len, fun hu => k.pm _ _ _ (h.pm hu), k.tx, k.row, h.own⟩
/-- a new map of pages -/
theorem PG.setMap (h : PG S w0 w G d L P) (ht : P.tx = none) (M : Nat) (f : Int → Option ByteArray) (sz : Nat) (hm : PMap w M f sz) (ho : Off S G.lg G.fp G.rv M) :
    PG S w0 (w.setCell ⟨G.pg, 3, none⟩ (.map (some M))) { G with M := M } d L { P with pages := f, sz := sz, up := true } := by
  obtain ⟨k, kb⟩ := h.poke 3 (.map (some M))
  refine ⟨k.log, kb _ (pcells_set _ _ _ _ _ _ _ _ _ h.len).1, h.len, fun hu => k.pm _ _ _ hm, fun t hx => ?_, k.row, fun b hb => ?_⟩
  · have hx' : P.tx = some t := hx
    rw [ht] at hx'
    cases hx'
  · rcases hb with hb | ⟨_, hb⟩ | hb | hb
    · exact h.own b (.inl hb)
    · rw [hb]; exact ho
    · exact absurd ht hb.1
    · exact h.own b (.inr (.inr (.inr hb)))
/-- whatever is new is apart -/
theorem PG.fresh (h : PG S w0 w G d L P) (b : Nat) (hb : w.heap.size ≤ b) : Off S G.lg G.fp G.rv b := by
  refine ⟨h.log.up _ (Nat.le_trans h.log.bel.size hb), ?_, fun hm => ?_, fun he => ?_⟩
  · have := h.log.blk.lt; omega
  · have := h.log.disk.lt _ hm; omega
  · have := ownBlock_lt h.log.row he; omega
theorem tv_nil (h : PG S w0 w G d L P) (ht : P.todo = []) : ∃ p cap, G.tv = .slice p 0 cap := by
  rcases h.row.2 with ⟨e, _⟩ | ⟨g, cap, cur, e, _⟩
  · exact ⟨none, 0, e⟩
  · rw [ht] at e
    exact ⟨_, cap, e⟩
set_option maxHeartbeats 1000000 in
theorem settle_nil (h : PG S w0 w G d L P) (ht : P.todo = []) :
    Calls Tryz.prog 25 #[.pointer (some ⟨G.pg, 0, none⟩)] w fun e w' => e = .returned (.int .i64 0) ∧ PG S w0 w' { G with tv := .slice none 0 0 } d L P := by
  have co := h.cells.co
  have fz := h.cells.fz 14
  obtain ⟨p, cap, hv⟩ := tv_nil h ht
  rw [hv] at co
  have hq := h.todo0
  have e : { P with todo := [] } = P := by rw [← ht]
  rw [e] at hq
  have HQ := Lib.hid hq
  clear h ht hv hq e
  go_enter Tryz.func25, Tryz.ntmps25
  go_wp2_with fail
  go_loopw [3, 14] (fun b i wr => b = .bool false ∧ i = .int .i64 0 ∧ wr = w) (fun _ _ _ => 0)
  case atStart => exact ⟨rfl, rfl, rfl⟩
  case round =>
    obtain ⟨rfl, rfl, rfl⟩ := hrel
    go_wp2_with fail
    go_ret
    exact ⟨rfl, HQ.out⟩
end
end Go.Proofs.YtoleojljpaglhaaGreat
/- The contract of load. -/
namespace Go.Proofs.YtoleojljpaglhaaGreat
open Go.RowKit
/-- a root as it stands in the bytes -/
def rootOf (l : List UInt8) (i : Nat) : Int := Oct.getFrom 0 ((l.drop (4 * i)).take 4)
/-- the roots while they are read -/
def rootsAt (l : List UInt8) (old : List Int) (j : Nat) : List Int := (List.range 8).map fun i => if i < j then rootOf l i else old.getD i 0
theorem rootsAt_len (l : List UInt8) (old : List Int) (j : Nat) : (rootsAt l old j).length = 8 := by simp [rootsAt]
theorem rootsAt_zero (l : List UInt8) (old : List Int) (h : old.length = 8) : rootsAt l old 0 = old := by
  obtain ⟨a0, a1, a2, a3, a4, a5, a6, a7, rfl⟩ := len8 h
  rfl
theorem rootsAt_succ (l : List UInt8) (old : List Int) (j : Nat) (_hj : j < 8) : (rootsAt l old j).set j (rootOf l j) = rootsAt l old (j + 1) := by
  apply List.ext_getElem
  · simp [rootsAt]
  · intro i h1 h2
    rw [List.getElem_set]
    simp only [rootsAt, List.getElem_map, List.getElem_range]
    by_cases h : j = i
    · subst h; simp
    · rw [if_neg h]
      by_cases h3 : i < j
      · rw [if_pos h3, if_pos (by omega)]
      · rw [if_neg h3, if_neg (by omega)]
/-- is the page with this number less one used -/
def bitOf (l : List UInt8) (q : Nat) : Bool := ((l.getD (32 + q / 8) 0).toNat / 2 ^ (q % 8)) % 2 == 1
/-- a page's bytes on the disk -/
def pageT (d : Vd.VD) (q : Nat) : ByteArray := ⟨(catS d (q * 4) 4).toArray⟩
/-- the pages below a number, as they are read -/
def loadF (d : Vd.VD) (l : List UInt8) (j : Nat) (x : Int) : Option ByteArray := if 1 ≤ x ∧ x < (j : Int) ∧ bitOf l (x.toNat - 1) = true then some (pageT d (x.toNat - 1)) else none
def loadZ (l : List UInt8) (j : Nat) : Nat := ((List.range (j - 1)).filter fun q => bitOf l q).length
theorem loadF_zero (d : Vd.VD) (l : List UInt8) : loadF d l 1 = fun _ => none := by
  funext x
  unfold loadF
  rw [if_neg (by omega)]
theorem loadF_yes (d : Vd.VD) (l : List UInt8) (q : Nat) (hb : bitOf l q = true) : putF (loadF d l (q + 1)) ((q : Int) + 1) (pageT d q) = loadF d l (q + 1 + 1) := by
  funext x
  unfold putF loadF
  by_cases hx : x = (q : Int) + 1
  · subst hx
    rw [if_pos rfl, show ((q : Int) + 1).toNat - 1 = q by omega, if_pos ⟨by omega, by omega, hb⟩]
  · rw [if_neg hx]
    by_cases h1 : 1 ≤ x ∧ x < ((q + 1 : Nat) : Int) ∧ bitOf l (x.toNat - 1) = true
    · rw [if_pos h1, if_pos ⟨h1.1, by omega, h1.2.2⟩]
    · rw [if_neg h1, if_neg (fun h2 => h1 ⟨h2.1, by omega, h2.2.2⟩)]
theorem loadF_no (d : Vd.VD) (l : List UInt8) (q : Nat) (hb : bitOf l q = false) : loadF d l (q + 1) = loadF d l (q + 1 + 1) := by
  funext x
  unfold loadF
  by_cases hx : x = (q : Int) + 1
  · subst hx
    rw [if_neg (by omega), if_neg]
    rw [show ((q : Int) + 1).toNat - 1 = q by omega, hb]
    simp
  · by_cases h1 : 1 ≤ x ∧ x < ((q + 1 : Nat) : Int) ∧ bitOf l (x.toNat - 1) = true
    · rw [if_pos h1, if_pos ⟨h1.1, by omega, h1.2.2⟩]
    · rw [if_neg h1, if_neg (fun h2 => h1 ⟨h2.1, by omega, h2.2.2⟩)]
theorem loadZ_le (l : List UInt8) (j : Nat) : loadZ l j ≤ j - 1 := by
  unfold loadZ
  refine Nat.le_trans (List.length_filter_le _ _) ?_
  simp
theorem loadZ_yes (d : Vd.VD) (l : List UInt8) (q : Nat) (hb : bitOf l q = true) : putSz (loadF d l (q + 1)) (loadZ l (q + 1)) ((q : Int) + 1) = loadZ l (q + 1 + 1) := by
  have e : loadF d l (q + 1) ((q : Int) + 1) = none := by
    unfold loadF
    rw [if_neg (by omega)]
  unfold putSz loadZ
  rw [e, if_neg (by simp), Nat.add_sub_cancel, Nat.add_sub_cancel, List.range_succ, List.filter_append]
  simp [hb]
theorem loadZ_no (l : List UInt8) (q : Nat) (hb : bitOf l q = false) : loadZ l (q + 1) = loadZ l (q + 1 + 1) := by
  unfold loadZ
  rw [Nat.add_sub_cancel, Nat.add_sub_cancel, List.range_succ, List.filter_append]
  simp [hb]
theorem bits_one (x : Int) (h0 : 0 ≤ x) (h1 : x < 256) : bits .and .u8 x 1 = x % 2 := by
  have : ∀ y : Fin 256, bits .and .u8 ((y.val : Nat) : Int) 1 = ((y.val : Nat) : Int) % 2 := by decide +kernel
  have := this ⟨x.toNat, by omega⟩
  simpa [Int.toNat_of_nonneg h0] using this
theorem bit_walk (Z : ByteArray) (q : Nat) (h : 32 + q / 8 < Z.size) : (bits .and .u8 (((Z[32 + q / 8]'h).toNat : Int) / 2 ^ (q % 8)) 1 == 0) = !bitOf Z.data.toList q := by
  have hx : (Z[32 + q / 8]'h).toNat < 256 := UInt8.toNat_lt _
  have e : (((Z[32 + q / 8]'h).toNat : Int) / 2 ^ (q % 8)) = (((Z[32 + q / 8]'h).toNat / 2 ^ (q % 8) : Nat) : Int) := by simp
  have hle : (Z[32 + q / 8]'h).toNat / 2 ^ (q % 8) ≤ (Z[32 + q / 8]'h).toNat := Nat.div_le_self _ _
  rw [e]
  unfold bitOf
  have eg : Z.data.toList.getD (32 + q / 8) 0 = Z[32 + q / 8]'h := by
    rw [List.getD_eq_getElem?_getD, List.getElem?_eq_getElem (by simpa using h)]
    rfl
  rw [eg]
  generalize (Z[32 + q / 8]'h).toNat / 2 ^ (q % 8) = y at hle ⊢
  rw [bits_one _ (by omega) (by omega)]
  rcases Nat.mod_two_eq_zero_or_one y with h2 | h2
  · have h3 : ((y : Int) % 2) = 0 := by omega
    rw [h2, h3]; rfl
  · have h3 : ((y : Int) % 2) = 1 := by omega
    rw [h2, h3]; rfl
theorem cellFar {w : World} {g b j i : Nat} {u v : Value} (h : g ≠ b) (k : w.cell? ⟨b, i, none⟩ = some u) : (w.setCell ⟨g, j, none⟩ v).cell? ⟨b, i, none⟩ = some u := (World.cell?_setCell_far _ _ _ _ h).trans k
theorem get4 (s : ByteArray) (W : World) (hs : s.size = 4) : Calls Tryz.prog 73 #[.string s] W fun e w' => e = .returned (.tuple #[.int .i64 (Oct.getFrom 0 s.data.toList), .int .i64 0]) ∧ W = w' := by
  have h := get_any s W
  have e1 : getV s = .tuple #[.int .i64 (Oct.getFrom 0 s.data.toList), .int .i64 0] := by
    unfold getV
    rw [if_pos (by omega)]
  rwa [e1] at h
section
variable {S : Nat → Prop} {w0 w w' : World} {G : PH} {d d' : Vd.VD} {L L' : Wa.WL} {P : PP}
theorem turned_only {b : Nat} (h : w.mapTurned w' b) : Only [b] w w' := (Only.refl [b] w).grown h.grown (fun q hq => .inl (by injection hq with hq; simp [hq]))
theorem row_ne_map {b e n : Nat} {v : Value} {xs : List Value} {size : Nat} (h : w.ownsRow 0 e size v n xs) (hb : ∃ es clock, w.heap[b]? = some (.map es clock)) : ∀ q, v.ownBlock = some q → q ≠ b := by
  rintro q hq rfl
  obtain ⟨es, clock, hm⟩ := hb
  rcases h.2 with ⟨rfl, _⟩ | ⟨g, cap, cur, rfl, _, hh, _⟩
  · simp [Value.ownBlock] at hq
  · simp only [Value.ownBlock, Option.some.injEq] at hq
    subst hq
    rw [hh] at hm
    cases hm
/-- a page is put into the pager's own map -/
theorem PG.putM (h : PG S w0 w G d L P) (hu : P.up = true) (ht : P.tx = none) (k : Int) (s : ByteArray) (hk : (Lit.int .i64 k).wf = true) (hs : s.size ≤ maxLen) (hn : P.sz < maxLen) :
    ∃ w', (Instr.mapUpdate 74 (.map (some G.M)) (.int .i64 k) (.string s)).run Tryz.prog w = .ok () w' ∧ PG S w0 w' G d L { P with pages := putF P.pages k s, sz := putSz P.pages P.sz k } ∧ Only [G.M] w w' := by
  obtain ⟨w', hrun, hP, hT⟩ := (h.pm hu).store hn k s hk hs
  have ho := turned_only hT
  refine ⟨w', hrun, ⟨h.log.aside ho (fun b hb => ?_), h.blk.only ho ?_, h.len, fun _ => hP, fun t hx => ?_, ownsRow_only h.row ho (fun q hq hm => ?_), h.own⟩, ho⟩
  · rw [List.mem_singleton] at hb
    exact h.own b (.inr (.inl ⟨hu, hb⟩))
  · have := (h.pm hu).ne_blk h.blk
    simpa using this.symm
  · have hx' : P.tx = some t := hx
    rw [ht] at hx'
    cases hx'
  · rw [List.mem_singleton] at hm
    exact row_ne_map h.row (h.pm hu).isMap q hq hm
theorem PG.drew (h : PG S w0 w G d L P) : PG S w0 w.drew G d L P := h.later (Below.refl _ _).drew
set_option maxHeartbeats 2000000 in
theorem load_ok (h : PG S w0 w G d L P) (ht : P.tx = none) (hn : 8 ≤ P.n) (hn2 : P.n ≤ 5000) (hon : d.on = true) (hs : P.n * 4 ≤ d.secs.length) :
    Calls Tryz.prog 26 #[.pointer (some ⟨G.pg, 0, none⟩)] w fun e w' => e = .returned (.int .i64 0) ∧ ∃ M, PG S w0 w' { G with M := M } d L { P with pages := loadF d (catS d ((P.n - 8) * 4) 32) (P.n - 7), sz := loadZ (catS d ((P.n - 8) * 4) 32) (P.n - 7), roots := rootsAt (catS d ((P.n - 8) * 4) 32) P.roots 8, up := true } := by
  obtain ⟨hok, hsl⟩ := h.dok
  have hB : Below w.heap.size w (w.alloc (.cells #[.pointer (some ⟨G.pg, 0, none⟩)] 29)) := (Below.refl _ _).alloc (Nat.le_refl _) _
  have h1 := h.later hB
  have hbx : (w.alloc (.cells #[.pointer (some ⟨G.pg, 0, none⟩)] 29)).cell? ⟨w.heap.size, 0, none⟩ = some (.pointer (some ⟨G.pg, 0, none⟩)) := (Blk.new w 29 #[.pointer (some ⟨G.pg, 0, none⟩)]).cell 0
  obtain ⟨w1, hw1⟩ : ∃ w1, w.alloc (.cells #[.pointer (some ⟨G.pg, 0, none⟩)] 29) = w1 := ⟨_, rfl⟩
  have hmst := most_any h1 hn2
  have hrd := reader_ok h1 w.heap.size hbx ((P.n - 8) * 4) 32 hon (by omega)
  rw [hw1] at hmst hrd hbx h1
  obtain ⟨Z, hZ⟩ : ∃ Z : ByteArray, (⟨(catS d ((P.n - 8) * 4) 32).toArray⟩ : ByteArray) = Z := ⟨_, rfl⟩
  have hZl : Z.data.toList = catS d ((P.n - 8) * 4) 32 := by rw [← hZ]
  have hZs : Z.size = 2048 := by rw [← hZ]; exact List.size_toArray.trans (catS_length hok _ _ (by omega))
  unfold rdV at hrd
  simp only [hZ] at hrd
  have e1 : (((P.n - 8) * 4 : Nat) : Int) = ((P.n : Int) - 8) * 4 := by omega
  rw [e1, show ((32 : Nat) : Int) = 32 from rfl] at hrd
  have HM := Lib.hid hmst
  have HR := Lib.hid hrd
  have HP1 := Lib.hid h1
  have HZL := Lib.hid hZl
  have HB := Lib.hid hB
  have hpl := place_any ((P.n : Int) - 8 + 1) w1 (by omega) (by omega)
  have HPL := Lib.hid hpl
  have HW1 := Lib.hid hw1
  have HOK := Lib.hid hok
  have HPW := Lib.hid h.blk.lt
  have HLEN := Lib.hid h.len
  have i1 : (P.n : Int) ≤ 5000 := by omega
  have i2 : 8 ≤ (P.n : Int) := by omega
  clear hmst hrd h1 hZ hZl hB hpl hok h e1 hn hn2
  have hmm := @run_makeMap Tryz.prog
  go_enter Tryz.func26, Tryz.ntmps26
  go_wp2_with fail
  (with_reducible refine HM.out.mono ?_)
  rintro e w2 ⟨rfl, rfl⟩
  go_wp2_with fail
  (with_reducible refine HPL.out.mono ?_)
  rintro e w2 ⟨rfl, rfl⟩
  go_wp2_with fail
  (with_reducible refine HR.out.mono ?_)
  rintro e w2 ⟨rfl, hb2⟩
  have hbl : w.heap.size < w1.heap.size := World.block_lt_of_cell? _ _ hbx
  have hbx2 : w2.cell? ⟨w.heap.size, 0, none⟩ = some (.pointer (some ⟨G.pg, 0, none⟩)) := (hb2.cell (p := ⟨w.heap.size, 0, none⟩) hbl).trans hbx
  have hM : PMap (w2.alloc (.map #[] 0)) w2.heap.size (fun _ => none) 0 := PMap.made w2
  have hBM : Below w2.heap.size w2 (w2.alloc (.map #[] 0)) := (Below.refl _ _).alloc (Nat.le_refl _) _
  have h2 := HP1.out.later hb2
  have hfr := h2.fresh w2.heap.size (Nat.le_refl _)
  have h3 := (h2.later hBM).setMap ht _ _ _ hM hfr
  have HP2L : Hid (w.heap.size < w2.heap.size) := Lib.hid (Nat.lt_of_lt_of_le hbl hb2.size)
  have fz3 := (h2.later hBM).cells.fz 3
  have c3 := (h2.later hBM).cells.c3
  have hpw : G.pg < w.heap.size := HPW.out
  have hbx3 : ((w2.alloc (.map #[] 0)).setCell ⟨G.pg, 3, none⟩ (.map (some w2.heap.size))).cell? ⟨w.heap.size, 0, none⟩ = some (.pointer (some ⟨G.pg, 0, none⟩)) :=
    cellFar (show G.pg ≠ w.heap.size by omega) ((hBM.cell (p := ⟨w.heap.size, 0, none⟩) (Nat.lt_of_lt_of_le hbl hb2.size)).trans hbx2)
  have HP3 := Lib.hid h3
  have HBX := Lib.hid hbx3
  clear h2 h3 hM hBM hbx3 hb2 hbx hbl hpw hfr
  go_wp2_with fail
  have e0 := rootsAt_zero Z.data.toList P.roots HLEN.out
  clear c3 fz3 hbx2
  go_loopw [26] (fun i wr => ∃ j : Nat, j ≤ 8 ∧ i = .int .i64 (j : Int) ∧ PG S w0 wr { G with M := w2.heap.size } d L { P with pages := fun _ => none, sz := 0, roots := rootsAt Z.data.toList P.roots j, up := true } ∧ wr.cell? ⟨w.heap.size, 0, none⟩ = some (.pointer (some ⟨G.pg, 0, none⟩))) (fun i _ => 8 - (intOf i).toNat)
  case atStart => exact ⟨0, by omega, rfl, by rw [e0]; exact HP3.out, HBX.out⟩
  case round =>
    obtain ⟨j, hj, rfl, hP, hbw⟩ := hrel
    by_cases hlt : j < 8
    · have i3 : ((j : Int) < 8) := by omega
      have hwa : IntKind.i64.wrap (4 * (j : Int)) = 4 * (j : Int) := by rw [IntKind.wrap_i64]; omega
      have hwb : IntKind.i64.wrap ((j : Int) + 1) = (j : Int) + 1 := by rw [IntKind.wrap_i64]; omega
      have hwc : IntKind.i64.wrap (4 * ((j : Int) + 1)) = 4 * ((j : Int) + 1) := by rw [IntKind.wrap_i64]; omega
      obtain ⟨S, hS⟩ : ∃ S : ByteArray, Z.extract (4 * j) (4 * j + 4) = S := ⟨_, rfl⟩
      have hSs : S.size = 4 := by rw [← hS, ByteArray.size_extract]; omega
      have hSr : Oct.getFrom 0 S.data.toList = rootOf Z.data.toList j := by
        rw [← hS]
        unfold rootOf
        simp [List.extract_eq_take_drop]
      have hsl4 := fun W => run_slice_string (P := Tryz.prog) W 9 Z .i64 .i64 (4 * (j : Int)) (4 * ((j : Int) + 1)) Tryz.underlying9 (by omega) (by omega) (by omega)
      have ea : (4 * (j : Int)).toNat = 4 * j := by omega
      have eb : (4 * ((j : Int) + 1)).toNat = 4 * j + 4 := by omega
      rw [ea, eb, hS] at hsl4
      have hg4 := fun W => get4 S W hSs
      rw [hSr] at hg4
      obtain ⟨r, hr⟩ : ∃ r, rootOf Z.data.toList j = r := ⟨_, rfl⟩
      rw [hr] at hg4
      have HG4 := Lib.hid hg4
      have HRR := Lib.hid hr
      clear hg4 hr hSr hS hSs ea eb
      have i7 : (0 : Int) ≤ (j : Int) := by omega
      have hr4 := hP.root j hlt
      have hfz := hP.cells.fz (4 + j)
      have hP6 := (hP.setRoot j r hlt).drew
      rw [show (rootsAt Z.data.toList P.roots j).set j r = rootsAt Z.data.toList P.roots (j + 1) by rw [← HRR.out]; exact rootsAt_succ _ _ j hlt] at hP6
      have hne : G.pg ≠ w.heap.size := by have := HPW.out; omega
      have HPJ := Lib.hid hP6
      clear hP hP6
      go_wp2_with fail
      go_region_held3 (fun w' => w'.cell? ⟨w.heap.size, 0, none⟩ = some (.pointer (some ⟨G.pg, 0, none⟩))) (first | exact hbw | exact cellFar hne hbw | go_keep) (first | (go_at_call 73; ((with_reducible refine (HG4.out _).mono ?_)); rintro e w5 ⟨rfl, rfl⟩))
      have HBW6 : Hid (((wr.setCell ⟨G.pg, 4 + j, none⟩ (.int .i64 r)).drew).cell? ⟨w.heap.size, 0, none⟩ = some (.pointer (some ⟨G.pg, 0, none⟩))) := Lib.hid (cellFar hne hbw)
      clear hbw hne hr4 hfz hsl4
      go_wp2_with fail
      go_roundw
      case rel => exact ⟨j + 1, by omega, by go_num, HPJ.out, HBW6.out⟩
      case measure => simp [intOf]; omega
    · obtain rfl : j = 8 := by omega
      have i3 : ¬ (((8 : Nat) : Int) < 8) := by omega
      have HPJ := Lib.hid hP
      clear hP
      go_wp2_with fail
      go_loopw [7] (fun i wr => ∃ q : Nat, q + 8 ≤ P.n ∧ i = .int .i64 ((q : Int) + 1) ∧ PG S w0 wr { G with M := w2.heap.size } d L { P with pages := loadF d Z.data.toList (q + 1), sz := loadZ Z.data.toList (q + 1), roots := rootsAt Z.data.toList P.roots 8, up := true } ∧ wr.cell? ⟨w.heap.size, 0, none⟩ = some (.pointer (some ⟨G.pg, 0, none⟩))) (fun i _ => P.n - (intOf i).toNat)
      case atStart => exact ⟨0, by omega, rfl, by rw [loadF_zero]; exact HPJ.out, hbw⟩
      case round =>
        obtain ⟨q, hq, rfl, hP, hbw⟩ := hrel
        have hmst := most_any hP (by show P.n ≤ 5000; omega)
        have HPJ := Lib.hid hP
        have HM2 := Lib.hid hmst
        clear hP hmst
        by_cases hlt : q + 8 < P.n
        · have i4 : (q : Int) + 1 ≤ (P.n : Int) - 8 := by omega
          go_wp2_with fail
          (with_reducible refine HM2.out.mono ?_)
          rintro e w5 ⟨rfl, rfl⟩
          have hq8 : 32 + q / 8 < Z.size := by rw [hZs]; omega
          have hbw2 := bit_walk Z q hq8
          have i5 : (0 : Int) ≤ 32 + (q : Int) / 8 := by omega
          have i6 : 32 + (q : Int) / 8 < 2048 := by omega
          cases hb : bitOf Z.data.toList q with
          | false =>
            rw [hb] at hbw2
            simp only [Bool.not_false] at hbw2
            go_wp2_with fail
            go_roundw
            case rel =>
              refine ⟨q + 1, by omega, by go_num, ?_, hbw⟩
              have := HPJ.out
              rw [loadF_no d _ q hb, loadZ_no _ q hb] at this
              exact this
            case measure => simp [intOf]; omega
          | true =>
            rw [hb] at hbw2
            simp only [Bool.not_true] at hbw2
            have hPd := HPJ.out.drew
            have hpl2 : ∀ W, Calls Tryz.prog 71 #[.int .i64 ((q : Int) + 1)] W fun e w' => e = .returned (.int .i64 ((q : Int) * 4)) ∧ W = w' := fun W => by
              have := place_any ((q : Int) + 1) W (by omega) (by omega)
              rwa [show (q : Int) + 1 - 1 = (q : Int) by omega] at this
            obtain ⟨T, hT⟩ : ∃ T : ByteArray, pageT d q = T := ⟨_, rfl⟩
            have hrd2 : Calls Tryz.prog 76 #[.int .i64 ((q : Int) * 4), .int .i64 4, .pointer (some ⟨w.heap.size, 0, none⟩)] wr.drew fun e w' => e = .returned (.tuple #[.string T, .int .i64 0]) ∧ Below wr.drew.heap.size wr.drew w' ∧ w'.cell? ⟨w.heap.size, 0, none⟩ = some (.pointer (some ⟨G.pg, 0, none⟩)) ∧ w'.cell? ⟨G.pg, 3, none⟩ = some (.map (some w2.heap.size)) ∧
                ∃ w6, (Instr.mapUpdate 74 (.map (some w2.heap.size)) (.int .i64 ((q : Int) + 1)) (.string T)).run Tryz.prog w' = .ok () w6 ∧ PG S w0 w6 { G with M := w2.heap.size } d L { P with pages := loadF d Z.data.toList (q + 1 + 1), sz := loadZ Z.data.toList (q + 1 + 1), roots := rootsAt Z.data.toList P.roots 8, up := true } ∧ w6.cell? ⟨w.heap.size, 0, none⟩ = some (.pointer (some ⟨G.pg, 0, none⟩)) ∧ w6.cell? ⟨G.pg, 3, none⟩ = some (.map (some w2.heap.size)) := by
              have h1 := reader_ok hPd w.heap.size hbw (q * 4) 4 hon (by omega)
              unfold rdV at h1
              rw [show (⟨(catS d (q * 4) 4).toArray⟩ : ByteArray) = T from hT, Int.natCast_mul] at h1
              refine h1.mono ?_
              rintro e w5 ⟨he, hb5⟩
              have hP5 := hPd.later hb5
              have hc5 : w5.cell? ⟨G.pg, 3, none⟩ = some (.map (some w2.heap.size)) := hP5.cells.c3
              have hpl := World.block_lt_of_cell? _ _ hbw
              have hbx5 := (hb5.cell (p := ⟨w.heap.size, 0, none⟩) hpl).trans hbw
              have hTs : T.size ≤ maxLen := by rw [← hT]; refine Nat.le_trans (Nat.le_of_eq (List.size_toArray.trans (catS_length HOK.out (q * 4) 4 (by omega)))) ?_; unfold maxLen; omega
              obtain ⟨w6, hrun, hP6, hO6⟩ := hP5.putM rfl ht ((q : Int) + 1) T (wf64 (by omega) (by omega)) hTs (by have := loadZ_le Z.data.toList (q + 1); unfold maxLen; simp only; omega)
              refine ⟨he, hb5, hbx5, hc5, w6, hrun, ?_, ?_, ?_⟩
              · have e1 := loadF_yes d Z.data.toList q hb
                have e2 := loadZ_yes d Z.data.toList q hb
                rw [hT] at e1
                simp only [e1, e2] at hP6
                exact hP6
              · have := hO6.block w.heap.size (World.block_lt_of_cell? _ _ hbx5) (by
                  simp only [List.mem_singleton]
                  have := HP2L.out
                  omega)
                rw [World.cell?_of_block this]
                exact hbx5
              · exact hP6.cells.c3
            have HPL2 := Lib.hid hpl2
            have HRD2 := Lib.hid hrd2
            have hc3 : wr.drew.cell? ⟨G.pg, 3, none⟩ = some (.map (some w2.heap.size)) := hPd.cells.c3
            have hbwd : wr.drew.cell? ⟨w.heap.size, 0, none⟩ = some (.pointer (some ⟨G.pg, 0, none⟩)) := hbw
            clear hpl2 hrd2 hPd hT
            go_wp2_with fail
            go_region_held3 (fun w' => w'.cell? ⟨w.heap.size, 0, none⟩ = some (.pointer (some ⟨G.pg, 0, none⟩)) ∧ w'.cell? ⟨G.pg, 3, none⟩ = some (.map (some w2.heap.size))) (first | exact ⟨hb6, hc6⟩ | exact ⟨hb5, hc5⟩ | exact ⟨hbwd, hc3⟩ | go_keep)
              (first
                | (go_at_call 71; ((with_reducible refine (HPL2.out _).mono ?_)); rintro e w5 ⟨rfl, rfl⟩)
                | (go_at_call 76; ((with_reducible refine HRD2.out.mono ?_)); rintro e w5 ⟨rfl, hbel5, hb5, hc5, w6, hrun6, hP6, hb6, hc6⟩))
            have HP6 := Lib.hid hP6
            have HB6 := Lib.hid hb6
            clear hbel5 hb5 hc5 hrun6 hP6 hb6 hc6 hc3 hbwd
            go_wp2_with fail
            go_roundw
            case rel => exact ⟨q + 1, by omega, by go_num, HP6.out, HB6.out⟩
            case measure => simp [intOf]; omega
        · have i4 : ¬ (q : Int) + 1 ≤ (P.n : Int) - 8 := by omega
          obtain rfl : q = P.n - 8 := by omega
          go_wp2_with fail
          (with_reducible refine HM2.out.mono ?_)
          rintro e w5 ⟨rfl, rfl⟩
          go_wp2_with fail
          go_ret
          refine ⟨rfl, w2.heap.size, ?_⟩
          have := HPJ.out
          rw [HZL.out, show P.n - 8 + 1 = P.n - 7 by omega] at this
          exact this
end
end Go.Proofs.YtoleojljpaglhaaGreat
