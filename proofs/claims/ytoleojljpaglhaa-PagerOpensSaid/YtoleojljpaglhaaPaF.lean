/- The contract of the pager's reader (a function literal in load). -/
import Derived.Test.YtoleojljpaglhaaPaD
import Derived.Test.YtoleojljpaglhaaBerW
import Derived.Test.YtoleojljpaglhaaPaS
namespace Go.Proofs.Ytoleojljpaglhaa
open Go.RowKit
set_option maxRecDepth 20000
theorem Bu.below {B b : Nat} {bs : List Value} {w w' : World} (h : Bu B b bs w) (hb : Below w.heap.size w w') : Bu B b bs w' := by
  have key : ∀ p, Lib.BuilderAt 105 5 B b p bs w → Lib.BuilderAt 105 5 B b p bs w' := by
    rintro p ⟨hB, v, hbk, hown, hne⟩
    have hlt : b < w.heap.size := (Array.getElem?_eq_some_iff.1 hbk).1
    refine ⟨hB, v, (hb.block b hlt).trans hbk, ⟨hown.1, ?_⟩, hne⟩
    rcases hown.2 with hn | ⟨g, cap, cur, hv, hbg, hg, rest⟩
    · exact .inl hn
    · have hlg : g < w.heap.size := (Array.getElem?_eq_some_iff.1 hg).1
      exact .inr ⟨g, cap, cur, hv, hbg, (hb.block g hlg).trans hg, rest⟩
  exact h.elim (fun x => .inl (key _ x)) (fun x => .inr (key _ x))
theorem Bu.eq_ {B b : Nat} {bs bs' : List Value} {w : World} (h : Bu B b bs w) (e : bs = bs') : Bu B b bs' w := e ▸ h
theorem Bu.lt {B b : Nat} {bs : List Value} {w : World} (h : Bu B b bs w) : b < w.heap.size := h.elim (·.lt) (·.lt)
theorem bu_fresh (w : World) : Bu w.heap.size w.heap.size [] (w.alloc (.cells #[.pointer none, .slice none 0 0] 105)) := Lib.fresh_isBuilder _ _ w
theorem bstring_any (B b : Nat) (l : List UInt8) (w : World) (h : Bu B b (Lib.byteCells l) w) (hBw : B ≤ w.heap.size) :
    Calls Try.prog 61 #[.pointer (some ⟨b, 0, none⟩)] w fun e w' => e = .returned (.string ⟨l.toArray⟩) ∧ Below B w w' := builder_String B b l w h hBw
theorem look_64 {d : Vd.VD} (h : d.ok) (a : Nat) (ha : a < d.secs.length) : (Vd.look d a).length = 64 := by
  have h1 : a < (Vd.lay d.secs d.q).length := by rw [Vd.lay_length]; exact ha
  unfold Vd.look
  rw [List.getD_eq_getElem?_getD, List.getElem?_eq_getElem h1]
  exact lay_64 d.q d.secs h.secs (fun x hx => (h.q x hx).2) _ (List.getElem_mem h1)
/-- sectors one behind the other -/
def catS (d : Vd.VD) (at_ k : Nat) : List UInt8 := (List.range k).flatMap fun i => Vd.look d (at_ + i)
theorem catS_succ (d : Vd.VD) (at_ k : Nat) : catS d at_ (k + 1) = catS d at_ k ++ Vd.look d (at_ + k) := by
  unfold catS
  rw [List.range_succ, List.flatMap_append, List.flatMap_cons, List.flatMap_nil, List.append_nil]
theorem catS_length {d : Vd.VD} (h : d.ok) (at_ : Nat) : ∀ k, at_ + k ≤ d.secs.length → (catS d at_ k).length = 64 * k := by
  intro k
  induction k with
  | zero => intro _; rfl
  | succ k ih => intro hk; rw [catS_succ, List.length_append, ih (by omega), look_64 h _ (by omega)]; omega
section
variable {S : Nat → Prop} {w0 w w' : World} {G : PH} {d d' : Vd.VD} {L L' : Wa.WL} {P : PP}
theorem PG.dok (h : PG S w0 w G d L P) : d.ok ∧ d.secs.length ≤ 65536 := by
  obtain ⟨S, M, qv, _, hd⟩ := h.log.disk
  exact ⟨hd.ok, hd.secs1⟩
set_option maxHeartbeats 1000000 in
theorem reader_ok (h : PG S w0 w G d L P) (pb : Nat) (hb : w.cell? ⟨pb, 0, none⟩ = some (.pointer (some ⟨G.pg, 0, none⟩))) (at_ k : Nat) (hon : d.on = true) (hk : at_ + k ≤ d.secs.length) :
    Calls Try.prog 59 #[.int .i64 (at_ : Int), .int .i64 (k : Int), .pointer (some ⟨pb, 0, none⟩)] w fun e w' => e = .returned (rdV (0, catS d at_ k)) ∧ Below w.heap.size w w' := by
  obtain ⟨hok, hsl⟩ := h.dok
  have hpl : pb < w.heap.size := World.block_lt_of_cell? _ _ hb
  have hpg := h.blk.lt
  have hrd : ∀ W, Below w.heap.size w W → ∀ i : Nat, i < k → Calls Try.prog 49 #[.pointer (some ⟨G.dg, 0, none⟩), .int .i64 ((at_ : Int) + (i : Int))] W fun e w' => e = .returned (rdV (0, Vd.look d (at_ + i))) ∧ Below W.heap.size W w' := fun W hW i hi => by
    have := read_any (h.log.disk.below hW) ((at_ + i : Nat) : Int)
    have ha : Vd.asked d ((at_ + i : Nat) : Int) = 0 := by unfold Vd.asked; rw [if_pos hon, if_neg (by omega)]
    have hr : Vd.read d ((at_ + i : Nat) : Int) = (0, Vd.look d (at_ + i)) := by
      unfold Vd.read
      rw [if_neg (by rw [ha]; simp), Int.toNat_natCast]
    rw [hr, Int.natCast_add] at this
    exact this
  have hcell : ∀ W, Below w.heap.size w W → W.cell? ⟨pb, 0, none⟩ = some (.pointer (some ⟨G.pg, 0, none⟩)) ∧ W.cell? ⟨G.pg, 0, none⟩ = some (.pointer (some ⟨G.dg, 0, none⟩)) := fun W hW => ⟨(hW.cell (p := ⟨pb, 0, none⟩) hpl).trans hb, (hW.cell (p := ⟨G.pg, 0, none⟩) hpg).trans h.cells.c0⟩
  have hll : ∀ i : Nat, i < k → (Vd.look d (at_ + i)).length = 64 := fun i hi => look_64 hok _ (by omega)
  have hcl : ∀ i : Nat, i ≤ k → (catS d at_ i).length = 64 * i := fun i hi => catS_length hok at_ i (by omega)
  have b1 : at_ ≤ 65536 := by omega
  have b2 : k ≤ 65536 := by omega
  have HR := Lib.hid hrd
  have HC := Lib.hid hcell
  have HLL := Lib.hid hll
  have HCL := Lib.hid hcl
  clear hrd hcell hll hcl h hb hon hk hok hsl hpl hpg
  go_enter Try.func59, Try.ntmps59
  go_wp2_with fail
  go_loopw [12] (fun i wr => ∃ j : Nat, j ≤ k ∧ i = .int .i64 (j : Int) ∧ Bu w.heap.size w.heap.size (Lib.byteCells (catS d at_ j)) wr ∧ Below w.heap.size w wr) (fun i _ => k - (intOf i).toNat)
  case atStart => exact ⟨0, Nat.zero_le _, rfl, bu_fresh w, (Below.refl _ _).alloc (Nat.le_refl _) _⟩
  case round =>
    obtain ⟨j, hj, rfl, hbu, hbel⟩ := hrel
    have hsz := hbel.size
    by_cases hlt : j < k
    · have i1 : ((j : Int) < (k : Int)) := by omega
      obtain ⟨c1, c2⟩ := HC.out wr hbel
      have hrd := HR.out wr hbel j hlt
      obtain ⟨S, hS⟩ : ∃ S : ByteArray, (⟨(Vd.look d (at_ + j)).toArray⟩ : ByteArray) = S := ⟨_, rfl⟩
      unfold rdV at hrd
      simp only [hS] at hrd
      have hss : S.data.toList = Vd.look d (at_ + j) := by rw [← hS]
      have hsz2 : S.size = 64 := by rw [← hS]; exact List.size_toArray.trans (HLL.out j hlt)
      have HRD := Lib.hid hrd
      have HB := Lib.hid hbu
      have HBL := Lib.hid hbel
      have HSS := Lib.hid hss
      have HS2 := Lib.hid hsz2
      have HSZ := Lib.hid hsz
      clear hbu hbel hrd hS hss hsz2 hsz
      go_wp2_with fail
      (with_reducible refine HRD.out.mono ?_)
      rintro e w1 ⟨rfl, hb1⟩
      have hu1 := HB.out.below hb1
      have HB1 := Lib.hid hb1
      have HW := Lib.hid (writeString_any w.heap.size w.heap.size _ S w1 hu1 (by rw [Lib.byteCells_length, HCL.out j hj, HS2.out]; omega) (by have := HB1.out.size; have := HSZ.out; omega))
      clear hb1 hu1
      go_wp2_with fail
      (with_reducible refine HW.out.mono ?_)
      rintro e w2 ⟨rfl, hu2, hb2, ho2⟩
      have HU2 := Lib.hid hu2
      have HB2 := Lib.hid hb2
      clear hu2 hb2 ho2
      go_wp2_with fail
      go_roundw
      case rel =>
        refine ⟨j + 1, by omega, by go_num, HU2.out.eq_ ?_, ?_⟩
        · rw [catS_succ, Lib.byteCells_append, Lib.strCells_eq, HSS.out]
        · exact (HBL.out.trans (HB1.out.mono HSZ.out)).trans HB2.out
      case measure => simp [intOf]; omega
    · obtain rfl : j = k := by omega
      have i1 : ¬ ((j : Int) < (j : Int)) := by omega
      have HSt := Lib.hid (bstring_any w.heap.size w.heap.size (catS d at_ j) wr hbu hsz)
      have HBL := Lib.hid hbel
      clear hbu hbel
      go_wp2_with fail
      (with_reducible refine HSt.out.mono ?_)
      rintro e w1 ⟨rfl, hb1⟩
      go_wp2_with fail
      go_ret2
      exact ⟨rfl, HBL.out.trans hb1⟩
set_option maxHeartbeats 1000000 in
theorem reader_off (h : PG S w0 w G d L P) (pb : Nat) (hb : w.cell? ⟨pb, 0, none⟩ = some (.pointer (some ⟨G.pg, 0, none⟩))) (at_ k : Nat) (hon : d.on = false) (h1 : at_ ≤ 65536) (h2 : 1 ≤ k) (h3 : k ≤ 65536) :
    Calls Try.prog 59 #[.int .i64 (at_ : Int), .int .i64 (k : Int), .pointer (some ⟨pb, 0, none⟩)] w fun e w' => e = .returned (rdV (80, [])) ∧ Below w.heap.size w w' := by
  have hpl : pb < w.heap.size := World.block_lt_of_cell? _ _ hb
  have hpg := h.blk.lt
  have hB : Below w.heap.size w (w.alloc (.cells #[.pointer none, .slice none 0 0] 105)) := (Below.refl _ _).alloc (Nat.le_refl _) _
  have hrd : Calls Try.prog 49 #[.pointer (some ⟨G.dg, 0, none⟩), .int .i64 (at_ : Int)] (w.alloc (.cells #[.pointer none, .slice none 0 0] 105)) fun e w' => e = .returned (.tuple #[.string ⟨#[]⟩, .int .i64 80]) ∧ Below (w.alloc (.cells #[.pointer none, .slice none 0 0] 105)).heap.size (w.alloc (.cells #[.pointer none, .slice none 0 0] 105)) w' := by
    have := read_any (h.log.disk.below hB) (at_ : Int)
    have hr : Vd.read d (at_ : Int) = (80, []) := by
      unfold Vd.read Vd.asked
      simp [hon]
    rwa [hr] at this
  have c1 := (hB.cell (p := ⟨pb, 0, none⟩) hpl).trans hb
  have c2 := (hB.cell (p := ⟨G.pg, 0, none⟩) hpg).trans h.cells.c0
  have HR := Lib.hid hrd
  have HBB := Lib.hid hB
  clear hrd h hb hon hpl hpg hB
  have i1 : (0 : Int) < (k : Int) := by omega
  go_enter Try.func59, Try.ntmps59
  go_wp2_with fail
  go_loopw [12] (fun i wr => i = .int .i64 0 ∧ wr = w.alloc (.cells #[.pointer none, .slice none 0 0] 105)) (fun _ _ => 0)
  case atStart => exact ⟨rfl, rfl⟩
  case round =>
    obtain ⟨rfl, rfl⟩ := hrel
    go_wp2_with fail
    (with_reducible refine HR.out.mono ?_)
    rintro e w1 ⟨rfl, hb1⟩
    go_wp2_with fail
    go_ret2
    exact ⟨rfl, HBB.out.trans (hb1.mono (by simp))⟩
end
end Go.Proofs.Ytoleojljpaglhaa
/- The pager's cells written; settle with nothing to do. -/
namespace Go.Proofs.Ytoleojljpaglhaa
open Go.RowKit
section
variable {S : Nat → Prop} {w0 w w' : World} {G : PH} {d d' : Vd.VD} {L L' : Wa.WL} {P : PP}
theorem PMap.ne_blk {M f sz g t cs} (h : PMap w M f sz) (hb : Blk w g t cs) : M ≠ g := by
  rintro rfl
  obtain ⟨es, clock, he⟩ := h.isMap
  rw [show w.heap[M]? = _ from hb] at he
  cases he
theorem SMap.ne_blk {M f sz g t cs} (h : SMap w M f sz) (hb : Blk w g t cs) : M ≠ g := by
  rintro rfl
  obtain ⟨es, clock, he⟩ := h.isMap
  rw [show w.heap[M]? = _ from hb] at he
  cases he
theorem Blk.ne_type {g g' : Nat} {t t' : TypeId} {cs cs' : Array Value} (h : Blk w g t cs) (h' : Blk w g' t' cs') (hne : t ≠ t') : g ≠ g' := by
  rintro rfl
  have e : some (Obj.cells cs t (0, 0)) = some (Obj.cells cs' t' (0, 0)) := (show w.heap[g]? = _ from h).symm.trans h'
  injection e with e
  injection e with _ e _
  exact hne e
/-- what a write into a cell of the pager leaves -/
structure Poked (S : Nat → Prop) (w0 w w' : World) (G : PH) (d : Vd.VD) (L : Wa.WL) (P : PP) : Prop where
  log : LG S w0 w' G.dg d G.lg L G.fp G.rv
  pm : ∀ M f sz, PMap w M f sz → PMap w' M f sz
  sm : ∀ M f sz, SMap w M f sz → SMap w' M f sz
  tx : ∀ t, P.tx = some t → TxAt w' G t
  row : w'.ownsRow 0 102 2 G.tv P.todo.length (tcells P.todo)
theorem PG.poke (h : PG S w0 w G d L P) (j : Nat) (u : Value) : Poked S w0 w (w.setCell ⟨G.pg, j, none⟩ u) G d L P ∧ ∀ cs, (pcells G.dg G.lg P.n (mapv G P.up) P.roots (txv G P.tx) G.dv G.tv).setIfInBounds j u = cs → Blk (w.setCell ⟨G.pg, j, none⟩ u) G.pg 51 cs := by
  have ho : Only [G.pg] w (w.setCell ⟨G.pg, j, none⟩ u) := (Only.refl [G.pg] w).setCell (.inl (by simp)) u
  have pm : ∀ M f sz, PMap w M f sz → PMap (w.setCell ⟨G.pg, j, none⟩ u) M f sz := fun M f sz hm => hm.only ho (by simpa using hm.ne_blk h.blk)
  have sm : ∀ M f sz, SMap w M f sz → SMap (w.setCell ⟨G.pg, j, none⟩ u) M f sz := fun M f sz hm => hm.only ho (by simpa using hm.ne_blk h.blk)
  refine ⟨⟨h.log.aside ho (fun b hb => ?_), pm, sm, fun t ht => ?_, ownsRow_only h.row ho (fun q hq hm => ?_)⟩, fun cs hc => ?_⟩
  · rw [List.mem_singleton] at hb
    exact h.own b (.inl hb)
  · have := h.tx t ht
    exact ⟨this.blk.only ho (by simpa using this.blk.ne_type h.blk (by decide)), this.len, pm _ _ _ this.pm, sm _ _ _ this.sm, this.dv, this.ne1, this.ne2, this.ne3⟩
  · rw [List.mem_singleton] at hm
    subst hm
    exact own_ne_blk h.row h.blk (by decide) hq
  · subst hc
    exact heap_setCell_same w G.pg j _ _ u h.blk
theorem pcells_set (a b n : Nat) (mv : Value) (r : List Int) (x y z u : Value) (h : r.length = 8) :
    (pcells a b n mv r x y z).setIfInBounds 3 u = pcells a b n u r x y z ∧ (pcells a b n mv r x y z).setIfInBounds 12 u = pcells a b n mv r u y z ∧ (pcells a b n mv r x y z).setIfInBounds 13 u = pcells a b n mv r x u z ∧ (pcells a b n mv r x y z).setIfInBounds 14 u = pcells a b n mv r x y u := by
  obtain ⟨a0, a1, a2, a3, a4, a5, a6, a7, rfl⟩ := len8 h
  exact ⟨rfl, rfl, rfl, rfl⟩
theorem pcells_root (a b n : Nat) (mv : Value) (r : List Int) (x y z : Value) (v : Int) (i : Nat) (h : r.length = 8) (hi : i < 8) :
    (pcells a b n mv r x y z).setIfInBounds (4 + i) (.int .i64 v) = pcells a b n mv (r.set i v) x y z := by
  obtain ⟨a0, a1, a2, a3, a4, a5, a6, a7, rfl⟩ := len8 h
  match i, hi with
  | 0, _ | 1, _ | 2, _ | 3, _ | 4, _ | 5, _ | 6, _ | 7, _ => rfl
theorem PG.todo0 (h : PG S w0 w G d L P) : PG S w0 (w.setCell ⟨G.pg, 14, none⟩ (.slice none 0 0)) { G with tv := .slice none 0 0 } d L { P with todo := [] } := by
  obtain ⟨k, kb⟩ := h.poke 14 (.slice none 0 0)
  refine ⟨k.log, kb _ (pcells_set _ _ _ _ _ _ _ _ _ h.len).2.2.2, h.len, fun hu => k.pm _ _ _ (h.pm hu), fun t ht => ?_, World.ownsRow_nil _ _ _ _, fun b hb => ?_⟩
  · have := k.tx t ht
    exact ⟨this.blk, this.len, this.pm, this.sm, this.dv, this.ne1, this.ne2, this.ne3⟩
  · refine h.own b ?_
    rcases hb with hb | hb | hb | hb
    · exact .inl hb
    · exact .inr (.inl hb)
    · exact .inr (.inr (.inl hb))
    · simp [Value.ownBlock] at hb
theorem PG.setRoot (h : PG S w0 w G d L P) (i : Nat) (v : Int) (hi : i < 8) : PG S w0 (w.setCell ⟨G.pg, 4 + i, none⟩ (.int .i64 v)) G d L { P with roots := P.roots.set i v } := by
  obtain ⟨k, kb⟩ := h.poke (4 + i) (.int .i64 v)
  exact ⟨k.log, kb _ (pcells_root _ _ _ _ _ _ _ _ _ _ h.len hi), by simpa using h.len, fun hu => k.pm _ _ _ (h.pm hu), k.tx, k.row, h.own⟩
/-- a new map of pages -/
theorem PG.setMap (h : PG S w0 w G d L P) (ht : P.tx = none) (M : Nat) (f : Int → Option ByteArray) (sz : Nat) (hm : PMap w M f sz) (ho : Off S G.lg G.fp G.rv M) :
    PG S w0 (w.setCell ⟨G.pg, 3, none⟩ (.map (some M))) { G with M := M } d L { P with pages := f, sz := sz, up := true } := by
  obtain ⟨k, kb⟩ := h.poke 3 (.map (some M))
  refine ⟨k.log, kb _ (pcells_set _ _ _ _ _ _ _ _ _ h.len).1, h.len, fun hu => k.pm _ _ _ hm, fun t hx => ?_, k.row, fun b hb => ?_⟩
  · have hx' : P.tx = some t := hx
    rw [ht] at hx'
    cases hx'
  · rcases hb with hb | ⟨_, hb⟩ | hb | hb
    · exact h.own b (.inl hb)
    · rw [hb]; exact ho
    · exact absurd ht hb.1
    · exact h.own b (.inr (.inr (.inr hb)))
/-- whatever is new is apart -/
theorem PG.fresh (h : PG S w0 w G d L P) (b : Nat) (hb : w.heap.size ≤ b) : Off S G.lg G.fp G.rv b := by
  refine ⟨h.log.up _ (Nat.le_trans h.log.bel.size hb), ?_, fun hm => ?_, fun he => ?_⟩
  · have := h.log.blk.lt; omega
  · have := h.log.disk.lt _ hm; omega
  · have := ownBlock_lt h.log.row he; omega
theorem tv_nil (h : PG S w0 w G d L P) (ht : P.todo = []) : ∃ p cap, G.tv = .slice p 0 cap := by
  rcases h.row.2 with ⟨e, _⟩ | ⟨g, cap, cur, e, _⟩
  · exact ⟨none, 0, e⟩
  · rw [ht] at e
    exact ⟨_, cap, e⟩
set_option maxHeartbeats 1000000 in
theorem settle_nil (h : PG S w0 w G d L P) (ht : P.todo = []) :
    Calls Try.prog 33 #[.pointer (some ⟨G.pg, 0, none⟩)] w fun e w' => e = .returned (.int .i64 0) ∧ PG S w0 w' { G with tv := .slice none 0 0 } d L P := by
  have co := h.cells.co
  have fz := h.cells.fz 14
  obtain ⟨p, cap, hv⟩ := tv_nil h ht
  rw [hv] at co
  have hq := h.todo0
  have e : { P with todo := [] } = P := by rw [← ht]
  rw [e] at hq
  have HQ := Lib.hid hq
  clear h ht hv hq e
  go_enter Try.func33, Try.ntmps33
  go_wp2_with fail
  go_loopw [3, 14] (fun b i wr => b = .bool false ∧ i = .int .i64 0 ∧ wr = w) (fun _ _ _ => 0)
  case atStart => exact ⟨rfl, rfl, rfl⟩
  case round =>
    obtain ⟨rfl, rfl, rfl⟩ := hrel
    go_wp2_with fail
    go_ret
    exact ⟨rfl, HQ.out⟩
end
end Go.Proofs.Ytoleojljpaglhaa
