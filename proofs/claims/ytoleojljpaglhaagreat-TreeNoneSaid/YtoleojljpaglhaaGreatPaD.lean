/- A pager in memory: over a disk and a log, its own blocks all apart. -/
import Derived.Test.YtoleojljpaglhaaGreatWaE
import Derived.Test.YtoleojljpaglhaaGreatPaB
import Derived.Test.YtoleojljpaglhaaGreatPbT
namespace Go.Proofs.YtoleojljpaglhaaGreat
open Go.RowKit
set_option maxRecDepth 20000
theorem KeepS.trans {S T : Nat → Prop} {a b c : World} (h : KeepS S a b) (k : KeepS T b c) (hT : ∀ x, T x → S x) : KeepS S a c :=
  ⟨k.os.trans h.os, k.tape.trans h.tape, k.output.trans h.output, Nat.le_trans h.size k.size, fun x hx hn => (k.block x (Nat.lt_of_lt_of_le hx h.size) (fun ht => hn (hT x ht))).trans (h.block x hx hn)⟩
theorem ownsRow_keep {S : Nat → Prop} {w w' : World} {base : Nat} {e : TypeId} {size n : Nat} {v : Value} {xs : List Value} (h : w.ownsRow base e size v n xs) (k : KeepS S w w') (hn : ∀ q, v.ownBlock = some q → ¬ S q) : w'.ownsRow base e size v n xs := by
  refine ⟨h.1, ?_⟩
  rcases h.2 with h1 | ⟨g', cap, cur, rfl, hb, hh, r⟩
  · exact .inl h1
  · exact .inr ⟨g', cap, cur, rfl, hb, (k.block g' (Array.getElem?_eq_some_iff.1 hh).1 (hn g' rfl)).trans hh, r⟩
/-- a log's own blocks, and whatever is new -/
def Foot (lg : Nat) (fp : List Nat) (rv : Value) (w : World) (k : Nat) : Prop := k = lg ∨ k ∈ fp ∨ rv.ownBlock = some k ∨ w.heap.size ≤ k
theorem LG.rebase {S : Nat → Prop} {w0 w : World} {dg : Nat} {d : Vd.VD} {lg : Nat} {L : Wa.WL} {fp : List Nat} {rv : Value} (h : LG S w0 w dg d lg L fp rv) : LG (Foot lg fp rv w) w w dg d lg L fp rv :=
  ⟨KeepS.refl _ _, fun _ h => .inr (.inr (.inr h)), h.disk, fun _ hb => .inr (.inl hb), .inl rfl, h.blk, h.out, h.row, fun _ hq => .inr (.inr (.inl hq)), h.sep⟩
/-- blocks that are no block of the log's -/
def Off (S : Nat → Prop) (lg : Nat) (fp : List Nat) (rv : Value) (b : Nat) : Prop := S b ∧ b ≠ lg ∧ b ∉ fp ∧ rv.ownBlock ≠ some b
theorem LG.aside {S : Nat → Prop} {w0 w w' : World} {dg : Nat} {d : Vd.VD} {lg : Nat} {L : Wa.WL} {fp : List Nat} {rv : Value} {ob : List Nat} (h : LG S w0 w dg d lg L fp rv) (ho : Only ob w w') (hb : ∀ b ∈ ob, Off S lg fp rv b) : LG S w0 w' dg d lg L fp rv :=
  ⟨h.bel.only ho (fun b hm => (hb b hm).1), h.up, h.disk.only ho (fun b hm hn => (hb b hn).2.2.1 hm), h.low, h.lb, h.blk.only ho (fun hm => (hb _ hm).2.1 rfl), h.out, ownsRow_only h.row ho (fun q hq hm => (hb q hm).2.2.2 hq), h.rs, h.sep⟩
/-- where it lies -/
structure PH where
  pg : Nat
  dg : Nat
  lg : Nat
  M : Nat
  T : Nat
  MT : Nat
  MD : Nat
  fp : List Nat
  rv : Value
  dv : Value
  tv : Value
def ints (l : List Int) : List Value := l.map (Value.int .i64)
def txv (G : PH) (t : Option PT) : Value := match t with | none => .pointer none | some _ => .pointer (some ⟨G.T, 0, none⟩)
def mapv (G : PH) (up : Bool) : Value := match up with | false => .map none | true => .map (some G.M)
/-- the pager's cells -/
def pcells (dg lg n : Nat) (mv : Value) (roots : List Int) (tx dv tv : Value) : Array Value :=
  (([Value.pointer (some ⟨dg, 0, none⟩), .pointer (some ⟨lg, 0, none⟩), .int .i64 (n : Int), mv] ++ ints roots) ++ [tx, dv, tv]).toArray
/-- a state's cells -/
def scells (M : Nat) (roots : List Int) : Array Value := (Value.map (some M) :: ints roots).toArray
/-- the cells of targets -/
def tcells (l : List (Int × ByteArray)) : List Value := l.flatMap fun x => [.int .i64 x.1, .string x.2]
/-- the pager's own blocks -/
def Own (G : PH) (P : PP) (b : Nat) : Prop := b = G.pg ∨ (P.up = true ∧ b = G.M) ∨ (P.tx ≠ none ∧ (b = G.T ∨ b = G.MT ∨ b = G.MD)) ∨ G.tv.ownBlock = some b
/-- an open transaction in memory -/
structure TxAt (w : World) (G : PH) (t : PT) : Prop where
  blk : Blk w G.T 76 (scells G.MT t.roots)
  len : t.roots.length = 8
  pm : PMap w G.MT t.pages t.sz
  sm : SMap w G.MD t.dirty t.dz
  dv : G.dv = .map (some G.MD)
  ne1 : G.MT ≠ G.M
  ne2 : G.MD ≠ G.M
  ne3 : G.MD ≠ G.MT
/-- a pager -/
structure PG (S : Nat → Prop) (w0 w : World) (G : PH) (d : Vd.VD) (L : Wa.WL) (P : PP) : Prop where
  log : LG S w0 w G.dg d G.lg L G.fp G.rv
  blk : Blk w G.pg 81 (pcells G.dg G.lg P.n (mapv G P.up) P.roots (txv G P.tx) G.dv G.tv)
  len : P.roots.length = 8
  pm : P.up = true → PMap w G.M P.pages P.sz
  tx : ∀ t, P.tx = some t → TxAt w G t
  row : w.ownsRow 0 119 2 G.tv P.todo.length (tcells P.todo)
  own : ∀ b, Own G P b → Off S G.lg G.fp G.rv b
section
variable {S : Nat → Prop} {w0 w w' : World} {G : PH} {d d' : Vd.VD} {L L' : Wa.WL} {P : PP}
theorem TxAt.keep {t : PT} {S : Nat → Prop} (h : TxAt w G t) (k : KeepS S w w') (h1 : ¬ S G.T) (h2 : ¬ S G.MT) (h3 : ¬ S G.MD) : TxAt w' G t :=
  ⟨(k.block _ h.blk.lt h1).trans h.blk, h.len, h.pm.at (k.block _ h.pm.lt h2), h.sm.at (k.block _ h.sm.lt h3), h.dv, h.ne1, h.ne2, h.ne3⟩
theorem PG.lt (h : PG S w0 w G d L P) : ∀ b, Own G P b → b < w.heap.size := by
  rintro b (rfl | ⟨h1, rfl⟩ | ⟨h1, h2⟩ | h1)
  · exact h.blk.lt
  · exact (h.pm h1).lt
  · obtain ⟨t, ht⟩ := Option.ne_none_iff_exists'.1 h1
    have := h.tx t ht
    rcases h2 with rfl | rfl | rfl
    · exact this.blk.lt
    · exact this.pm.lt
    · exact this.sm.lt
  · exact ownBlock_lt h.row h1
theorem PG.nfoot (h : PG S w0 w G d L P) : ∀ b, Own G P b → ¬ Foot G.lg G.fp G.rv w b := by
  intro b hb
  have h1 := h.own b hb
  rintro (h2 | h2 | h2 | h2)
  · exact h1.2.1 h2
  · exact h1.2.2.1 h2
  · exact h1.2.2.2 h2
  · have := h.lt b hb; omega
theorem PG.foot (h : PG S w0 w G d L P) : ∀ k, Foot G.lg G.fp G.rv w k → S k := by
  rintro k (rfl | h1 | h1 | h1)
  · exact h.log.lb
  · exact h.log.low k h1
  · exact h.log.rs k h1
  · exact h.log.up _ (Nat.le_trans h.log.bel.size h1)
/-- a call of the log or of the disk -/
theorem PG.use {fp' : List Nat} {rv' : Value} (h : PG S w0 w G d L P) (k : LG (Foot G.lg G.fp G.rv w) w w' G.dg d' G.lg L' fp' rv') : PG S w0 w' { G with fp := fp', rv := rv' } d' L' P := by
  have hf := h.foot
  have hn := h.nfoot
  refine ⟨⟨h.log.bel.trans k.bel hf, h.log.up, k.disk, fun b hb => hf b (k.low b hb), hf _ k.lb, k.blk, k.out, k.row, fun q hq => hf q (k.rs q hq), k.sep⟩,
    (k.bel.block _ h.blk.lt (hn _ (.inl rfl))).trans h.blk, h.len, fun hu => (h.pm hu).at (k.bel.block _ (h.pm hu).lt (hn _ (.inr (.inl ⟨hu, rfl⟩)))), fun t ht => ?_, ownsRow_keep h.row k.bel (fun q hq => hn q (.inr (.inr (.inr hq)))), fun b hb => ?_⟩
  · have hne : P.tx ≠ none := by rw [ht]; simp
    have := (h.tx t ht).keep k.bel (hn _ (.inr (.inr (.inl ⟨hne, .inl rfl⟩)))) (hn _ (.inr (.inr (.inl ⟨hne, .inr (.inl rfl)⟩)))) (hn _ (.inr (.inr (.inl ⟨hne, .inr (.inr rfl)⟩))))
    exact ⟨this.blk, this.len, this.pm, this.sm, this.dv, this.ne1, this.ne2, this.ne3⟩
  · have hb' : Own G P b := hb
    exact ⟨(h.own b hb').1, (h.own b hb').2.1, fun hm => hn b hb' (k.low b hm), fun he => hn b hb' (k.rs b he)⟩
theorem PG.later (h : PG S w0 w G d L P) (hb : Below w.heap.size w w') : PG S w0 w' G d L P := h.use (h.log.rebase.later hb)
theorem PG.called {v : Value} {e : Ending} (h : PG S w0 w G d L P) (hp : DPost v G.dg d' G.fp w e w') : e = .returned v ∧ ∃ fp', PG S w0 w' { G with fp := fp' } d' L P := by
  obtain ⟨he, fp', hL, _⟩ := h.log.rebase.called hp
  exact ⟨he, fp', h.use hL⟩
/-- the pager's cells but the roots -/
structure Cells15 (w : World) (G : PH) (P : PP) : Prop where
  c0 : w.cell? ⟨G.pg, 0, none⟩ = some (.pointer (some ⟨G.dg, 0, none⟩))
  c1 : w.cell? ⟨G.pg, 1, none⟩ = some (.pointer (some ⟨G.lg, 0, none⟩))
  c2 : w.cell? ⟨G.pg, 2, none⟩ = some (.int .i64 (P.n : Int))
  c3 : w.cell? ⟨G.pg, 3, none⟩ = some (mapv G P.up)
  ct : w.cell? ⟨G.pg, 12, none⟩ = some (txv G P.tx)
  cd : w.cell? ⟨G.pg, 13, none⟩ = some G.dv
  co : w.cell? ⟨G.pg, 14, none⟩ = some G.tv
  fz : ∀ i, w.frozen? ⟨G.pg, i, none⟩ = false
theorem len8 {l : List Int} (h : l.length = 8) : ∃ a0 a1 a2 a3 a4 a5 a6 a7, l = [a0, a1, a2, a3, a4, a5, a6, a7] := by
  match l, h with
  | [a0, a1, a2, a3, a4, a5, a6, a7], _ => exact ⟨a0, a1, a2, a3, a4, a5, a6, a7, rfl⟩
theorem PG.cells (h : PG S w0 w G d L P) : Cells15 w G P := by
  obtain ⟨a0, a1, a2, a3, a4, a5, a6, a7, e⟩ := len8 h.len
  have hb := h.blk
  rw [e] at hb
  exact ⟨hb.cell 0, hb.cell 1, hb.cell 2, hb.cell 3, hb.cell 12, hb.cell 13, hb.cell 14, hb.frozen⟩
theorem PG.root (h : PG S w0 w G d L P) (i : Nat) (hi : i < 8) : w.cell? ⟨G.pg, 4 + i, none⟩ = some (.int .i64 (P.roots.getD i 0)) := by
  obtain ⟨a0, a1, a2, a3, a4, a5, a6, a7, e⟩ := len8 h.len
  have hb := h.blk
  rw [e] at hb ⊢
  have := hb.cell (4 + i)
  rw [this]
  match i, hi with
  | 0, _ | 1, _ | 2, _ | 3, _ | 4, _ | 5, _ | 6, _ | 7, _ => rfl
end
end Go.Proofs.YtoleojljpaglhaaGreat
/- The pager's small calls: none, open, most, place, now, Read, Used, Busy. -/
namespace Go.Proofs.YtoleojljpaglhaaGreat
open Go.RowKit
/-- the pages that are seen -/
def PP.seen (P : PP) : Int → Option ByteArray := match P.tx with | none => P.pages | some t => t.pages
def PP.seenSz (P : PP) : Nat := match P.tx with | none => P.sz | some t => t.sz
def nowA (G : PH) (P : PP) : Addr := match P.tx with | none => ⟨G.pg, 3, none⟩ | some _ => ⟨G.T, 0, none⟩
def nowM (G : PH) (P : PP) : Nat := match P.tx with | none => G.M | some _ => G.MT
theorem scell0 {w : World} {g t M : Nat} {roots : List Int} (h : Blk w g t (scells M roots)) : w.cell? ⟨g, 0, none⟩ = some (.map (some M)) := h.cell 0
section
variable {S : Nat → Prop} {w0 w w' : World} {G : PH} {d d' : Vd.VD} {L L' : Wa.WL} {P : PP}
theorem PG.seen (h : PG S w0 w G d L P) (hu : P.up = true) : PMap w (nowM G P) P.seen P.seenSz := by
  unfold PP.seen PP.seenSz nowM
  cases ht : P.tx with
  | none => exact h.pm hu
  | some t => exact (h.tx t ht).pm
theorem PG.nowCell (h : PG S w0 w G d L P) (hu : P.up = true) : w.cell? (nowA G P) = some (.map (some (nowM G P))) := by
  unfold nowM nowA
  cases ht : P.tx with
  | none =>
    have := h.cells.c3
    rwa [hu] at this
  | some t => exact scell0 (h.tx t ht).blk
theorem pnone_any (h : PG S w0 w G d L P) : Calls Tryz.prog 79 #[.pointer (some ⟨G.pg, 0, none⟩)] w fun e w' => e = .returned (.bool false) ∧ w = w' := by
  have c0 := h.cells.c0
  clear h
  go_enter Tryz.func79, Tryz.ntmps79
  go_wp2_with fail
  go_ret
  exact ⟨rfl, rfl⟩
theorem most_any (h : PG S w0 w G d L P) (hn : P.n ≤ 5000) : Calls Tryz.prog 72 #[.pointer (some ⟨G.pg, 0, none⟩)] w fun e w' => e = .returned (.int .i64 ((P.n : Int) - 8)) ∧ w = w' := by
  have c2 := h.cells.c2
  clear h
  go_enter Tryz.func72, Tryz.ntmps72
  go_wp2_with fail
  go_ret
  exact ⟨rfl, rfl⟩
theorem place_any (p : Int) (w : World) (h0 : 0 ≤ p) (h1 : p ≤ 10000) : Calls Tryz.prog 71 #[.int .i64 p] w fun e w' => e = .returned (.int .i64 ((p - 1) * 4)) ∧ w = w' := by
  go_enter Tryz.func71, Tryz.ntmps71
  go_wp2_with fail
  go_ret
  exact ⟨rfl, rfl⟩
def openE (P : PP) : Int := match P.tx with | none => 90 | some _ => 0
set_option maxRecDepth 20000 in
theorem popen_any (h : PG S w0 w G d L P) : Calls Tryz.prog 92 #[.pointer (some ⟨G.pg, 0, none⟩)] w fun e w' => e = .returned (.int .i64 (openE P)) ∧ w = w' := by
  have c := h.cells.ct
  have H := Lib.hid (pnone_any h)
  clear h
  unfold openE
  unfold txv at c
  cases ht : P.tx with
  | none =>
    rw [ht] at c
    simp only at c ⊢
    clear ht
    go_enter Tryz.func92, Tryz.ntmps92
    go_wp2_with fail
    (with_reducible refine H.out.mono ?_)
    rintro e w1 ⟨rfl, rfl⟩
    go_wp2_with fail
    go_ret
    exact ⟨rfl, rfl⟩
  | some t =>
    rw [ht] at c
    simp only at c ⊢
    clear ht
    go_enter Tryz.func92, Tryz.ntmps92
    go_wp2_with fail
    (with_reducible refine H.out.mono ?_)
    rintro e w1 ⟨rfl, rfl⟩
    go_wp2_with fail
    go_ret
    exact ⟨rfl, rfl⟩
set_option maxRecDepth 20000 in
theorem now_any (h : PG S w0 w G d L P) : Calls Tryz.prog 80 #[.pointer (some ⟨G.pg, 0, none⟩)] w fun e w' => e = .returned (.pointer (some (nowA G P))) ∧ w = w' := by
  have c := h.cells.ct
  clear h
  unfold nowA
  unfold txv at c
  cases ht : P.tx with
  | none =>
    rw [ht] at c
    simp only at c ⊢
    clear ht
    go_enter Tryz.func80, Tryz.ntmps80
    go_wp2_with fail
    go_ret
    exact ⟨rfl, rfl⟩
  | some t =>
    rw [ht] at c
    simp only at c ⊢
    clear ht
    go_enter Tryz.func80, Tryz.ntmps80
    go_wp2_with fail
    go_ret
    exact ⟨rfl, rfl⟩
/-- what Read tells -/
def prd (P : PP) (page : Int) : Value := .tuple #[.string ((P.seen page).getD ⟨#[]⟩), .int .i64 (if (P.seen page).isSome = true then 0 else 91)]
theorem nowA_off (G : PH) (P : PP) : ∃ g o, nowA G P = ⟨g, o, none⟩ := by
  unfold nowA; split
  · exact ⟨_, _, rfl⟩
  · exact ⟨_, _, rfl⟩
set_option maxRecDepth 20000 in
theorem pread_any (h : PG S w0 w G d L P) (hu : P.up = true) (page : Int) (hk : (Lit.int .i64 page).wf = true) : Calls Tryz.prog 46 #[.pointer (some ⟨G.pg, 0, none⟩), .int .i64 page] w fun e w' => e = .returned (prd P page) ∧ w = w' := by
  have H := Lib.hid (pnone_any h)
  have HN := now_any h
  have hc := h.nowCell hu
  have hl := (h.seen hu).look page hk
  obtain ⟨g, o, he⟩ := nowA_off G P
  rw [he] at HN hc
  have HN := Lib.hid HN
  clear h he hk hu
  unfold prd
  cases hs : P.seen page with
  | none =>
    rw [hs] at hl
    simp only [Option.getD_none, Option.isSome_none] at hl ⊢
    clear hs
    go_enter Tryz.func46, Tryz.ntmps46
    go_wp2_with fail
    (with_reducible refine H.out.mono ?_)
    rintro e w1 ⟨rfl, rfl⟩
    go_wp2_with fail
    (with_reducible refine HN.out.mono ?_)
    rintro e w1 ⟨rfl, rfl⟩
    go_wp2_with fail
    go_ret2
    exact ⟨rfl, rfl⟩
  | some s =>
    rw [hs] at hl
    simp only [Option.getD_some, Option.isSome_some] at hl ⊢
    clear hs
    go_enter Tryz.func46, Tryz.ntmps46
    go_wp2_with fail
    (with_reducible refine H.out.mono ?_)
    rintro e w1 ⟨rfl, rfl⟩
    go_wp2_with fail
    (with_reducible refine HN.out.mono ?_)
    rintro e w1 ⟨rfl, rfl⟩
    go_wp2_with fail
    go_ret2
    exact ⟨rfl, rfl⟩
set_option maxRecDepth 20000 in
theorem pused_any (h : PG S w0 w G d L P) (hu : P.up = true) : Calls Tryz.prog 47 #[.pointer (some ⟨G.pg, 0, none⟩)] w fun e w' => e = .returned (.int .i64 P.seenSz) ∧ w = w' := by
  have H := Lib.hid (pnone_any h)
  have HN := now_any h
  have hc := h.nowCell hu
  have hl := (h.seen hu).len
  obtain ⟨g, o, he⟩ := nowA_off G P
  rw [he] at HN hc
  have HN := Lib.hid HN
  clear h he hu
  go_enter Tryz.func47, Tryz.ntmps47
  go_wp2_with fail
  (with_reducible refine H.out.mono ?_)
  rintro e w1 ⟨rfl, rfl⟩
  go_wp2_with fail
  (with_reducible refine HN.out.mono ?_)
  rintro e w1 ⟨rfl, rfl⟩
  go_wp2_with fail
  go_ret
  exact ⟨rfl, rfl⟩
set_option maxRecDepth 20000 in
theorem pbusy_any (h : PG S w0 w G d L P) : Calls Tryz.prog 48 #[.pointer (some ⟨G.pg, 0, none⟩)] w fun e w' => e = .returned (.bool P.tx.isSome) ∧ w = w' := by
  have c := h.cells.ct
  have H := Lib.hid (pnone_any h)
  clear h
  unfold txv at c
  cases ht : P.tx with
  | none =>
    rw [ht] at c
    simp only [Option.isSome_none] at c ⊢
    clear ht
    go_enter Tryz.func48, Tryz.ntmps48
    go_wp2_with fail
    (with_reducible refine H.out.mono ?_)
    rintro e w1 ⟨rfl, rfl⟩
    go_wp2_with fail
    go_ret
    exact ⟨rfl, rfl⟩
  | some t =>
    rw [ht] at c
    simp only [Option.isSome_some] at c ⊢
    clear ht
    go_enter Tryz.func48, Tryz.ntmps48
    go_wp2_with fail
    (with_reducible refine H.out.mono ?_)
    rintro e w1 ⟨rfl, rfl⟩
    go_wp2_with fail
    go_ret
    exact ⟨rfl, rfl⟩
end
end Go.Proofs.YtoleojljpaglhaaGreat
