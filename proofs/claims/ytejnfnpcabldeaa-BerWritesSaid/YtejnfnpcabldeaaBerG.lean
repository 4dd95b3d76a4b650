/- Lists of elements that a call makes: one element behind the other. The contracts of chancerylaw2.many and ber.copies. -/
import Derived.Test.YtejnfnpcabldeaaBerM
import Derived.Maps.AppendAt
namespace Go.Proofs.Ytejnfnpcabldeaa
open Go.RowKit Ber
theorem el_info : (Try.prog.info? 24).map (fun i => (i.zero, i.size, i.bytes)) = some (some (.agg #[.int .i64 0, .int .i64 0, .bool false, .string ⟨#[]⟩, .slice none 0 0]), 5, 64) := by kernel_rfl
/-- elements with their lists as cells -/
def cells1 (p : El × Value) : List Value := [.int .i64 p.1.c, .int .i64 p.1.t, .bool p.1.k, .string p.1.b, p.2]
def rowE (L : List (El × Value)) : List Value := L.flatMap cells1
theorem rowE_length (L : List (El × Value)) : (rowE L).length = L.length * 5 := by
  induction L with
  | nil => rfl
  | cons p L ih => simp only [rowE, List.flatMap_cons, List.length_append] at ih ⊢; rw [ih]; simp [cells1]; omega
theorem rowE_append (L M : List (El × Value)) : rowE (L ++ M) = rowE L ++ rowE M := by simp [rowE]
theorem rowE_at (L : List (El × Value)) (i : Nat) (h : i < L.length) (j : Nat) (hj : j < 5) : (rowE L)[i * 5 + j]? = (cells1 L[i])[j]? := by
  induction L generalizing i with
  | nil => simp at h
  | cons p L ih =>
    have e : rowE (p :: L) = cells1 p ++ rowE L := rfl
    have hl : (cells1 p).length = 5 := rfl
    rw [e]
    cases i with
    | zero => rw [List.getElem?_append_left (by omega)]; simp
    | succ i =>
      rw [List.getElem?_append_right (by omega), hl, show (i + 1) * 5 + j - 5 = i * 5 + j from by omega, ih i (by simpa using h)]
      simp
/-- a list that the call makes -/
def Grow (B : Nat) (w : World) (ks : List El) (v : Value) : Prop :=
  ∃ (L : List (El × Value)) (S : Nat → Prop), L.map (·.1) = ks ∧ w.ownsRow B 24 5 v L.length (rowE L) ∧ (∀ p ∈ L, KsP S w p.1.ks p.2 ∧ Few p.1.b.size) ∧ (∀ b, S b → B ≤ b ∧ b < w.heap.size) ∧ (∀ g, v.ownBlock = some g → ¬ S g)
theorem Grow.nil (B : Nat) (w : World) : Grow B w [] (.slice none 0 0) :=
  ⟨[], fun _ => False, rfl, World.ownsRow_nil _ _ _ _, (fun p hp => by cases hp), (fun b hb => hb.elim), by simp [Value.ownBlock]⟩
theorem own_below {w w' : World} {base : Nat} {e : TypeId} {size n : Nat} {v : Value} {xs : List Value} (h : w.ownsRow base e size v n xs) (hb : Below w.heap.size w w') : w'.ownsRow base e size v n xs := by
  refine ⟨h.1, ?_⟩
  rcases h.2 with h1 | ⟨g', cap, cur, rfl, hB, hh, r⟩
  · exact .inl h1
  · exact .inr ⟨g', cap, cur, rfl, hB, (hb.block g' (Array.getElem?_eq_some_iff.1 hh).1).trans hh, r⟩
theorem Grow.later {B : Nat} {w w' : World} {ks : List El} {v : Value} (h : Grow B w ks v) (hb : Below w.heap.size w w') : Grow B w' ks v := by
  obtain ⟨L, S, h1, h2, h3, h4, h5⟩ := h
  exact ⟨L, S, h1, own_below h2 hb, fun p hp => ⟨(h3 p hp).1.later hb, (h3 p hp).2⟩, fun b hS => ⟨(h4 b hS).1, Nat.lt_of_lt_of_le (h4 b hS).2 hb.size⟩, h5⟩
theorem Grow.own {B : Nat} {w : World} {ks : List El} {v : Value} (h : Grow B w ks v) : ∃ L, L.map (·.1) = ks ∧ w.ownsRow B 24 5 v ks.length (rowE L) ∧ (∀ g, v.ownBlock = some g → B ≤ g ∧ g < w.heap.size) := by
  obtain ⟨L, S, h1, h2, h3, h4, h5⟩ := h
  have hl : ks.length = L.length := by rw [← h1]; simp
  exact ⟨L, h1, by rw [hl]; exact h2, h2.lt⟩
/-- its parts -/
structure GrowX (B : Nat) (L : List (El × Value)) (S : Nat → Prop) (w : World) (v : Value) : Prop where
  own : w.ownsRow B 24 5 v L.length (rowE L)
  kids : ∀ p ∈ L, KsP S w p.1.ks p.2 ∧ Few p.1.b.size
  bd : ∀ b, S b → B ≤ b ∧ b < w.heap.size
  sep : ∀ g, v.ownBlock = some g → ¬ S g
theorem Grow.parts {B : Nat} {w : World} {ks : List El} {v : Value} (h : Grow B w ks v) : ∃ L S, L.map (·.1) = ks ∧ L.length = ks.length ∧ GrowX B L S w v := by
  obtain ⟨L, S, h1, h2, h3, h4, h5⟩ := h
  exact ⟨L, S, h1, by rw [← h1]; simp, h2, h3, h4, h5⟩
theorem GrowX.grow {B : Nat} {L : List (El × Value)} {S : Nat → Prop} {w : World} {v : Value} (h : GrowX B L S w v) : Grow B w (L.map (·.1)) v := ⟨L, S, rfl, h.own, h.kids, h.bd, h.sep⟩
/-- one element more -/
theorem GrowX.push {B : Nat} {w0 w w' : World} {L : List (El × Value)} {S : Nat → Prop} {v v' : Value} {e : El} {kv : Value} {T : Nat → Prop} (h : GrowX B L S w0 v) (hb : Below w0.heap.size w0 w) (hk : KsP T w e.ks kv) (hf : Few e.b.size) (hT : ∀ b, T b → w0.heap.size ≤ b ∧ b < w.heap.size)
    (hB : B ≤ w0.heap.size) (hg : w.grownBy w' v.ownBlock) (hv : v'.ownBlock = v.ownBlock ∨ v'.ownBlock = some w.heap.size)
    (ho : w'.ownsRow B 24 5 v' (L.length + 1) (rowE L ++ cells1 (e, kv))) : Grow B w' (L.map (·.1) ++ [e]) v' := by
  have hs := hg.size
  have hs0 := hb.size
  have hown := h.own.lt
  refine ⟨L ++ [(e, kv)], fun b => S b ∨ T b, by simp, ?_, ?_, ?_, ?_⟩
  · rw [rowE_append]
    simp only [List.length_append, List.length_singleton]
    exact ho
  · intro p hp
    rw [List.mem_append, List.mem_singleton] at hp
    rcases hp with hp | rfl
    · refine ⟨(h.kids p hp).1.keep (Nat.le_trans hs0 hs) (fun g hgl hS => ⟨(hg.block g (by omega) (fun e => h.sep g e.symm hS)).trans (hb.block g hgl), .inl hS⟩), (h.kids p hp).2⟩
    · exact ⟨hk.keep hg.size (fun g hgl hS => ⟨hg.block g hgl (fun e => by have := (hown g e.symm).2; have := (hT g hS).1; omega), .inr hS⟩), hf⟩
  · intro b hb
    rcases hb with hb | hb
    · exact ⟨(h.bd b hb).1, by have := (h.bd b hb).2; omega⟩
    · exact ⟨by have := (hT b hb).1; omega, by have := (hT b hb).2; omega⟩
  · intro g hgv hb
    rcases hv with hv | hv
    · rw [hv] at hgv
      rcases hb with hb | hb
      · exact h.sep g hgv hb
      · have := (hown g hgv).2; have := (hT g hb).1; omega
    · rw [hv] at hgv
      injection hgv with hgv
      subst hgv
      rcases hb with hb | hb
      · have := (h.bd _ hb).2; omega
      · have := (hT _ hb).2; omega
/-- the list whole -/
theorem Grow.whole {B : Nat} {w : World} {ks : List El} {v : Value} (h : Grow B w ks v) (hf : FewK ks.length) : KsP (fun b => B ≤ b ∧ b < w.heap.size) w ks v := by
  obtain ⟨L, S, h1, h2, h3, h4, h5⟩ := h
  subst h1
  rcases h2.2 with ⟨rfl, h0⟩ | ⟨g, cap, cur, rfl, hB, hh, hnc, hcm, hcur, htk⟩
  · have : L = [] := List.eq_nil_of_length_eq_zero h0
    subst this
    exact KsP.nil _ _
  · have hgl : g < w.heap.size := (Array.getElem?_eq_some_iff.1 hh).1
    have hlen : (L.map (·.1)).length = L.length := by simp
    rw [← hlen]
    have hz : ∀ i (h : i < L.length), (L.getD i (zeroE, .slice none 0 0)) = L[i] := fun i h => by simp [List.getD_eq_getElem?_getD, h]
    refine .mk _ (some ⟨g, 0, none⟩) cap g 0 (fun i => (L.getD i (zeroE, .slice none 0 0)).2) ⟨by omega, hcm⟩ hf ?_ ?_
    · intro i hi
      have hi' : i < L.length := by simpa using hi
      rw [hz i hi', List.getElem_map]
      have hc : ∀ j, j < 5 → w.cell? ⟨g, 0 + i * 5 + j, none⟩ = (cells1 L[i])[j]? := by
        intro j hj
        have hr := rowE_at L i hi' j hj
        have hx : (rowE L)[i * 5 + j]? = some ((cells1 L[i])[j]'(by simpa [cells1] using hj)) := by rw [hr]; exact List.getElem?_eq_getElem _
        have := h2.cells (g := g) rfl _ _ hx
        rw [show (⟨g, 0 + i * 5 + j, none⟩ : Addr) = (⟨g, 0, none⟩ : Addr).add (i * 5 + j) from by unfold Addr.add; split <;> simp_all <;> omega, this, ← hx, hr]
      refine ⟨rfl, ⟨hgl, hB, hgl⟩, ⟨hc 0 (by omega), hc 1 (by omega), hc 2 (by omega), hc 3 (by omega), hc 4 (by omega)⟩, (h3 _ (List.getElem_mem hi')).2⟩
    · intro i hi
      have hi' : i < L.length := by simpa using hi
      simp only [hz i hi', List.getElem_map]
      exact (h3 _ (List.getElem_mem hi')).1.mono (fun g _ hS => h4 g hS)
set_option maxHeartbeats 400000 in
theorem many_any {w : World} {ks : List El} {kv : Value} (h : KsAt w ks kv) : ∀ (c t : Int) (k : Bool) (b : ByteArray) (w0 : World), Below w.heap.size w w0 →
    Calls Try.prog 12 #[.agg #[.int .i64 c, .int .i64 t, .bool k, .string b, kv]] w0 fun e w' => (∃ r, e = .returned (.int .i64 r)) ∧ Below w0.heap.size w0 w' := by
  induction h with
  | mk ks a cap g o f h1 h2 h3 h4 ih =>
  intro c t k b w0 hb
  have hk := h2.le
  have HI := Lib.hid ih
  have HK := Lib.hid (kid_at h3 h4)
  have HB := Lib.hid hb
  clear ih h3 h4 h2 hb h1
  go_enter Try.func12, Try.ntmps12
  go_wp2_with fail
  go_loopw [3, 4] (fun n i wr => ∃ (j : Nat) (x : Int), j ≤ ks.length ∧ i = .int .i64 j ∧ n = .int .i64 x ∧ Hid (wr.cell? ⟨w0.heap.size, 4, none⟩ = some (.slice a ks.length cap)) ∧ Below w0.heap.size w0 wr) (fun _ i _ => ks.length - (intOf i).toNat)
  case atStart => exact ⟨0, 1, Nat.zero_le _, rfl, rfl, Lib.hid ((Blk.new w0 _ _).cell 4), (Below.refl _ _).alloc (Nat.le_refl _) _⟩
  case round =>
    obtain ⟨j, x, hj, rfl, rfl, HE, hbel⟩ := hrel
    have he4 := HE.out
    by_cases hlt : j < ks.length
    · by_cases hx : x ≤ 500
      · obtain ⟨kc, kt, kk, kb, a2, n2, cap2, rfl, hgl, hf, he, hfj, hn2, hc⟩ := HK.out j hlt
        have hI := HI.out j hlt kc kt kk kb
        rw [hfj] at hI
        obtain ⟨c0, c1, c2, c3, c4⟩ := hc.later (HB.out.trans (hbel.mono HB.out.size)) hgl
        have Hc := Lib.hid hc
        have HII := Lib.hid hI
        have HBB := Lib.hid hbel
        have hs := hbel.size
        have hlw : w0.heap.size < wr.heap.size := World.block_lt_of_cell? _ _ he4
        clear hc he hfj hn2 hI hbel
        go_wp2_with fail
        (with_reducible refine (HII.out _ (HB.out.trans (HBB.out.mono HB.out.size))).mono ?_)
        rintro e w3 ⟨⟨r, rfl⟩, hb3⟩
        go_wp2_with fail
        go_roundw
        case rel => exact ⟨j + 1, _, by omega, by go_num, rfl, Lib.hid ((hb3.cell (p := ⟨_, 4, none⟩) hlw).trans HE.out), HBB.out.trans (hb3.mono hs)⟩
        case measure => simp [intOf]; omega
      · go_wp2_with fail
        go_ret
        exact ⟨⟨x, rfl⟩, hbel⟩
    · go_wp2_with fail
      go_ret
      exact ⟨⟨x, rfl⟩, hbel⟩
theorem new_row (W : World) (g : Nat) (hg : g = W.heap.size) (T : TypeId) (cs : Array Value) (xs : List Value) (hx : cs = xs.toArray) : ∀ (j : Nat) (u : Value), xs[j]? = some u → (W.alloc (.cells cs T)).cell? ((⟨g, 0, none⟩ : Addr).add j) = some u := by
  intro j u hu
  subst hg hx
  rw [show ((⟨W.heap.size, 0, none⟩ : Addr).add j) = ⟨W.heap.size, j, none⟩ from by unfold Addr.add; split <;> simp_all, (Blk.new W T xs.toArray).cell j]
  simpa using hu
theorem cells1_one (p : El × Value) (a : Option Addr) (n cap : Nat) (hp : p.2 = .slice a n cap) : ∀ u ∈ cells1 p, u.oneCell' = true := by
  intro u hu
  simp only [cells1, hp, List.mem_cons, List.not_mem_nil, or_false] at hu
  rcases hu with rfl | rfl | rfl | rfl | rfl <;> rfl
/-- what copies leaves -/
def CopPost (w0 : World) (ks : List El) (e : Ending) (w' : World) : Prop := ∃ v, e = .returned v ∧ KsP (fun b => w0.heap.size ≤ b ∧ b < w'.heap.size) w' ks v ∧ Below w0.heap.size w0 w'
set_option maxHeartbeats 1000000 in
theorem copies_any {w : World} {ks : List El} {kv : Value} (h : KsAt w ks kv) : ∀ (w0 : World), Below w.heap.size w w0 →
    Calls Try.prog 54 #[kv] w0 fun e w' => CopPost w0 ks e w' := by
  induction h with
  | mk ks a cap g o f h1 h2 h3 h4 ih =>
  intro w0 hb
  have hk := h2.le
  have HF := Lib.hid h2
  have HI := Lib.hid ih
  have HK := Lib.hid (kid_at h3 h4)
  have HB := Lib.hid hb
  clear ih h3 h4 h2 hb h1
  obtain ⟨i0, hi0, hz0, hz1, hz2⟩ := info_parts el_info
  have Hi0 := Lib.hid hi0
  have Hz0 := Lib.hid hz0
  have Hz1 := Lib.hid hz1
  have Hz2 := Lib.hid hz2
  clear hi0 hz0 hz1 hz2
  go_enter Try.func54, Try.ntmps54
  go_wp2_with fail
  go_loopw [3, 8] (fun v i wr => ∃ j : Nat, j ≤ ks.length ∧ i = .int .i64 j ∧ Hid (Grow w0.heap.size wr (ks.take j) v) ∧ Below w0.heap.size w0 wr) (fun _ i _ => ks.length - (intOf i).toNat)
  case atStart => exact ⟨0, Nat.zero_le _, rfl, Lib.hid (Grow.nil _ _), Below.refl _ _⟩
  case round =>
    obtain ⟨j, hj, rfl, HG, hbel⟩ := hrel
    by_cases hlt : j < ks.length
    · obtain ⟨kc, kt, kk, kb, a2, n2, cap2, rfl, hgl, hf, he, hfj, hn2, hc⟩ := HK.out j hlt
      have hI := HI.out j hlt
      rw [hfj] at hI
      obtain ⟨c0, c1, c2, c3, c4⟩ := hc.later (HB.out.trans (hbel.mono HB.out.size)) hgl
      have HII := Lib.hid hI
      have HBB := Lib.hid hbel
      have hs := hbel.size
      clear hc hfj hn2 hI hbel
      have HE := Lib.hid he
      clear he
      go_wp2_with fail
      (with_reducible refine (HII.out _ ((HB.out.trans (HBB.out.mono HB.out.size)).trans ((Below.refl _ _).alloc (by have := HB.out.size; omega) _))).mono ?_)
      rintro e w3 ⟨v3, rfl, hk3, hb3⟩
      obtain ⟨a3, cap3, rfl, _, _⟩ := hk3.at.len
      obtain ⟨L, S, hL, hLl, hX⟩ := HG.out.parts
      have hblk := (Blk.new wr 24 #[.int .i64 kc, .int .i64 kt, .bool kk, .string kb, .slice a2 n2 cap2]).below hb3 (by simp)
      have hz3 := hb3.size
      rw [World.size_alloc] at hz3
      obtain ⟨d0, d1, d2, d3, d4⟩ : w3.cell? ⟨wr.heap.size, 0, none⟩ = some (.int .i64 kc) ∧ w3.cell? ⟨wr.heap.size, 1, none⟩ = some (.int .i64 kt) ∧ w3.cell? ⟨wr.heap.size, 2, none⟩ = some (.bool kk) ∧ w3.cell? ⟨wr.heap.size, 3, none⟩ = some (.string kb) ∧ w3.cell? ⟨wr.heap.size, 4, none⟩ = some (.slice a2 n2 cap2) := ⟨hblk.cell 0, hblk.cell 1, hblk.cell 2, hblk.cell 3, hblk.cell 4⟩
      have hfz := hblk.frozen 4
      have hB3 : Below wr.heap.size wr (w3.setCell ⟨wr.heap.size, 4, none⟩ (.slice a3 ks[j].ks.length cap3)) := (((Below.refl _ _).alloc (Nat.le_refl _) _).trans (hb3.mono (by simp))).setCell (p := ⟨wr.heap.size, 4, none⟩) (Nat.le_refl _) _
      have hown := own_below hX.own hB3
      rw [hLl, List.length_take, Nat.min_eq_left hj] at hown
      have HX := Lib.hid hX
      have HL := Lib.hid hL
      have HLl := Lib.hid hLl
      have HB3 := Lib.hid hB3
      have HK3 := Lib.hid hk3
      have Hf := Lib.hid hf
      clear hX hL hLl hB3 hk3 hblk hf hb3
      go_wp2_with (at_builtin; refine wpList_append_own_at _ rfl _ _ 22 rfl w0.heap.size 24 i0 _ 5 64 Try.underlying22 Hi0.out Hz0.out Hz1.out Hz2.out rfl (by decide) _ j (rowE L) rfl (hown.alloc _) ⟨w3.heap.size, 0, none⟩ 1 1 [.int .i64 kc, .int .i64 kt, .bool kk, .string kb, .slice a3 ks[j].ks.length cap3] rfl rfl ?c1 ?c2 ?c3 ?c4 ?c5 ?_)
      case c1 => exact new_row _ _ (by simp) _ _ _ rfl
      case c2 => exact cells1_one (.mk kc kt kk kb [], .slice a3 ks[j].ks.length cap3) _ _ _ rfl
      case c3 => unfold maxLen; omega
      case c4 => omega
      case c5 => simp; omega
      intro v4 w4 hown4 hgrow hnil hblock
      go_wp2_with fail
      go_roundw
      case rel =>
        have hkp := HK3.out.keep (w' := (w3.setCell ⟨wr.heap.size, 4, none⟩ (.slice a3 ks[j].ks.length cap3)).alloc (.cells #[.int .i64 kc, .int .i64 kt, .bool kk, .string kb, .slice a3 ks[j].ks.length cap3] 24)) (T := fun b => wr.heap.size + 1 ≤ b ∧ b < w3.heap.size) (by simp) (fun q hq hS => ⟨by
          rw [Below.heap_alloc _ _ _ (by simpa using hq), Below.heap_setCell _ _ _ _ (by simp at hS; show q ≠ wr.heap.size; omega)], by simpa using hS⟩)
        have hp := HX.out.push (e := .mk kc kt kk kb ks[j].ks) (HB3.out.trans ((Below.refl _ _).alloc (by simp; omega) _)) hkp Hf.out (fun q hq => ⟨by omega, by simp; omega⟩) HBB.out.size hgrow (by simpa using hblock) (by rw [HLl.out, List.length_take, Nat.min_eq_left hj]; exact hown4)
        rw [HL.out, ← HE.out, ← List.take_succ_eq_append_getElem hlt] at hp
        exact ⟨j + 1, by omega, by go_num, Lib.hid hp, (((HBB.out.trans (HB3.out.mono hs)).alloc (by simp; omega) _).grown hgrow (by simp; omega) (fun q hq => (HX.out.own.lt q hq).1))⟩
      case measure => simp [intOf]; omega
    · obtain rfl : j = ks.length := by omega
      have hw := HG.out
      rw [List.take_length] at hw
      have HW := Lib.hid (hw.whole HF.out)
      clear hw
      go_wp2_with fail
      go_ret
      exact ⟨_, rfl, HW.out, hbel⟩
end Go.Proofs.Ytejnfnpcabldeaa
