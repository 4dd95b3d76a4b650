/- Lists of elements that a call makes: one element behind the other. The contracts of chancerylaw2.many and ber.copies. -/
import Derived.Test.YtlkdbopdmieojaaGreatBerM
import Derived.Maps.AppendAt
namespace Go.Proofs.YtlkdbopdmieojaaGreat
open Go.RowKit Ber
set_option maxRecDepth 20000
theorem el_info : (Tryz.prog.info? 47).map (fun i => (i.zero, i.size, i.bytes)) = some (some (.agg #[.int .i64 0, .int .i64 0, .bool false, .string ⟨#[]⟩, .slice none 0 0]), 5, 64) := by kernel_rfl
/-- a list that the call makes -/
def Grow (B : Nat) (w : World) (ks : List El) (v : Value) : Prop :=
  ∃ (L : List (El × Value)) (C : Nat → Nat → Prop), L.map (·.1) = ks ∧ w.ownsRow B 47 5 v L.length (rowE L) ∧ (∀ i (h : i < L.length), KsP (C i) w L[i].1.ks L[i].2) ∧ (∀ p ∈ L, Few p.1.b.size) ∧ (∀ i b, C i b → B ≤ b ∧ b < w.heap.size) ∧ (∀ i g, v.ownBlock = some g → ¬ C i g) ∧ (∀ i j b, C i b → C j b → i = j)
theorem Grow.nil (B : Nat) (w : World) : Grow B w [] (.slice none 0 0) :=
  ⟨[], fun _ _ => False, rfl, World.ownsRow_nil _ _ _ _, (fun i h => absurd h (by simp)), (fun p hp => by cases hp), (fun i b hb => hb.elim), (fun i g hg => by cases hg), fun i j b h => h.elim⟩
theorem own_below {w w' : World} {base : Nat} {e : TypeId} {size n : Nat} {v : Value} {xs : List Value} (h : w.ownsRow base e size v n xs) (hb : Below w.heap.size w w') : w'.ownsRow base e size v n xs := by
  refine ⟨h.1, ?_⟩
  rcases h.2 with h1 | ⟨g', cap, cur, rfl, hB, hh, r⟩
  · exact .inl h1
  · exact .inr ⟨g', cap, cur, rfl, hB, (hb.block g' (Array.getElem?_eq_some_iff.1 hh).1).trans hh, r⟩
theorem Grow.later {B : Nat} {w w' : World} {ks : List El} {v : Value} (h : Grow B w ks v) (hb : Below w.heap.size w w') : Grow B w' ks v := by
  obtain ⟨L, C, h1, h2, h3, h3', h4, h5, h6⟩ := h
  exact ⟨L, C, h1, own_below h2 hb, fun i hi => (h3 i hi).later hb, h3', fun i b hS => ⟨(h4 i b hS).1, Nat.lt_of_lt_of_le (h4 i b hS).2 hb.size⟩, h5, h6⟩
theorem Grow.own {B : Nat} {w : World} {ks : List El} {v : Value} (h : Grow B w ks v) : ∃ L, L.map (·.1) = ks ∧ w.ownsRow B 47 5 v ks.length (rowE L) ∧ (∀ g, v.ownBlock = some g → B ≤ g ∧ g < w.heap.size) := by
  obtain ⟨L, C, h1, h2, _⟩ := h
  have hl : ks.length = L.length := by rw [← h1]; simp
  exact ⟨L, h1, by rw [hl]; exact h2, h2.lt⟩
/-- its parts -/
structure GrowX (B : Nat) (L : List (El × Value)) (C : Nat → Nat → Prop) (w : World) (v : Value) : Prop where
  own : w.ownsRow B 47 5 v L.length (rowE L)
  kids : ∀ i (h : i < L.length), KsP (C i) w L[i].1.ks L[i].2
  few : ∀ p ∈ L, Few p.1.b.size
  bd : ∀ i b, C i b → B ≤ b ∧ b < w.heap.size
  sep : ∀ i g, v.ownBlock = some g → ¬ C i g
  disj : ∀ i j b, C i b → C j b → i = j
theorem Grow.parts {B : Nat} {w : World} {ks : List El} {v : Value} (h : Grow B w ks v) : ∃ L C, L.map (·.1) = ks ∧ L.length = ks.length ∧ GrowX B L C w v := by
  obtain ⟨L, C, h1, h2, h3, h3', h4, h5, h6⟩ := h
  exact ⟨L, C, h1, by rw [← h1]; simp, h2, h3, h3', h4, h5, h6⟩
theorem GrowX.grow {B : Nat} {L : List (El × Value)} {C : Nat → Nat → Prop} {w : World} {v : Value} (h : GrowX B L C w v) : Grow B w (L.map (·.1)) v := ⟨L, C, rfl, h.own, h.kids, h.few, h.bd, h.sep, h.disj⟩
/-- one element more -/
theorem GrowX.push {B : Nat} {w0 w w' : World} {L : List (El × Value)} {C : Nat → Nat → Prop} {v v' : Value} {e : El} {kv : Value} {T : Nat → Prop} (h : GrowX B L C w0 v) (hb : Below w0.heap.size w0 w) (hk : KsP T w e.ks kv) (hf : Few e.b.size) (hT : ∀ b, T b → w0.heap.size ≤ b ∧ b < w.heap.size)
    (hB : B ≤ w0.heap.size) (hg : w.grownBy w' v.ownBlock) (hv : v'.ownBlock = v.ownBlock ∨ v'.ownBlock = some w.heap.size)
    (ho : w'.ownsRow B 47 5 v' (L.length + 1) (rowE L ++ cells1 (e, kv))) : Grow B w' (L.map (·.1) ++ [e]) v' := by
  have hs := hg.size
  have hs0 := hb.size
  have hown := h.own.lt
  refine ⟨L ++ [(e, kv)], fun i b => (i < L.length ∧ C i b) ∨ (i = L.length ∧ T b), by simp, ?_, ?_, ?_, ?_, ?_, ?_⟩
  · rw [rowE_append]
    simp only [List.length_append, List.length_singleton]
    exact ho
  · intro i hi
    rw [List.length_append, List.length_singleton] at hi
    by_cases hlt : i < L.length
    · have e1 : (L ++ [(e, kv)])[i] = L[i] := List.getElem_append_left hlt
      simp only [e1]
      exact (h.kids i hlt).keep (Nat.le_trans hs0 hs) (fun g hgl hS => ⟨(hg.block g (by omega) (fun e => h.sep i g e.symm hS)).trans (hb.block g hgl), .inl ⟨hlt, hS⟩⟩)
    · obtain rfl : i = L.length := by omega
      have e1 : (L ++ [(e, kv)])[L.length]'(by simp) = (e, kv) := by simp
      simp only [e1]
      exact hk.keep hg.size (fun g hgl hS => ⟨hg.block g hgl (fun e => by have := (hown g e.symm).2; have := (hT g hS).1; omega), .inr ⟨(by first | trivial | rfl), hS⟩⟩)
  · intro p hp
    rw [List.mem_append, List.mem_singleton] at hp
    rcases hp with hp | rfl
    · exact h.few p hp
    · exact hf
  · intro i b hb
    rcases hb with ⟨_, hb⟩ | ⟨_, hb⟩
    · exact ⟨(h.bd i b hb).1, by have := (h.bd i b hb).2; omega⟩
    · exact ⟨by have := (hT b hb).1; omega, by have := (hT b hb).2; omega⟩
  · intro i g hgv hb
    rcases hv with hv | hv
    · rw [hv] at hgv
      rcases hb with ⟨_, hb⟩ | ⟨_, hb⟩
      · exact h.sep i g hgv hb
      · have := (hown g hgv).2; have := (hT g hb).1; omega
    · rw [hv] at hgv
      injection hgv with hgv
      subst hgv
      rcases hb with ⟨_, hb⟩ | ⟨_, hb⟩
      · have := (h.bd _ _ hb).2; omega
      · have := (hT _ hb).2; omega
  · intro i j b h1 h2
    rcases h1 with ⟨hi, h1⟩ | ⟨hi, h1⟩ <;> rcases h2 with ⟨hj, h2⟩ | ⟨hj, h2⟩
    · exact h.disj i j b h1 h2
    · have := (h.bd i b h1).2; have := (hT b h2).1; omega
    · have := (h.bd j b h2).2; have := (hT b h1).1; omega
    · omega
/-- the list whole -/
theorem Grow.whole {B : Nat} {w : World} {ks : List El} {v : Value} (h : Grow B w ks v) (hf : FewK ks.length) : KsP (fun b => B ≤ b ∧ b < w.heap.size) w ks v := by
  obtain ⟨L, C, h1, h2, h3, h3', h4, h5, h6⟩ := h
  subst h1
  exact KsQ.mk _ L v C (row_base h2) (by simpa using hf) h3' (fun g hg => h2.lt g hg) (fun i b hc => ⟨h4 i b hc, fun e => h5 i b e hc⟩) h6 h3
theorem new_row (W : World) (g : Nat) (hg : g = W.heap.size) (T : TypeId) (cs : Array Value) (xs : List Value) (hx : cs = xs.toArray) : ∀ (j : Nat) (u : Value), xs[j]? = some u → (W.alloc (.cells cs T)).cell? ((⟨g, 0, none⟩ : Addr).add j) = some u := by
  intro j u hu
  subst hg hx
  rw [show ((⟨W.heap.size, 0, none⟩ : Addr).add j) = ⟨W.heap.size, j, none⟩ from by unfold Addr.add; split <;> simp_all, (Blk.new W T xs.toArray).cell j]
  simpa using hu
theorem cells1_one (p : El × Value) (a : Option Addr) (n cap : Nat) (hp : p.2 = .slice a n cap) : ∀ u ∈ cells1 p, u.oneCell' = true := by
  intro u hu
  simp only [cells1, hp, List.mem_cons, List.not_mem_nil, or_false] at hu
  rcases hu with rfl | rfl | rfl | rfl | rfl <;> rfl
/-- what copies leaves -/
def CopPost (w0 : World) (ks : List El) (e : Ending) (w' : World) : Prop := ∃ v, e = .returned v ∧ KsP (fun b => w0.heap.size ≤ b ∧ b < w'.heap.size) w' ks v ∧ Below w0.heap.size w0 w'
set_option maxHeartbeats 1000000 in
theorem copies_any {w : World} {ks : List El} {kv : Value} (h : KsAt w ks kv) : ∀ (w0 : World), Below w.heap.size w w0 →
    Calls Tryz.prog 21 #[kv] w0 fun e w' => CopPost w0 ks e w' := by
  induction h with
  | mk ks a cap g o f h1 h2 h3 h4 ih =>
  intro w0 hb
  have hk := h2.le
  have HF := Lib.hid h2
  have HI := Lib.hid ih
  have HK := Lib.hid (kid_at h3 h4)
  have HB := Lib.hid hb
  clear ih h3 h4 h2 hb h1
  obtain ⟨i0, hi0, hz0, hz1, hz2⟩ := info_parts el_info
  have Hi0 := Lib.hid hi0
  have Hz0 := Lib.hid hz0
  have Hz1 := Lib.hid hz1
  have Hz2 := Lib.hid hz2
  clear hi0 hz0 hz1 hz2
  go_enter Tryz.func21, Tryz.ntmps21
  go_wp2_with fail
  go_loopw [3, 8] (fun v i wr => ∃ j : Nat, j ≤ ks.length ∧ i = .int .i64 j ∧ Hid (Grow w0.heap.size wr (ks.take j) v) ∧ Below w0.heap.size w0 wr) (fun _ i _ => ks.length - (intOf i).toNat)
  case atStart => exact ⟨0, Nat.zero_le _, rfl, Lib.hid (Grow.nil _ _), Below.refl _ _⟩
  case round =>
    obtain ⟨j, hj, rfl, HG, hbel⟩ := hrel
    by_cases hlt : j < ks.length
    · obtain ⟨kc, kt, kk, kb, a2, n2, cap2, rfl, hgl, hf, he, hfj, hn2, hc⟩ := HK.out j hlt
      have hI := HI.out j hlt
      rw [hfj] at hI
      obtain ⟨c0, c1, c2, c3, c4⟩ := hc.later (HB.out.trans (hbel.mono HB.out.size)) hgl
      have HII := Lib.hid hI
      have HBB := Lib.hid hbel
      have hs := hbel.size
      clear hc hfj hn2 hI hbel
      have HE := Lib.hid he
      clear he
      go_wp2_with fail
      (with_reducible refine (HII.out _ ((HB.out.trans (HBB.out.mono HB.out.size)).trans ((Below.refl _ _).alloc (by have := HB.out.size; omega) _))).mono ?_)
      rintro e w3 ⟨v3, rfl, hk3, hb3⟩
      obtain ⟨a3, cap3, rfl, _, _⟩ := hk3.at.len
      obtain ⟨L, S, hL, hLl, hX⟩ := HG.out.parts
      have hblk := (Blk.new wr 47 #[.int .i64 kc, .int .i64 kt, .bool kk, .string kb, .slice a2 n2 cap2]).below hb3 (by simp)
      have hz3 := hb3.size
      rw [World.size_alloc] at hz3
      obtain ⟨d0, d1, d2, d3, d4⟩ : w3.cell? ⟨wr.heap.size, 0, none⟩ = some (.int .i64 kc) ∧ w3.cell? ⟨wr.heap.size, 1, none⟩ = some (.int .i64 kt) ∧ w3.cell? ⟨wr.heap.size, 2, none⟩ = some (.bool kk) ∧ w3.cell? ⟨wr.heap.size, 3, none⟩ = some (.string kb) ∧ w3.cell? ⟨wr.heap.size, 4, none⟩ = some (.slice a2 n2 cap2) := ⟨hblk.cell 0, hblk.cell 1, hblk.cell 2, hblk.cell 3, hblk.cell 4⟩
      have hfz := hblk.frozen 4
      have hB3 : Below wr.heap.size wr (w3.setCell ⟨wr.heap.size, 4, none⟩ (.slice a3 ks[j].ks.length cap3)) := (((Below.refl _ _).alloc (Nat.le_refl _) _).trans (hb3.mono (by simp))).setCell (p := ⟨wr.heap.size, 4, none⟩) (Nat.le_refl _) _
      have hown := own_below hX.own hB3
      rw [hLl, List.length_take, Nat.min_eq_left hj] at hown
      have HX := Lib.hid hX
      have HL := Lib.hid hL
      have HLl := Lib.hid hLl
      have HB3 := Lib.hid hB3
      have HK3 := Lib.hid hk3
      have Hf := Lib.hid hf
      clear hX hL hLl hB3 hk3 hblk hf hb3
      go_wp2_with (at_builtin; refine wpList_append_own_at _ rfl _ _ 45 rfl w0.heap.size 47 i0 _ 5 64 Tryz.underlying45 Hi0.out Hz0.out Hz1.out Hz2.out rfl (by decide) _ j (rowE L) rfl (hown.alloc _) ⟨w3.heap.size, 0, none⟩ 1 1 [.int .i64 kc, .int .i64 kt, .bool kk, .string kb, .slice a3 ks[j].ks.length cap3] rfl rfl ?c1 ?c2 ?c3 ?c4 ?c5 ?_)
      case c1 => exact new_row _ _ (by simp) _ _ _ rfl
      case c2 => exact cells1_one (.mk kc kt kk kb [], .slice a3 ks[j].ks.length cap3) _ _ _ rfl
      case c3 => unfold maxLen; omega
      case c4 => omega
      case c5 => simp; omega
      intro v4 w4 hown4 hgrow hnil hblock
      go_wp2_with fail
      go_roundw
      case rel =>
        have hkp := HK3.out.keep (w' := (w3.setCell ⟨wr.heap.size, 4, none⟩ (.slice a3 ks[j].ks.length cap3)).alloc (.cells #[.int .i64 kc, .int .i64 kt, .bool kk, .string kb, .slice a3 ks[j].ks.length cap3] 47)) (T := fun b => wr.heap.size + 1 ≤ b ∧ b < w3.heap.size) (by simp) (fun q hq hS => ⟨by
          rw [Below.heap_alloc _ _ _ (by simpa using hq), Below.heap_setCell _ _ _ _ (by simp at hS; show q ≠ wr.heap.size; omega)], by simpa using hS⟩)
        have hp := HX.out.push (e := .mk kc kt kk kb ks[j].ks) (HB3.out.trans ((Below.refl _ _).alloc (by simp; omega) _)) hkp Hf.out (fun q hq => ⟨by omega, by simp; omega⟩) HBB.out.size hgrow (by simpa using hblock) (by rw [HLl.out, List.length_take, Nat.min_eq_left hj]; exact hown4)
        rw [HL.out, ← HE.out, ← List.take_succ_eq_append_getElem hlt] at hp
        exact ⟨j + 1, by omega, by go_num, Lib.hid hp, (((HBB.out.trans (HB3.out.mono hs)).alloc (by simp; omega) _).grown hgrow (by simp; omega) (fun q hq => (HX.out.own.lt q hq).1))⟩
      case measure => simp [intOf]; omega
    · obtain rfl : j = ks.length := by omega
      have hw := HG.out
      rw [List.take_length] at hw
      have HW := Lib.hid (hw.whole HF.out)
      clear hw
      go_wp2_with fail
      go_ret
      exact ⟨_, rfl, HW.out, hbel⟩
end Go.Proofs.YtlkdbopdmieojaaGreat
