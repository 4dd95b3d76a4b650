/- The walk of the law BerAll. -/
import Derived.Test.YtlkdbopdmieojaaGreatBkJ
import Derived.Test.YtlkdbopdmieojaaGreatBerAC
import Derived.Test.YtlkdbopdmieojaaGreatBerBA
set_option maxRecDepth 20000
namespace Go.Proofs.YtlkdbopdmieojaaGreat
open Go.RowKit Ber
set_option maxRecDepth 20000
theorem KsQ.inS {w : World} {S : Nat → Prop} {ks : List El} {v : Value} (h : KsQ w S ks v) : ∀ g, v.ownBlock = some g → S g := by
  cases h with
  | mk _ L _ C own h2 few so sub disj kids => exact so
theorem Bk.lt {w0 w : World} {b : Nat} {RL : List Rc} (h : Bk w0 w b RL) : ∀ r ∈ RL, ∀ g, r.v.ownBlock = some g → g < w.heap.size := by
  intro r hr g hg
  obtain ⟨⟨S, hk⟩, _⟩ := h.ks r hr
  obtain ⟨L, _, ho, _⟩ := hk.own
  exact (ho.lt g hg).2
theorem Bk.start (w : World) : Bk w (w.alloc (.cells (bkc (.slice none 0 0) (.slice none 0 0)).toArray 44)) w.heap.size [] :=
  ⟨⟨_, _, ⟨Blk.new w _ _, World.ownsRow_nil _ _ _ _, World.ownsRow_nil _ _ _ _, (fun q hq => by cases hq), Nat.le_refl _⟩⟩, (fun r hr => by cases hr), (fun i j ri rj g hi => by simp at hi), by simp, by simp, (fun r hr => by cases hr)⟩
/-- an empty book is built -/
theorem wpList_build_book {ops : Array Oper} {rest : List Oper} {o : Oper} {a : Act} {w : World} {Q : Exit → Act → World → Prop} (hgd : o.guard = none) (ho : o.op = .build 44 #[])
    (h : wpList Tryz.prog ops Q rest (a.put o.dst (.agg (bkc (.slice none 0 0) (.slice none 0 0)).toArray)) w) : wpList Tryz.prog ops Q (o :: rest) a w := by
  refine wpList_plain hgd fun K hK => ?_
  have hrun : (Instr.build 44 #[]).run Tryz.prog w = .ok (.agg (bkc (.slice none 0 0) (.slice none 0 0)).toArray) w := by kernel_rfl
  unfold Oper.wp execOp
  simp only [ho, Sem.run_bind, Sem.run_pure, List.map_toArray, List.map_nil, hrun, Result.andThen_ok]
  exact hK _ _ h
/-- a list that a call makes -/
def GkNew (w0 : World) (e : Ending) (w' : World) : Prop := ∃ v r ks', e = .returned (.tuple #[v, .int .i64 r]) ∧ KsQ w' (fun b => w0.heap.size ≤ b ∧ b < w'.heap.size) ks' v ∧ Below w0.heap.size w0 w'
set_option maxHeartbeats 1000000 in
theorem getKidsN_any {w' : World} {ks : List El} {a : Option Addr} {n cap : Nat} (hk : KsAt w' ks (.slice a n cap)) (c t : Int) (k : Bool) (b : ByteArray) (z1 z2 : Int) (w : World) (hw : Below w'.heap.size w' w) : Calls Tryz.prog 9 #[.agg #[.int .i64 c, .int .i64 t, .bool k, .string b, .slice a n cap], .int .i64 z1, .int .i64 z2] w fun e w1 => GkNew w e w1 := by
  obtain ⟨q, hq⟩ : ∃ q, isB c t k z1 z2 true = q := ⟨_, rfl⟩
  have h := Lib.hid hq
  clear hq
  have hB := fun (w1 : World) (hb : Below (w.alloc (.cells #[.int .i64 c, .int .i64 t, .bool k, .string b, .slice a n cap] 47)).heap.size (w.alloc (.cells #[.int .i64 c, .int .i64 t, .bool k, .string b, .slice a n cap] 47)) w1) => ((Below.refl w.heap.size w).alloc (Nat.le_refl _) (.cells #[.int .i64 c, .int .i64 t, .bool k, .string b, .slice a n cap] 47)).trans (hb.mono (by simp))
  have HB := Lib.hid hB
  clear hB
  have HK := Lib.hid (hk.later hw)
  clear hk hw
  cases q
  · go_enter Tryz.func9, Tryz.ntmps9
    go_wp2_with fail
    (with_reducible refine (is_any c t k b a n cap z1 z2 true false h _).mono ?_)
    rintro e w1 ⟨rfl, hb1⟩
    have HB1 := Lib.hid (HB.out _ hb1)
    clear hb1
    go_wp2_with fail
    go_ret2
    exact ⟨_, _, _, rfl, KsP.nil _ _, HB1.out⟩
  · go_enter Tryz.func9, Tryz.ntmps9
    go_wp2_with fail
    (with_reducible refine (is_any c t k b a n cap z1 z2 true true h _).mono ?_)
    rintro e w1 ⟨rfl, hb1⟩
    obtain ⟨d0, d1, d2, d3, d4⟩ := ((Blk.new w 47 #[.int .i64 c, .int .i64 t, .bool k, .string b, .slice a n cap]).below hb1 (by simp)).five
    have HB1 := Lib.hid (HB.out _ hb1)
    have HK1 := Lib.hid (HK.out.later HB1.out)
    clear hb1
    go_wp2_with fail
    (with_reducible refine (copies_any HK1.out _ (Below.refl _ _)).mono ?_)
    rintro e w2 ⟨v2, rfl, hk2, hb2⟩
    obtain ⟨a2, cap2, rfl, _, _⟩ := hk2.at.len
    go_wp2_with fail
    go_ret2
    have hs := HB1.out.size
    exact ⟨_, _, _, rfl, KsP.mono hk2 (fun g _ hg => ⟨by omega, hg.2⟩), HB1.out.trans (hb2.mono HB1.out.size)⟩
/-- the texts that came in -/
def Ls (W : World) (A : Option Addr) (n : Nat) (Sx : Nat → ByteArray) : Prop := ∀ i, i < n → ∃ g o, A = some ⟨g, o, none⟩ ∧ g < W.heap.size ∧ W.cell? ⟨g, o + i, none⟩ = some (.string (Sx i)) ∧ (Sx i).size ≤ 140737488351232
set_option maxHeartbeats 8000000 in
theorem berAll_walk {W : World} {A : Option Addr} {n cap : Nat} {Sx : Nat → ByteArray} (h : Ls W A n Sx) (hn : n ≤ 140737488351232) :
    Calls Tryz.prog 3 #[.slice A n cap] W fun e w' => e = .returned (.bool true) ∧ Below W.heap.size W w' := by
  have H := Lib.hid h
  clear h
  go_enter Tryz.func3, Tryz.ntmps3
  by_cases hbig : 12 < n
  · have hbig' : 12 < (n : Int) := by omega
    go_wp2_with fail
    (with_reducible refine (alive_any _).mono ?_)
    rintro e w1 ⟨rfl, hb1⟩
    go_wp2_with fail
    (with_reducible refine (alive_any _).mono ?_)
    rintro e w2 ⟨rfl, hb2⟩
    go_wp2_with fail
    go_ret
    exact ⟨rfl, hb1.trans (hb2.mono hb1.size)⟩
  · have hbig' : ¬ 12 < (n : Int) := by omega
    go_wp2_with fail
    (with_reducible refine (alive_any _).mono ?_)
    rintro e w1 ⟨rfl, hb1⟩
    have HB1 := Lib.hid hb1
    have hs1 := hb1.size
    clear hb1
    go_wp2_with (refine wpList_build_book rfl rfl ?_)
    go_loopw [4] (fun i wr => ∃ (j : Nat) (RL : List Rc), j ≤ 2 * n ∧ i = .int .i64 j ∧ Hid (Bk w1 wr w1.heap.size RL) ∧ Below w1.heap.size w1 wr) (fun i _ => 2 * n - (intOf i).toNat)
    case atStart => exact ⟨0, [], Nat.zero_le _, rfl, Lib.hid (Bk.start w1), (Below.refl _ _).alloc (Nat.le_refl _) _⟩
    case round =>
      obtain ⟨j, RL, hj, rfl, HBK, hbel⟩ := hrel
      have hsr := hbel.size
      by_cases hlt : j < 2 * n
      · have hjm : j % n < n := Nat.mod_lt _ (by omega)
        obtain ⟨g, o, rfl, hg, hc, hsx⟩ := H.out (j % n) hjm
        obtain ⟨m, hm⟩ : ∃ m, j % n = m := ⟨_, rfl⟩
        have hmod : (j : Int).tmod (n : Int) = (m : Int) := by rw [← hm]; simp [Int.tmod_eq_emod_of_nonneg]
        rw [hm] at hc hsx hjm
        obtain ⟨s, hs⟩ : ∃ s, Sx m = s := ⟨_, rfl⟩
        rw [hs] at hc hsx
        obtain ⟨⟨⟨c, t, k, bb, ks⟩, r⟩, hrd⟩ : ∃ q, rdTop s.data.toList = q := ⟨_, rfl⟩
        have HRD := Lib.hid hrd
        have HBE := Lib.hid hbel
        have hcr : wr.cell? ⟨g, o + m, none⟩ = some (.string s) := (((HB1.out.trans (hbel.mono hs1)).cell (p := ⟨g, o + m, none⟩) hg)).trans hc
        have hnz : (n : Int) ≠ 0 := by omega
        have q0 : (0 : Int) ≤ (m : Int) := by omega
        have q1 : (m : Int) < (n : Int) := by omega
        have hlt' : (j : Int) < 2 * (n : Int) := by omega
        clear hrd hbel hs hm hc
        go_wp2_with fail
        (with_reducible refine (read_var s _ hsx c t k bb ks r HRD).mono ?_)
        rintro e w2 ⟨⟨v2, rfl, hk2⟩, _, hb2⟩
        obtain ⟨a2, cap2, rfl, _, _⟩ := hk2.at.len
        have hs2 := hb2.size
        have hc2 := (hb2.cell (p := ⟨g, o + m, none⟩) (World.block_lt_of_cell? _ _ hcr)).trans hcr
        have hc2a := (World.cell?_alloc_some w2 ⟨g, o + m, none⟩ (.cells #[.int .i64 c, .int .i64 t, .bool k, .string bb, .slice a2 ks.length cap2] 47)) (by rw [hc2]; rfl) |>.trans hc2
        have HX2 := Lib.hid (Blk.new w2 47 #[.int .i64 c, .int .i64 t, .bool k, .string bb, .slice a2 ks.length cap2])
        have hB2 : Below wr.heap.size wr (w2.alloc (.cells #[.int .i64 c, .int .i64 t, .bool k, .string bb, .slice a2 ks.length cap2] 47)) := hb2.alloc hs2 _
        have HB2 := Lib.hid hB2
        have HK2 := Lib.hid hk2
        clear hk2 hb2 hcr hB2
        go_wp2_with fail
        (with_reducible refine (rread_var s _ hsx c t k bb ks r HRD).mono ?_)
        rintro e w3 ⟨⟨v3, rfl, hk3⟩, _, hb3⟩
        obtain ⟨a3, cap3, rfl, _, _⟩ := hk3.at.len
        have hs3 := hb3.size
        rw [World.size_alloc] at hs3
        have HX3 := Lib.hid ((HX2.out.below hb3 HX2.out.lt).alloc (.cells #[.int .i64 c, .int .i64 t, .bool k, .string bb, .slice a3 ks.length cap3] 47))
        have HY3 := Lib.hid (Blk.new w3 47 #[.int .i64 c, .int .i64 t, .bool k, .string bb, .slice a3 ks.length cap3])
        have hb23 : Below w2.heap.size w2 (w3.alloc (.cells #[.int .i64 c, .int .i64 t, .bool k, .string bb, .slice a3 ks.length cap3] 47)) := (((Below.refl _ _).alloc (Nat.le_refl _) _).trans (hb3.mono (by simp))).alloc (by omega) _
        have HB23 := Lib.hid hb23
        have HB3 := Lib.hid (HB2.out.trans (hb3.mono (by simp; omega)) |>.alloc (by omega) (.cells #[.int .i64 c, .int .i64 t, .bool k, .string bb, .slice a3 ks.length cap3] 47))
        have hb3a : Below w3.heap.size w3 (w3.alloc (.cells #[.int .i64 c, .int .i64 t, .bool k, .string bb, .slice a3 ks.length cap3] 47)) := (Below.refl _ _).alloc (Nat.le_refl _) _
        have HKY3 := Lib.hid (hk3.ek (EK.of_below hb3a))
        have HKX3 := Lib.hid (HK2.out.ek (EK.of_below hb23))
        obtain ⟨x0, x1, x2, x3, x4⟩ := HX3.out.five
        obtain ⟨y0, y1, y2, y3, y4⟩ := HY3.out.five
        clear hk3 hb3 hb3a hb23 hc2 hc2a HX2 HB2
        have hrr : (r != r) = false := by simp
        go_wp2_with fail
        (with_reducible refine (same_any HKX3.out.at _ c t k bb _ HKY3.out.at (Below.refl _ _)).mono ?_)
        rintro e w4 ⟨rfl, hb4⟩
        have hs4 := hb4.size
        rw [World.size_alloc] at hs4
        have HX4 := Lib.hid (HX3.out.below hb4 HX3.out.lt)
        have HY4 := Lib.hid (HY3.out.below hb4 HY3.out.lt)
        have HKY4 := Lib.hid (HKY3.out.ek (EK.of_below hb4))
        have hw4 : Below wr.heap.size wr w4 := HB3.out.trans (hb4.mono (by simp; omega))
        have HW4 := Lib.hid hw4
        have HEL := Lib.hid (element_any HK2.out c t k bb w1 w4 w1.heap.size RL (EK.of_below (HB23.out.trans (hb4.mono (by simp; omega)))) (HBK.out.later hw4) (fun r hr q hq hS => by have := HBK.out.lt r hr q hq; have := hS.1; omega) (fun q hS => by have := hS.1; omega))
        obtain ⟨x0, x1, x2, x3, x4⟩ := HX4.out.five
        clear hb4 hw4 HX3 HY3 HKX3 HKY3 HB3 HB23 y0 y1 y2 y3 y4
        go_wp2_with fail
        (with_reducible refine HEL.out.mono ?_)
        rintro e w5 ⟨rfl, hb5, hk5, NL5, hB5, hN5⟩
        have HY5 : Hid (Blk w5 w3.heap.size 47 #[.int .i64 c, .int .i64 t, .bool k, .string bb, .slice a3 ks.length cap3]) := Lib.hid (hk5.elem HY4.out)
        have HKY5 := Lib.hid (HKY4.out.ek hk5)
        have HB5 := Lib.hid hB5
        have HW5 := Lib.hid ((HBE.out.trans (HW4.out.mono hsr)).trans hb5)
        have hs5 := HW5.out.size
        obtain ⟨y0, y1, y2, y3, y4⟩ := HY5.out.five
        clear hb5 hk5 hB5 hN5 HX4 HY4 HKY4 HW4 HEL HBK HBE HK2 x0 x1 x2 x3 x4
        go_wp2_with fail
        (with_reducible refine (getKidsN_any HKY5.out.at c t k bb c t _ (Below.refl _ _)).mono ?_)
        rintro e w6 ⟨v6, r6, ks6, rfl, hk6, hb6⟩
        obtain ⟨a6, n6, cap6, rfl⟩ := hk6.shape
        have hs6 := hb6.size
        have HY6 := Lib.hid (HY5.out.below hb6 HY5.out.lt)
        have HKY6 := Lib.hid (HKY5.out.ek (EK.of_below hb6))
        have HE6 := Lib.hid (elements_any (HB5.out.later hb6) hk6 (fun r hr q hq hv => by have := HB5.out.lt r hr q hq; have := (hk6.inS q hv).1; omega) (fun q hq => by have := (hk6.inS q hq).1; omega))
        have HW6 := Lib.hid (HW5.out.trans (hb6.mono hs5))
        clear hk6 hb6 HY5 HKY5 HW5 HB5 y0 y1 y2 y3 y4
        go_wp2_with fail
        (with_reducible refine HE6.out.mono ?_)
        rintro e w7 ⟨rfl, hb7, hk7, NL7, hB7, hN7⟩
        have HY7 : Hid (Blk w7 w3.heap.size 47 #[.int .i64 c, .int .i64 t, .bool k, .string bb, .slice a3 ks.length cap3]) := Lib.hid (hk7.elem HY6.out)
        have HKY7 := Lib.hid (HKY6.out.ek hk7)
        have HB7 := Lib.hid hB7
        have HW7 := Lib.hid (HW6.out.trans hb7)
        have hs7 := HW7.out.size
        obtain ⟨y0, y1, y2, y3, y4⟩ := HY7.out.five
        clear hb7 hk7 hB7 hN7 HY6 HKY6 HW6 HE6
        go_wp2_with fail
        (with_reducible refine (seq_any HKY7.out.at).mono ?_)
        rintro e w8 ⟨v8, rfl, hk8, hb8⟩
        unfold EV
        obtain ⟨a8, n8, cap8, rfl⟩ := KsQ.shape hk8
        have hs8 := hb8.size
        have hb8a : Below w7.heap.size w7 (w8.alloc (.cells #[.int .i64 0, .int .i64 16, .bool true, .string ⟨#[]⟩, .slice a8 n8 cap8] 47)) := hb8.alloc hs8 _
        have hb8b : Below w8.heap.size w8 (w8.alloc (.cells #[.int .i64 0, .int .i64 16, .bool true, .string ⟨#[]⟩, .slice a8 n8 cap8] 47)) := (Below.refl _ _).alloc (Nat.le_refl _) _
        have HS8 := Lib.hid (Blk.new w8 47 #[.int .i64 0, .int .i64 16, .bool true, .string ⟨#[]⟩, .slice a8 n8 cap8])
        have hk8' := KsQ.inS hk8
        have HE8 := Lib.hid (elements_any (HB7.out.later hb8a) (KsQ.ek hk8 (EK.of_below hb8b)) (fun r hr q hq hv => by have := HB7.out.lt r hr q hq; have := (hk8' q hv).1; omega) (fun q hq => by have := (hk8' q hq).1; omega))
        have HW8 := Lib.hid (HW7.out.trans (hb8a.mono hs7))
        obtain ⟨z0, z1, z2, z3, z4⟩ := HS8.out.five
        clear hk8 hb8 hb8a hb8b hk8' HY7 HKY7 HW7 HB7 y0 y1 y2 y3 y4
        go_wp2_with fail
        (with_reducible refine HE8.out.mono ?_)
        rintro e w9 ⟨rfl, hb9, hk9, NL9, hB9, hN9⟩
        have HB9 := Lib.hid hB9
        have HW9 := Lib.hid (HW8.out.trans hb9)
        clear hb9 hk9 hB9 hN9 HW8 HE8 HS8 z0 z1 z2 z3 z4
        go_wp2_with fail
        go_roundw
        case rel => exact ⟨j + 1, _, by omega, by go_num, HB9, HW9.out⟩
        case measure => simp [intOf]; omega
      · obtain rfl : j = 2 * n := by omega
        have HAP := Lib.hid (apart_any HBK.out)
        have hlt' : ¬ ((2 * n : Nat) : Int) < 2 * (n : Int) := by omega
        go_wp2_with fail
        (with_reducible refine HAP.out.mono ?_)
        rintro e w2 ⟨rfl, hb2⟩
        go_wp2_with fail
        go_ret
        exact ⟨rfl, HB1.out.trans ((hbel.trans hb2).mono hs1)⟩
end Go.Proofs.YtlkdbopdmieojaaGreat
