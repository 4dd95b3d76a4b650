/- A page of one item is read. -/
import Derived.Test.YtoleojljpaglhaaGreatTrB
import Derived.Test.YtoleojljpaglhaaGreatOctE
import Derived.Deep.MidRow
import Derived.Deep.AppendLies
import Derived.Test.YtoleojljpaglhaaGreatTrA
set_option maxRecDepth 20000
namespace Go.Proofs.YtoleojljpaglhaaGreat
open Go.RowKit
set_option maxRecDepth 20000
section
variable {w w' : World} {r g cap : Nat} {kb vb s : ByteArray} {b : Bool} {l : List UInt8} {c : UInt8}
/-- a reader at block r: l is left -/
structure Rd (w : World) (r : Nat) (l : List UInt8) : Prop where
  ex : ∃ s : ByteArray, s.data.toList = l ∧ Blk w r 163 #[.string s, .bool false]
theorem take_b (h : Rd w r l) (n : Nat) (hn : n ≤ l.length) (hn2 : n ≤ 1000) : Calls Tryz.prog 108 #[.pointer (some ⟨r, 0, none⟩), .int .i64 (n : Int)] w fun e w' => ∃ t : ByteArray, e = .returned (.string t) ∧ t.data.toList = l.take n ∧ Rd w' r (l.drop n) ∧ Only [r] w w' := by
  obtain ⟨s, hs, hb⟩ := h.ex
  have hsz : s.size = l.length := by rw [← hs, Array.length_toList]; rfl
  have c0 : w.cell? ⟨r, 0, none⟩ = some (.string s) := hb.cell 0
  have f0 := hb.frozen 0
  have i1 : ¬ ((s.size : Int) < (n : Int)) := by omega
  have i2 : (0 : Int) ≤ (n : Int) := by omega
  have i3 : (n : Int) ≤ (s.size : Int) := by omega
  have e1 : (s.extract 0 n).data.toList = l.take n := by rw [← hs]; simp
  have e2 : (s.extract n s.size).data.toList = l.drop n := by
    rw [← hs]
    simp [List.take_of_length_le]
  have HR : Hid (Rd (w.setCell ⟨r, 0, none⟩ (.string (s.extract n s.size))) r (l.drop n) ∧ Only [r] w (w.setCell ⟨r, 0, none⟩ (.string (s.extract n s.size)))) := Lib.hid ⟨⟨_, e2, (hb.set_ 0 _).eq_ (by simp)⟩, (Only.refl _ _).own 0 _⟩
  have HE := Lib.hid e1
  clear h hb hs hsz hn hn2 e1 e2
  go_enter Tryz.func108, Tryz.ntmps108
  go_wp2_with fail
  go_ret
  exact ⟨_, rfl, HE.out, HR.out.1, HR.out.2⟩
theorem num_b (h : Rd w r (c :: l)) : Calls Tryz.prog 107 #[.pointer (some ⟨r, 0, none⟩), .int .i64 1] w fun e w' => e = .returned (.int .i64 (c.toNat : Int)) ∧ Rd w' r l ∧ Only [r] w w' := by
  have HT : Hid (Calls Tryz.prog 108 #[.pointer (some ⟨r, 0, none⟩), .int .i64 1] w _) := Lib.hid (take_b h 1 (by simp) (by omega))
  clear h
  go_enter Tryz.func107, Tryz.ntmps107
  go_wp2_with fail
  (with_reducible refine HT.out.mono ?_)
  rintro e w2 ⟨t, rfl, ht, hr2, ho2⟩
  have htl : t.data.toList = [c] := by simpa using ht
  have htz : t.size = 1 := by
    have : t.data.toList.length = 1 := by rw [htl]; rfl
    rwa [Array.length_toList] at this
  have hg := get_in t w2 (by omega) (by omega)
  have e1 : Oct.getFrom 0 t.data.toList = (c.toNat : Int) := by
    rw [htl]
    simp [Oct.getFrom, Oct.stepZ]
  rw [e1] at hg
  have HG := Lib.hid hg
  have HR := Lib.hid hr2
  have HO := Lib.hid ho2
  clear ht htl htz hg e1 hr2 ho2
  go_wp2_with fail
  (with_reducible refine HG.out.mono ?_)
  rintro e w3 ⟨rfl, rfl⟩
  go_wp2_with fail
  go_ret
  exact ⟨rfl, HR.out, HO.out⟩
theorem bytes_of {t : ByteArray} {k : ByteArray} (h : t.data.toList = k.data.toList) : t = k := ByteArray.ext (Array.ext' h)
theorem item_info : (Tryz.prog.info? 94).map (fun i => (i.zero, i.size, i.bytes)) = some (some (.agg #[.string ⟨#[]⟩, .string ⟨#[]⟩, .int .i64 0]), 3, 40) := by kernel_rfl
theorem node_one (g c : Nat) (b : Bool) : (#[.bool b, .int .i64 0, .slice (some ⟨g, 0, none⟩) 1 c] : Array Value).all (·.oneCell') = true := all_oneCell_toArray (fun v hv => by
  simp only [List.mem_cons, List.not_mem_nil, or_false] at hv
  rcases hv with rfl | rfl | rfl <;> rfl)
theorem item_all (kb vb : ByteArray) : (#[.string kb, .string vb, .int .i64 0] : Array Value).all (·.oneCell') = true := all_oneCell_toArray (fun v hv => by
  simp only [List.mem_cons, List.not_mem_nil, or_false] at hv
  rcases hv with rfl | rfl | rfl <;> rfl)
theorem item_one (kb vb : ByteArray) : ∀ u ∈ [Value.string kb, .string vb, .int .i64 0], u.oneCell' = true := by
  intro u hu
  simp only [List.mem_cons, List.not_mem_nil, or_false] at hu
  rcases hu with rfl | rfl | rfl <;> rfl
/-- read at work: the reader, the node, the item that is made -/
structure RSt (w : World) (n7 : Nat) (W : World) (l : List UInt8) (k v : ByteArray) : Prop where
  rd : Rd W (w.heap.size + 1) l
  nd : Blk W n7 88 #[.bool false, .int .i64 0, .slice none 0 0]
  it : Blk W (n7 + 1) 94 #[.string k, .string v, .int .i64 0]
  n2 : Blk W w.heap.size 88 #[.bool false, .int .i64 0, .slice none 0 0]
  bel : Below w.heap.size w W
  s4 : w.heap.size + 2 ≤ n7
theorem RSt.only {n7 : Nat} {W W' : World} {l l' : List UInt8} {k v : ByteArray} (h : RSt w n7 W l k v) (hr : Rd W' (w.heap.size + 1) l') (ho : Only [w.heap.size + 1] W W') : RSt w n7 W' l' k v := by
  have := h.s4
  exact ⟨hr, h.nd.only ho (by simp; omega), h.it.only ho (by simp; omega), h.n2.only ho (by simp), h.bel.trans (ho.to_below h.bel.size (by simp)), h.s4⟩
theorem RSt.key {n7 : Nat} {W : World} {l : List UInt8} {k v : ByteArray} (h : RSt w n7 W l k v) (k' : ByteArray) : RSt w n7 (W.setCell ⟨n7 + 1, 0, none⟩ (.string k')) l k' v := by
  have := h.s4
  obtain ⟨s, h1, h2⟩ := h.rd.ex
  exact ⟨⟨s, h1, h2.far (by simp; omega) _⟩, h.nd.far (by simp) _, (h.it.set_ 0 _).eq_ (by simp), h.n2.far (by simp; omega) _, h.bel.setCell (by simp; omega) _, h.s4⟩
theorem RSt.val {n7 : Nat} {W : World} {l : List UInt8} {k v : ByteArray} (h : RSt w n7 W l k v) (v' : ByteArray) : RSt w n7 (W.setCell ⟨n7 + 1, 1, none⟩ (.string v')) l k v' := by
  have := h.s4
  obtain ⟨s, h1, h2⟩ := h.rd.ex
  exact ⟨⟨s, h1, h2.far (by simp; omega) _⟩, h.nd.far (by simp) _, (h.it.set_ 1 _).eq_ (by simp), h.n2.far (by simp; omega) _, h.bel.setCell (by simp; omega) _, h.s4⟩
set_option maxHeartbeats 2000000 in
theorem read_b (hk : kb.size = 1) (hv : vb.size = 1) (w : World) : Calls Tryz.prog 81 #[.string (pageB kb vb)] w fun e w' => ∃ g cap, e = .returned (.tuple #[.agg (nodeC g cap), .bool true]) ∧ (w.heap.size ≤ g ∧ It w' g kb vb) ∧ Below w.heap.size w w' := by
  obtain ⟨kc, hkc⟩ : ∃ c, kb.data.toList = [c] := by
    have : kb.data.toList.length = 1 := by rw [Array.length_toList]; exact hk
    match h : kb.data.toList, this with
    | [c], _ => exact ⟨c, rfl⟩
  obtain ⟨vc, hvc⟩ : ∃ c, vb.data.toList = [c] := by
    have : vb.data.toList.length = 1 := by rw [Array.length_toList]; exact hv
    match h : vb.data.toList, this with
    | [c], _ => exact ⟨c, rfl⟩
  obtain ⟨Z, hZ⟩ : ∃ Z : List UInt8, List.replicate 250 0 = Z := ⟨_, rfl⟩
  have hpl : (pageB kb vb).data.toList = 1 :: 1 :: 1 :: 1 :: kc :: vc :: Z := by
    unfold pageB headB
    rw [hkc, hvc, hZ]
    simp
  obtain ⟨V, hV⟩ : ∃ V, (w.alloc (.cells #[.bool false, .int .i64 0, .slice none 0 0] 88)).alloc (.cells #[.string (pageB kb vb), .bool false] 163) = V := ⟨_, rfl⟩
  have hrd : Rd V (w.heap.size + 1) (1 :: 1 :: 1 :: 1 :: kc :: vc :: Z) := by
    have := Blk.new (w.alloc (.cells #[.bool false, .int .i64 0, .slice none 0 0] 88)) 163 #[.string (pageB kb vb), .bool false]
    rw [World.size_alloc, hV] at this
    exact ⟨_, hpl, this⟩
  have hn2 : Blk V w.heap.size 88 #[.bool false, .int .i64 0, .slice none 0 0] := by rw [← hV]; exact (Blk.new w _ _).alloc _
  have hbV : Below w.heap.size w V := by rw [← hV]; exact (below_new w _).alloc (by simp) _
  have hsV : V.heap.size = w.heap.size + 2 := by rw [← hV]; simp
  obtain ⟨i0, hi0, hz0, hz1, hz2⟩ := info_parts item_info
  have Hi0 := Lib.hid hi0
  have Hz0 := Lib.hid hz0
  have Hz1 := Lib.hid hz1
  have Hz2 := Lib.hid hz2
  have HR := Lib.hid (num_b hrd)
  have HN := Lib.hid hn2
  have HBV := Lib.hid hbV
  have HSV := Lib.hid hsV
  have HKC := Lib.hid hkc
  have HVC := Lib.hid hvc
  clear hk hv hkc hvc hZ hpl hrd hn2 hbV hsV hi0 hz0 hz1 hz2
  obtain ⟨pb, hpb⟩ : ∃ pb, pageB kb vb = pb := ⟨_, rfl⟩
  rw [hpb] at hV ⊢
  clear hpb
  go_enter Tryz.func81, Tryz.ntmps81
  go_wp2_with fail
  (try rw [hV])
  (with_reducible refine HR.out.mono ?_)
  rintro e w3 ⟨rfl, hr3, ho3⟩
  have HR3 := Lib.hid (num_b hr3)
  have HO3 := Lib.hid ho3
  clear hr3 ho3 hV
  go_wp2_with fail
  (with_reducible refine HR3.out.mono ?_)
  rintro e w4 ⟨rfl, hr4, ho4⟩
  have ho : Only [w.heap.size + 1] V w4 := HO3.out.trans ho4 (fun b hb => .inl hb)
  have hs4 : w.heap.size + 2 ≤ w4.heap.size := by have := ho.size; have := HSV.out; omega
  have hn4 : Blk w4 w.heap.size 88 #[.bool false, .int .i64 0, .slice none 0 0] := HN.out.only ho (by simp)
  have hb4 : Below w.heap.size w w4 := HBV.out.trans (ho.to_below (by have := HSV.out; omega) (by simp))
  have hn5 := hn4.alloc (.cells #[.bool false, .int .i64 0, .slice none 0 0] 88)
  have hx5 := Blk.new w4 88 #[.bool false, .int .i64 0, .slice none 0 0]
  have hr5 : Rd (w4.alloc (.cells #[.bool false, .int .i64 0, .slice none 0 0] 88)) (w.heap.size + 1) (1 :: 1 :: kc :: vc :: Z) := by
    obtain ⟨s, h1, h2⟩ := hr4.ex
    exact ⟨s, h1, h2.alloc _⟩
  have hb5 : Below w.heap.size w (w4.alloc (.cells #[.bool false, .int .i64 0, .slice none 0 0] 88)) := hb4.alloc hb4.size _
  have x0 : (w4.alloc (.cells #[.bool false, .int .i64 0, .slice none 0 0] 88)).cell? ⟨w4.heap.size, 0, none⟩ = some (.bool false) := hx5.cell 0
  have HX5 := Lib.hid hx5
  have HN5 := Lib.hid hn5
  have HR5 := Lib.hid hr5
  have HB5 := Lib.hid hb5
  have HS4 := Lib.hid hs4
  clear hr4 ho4 ho hn4 hb4 hn5 hx5 hr5 hb5 hs4
  go_wp2_with fail
  clear x0
  have hs5' : (w4.alloc (.cells #[.bool false, .int .i64 0, .slice none 0 0] 88)).heap.size = w4.heap.size + 1 := World.size_alloc _ _
  obtain ⟨W5, hW5⟩ : ∃ W5, w4.alloc (.cells #[.bool false, .int .i64 0, .slice none 0 0] 88) = W5 := ⟨_, rfl⟩
  obtain ⟨n7, hn7⟩ : ∃ n7, w4.heap.size = n7 := ⟨_, rfl⟩
  rw [hW5] at HX5 HN5 HR5 HB5 hs5' ⊢
  rw [hn7] at HX5 HS4 hs5'
  (try rw [hn7])
  have x0 : W5.cell? ⟨n7, 0, none⟩ = some (.bool false) := HX5.out.cell 0
  have HS5 : Hid (W5.heap.size = n7 + 1) := Lib.hid hs5'
  clear hs5' hW5 hn7
  go_loopw [38] (fun i wr => (i = .int .i64 0 ∧ wr = W5) ∨ (i = .int .i64 1 ∧ ∃ g' cap', Hid (Blk wr n7 88 (nodeC g' cap') ∧ Blk wr w.heap.size 88 #[.bool false, .int .i64 0, .slice none 0 0] ∧ (∃ l, Rd wr (w.heap.size + 1) l) ∧ (n7 < g' ∧ It wr g' kb vb) ∧ Below w.heap.size w wr))) (fun i _ => 1 - (intOf i).toNat)
  case atStart => exact .inl ⟨rfl, by first | rfl | trivial⟩
  case round =>
    rcases hrel with ⟨rfl, rfl⟩ | ⟨rfl, g', cap', HB⟩
    · have hst : RSt w n7 (wr.alloc (.cells #[.string ⟨#[]⟩, .string ⟨#[]⟩, .int .i64 0] 94)) (1 :: 1 :: kc :: vc :: Z) ⟨#[]⟩ ⟨#[]⟩ := by
        obtain ⟨s, h1, h2⟩ := HR5.out.ex
        have hi := Blk.new wr 94 #[.string ⟨#[]⟩, .string ⟨#[]⟩, .int .i64 0]
        rw [HS5.out] at hi
        exact ⟨⟨s, h1, h2.alloc _⟩, HX5.out.alloc _, hi, HN5.out.alloc _, HB5.out.alloc HB5.out.size _, HS4.out⟩
      have hs5 := HS5.out
      obtain ⟨W6, hW6⟩ : ∃ W6, wr.alloc (.cells #[.string ⟨#[]⟩, .string ⟨#[]⟩, .int .i64 0] 94) = W6 := ⟨_, rfl⟩
      rw [hW6] at hst
      have HR6 := Lib.hid (num_b hst.rd)
      have HS6 := Lib.hid hst
      clear hst x0
      go_wp2_with fail
      (try rw [hW6])
      (try rw [hs5])
      (with_reducible refine HR6.out.mono ?_)
      rintro e w7 ⟨rfl, hr7, ho7⟩
      have hst := HS6.out.only hr7 ho7
      have x0 : w7.cell? ⟨n7, 0, none⟩ = some (.bool false) := hst.nd.cell 0
      have HR7 := Lib.hid (num_b hst.rd)
      have HS7 := Lib.hid hst
      clear hst hr7 ho7 hW6 HR6 HS6
      go_wp2_with fail
      (with_reducible refine HR7.out.mono ?_)
      rintro e w8 ⟨rfl, hr8, ho8⟩
      have hst := HS7.out.only hr8 ho8
      have hi0 : w8.cell? ⟨n7 + 1, 0, none⟩ = some (.string ⟨#[]⟩) := hst.it.cell 0
      have HR8 : Hid (Calls Tryz.prog 108 #[.pointer (some ⟨w.heap.size + 1, 0, none⟩), .int .i64 1] w8 _) := Lib.hid (take_b hst.rd 1 (by simp) (by omega))
      have HS8 := Lib.hid hst
      clear hst hr8 ho8 x0 hi0
      go_wp2_with fail
      (with_reducible refine HR8.out.mono ?_)
      rintro e w9 ⟨t, rfl, ht, hr9, ho9⟩
      obtain rfl : t = kb := bytes_of (by rw [ht, HKC.out]; rfl)
      have hst := HS8.out.only hr9 ho9
      have hi0 : w9.cell? ⟨n7 + 1, 0, none⟩ = some (.string ⟨#[]⟩) := hst.it.cell 0
      have hf0 := hst.it.frozen 0
      have hk9 := hst.key t
      have y0 : (w9.setCell ⟨n7 + 1, 0, none⟩ (.string t)).cell? ⟨n7, 0, none⟩ = some (.bool false) := hk9.nd.cell 0
      have HR9 : Hid (Calls Tryz.prog 108 #[.pointer (some ⟨w.heap.size + 1, 0, none⟩), .int .i64 1] (w9.setCell ⟨n7 + 1, 0, none⟩ (.string t)) _) := Lib.hid (take_b hk9.rd 1 (by simp) (by omega))
      have HS9 := Lib.hid hk9
      clear hst hr9 ho9 hk9 ht
      go_wp2_with fail
      (with_reducible refine HR9.out.mono ?_)
      rintro e w10 ⟨u, rfl, hu, hr10, ho10⟩
      obtain rfl : u = vb := bytes_of (by rw [hu, HVC.out]; rfl)
      have hst := HS9.out.only hr10 ho10
      have hi1 : w10.cell? ⟨n7 + 1, 1, none⟩ = some (.string ⟨#[]⟩) := hst.it.cell 1
      have hf1 := hst.it.frozen 1
      have hk10 := hst.val u
      obtain ⟨W10, hW10⟩ : ∃ W10, w10.setCell ⟨n7 + 1, 1, none⟩ (.string u) = W10 := ⟨_, rfl⟩
      rw [hW10] at hk10
      have a0 : W10.cell? ⟨n7 + 1, 0, none⟩ = some (.string t) := hk10.it.cell 0
      have a1 : W10.cell? ⟨n7 + 1, 1, none⟩ = some (.string u) := hk10.it.cell 1
      have a2 : W10.cell? ⟨n7 + 1, 2, none⟩ = some (.int .i64 0) := hk10.it.cell 2
      have b2 : W10.cell? ⟨n7, 2, none⟩ = some (.slice none 0 0) := hk10.nd.cell 2
      have HS10 := Lib.hid hk10
      clear hst hr10 ho10 hk10 hu hi0 hf0 y0
      go_wp2_with (at_builtin; refine wpList_append_own_at _ rfl _ _ 86 rfl (n7 + 1) 94 i0 _ 3 40 Tryz.underlying86 Hi0.out Hz0.out Hz1.out Hz2.out rfl (by decide) (.slice none 0 0) 0 [] rfl (World.ownsRow_nil _ _ _ _) ⟨W10.heap.size, 0, none⟩ 1 1 [.string t, .string u, .int .i64 0] rfl rfl (World.news_of_block (cs := #[.string t, .string u, .int .i64 0]) (t := 94) (fr := (0, 0)) (heap_alloc_new W10 _)) (item_one t u) (by decide) (by decide) ?c5 ?_)
      case c5 => have := HS10.out.it.lt; simp; omega
      intro v11 w11 hown hgrow hnil hat
      have hb11 : Below (W10.alloc (.cells #[.string t, .string u, .int .i64 0] 94)).heap.size (W10.alloc (.cells #[.string t, .string u, .int .i64 0] 94)) w11 := (Below.refl _ _).grown hgrow (Nat.le_refl _) (by simp [Value.ownBlock])
      have hb12 : Below W10.heap.size W10 w11 := (below_new W10 _).trans (hb11.mono (by simp))
      rcases hown.2 with ⟨_, h0⟩ | ⟨g', cap', cur, rfl, hgg, hh, hnc, hcm, hcs, htk⟩
      · omega
      have hlt : n7 + 1 < W10.heap.size := HS10.out.it.lt
      have hcell : ∀ j x, [Value.string t, .string u, .int .i64 0][j]? = some x → w11.cell? ⟨g', j, none⟩ = some x := fun j x hx => by
        have hc := hown.cells (g := g') rfl j x (by simpa using hx)
        have e : (⟨g', 0, none⟩ : Addr).add j = ⟨g', j, none⟩ := by unfold Addr.add; split <;> simp_all
        rwa [e] at hc
      have hne : n7 ≠ g' := by omega
      have hn11 : Blk w11 n7 88 #[.bool false, .int .i64 0, .slice none 0 0] := HS10.out.nd.below hb12 (by omega)
      have d2 : w11.cell? ⟨n7, 2, none⟩ = some (.slice none 0 0) := hn11.cell 2
      have f2 := hn11.frozen 2
      have HFIN : Hid (Blk (w11.setCell ⟨n7, 2, none⟩ (.slice (some ⟨g', 0, none⟩) 1 cap')) n7 88 (nodeC g' cap') ∧ Blk (w11.setCell ⟨n7, 2, none⟩ (.slice (some ⟨g', 0, none⟩) 1 cap')) w.heap.size 88 #[.bool false, .int .i64 0, .slice none 0 0] ∧ (∃ l, Rd (w11.setCell ⟨n7, 2, none⟩ (.slice (some ⟨g', 0, none⟩) 1 cap')) (w.heap.size + 1) l) ∧ (n7 < g' ∧ It (w11.setCell ⟨n7, 2, none⟩ (.slice (some ⟨g', 0, none⟩) 1 cap')) g' t u) ∧ Below w.heap.size w (w11.setCell ⟨n7, 2, none⟩ (.slice (some ⟨g', 0, none⟩) 1 cap'))) := Lib.hid (by
        have h4 := HS10.out.s4
        have hbw := HS10.out.bel
        obtain ⟨s, h1, h2⟩ := HS10.out.rd.ex
        refine ⟨(hn11.set_ 2 _).eq_ (by unfold nodeC; simp), (HS10.out.n2.below hb12 (by omega)).far (by simp; omega) _, ⟨_, s, h1, (h2.below hb12 (by omega)).far (by simp; omega) _⟩, ⟨by omega, ⟨cellFar hne (hcell 0 _ rfl), cellFar hne (hcell 1 _ rfl), cellFar hne (hcell 2 _ rfl)⟩⟩, (hbw.trans (hb12.mono hbw.size)).setCell (by simp; omega) _⟩)
      clear hown hgrow hnil hat hb11 hb12 hgg hh hnc hcm hcs htk hlt hcell hne hn11 a0 a1 a2 b2 hW10
      go_wp2_with fail
      go_roundw
      case rel => exact .inr ⟨by first | rfl | go_num, g', cap', HFIN⟩
      case measure => simp [intOf]
    · obtain ⟨h1, h2, ⟨l, h3⟩, ⟨h4, h5⟩, h6⟩ := HB.out
      obtain ⟨s, _, h3⟩ := h3.ex
      have a0 : wr.cell? ⟨n7, 0, none⟩ = some (.bool false) := h1.cell 0
      have a1 : wr.cell? ⟨n7, 1, none⟩ = some (.int .i64 0) := h1.cell 1
      have a2 : wr.cell? ⟨n7, 2, none⟩ = some (.slice (some ⟨g', 0, none⟩) 1 cap') := h1.cell 2
      have b1 : wr.cell? ⟨w.heap.size + 1, 1, none⟩ = some (.bool false) := h3.cell 1
      have z0 := h2.frozen 0
      have z1 := h2.frozen 1
      have z2 := h2.frozen 2
      have c0 : wr.cell? ⟨w.heap.size, 0, none⟩ = some (.bool false) := h2.cell 0
      have c1 : wr.cell? ⟨w.heap.size, 1, none⟩ = some (.int .i64 0) := h2.cell 1
      have c2 : wr.cell? ⟨w.heap.size, 2, none⟩ = some (.slice none 0 0) := h2.cell 2
      have hk9 : Blk (((wr.setCell ⟨w.heap.size, 0, none⟩ (.bool false)).setCell ⟨w.heap.size, 1, none⟩ (.int .i64 0)).setCell ⟨w.heap.size, 2, none⟩ (.slice (some ⟨g', 0, none⟩) 1 cap')) w.heap.size 88 #[.bool false, .int .i64 0, .slice (some ⟨g', 0, none⟩) 1 cap'] := (((h2.set_ 0 _).set_ 1 _).set_ 2 _).eq_ (by simp)
      have hne : w.heap.size ≠ g' := by have := HS4.out; omega
      have H5 : Hid (It (((wr.setCell ⟨w.heap.size, 0, none⟩ (.bool false)).setCell ⟨w.heap.size, 1, none⟩ (.int .i64 0)).setCell ⟨w.heap.size, 2, none⟩ (.slice (some ⟨g', 0, none⟩) 1 cap')) g' kb vb) := Lib.hid ⟨cellFar hne (cellFar hne (cellFar hne h5.c0)), cellFar hne (cellFar hne (cellFar hne h5.c1)), cellFar hne (cellFar hne (cellFar hne h5.c2))⟩
      have H6 : Hid (Below w.heap.size w (((wr.setCell ⟨w.heap.size, 0, none⟩ (.bool false)).setCell ⟨w.heap.size, 1, none⟩ (.int .i64 0)).setCell ⟨w.heap.size, 2, none⟩ (.slice (some ⟨g', 0, none⟩) 1 cap'))) := Lib.hid (((h6.setCell (by simp) _).setCell (by simp) _).setCell (by simp) _)
      have HK9 := Lib.hid hk9
      have HG : Hid (w.heap.size ≤ g') := Lib.hid (by have := HS4.out; omega)
      clear h1 h2 h3 h4 h5 h6 hne hk9 HB
      go_wp2_with fail
      go_region
      all_goals
        go_wp2_with fail
        (try simp only [Exit.inBlock, Exit.then])
        have y0 := HK9.out.cell 0
        have y1 := HK9.out.cell 1
        have y2 := HK9.out.cell 2
        refine bodyPost_ret (v := .tuple #[.agg #[.bool false, .int .i64 0, .slice (some ⟨g', 0, none⟩) 1 cap'], .bool true]) (by simp [results, Tryz.results81, go_sem, y0, y1, y2]) rfl ?_
        exact ⟨g', cap', rfl, ⟨HG.out, ⟨H5.out.c0, H5.out.c1, H5.out.c2⟩⟩, by first | exact H6.out | exact H6.out.drew | exact below_drewN H6.out _⟩
end
end Go.Proofs.YtoleojljpaglhaaGreat
/- The least key of a tree of one item. -/
set_option maxRecDepth 20000
namespace Go.Proofs.YtoleojljpaglhaaGreat
open Go.RowKit
/-- the tree's pager answers so in every later world -/
def Fz (wn : World) (T pg : Nat) (kb vb : ByteArray) : Prop := ∀ W, Below wn.heap.size wn W → W.cell? ⟨T, 0, none⟩ = some (.pointer (some ⟨pg, 0, none⟩)) ∧ W.cell? ⟨T, 1, none⟩ = some (.int .i64 0) ∧
  (Calls Tryz.prog 46 #[.pointer (some ⟨pg, 0, none⟩), .int .i64 1] W fun e w' => e = .returned (.tuple #[.string (pageB kb vb), .int .i64 0]) ∧ W = w') ∧
  (Calls Tryz.prog 28 #[.pointer (some ⟨pg, 0, none⟩), .int .i64 0] W fun e w' => e = .returned (.tuple #[.int .i64 1, .int .i64 0]) ∧ W = w')
section
variable {wn w w' : World} {T pg g cap a b c : Nat} {kb vb : ByteArray}
theorem child1_b (hk : kb.size = 1) (w : World) : Calls Tryz.prog 83 #[.agg (itemC kb vb), .string ⟨#[]⟩] w fun e w' => e = .returned (.int .i64 1) ∧ Below w.heap.size w w' := by
  show Calls Tryz.prog 83 #[.agg #[.string kb, .string vb, .int .i64 0], .string ⟨#[]⟩] w _
  have hb := Blk.new w 94 #[.string kb, .string vb, .int .i64 0]
  have c0 : (w.alloc (.cells #[.string kb, .string vb, .int .i64 0] 94)).cell? ⟨w.heap.size, 0, none⟩ = some (.string kb) := hb.cell 0
  have hc := ocompare kb ⟨#[]⟩ (w.alloc (.cells #[.string kb, .string vb, .int .i64 0] 94))
  rw [compare_pos kb hk] at hc
  have HC := Lib.hid hc
  have HB := Lib.hid (below_new w (.cells #[.string kb, .string vb, .int .i64 0] 94))
  clear hb hc hk
  go_enter Tryz.func83, Tryz.ntmps83
  go_wp2_with fail
  (with_reducible refine HC.out.mono ?_)
  rintro e w3 ⟨rfl, rfl⟩
  go_wp2_with fail
  go_ret
  exact ⟨rfl, HB.out⟩
set_option maxHeartbeats 1000000 in
theorem search_b (h : It w g kb vb) (hk : kb.size = 1) : Calls Tryz.prog 82 #[.slice (some ⟨g, 0, none⟩) 1 cap, .string ⟨#[]⟩, .func (.func 83) #[] #[]] w fun e w' => e = .returned (.tuple #[.int .i64 0, .bool false]) ∧ Below w.heap.size w w' := by
  have H := Lib.hid h
  have HC : Hid (∀ W, Calls Tryz.prog 83 #[.agg #[.string kb, .string vb, .int .i64 0], .string ⟨#[]⟩] W fun e w' => e = .returned (.int .i64 1) ∧ Below W.heap.size W w') := Lib.hid (fun W => child1_b hk W)
  clear h hk
  go_enter Tryz.func82, Tryz.ntmps82
  go_wp2_with fail
  go_loopw [9, 10] (fun i j wr => i = .int .i64 0 ∧ (j = .int .i64 1 ∨ j = .int .i64 0) ∧ Hid (Below w.heap.size w wr)) (fun _ j _ => (intOf j).toNat)
  case atStart => exact ⟨rfl, .inl rfl, Lib.hid (Below.refl _ _)⟩
  case round =>
    obtain ⟨rfl, hj, HB⟩ := hrel
    have hit := H.out.later HB.out H.out.lt
    have m0 := hit.c0
    have m1 := hit.c1
    have m2 := hit.c2
    clear hit
    rcases hj with rfl | rfl
    · go_wp2_with fail
      (with_reducible refine (HC.out _).mono ?_)
      rintro e w3 ⟨rfl, hb3⟩
      have HB3 : Hid (Below w.heap.size w w3) := Lib.hid (HB.out.trans (hb3.mono HB.out.size))
      clear hb3 m0 m1 m2
      go_wp2_with fail
      go_roundw
      case rel => exact ⟨rfl, .inr (by first | rfl | go_num), HB3⟩
      case measure => simp [intOf]
    · go_wp2_with fail
      (with_reducible refine (HC.out _).mono ?_)
      rintro e w3 ⟨rfl, hb3⟩
      have HB3 : Hid (Below w.heap.size w w3) := Lib.hid (HB.out.trans (hb3.mono HB.out.size))
      clear hb3 m0 m1 m2
      go_wp2_with fail
      go_ret2
      exact ⟨rfl, HB3.out⟩
theorem child_b (h : It w g kb vb) (hk : kb.size = 1) : Calls Tryz.prog 30 #[.agg (nodeC g cap), .string ⟨#[]⟩] w fun e w' => e = .returned (.int .i64 (-1)) ∧ Below w.heap.size w w' := by
  show Calls Tryz.prog 30 #[.agg #[.bool false, .int .i64 0, .slice (some ⟨g, 0, none⟩) 1 cap], .string ⟨#[]⟩] w _
  have hb := Blk.new w 88 #[.bool false, .int .i64 0, .slice (some ⟨g, 0, none⟩) 1 cap]
  have c2 : (w.alloc (.cells #[.bool false, .int .i64 0, .slice (some ⟨g, 0, none⟩) 1 cap] 88)).cell? ⟨w.heap.size, 2, none⟩ = some (.slice (some ⟨g, 0, none⟩) 1 cap) := hb.cell 2
  have HS := Lib.hid (search_b (cap := cap) (h.later (below_new w (.cells #[.bool false, .int .i64 0, .slice (some ⟨g, 0, none⟩) 1 cap] 88)) h.lt) hk)
  have HB := Lib.hid (below_new w (.cells #[.bool false, .int .i64 0, .slice (some ⟨g, 0, none⟩) 1 cap] 88))
  clear hb h hk
  go_enter Tryz.func30, Tryz.ntmps30
  go_wp2_with fail
  (with_reducible refine HS.out.mono ?_)
  rintro e w3 ⟨rfl, hb3⟩
  have HB3 : Hid (Below w.heap.size w w3) := Lib.hid (HB.out.trans (hb3.mono (by simp)))
  clear hb3 c2
  go_wp2_with fail
  go_ret
  exact ⟨rfl, HB3.out⟩
set_option maxHeartbeats 1000000 in
theorem node_b (F : Fz wn T pg kb vb) (hw : Below wn.heap.size wn w) (hk : kb.size = 1) (hv : vb.size = 1) : Calls Tryz.prog 29 #[.pointer (some ⟨T, 0, none⟩), .int .i64 1, .int .i64 0] w fun e w' => ∃ g cap, e = .returned (.tuple #[.agg (nodeC g cap), .int .i64 0]) ∧ (w.heap.size ≤ g ∧ It w' g kb vb) ∧ Below w.heap.size w w' := by
  have hb1 := below_new w (.cells #[.bool false, .int .i64 0, .slice none 0 0] 88)
  have hw1 : Below wn.heap.size wn (w.alloc (.cells #[.bool false, .int .i64 0, .slice none 0 0] 88)) := hw.trans (hb1.mono hw.size)
  obtain ⟨t0, _, hrd, _⟩ := F _ hw1
  have hn1 := Blk.new w 88 #[.bool false, .int .i64 0, .slice none 0 0]
  have HRD := Lib.hid hrd
  have HRE : Hid (Calls Tryz.prog 81 #[.string (pageB kb vb)] (w.alloc (.cells #[.bool false, .int .i64 0, .slice none 0 0] 88)) fun e w' => ∃ g cap, e = .returned (.tuple #[.agg #[.bool false, .int .i64 0, .slice (some ⟨g, 0, none⟩) 1 cap], .bool true]) ∧ ((w.alloc (.cells #[.bool false, .int .i64 0, .slice none 0 0] 88)).heap.size ≤ g ∧ It w' g kb vb) ∧ Below (w.alloc (.cells #[.bool false, .int .i64 0, .slice none 0 0] 88)).heap.size (w.alloc (.cells #[.bool false, .int .i64 0, .slice none 0 0] 88)) w') := Lib.hid (read_b hk hv (w.alloc (.cells #[.bool false, .int .i64 0, .slice none 0 0] 88)))
  have HN1 := Lib.hid hn1
  have HB1 := Lib.hid hb1
  clear F hw hk hv hw1 hrd hn1 hb1
  go_enter Tryz.func29, Tryz.ntmps29
  go_wp2_with fail
  (with_reducible refine HRD.out.mono ?_)
  rintro e w2 ⟨rfl, rfl⟩
  go_wp2_with fail
  (with_reducible refine HRE.out.mono ?_)
  rintro e w3 ⟨g, cap, rfl, ⟨hg, hit⟩, hb3⟩
  rw [World.size_alloc] at hg
  have hs3 : w.heap.size + 1 ≤ w3.heap.size := by have := hb3.size; rwa [World.size_alloc] at this
  have hb4 := below_new w3 (.cells #[.bool false, .int .i64 0, .slice (some ⟨g, 0, none⟩) 1 cap] 88)
  have hn2 : Blk w3 w.heap.size 88 #[.bool false, .int .i64 0, .slice none 0 0] := HN1.out.below hb3 (by simp)
  have hn4 := hn2.alloc (.cells #[.bool false, .int .i64 0, .slice (some ⟨g, 0, none⟩) 1 cap] 88)
  have hx4 := Blk.new w3 88 #[.bool false, .int .i64 0, .slice (some ⟨g, 0, none⟩) 1 cap]
  obtain ⟨W4, hW4⟩ : ∃ W4, w3.alloc (.cells #[.bool false, .int .i64 0, .slice (some ⟨g, 0, none⟩) 1 cap] 88) = W4 := ⟨_, rfl⟩
  have hit4 : It W4 g kb vb := by rw [← hW4]; exact hit.later hb4 hit.lt
  have hb5 : Below w.heap.size w W4 := by rw [← hW4]; exact (HB1.out.trans (hb3.mono (by simp))).trans (hb4.mono (by omega))
  rw [hW4] at hn4 hx4
  have a0 : W4.cell? ⟨w3.heap.size, 0, none⟩ = some (.bool false) := hx4.cell 0
  have a1 : W4.cell? ⟨w3.heap.size, 1, none⟩ = some (.int .i64 0) := hx4.cell 1
  have a2 : W4.cell? ⟨w3.heap.size, 2, none⟩ = some (.slice (some ⟨g, 0, none⟩) 1 cap) := hx4.cell 2
  have c0 : W4.cell? ⟨w.heap.size, 0, none⟩ = some (.bool false) := hn4.cell 0
  have c1 : W4.cell? ⟨w.heap.size, 1, none⟩ = some (.int .i64 0) := hn4.cell 1
  have c2 : W4.cell? ⟨w.heap.size, 2, none⟩ = some (.slice none 0 0) := hn4.cell 2
  have z0 := hn4.frozen 0
  have z1 := hn4.frozen 1
  have z2 := hn4.frozen 2
  have hk9 : Blk (((W4.setCell ⟨w.heap.size, 0, none⟩ (.bool false)).setCell ⟨w.heap.size, 1, none⟩ (.int .i64 0)).setCell ⟨w.heap.size, 2, none⟩ (.slice (some ⟨g, 0, none⟩) 1 cap)) w.heap.size 88 #[.bool false, .int .i64 0, .slice (some ⟨g, 0, none⟩) 1 cap] := (((hn4.set_ 0 _).set_ 1 _).set_ 2 _).eq_ (by simp)
  have hne : w.heap.size ≠ g := by omega
  have HIT : Hid (It (((W4.setCell ⟨w.heap.size, 0, none⟩ (.bool false)).setCell ⟨w.heap.size, 1, none⟩ (.int .i64 0)).setCell ⟨w.heap.size, 2, none⟩ (.slice (some ⟨g, 0, none⟩) 1 cap)) g kb vb) := Lib.hid ⟨cellFar hne (cellFar hne (cellFar hne hit4.c0)), cellFar hne (cellFar hne (cellFar hne hit4.c1)), cellFar hne (cellFar hne (cellFar hne hit4.c2))⟩
  have HBW : Hid (Below w.heap.size w (((W4.setCell ⟨w.heap.size, 0, none⟩ (.bool false)).setCell ⟨w.heap.size, 1, none⟩ (.int .i64 0)).setCell ⟨w.heap.size, 2, none⟩ (.slice (some ⟨g, 0, none⟩) 1 cap))) := Lib.hid (((hb5.setCell (by simp) _).setCell (by simp) _).setCell (by simp) _)
  have HK9 := Lib.hid hk9
  have HG : Hid (w.heap.size ≤ g) := Lib.hid (by omega)
  clear hg hit hb3 hs3 hb4 hn2 hn4 hx4 hit4 hb5 hne hk9 t0
  go_wp2_with fail
  (try simp only [Exit.inBlock, Exit.then])
  have hk := HK9.out
  have g0 := hk.cell 0
  have g1 := hk.cell 1
  have g2 := hk.cell 2
  refine bodyPost_ret (v := .tuple #[.agg #[.bool false, .int .i64 0, .slice (some ⟨g, 0, none⟩) 1 cap], .int .i64 0]) (by simp [results, Tryz.results29, go_sem, g0, g1, g2]) rfl ?_
  exact ⟨g, cap, rfl, ⟨HG.out, HIT.out⟩, HBW.out⟩
end
end Go.Proofs.YtoleojljpaglhaaGreat
/- Next of a tree of one item. -/
set_option maxRecDepth 20000
namespace Go.Proofs.YtoleojljpaglhaaGreat
open Go.RowKit
section
variable {wn w w' : World} {T pg g cap a b c : Nat} {kb vb k0 v0 : ByteArray} {x : Bool} {i0 : Int}
theorem blk_there {t : TypeId} {v0 v1 v2 : Value} (h : Blk w c t #[v0, v1, v2]) : w.there c 0 3 := fun j hj => by
  rw [Nat.zero_add]
  refine ⟨?_, h.frozen j⟩
  rw [h.cell j, Array.getElem?_eq_getElem (by simpa using hj)]
  rfl
theorem blk_there2 {t : TypeId} {v0 v1 v2 : Value} (h : Blk w c t #[v0, v1, v2]) : w.there c 0 (#[v0, v1, v2] : Array Value).size := blk_there h
theorem set3 {t : TypeId} {v0 v1 v2 u0 u1 u2 : Value} (h : Blk w c t #[v0, v1, v2]) : Blk (w.setCells c 0 [u0, u1, u2]) c t #[u0, u1, u2] := Blk.setCells [u0, u1, u2] 0 w [v0, v1, v2] h (by simp)
set_option maxHeartbeats 1000000 in
theorem next1_b (ha : w.cell? ⟨a, 0, none⟩ = some (.string ⟨#[]⟩)) (hb : Blk w b 4 #[.bool x]) (hc : Blk w c 94 #[.string k0, .string v0, .int .i64 i0]) (hk : kb.size = 1) (hab : a ≠ b) (hbc : b ≠ c) :
    Calls Tryz.prog 35 #[.agg (itemC kb vb), .pointer (some ⟨a, 0, none⟩), .pointer (some ⟨b, 0, none⟩), .pointer (some ⟨c, 0, none⟩)] w fun e w' => e = .returned (.bool false) ∧ Blk w' b 4 #[.bool true] ∧ Blk w' c 94 (itemC kb vb) ∧ Only [b, c] w w' := by
  show Calls Tryz.prog 35 #[.agg #[.string kb, .string vb, .int .i64 0], .pointer (some ⟨a, 0, none⟩), .pointer (some ⟨b, 0, none⟩), .pointer (some ⟨c, 0, none⟩)] w _
  have hal : a < w.heap.size := World.block_lt_of_cell? _ _ ha
  have hbl := hb.lt
  have hcl := hc.lt
  have hx := Blk.new w 94 #[.string kb, .string vb, .int .i64 0]
  have hb1 := hb.alloc (.cells #[.string kb, .string vb, .int .i64 0] 94)
  have hc1 := hc.alloc (.cells #[.string kb, .string vb, .int .i64 0] 94)
  have a1 : (w.alloc (.cells #[.string kb, .string vb, .int .i64 0] 94)).cell? ⟨a, 0, none⟩ = some (.string ⟨#[]⟩) := ((below_new w _).cell (p := ⟨a, 0, none⟩) hal).trans ha
  obtain ⟨V, hV⟩ : ∃ V, w.alloc (.cells #[.string kb, .string vb, .int .i64 0] 94) = V := ⟨_, rfl⟩
  have ho1 : Only [b, c] w V := by rw [← hV]; exact (Only.refl _ _).alloc _
  obtain ⟨n, hn⟩ : ∃ n, w.heap.size = n := ⟨_, rfl⟩
  rw [hV] at hx hb1 hc1 a1
  rw [hn] at hx hal hbl hcl
  have x0 : V.cell? ⟨n, 0, none⟩ = some (.string kb) := hx.cell 0
  have b0 : V.cell? ⟨b, 0, none⟩ = some (.bool x) := hb1.cell 0
  have bf := hb1.frozen 0
  have hx2 := hx.far (p := ⟨b, 0, none⟩) (by simp; omega) (.bool true)
  have hb2 : Blk (V.setCell ⟨b, 0, none⟩ (.bool true)) b 4 #[.bool true] := (hb1.set_ 0 _).eq_ (by simp)
  have hc2 := hc1.far (p := ⟨b, 0, none⟩) (fun e => hbc e.symm) (.bool true)
  have ho2 : Only [b, c] w (V.setCell ⟨b, 0, none⟩ (.bool true)) := ho1.setCell (.inl (by simp)) _
  obtain ⟨V2, hV2⟩ : ∃ V2, V.setCell ⟨b, 0, none⟩ (.bool true) = V2 := ⟨_, rfl⟩
  rw [hV2] at hx2 hb2 hc2 ho2
  have y0 : V2.cell? ⟨n, 0, none⟩ = some (.string kb) := hx2.cell 0
  have y1 : V2.cell? ⟨n, 1, none⟩ = some (.string vb) := hx2.cell 1
  have y2 : V2.cell? ⟨n, 2, none⟩ = some (.int .i64 0) := hx2.cell 2
  have hb3 : Blk (V2.setCells c 0 [.string kb, .string vb, .int .i64 0]) b 4 #[.bool true] := hb2.only (only_setCells (.inl (by simp)) _ _ _ (Only.refl [c] V2)) (by simpa using hbc)
  have hc3 : Blk (V2.setCells c 0 [.string kb, .string vb, .int .i64 0]) c 94 (itemC kb vb) := set3 hc2
  have ho3 : Only [b, c] w (V2.setCells c 0 [.string kb, .string vb, .int .i64 0]) := only_setCells (.inl (by simp)) _ _ _ ho2
  have z0 : (V2.setCells c 0 [.string kb, .string vb, .int .i64 0]).cell? ⟨b, 0, none⟩ = some (.bool true) := hb3.cell 0
  have hcm := ocompare kb ⟨#[]⟩ V
  rw [compare_pos kb hk] at hcm
  have HCM := Lib.hid hcm
  have HTH := Lib.hid (blk_there hc2)
  have HF : Hid (Blk (V2.setCells c 0 [.string kb, .string vb, .int .i64 0]) b 4 #[.bool true] ∧ Blk (V2.setCells c 0 [.string kb, .string vb, .int .i64 0]) c 94 (itemC kb vb) ∧ Only [b, c] w (V2.setCells c 0 [.string kb, .string vb, .int .i64 0])) := Lib.hid ⟨hb3, hc3, ho3⟩
  clear ha hb hc hk hab hbc hal hbl hcl hx hb1 hc1 ho1 hx2 hb2 hc2 ho2 hb3 hc3 ho3 hcm
  go_enter Tryz.func35, Tryz.ntmps35
  go_wp2_with fail
  (try rw [hV])
  (try rw [hn])
  (with_reducible refine HCM.out.mono ?_)
  rintro e w3 ⟨rfl, rfl⟩
  go_wp2_with (refine wpList_store_mid rfl 94 (.tmp 3) (.tmp 11) rfl c 0 _ rfl rfl HTH.out (by kernel_rfl) (item_all _ _) ?_)
  go_ret
  exact ⟨rfl, HF.out⟩
set_option maxHeartbeats 2000000 in
theorem walk_b (F : Fz wn T pg kb vb) (hw : Below wn.heap.size wn w) (hk : kb.size = 1) (hv : vb.size = 1) (ha : w.cell? ⟨a, 0, none⟩ = some (.string ⟨#[]⟩)) (hb : Blk w b 4 #[.bool x]) (hc : Blk w c 94 #[.string k0, .string v0, .int .i64 i0]) (hab : a ≠ b) (hbc : b ≠ c) :
    Calls Tryz.prog 84 #[.pointer (some ⟨T, 0, none⟩), .int .i64 1, .string ⟨#[]⟩, .int .i64 0, .nilFunc, .func (.func 35) #[] #[.pointer (some ⟨a, 0, none⟩), .pointer (some ⟨b, 0, none⟩), .pointer (some ⟨c, 0, none⟩)]] w fun e w' => e = .returned (.tuple #[.bool false, .int .i64 0]) ∧ Blk w' b 4 #[.bool true] ∧ Blk w' c 94 (itemC kb vb) ∧ Only [b, c] w w' := by
  have HN : Hid (Calls Tryz.prog 29 #[.pointer (some ⟨T, 0, none⟩), .int .i64 1, .int .i64 0] w fun e w' => ∃ g cap, e = .returned (.tuple #[.agg #[.bool false, .int .i64 0, .slice (some ⟨g, 0, none⟩) 1 cap], .int .i64 0]) ∧ (w.heap.size ≤ g ∧ It w' g kb vb) ∧ Below w.heap.size w w') := Lib.hid (node_b F hw hk hv)
  have HA := Lib.hid ha
  have HB := Lib.hid hb
  have HC := Lib.hid hc
  have HK := Lib.hid hk
  have hal : a < w.heap.size := World.block_lt_of_cell? _ _ ha
  have HAL := Lib.hid hal
  have HAB := Lib.hid hab
  have HBC := Lib.hid hbc
  have hnf : ∀ W, (binOp .neq 99 .nilFunc .nilFunc).run Tryz.prog W = .ok (.bool false) W := fun W => by kernel_rfl
  clear F hw hk hv ha hb hc hal hab hbc
  go_enter Tryz.func84, Tryz.ntmps84
  go_wp2_with fail
  (with_reducible refine HN.out.mono ?_)
  rintro e w2 ⟨g, cap, rfl, ⟨hg, hit⟩, hb2⟩
  have hb3 := below_new w2 (.cells #[.bool false, .int .i64 0, .slice (some ⟨g, 0, none⟩) 1 cap] 88)
  have hx3 := Blk.new w2 88 #[.bool false, .int .i64 0, .slice (some ⟨g, 0, none⟩) 1 cap]
  have hit3 := hit.later hb3 hit.lt
  have hbw : Below w.heap.size w (w2.alloc (.cells #[.bool false, .int .i64 0, .slice (some ⟨g, 0, none⟩) 1 cap] 88)) := hb2.trans (hb3.mono hb2.size)
  obtain ⟨W3, hW3⟩ : ∃ W3, w2.alloc (.cells #[.bool false, .int .i64 0, .slice (some ⟨g, 0, none⟩) 1 cap] 88) = W3 := ⟨_, rfl⟩
  obtain ⟨n, hn⟩ : ∃ n, w2.heap.size = n := ⟨_, rfl⟩
  rw [hW3] at hx3 hit3 hbw
  rw [hn] at hx3
  have a0 : W3.cell? ⟨n, 0, none⟩ = some (.bool false) := hx3.cell 0
  have a1 : W3.cell? ⟨n, 1, none⟩ = some (.int .i64 0) := hx3.cell 1
  have a2 : W3.cell? ⟨n, 2, none⟩ = some (.slice (some ⟨g, 0, none⟩) 1 cap) := hx3.cell 2
  have HCH : Hid (Calls Tryz.prog 30 #[.agg #[.bool false, .int .i64 0, .slice (some ⟨g, 0, none⟩) 1 cap], .string ⟨#[]⟩] W3 _) := Lib.hid (child_b (cap := cap) hit3 HK.out)
  have HIT := Lib.hid hit3
  have HBW := Lib.hid hbw
  have HX := Lib.hid hx3
  clear hg hit hb2 hb3 hx3 hit3 hbw
  go_wp2_with fail
  (try rw [hW3])
  (try rw [hn])
  (with_reducible refine HCH.out.mono ?_)
  rintro e w4 ⟨rfl, hb4⟩
  have hit4 := HIT.out.later hb4 HIT.out.lt
  have hx4 := HX.out.below hb4 HX.out.lt
  have d0 : w4.cell? ⟨n, 0, none⟩ = some (.bool false) := hx4.cell 0
  have d2 : w4.cell? ⟨n, 2, none⟩ = some (.slice (some ⟨g, 0, none⟩) 1 cap) := hx4.cell 2
  have hbw4 : Below w.heap.size w w4 := HBW.out.trans (hb4.mono HBW.out.size)
  have HIT4 := Lib.hid hit4
  have HB4 := Lib.hid hbw4
  clear hb4 hit4 hx4 hbw4 a0 a1 a2 hW3 hn
  go_wp2_with fail
  go_loopw [63] (fun i wr => i = .int .i64 0 ∧ wr = w4) (fun _ _ => 0)
  case atStart => exact ⟨rfl, by first | rfl | trivial⟩
  case round =>
    obtain ⟨rfl, hwr⟩ := hrel
    (try subst hwr)
    have m0 := HIT4.out.c0
    have m1 := HIT4.out.c1
    have m2 := HIT4.out.c2
    have hb5 := below_new wr (.cells #[.string kb, .string vb, .int .i64 0] 94)
    have hbw5 : Below w.heap.size w (wr.alloc (.cells #[.string kb, .string vb, .int .i64 0] 94)) := HB4.out.trans (hb5.mono HB4.out.size)
    have hx5 := Blk.new wr 94 #[.string kb, .string vb, .int .i64 0]
    obtain ⟨W5, hW5⟩ : ∃ W5, wr.alloc (.cells #[.string kb, .string vb, .int .i64 0] 94) = W5 := ⟨_, rfl⟩
    obtain ⟨n5, hn5⟩ : ∃ n5, wr.heap.size = n5 := ⟨_, rfl⟩
    rw [hW5] at hbw5 hx5
    rw [hn5] at hx5
    have r0 : W5.cell? ⟨n5, 0, none⟩ = some (.string kb) := hx5.cell 0
    have r1 : W5.cell? ⟨n5, 1, none⟩ = some (.string vb) := hx5.cell 1
    have r2 : W5.cell? ⟨n5, 2, none⟩ = some (.int .i64 0) := hx5.cell 2
    have HNX : Hid (Calls Tryz.prog 35 #[.agg #[.string kb, .string vb, .int .i64 0], .pointer (some ⟨a, 0, none⟩), .pointer (some ⟨b, 0, none⟩), .pointer (some ⟨c, 0, none⟩)] W5 _) := Lib.hid (next1_b (vb := vb) ((hbw5.cell (p := ⟨a, 0, none⟩) HAL.out).trans HA.out) (HB.out.below hbw5 HB.out.lt) (HC.out.below hbw5 HC.out.lt) HK.out HAB.out HBC.out)
    have HO5 : Hid (Only [b, c] w W5) := Lib.hid ((Only.refl _ _).below hbw5)
    clear hb5 hbw5 hx5
    subst hW5 hn5
    go_wp2_with fail
    (with_reducible refine HNX.out.mono ?_)
    rintro e w6 ⟨rfl, k1, k2, k3⟩
    have HF : Hid (Blk w6 b 4 #[.bool true] ∧ Blk w6 c 94 (itemC kb vb) ∧ Only [b, c] w w6) := Lib.hid ⟨k1, k2, HO5.out.trans k3 (fun q hq => .inl hq)⟩
    clear k1 k2 k3 m0 m1 m2 r0 r1 r2 d0 d2
    go_wp2_with fail
    go_ret2
    exact ⟨rfl, HF.out⟩
set_option maxHeartbeats 1000000 in
theorem all_b (F : Fz wn T pg kb vb) (hw : Below wn.heap.size wn w) (hk : kb.size = 1) (hv : vb.size = 1) (ha : w.cell? ⟨a, 0, none⟩ = some (.string ⟨#[]⟩)) (hb : Blk w b 4 #[.bool x]) (hc : Blk w c 94 #[.string k0, .string v0, .int .i64 i0]) (hab : a ≠ b) (hbc : b ≠ c) :
    Calls Tryz.prog 32 #[.pointer (some ⟨T, 0, none⟩), .string ⟨#[]⟩, .nilFunc, .func (.func 35) #[] #[.pointer (some ⟨a, 0, none⟩), .pointer (some ⟨b, 0, none⟩), .pointer (some ⟨c, 0, none⟩)]] w fun e w' => e = .returned (.int .i64 0) ∧ Blk w' b 4 #[.bool true] ∧ Blk w' c 94 (itemC kb vb) ∧ Only [b, c] w w' := by
  obtain ⟨t0, t1, _, _⟩ := F w hw
  obtain ⟨_, _, _, hrt⟩ := F w.drew hw.drew
  have HNO := Lib.hid (tnone_yes t0)
  have HRT := Lib.hid hrt
  have HWK : Hid (∀ W, (W = w ∨ W = w.drew) → Calls Tryz.prog 84 #[.pointer (some ⟨T, 0, none⟩), .int .i64 1, .string ⟨#[]⟩, .int .i64 0, .nilFunc, .func (.func 35) #[] #[.pointer (some ⟨a, 0, none⟩), .pointer (some ⟨b, 0, none⟩), .pointer (some ⟨c, 0, none⟩)]] W fun e w' => e = .returned (.tuple #[.bool false, .int .i64 0]) ∧ Blk w' b 4 #[.bool true] ∧ Blk w' c 94 (itemC kb vb) ∧ Only [b, c] w w') := Lib.hid (fun W hW => by
    rcases hW with rfl | rfl
    · exact walk_b F hw hk hv ha hb hc hab hbc
    · refine (walk_b F hw.drew hk hv ha hb.drew hc.drew hab hbc).mono ?_
      rintro e w' ⟨h1, h2, h3, h4⟩
      exact ⟨h1, h2, h3, (Only.refl _ _).drew.trans h4 (fun q hq => .inl hq)⟩)
  clear F hw hk hv ha hb hc hab hbc hrt
  go_enter Tryz.func32, Tryz.ntmps32
  go_wp2_with fail
  (with_reducible refine HNO.out.mono ?_)
  rintro e w3 ⟨rfl, rfl⟩
  go_wp2_with fail
  go_region_held3 (fun W => W.cell? ⟨T, 0, none⟩ = some (.pointer (some ⟨pg, 0, none⟩)) ∧ W.cell? ⟨T, 1, none⟩ = some (.int .i64 0)) (first | exact ⟨t0, t1⟩ | go_keep)
    (((with_reducible refine HRT.out.mono ?_); rintro e w4 ⟨rfl, rfl⟩))
  all_goals
    go_wp2_with fail
    (with_reducible refine (HWK.out _ (by first | exact .inl rfl | exact .inr rfl)).mono ?_)
    rintro e w5 ⟨rfl, k⟩
    have HF := Lib.hid k
    clear k
    go_wp2_with fail
    go_ret
    exact ⟨rfl, HF.out⟩
set_option maxHeartbeats 2000000 in
theorem next_b (F : Fz w T pg kb vb) (hk : kb.size = 1) (hv : vb.size = 1) : Calls Tryz.prog 12 #[.pointer (some ⟨T, 0, none⟩), .string ⟨#[]⟩] w fun e w' => e = .returned (.tuple #[.string kb, .string vb, .bool true, .int .i64 0]) ∧ Below w.heap.size w w' := by
  obtain ⟨V, hV⟩ : ∃ V, ((w.alloc (.cells #[.string ⟨#[]⟩] 9)).alloc (.cells #[.string ⟨#[]⟩, .string ⟨#[]⟩, .int .i64 0] 94)).alloc (.cells #[.bool false] 4) = V := ⟨_, rfl⟩
  have h1 : Blk V w.heap.size 9 #[.string ⟨#[]⟩] := by rw [← hV]; exact ((Blk.new w _ _).alloc _).alloc _
  have h2 : Blk V (w.heap.size + 1) 94 #[.string ⟨#[]⟩, .string ⟨#[]⟩, .int .i64 0] := by
    have := Blk.new (w.alloc (.cells #[.string ⟨#[]⟩] 9)) 94 #[.string ⟨#[]⟩, .string ⟨#[]⟩, .int .i64 0]
    rw [World.size_alloc] at this
    rw [← hV]; exact this.alloc _
  have h3 : Blk V (w.heap.size + 2) 4 #[.bool false] := by
    have := Blk.new ((w.alloc (.cells #[.string ⟨#[]⟩] 9)).alloc (.cells #[.string ⟨#[]⟩, .string ⟨#[]⟩, .int .i64 0] 94)) 4 #[.bool false]
    rw [World.size_alloc, World.size_alloc] at this
    rw [← hV]; exact this
  have hbV : Below w.heap.size w V := by rw [← hV]; exact ((below_new w _).alloc (by simp) _).alloc (by simp; omega) _
  have HAL : Hid (Calls Tryz.prog 32 #[.pointer (some ⟨T, 0, none⟩), .string ⟨#[]⟩, .nilFunc, .func (.func 35) #[] #[.pointer (some ⟨w.heap.size, 0, none⟩), .pointer (some ⟨w.heap.size + 2, 0, none⟩), .pointer (some ⟨w.heap.size + 1, 0, none⟩)]] V fun e w' => e = .returned (.int .i64 0) ∧ Blk w' (w.heap.size + 2) 4 #[.bool true] ∧ Blk w' (w.heap.size + 1) 94 (itemC kb vb) ∧ Only [w.heap.size + 2, w.heap.size + 1] V w') := Lib.hid (all_b F hbV hk hv (h1.cell 0) h3 h2 (by omega) (by omega))
  have c0 : (w.alloc (.cells #[.string ⟨#[]⟩] 9)).cell? ⟨w.heap.size, 0, none⟩ = some (.string ⟨#[]⟩) := (Blk.new w _ #[.string ⟨#[]⟩]).cell 0
  have v0 : V.cell? ⟨w.heap.size, 0, none⟩ = some (.string ⟨#[]⟩) := h1.cell 0
  have HBV := Lib.hid hbV
  clear F hk hv h1 h2 h3 hbV
  subst hV
  go_enter Tryz.func12, Tryz.ntmps12
  go_wp2_with fail
  (with_reducible refine HAL.out.mono ?_)
  rintro e w3 ⟨rfl, k1, k2, k3⟩
  have d0 : w3.cell? ⟨w.heap.size + 2, 0, none⟩ = some (.bool true) := k1.cell 0
  have e0 : w3.cell? ⟨w.heap.size + 1, 0, none⟩ = some (.string kb) := k2.cell 0
  have e1 : w3.cell? ⟨w.heap.size + 1, 1, none⟩ = some (.string vb) := k2.cell 1
  have HB3 : Hid (Below w.heap.size w w3) := Lib.hid (HBV.out.trans (k3.to_below HBV.out.size (by simp)))
  clear k1 k2 k3 c0 v0
  go_wp2_with fail
  go_quiet (fail)
  all_goals
    go_wp2_with fail
    refine bodyPost_ret (v := .tuple #[.string kb, .string vb, .bool true, .int .i64 0]) (by simp [results, Tryz.results12, go_sem]) rfl ?_
    exact ⟨rfl, by first | exact HB3.out.drew | exact below_drewN HB3.out _⟩
end
end Go.Proofs.YtoleojljpaglhaaGreat
