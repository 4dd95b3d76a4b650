/- The shelf's contract of strings.Compare at this program: the table of numbers, and one application (printed by the kit's lay-shelf and lay-plain for another seat, turned). No conditions. -/
import Derived.Shelf.Small.Strs
import Derived.Ground.Names2Prog
import Derived.Test.YtoleojljpaglhaaGreatProg
import Derived.Test.YtoleojljpaglhaaGreatWords
import Derived.Test.YtoleojljpaglhaaGreatPaW
namespace Go.Proofs.YtoleojljpaglhaaGreat
open Go.Shelf Go.Proofs Go.RowKit
def lays106_ren : Go.Shelf.Ren := ⟨fun | 106 => 85 | 213 => 109 | 265 => 126 | n => n, fun | 9 => 9 | 3 => 3 | n => n, fun | n => n⟩
theorem lays106 : Go.Proofs.Lays.n106 Tryz.prog lays106_ren := {
  mixed := by kernel_rfl
  f106 := Tryz.func85.trans (congrArg some (by kernel_rfl))
  f213 := Tryz.func109.trans (congrArg some (by kernel_rfl))
  f265 := Tryz.func126.trans (congrArg some (by kernel_rfl))
  t3 := Tryz.underlying3
  a3 := Tryz.isAgg3
  z3 := Tryz.sizeOf3
  v3 := Tryz.zeroValue3
  t9 := Tryz.underlying9
  a9 := Tryz.isAgg9
  z9 := Tryz.sizeOf9
  v9 := Tryz.zeroValue9 }
theorem strings_Compare (a b : ByteArray) (w : World) :
    Calls Tryz.prog 85 #[.string a, .string b] w fun e w' => e = .returned (.int .i64 (Lib.compareBytes a.data.toList b.data.toList)) ∧ w' = w := Any.strings_Compare lays106 a b w
theorem ocompare (a b : ByteArray) (w : World) :
    Calls Tryz.prog 36 #[.string a, .string b] w fun e w' => e = .returned (.int .i64 (Lib.compareBytes a.data.toList b.data.toList)) ∧ w = w' := by
  go_enter Tryz.func36, Tryz.ntmps36
  go_wp2_with fail
  (with_reducible refine (strings_Compare _ _ _).mono ?_)
  rintro e w' ⟨rfl, rfl⟩
  go_wp2_with fail
  go_ret
  exact ⟨rfl, rfl⟩
theorem compare_pos (kb : ByteArray) (h : kb.size = 1) : Lib.compareBytes kb.data.toList (⟨#[]⟩ : ByteArray).data.toList = 1 := by
  obtain ⟨l⟩ := kb
  match l, h with
  | ⟨[c]⟩, _ => rfl
end Go.Proofs.YtoleojljpaglhaaGreat
/- A node of one item: its size, its parts, its page. -/
set_option maxRecDepth 20000
namespace Go.Proofs.YtoleojljpaglhaaGreat
open Go.RowKit
set_option maxRecDepth 20000
/-- an item lies at block g -/
structure It (w : World) (g : Nat) (kb vb : ByteArray) : Prop where
  c0 : w.cell? ⟨g, 0, none⟩ = some (.string kb)
  c1 : w.cell? ⟨g, 1, none⟩ = some (.string vb)
  c2 : w.cell? ⟨g, 2, none⟩ = some (.int .i64 0)
/-- a leaf of that item -/
def nodeC (g cap : Nat) : Array Value := #[.bool false, .int .i64 0, .slice (some ⟨g, 0, none⟩) 1 cap]
def itemC (kb vb : ByteArray) : Array Value := #[.string kb, .string vb, .int .i64 0]
section
variable {w w' : World} {g cap : Nat} {kb vb : ByteArray}
theorem It.lt (h : It w g kb vb) : g < w.heap.size := World.block_lt_of_cell? _ _ h.c0
theorem It.later (h : It w g kb vb) {B : Nat} (hb : Below B w w') (hB : g < B) : It w' g kb vb :=
  ⟨(hb.cell (p := ⟨g, 0, none⟩) hB).trans h.c0, (hb.cell (p := ⟨g, 1, none⟩) hB).trans h.c1, (hb.cell (p := ⟨g, 2, none⟩) hB).trans h.c2⟩
theorem It.new (w : World) (kb vb : ByteArray) (t : TypeId) : It (w.alloc (.cells (itemC kb vb) t)) w.heap.size kb vb := by
  have hb := Blk.new w t (itemC kb vb)
  exact ⟨hb.cell 0, hb.cell 1, hb.cell 2⟩
theorem below_new (w : World) (o : Obj) : Below w.heap.size w (w.alloc o) := (Below.refl _ w).alloc (Nat.le_refl _) o
theorem isize_b (hk : kb.size = 1) (hv : vb.size = 1) (w : World) : Calls Tryz.prog 130 #[.agg (nodeC g cap), .agg (itemC kb vb)] w fun e w' => e = .returned (.int .i64 4) ∧ Below w.heap.size w w' := by
  have hb2 : Below w.heap.size w ((w.alloc (.cells #[.bool false, .int .i64 0, .slice (some ⟨g, 0, none⟩) 1 cap] 88)).alloc (.cells #[.string kb, .string vb, .int .i64 0] 94)) := (below_new w _).alloc (by simp) _
  have hn := (Blk.new w 88 (nodeC g cap)).alloc (.cells #[.string kb, .string vb, .int .i64 0] 94)
  have hi := Blk.new (w.alloc (.cells (nodeC g cap) 88)) 94 (itemC kb vb)
  rw [World.size_alloc] at hi
  have n0 : ((w.alloc (.cells #[.bool false, .int .i64 0, .slice (some ⟨g, 0, none⟩) 1 cap] 88)).alloc (.cells #[.string kb, .string vb, .int .i64 0] 94)).cell? ⟨w.heap.size, 0, none⟩ = some (.bool false) := hn.cell 0
  have i0 : ((w.alloc (.cells #[.bool false, .int .i64 0, .slice (some ⟨g, 0, none⟩) 1 cap] 88)).alloc (.cells #[.string kb, .string vb, .int .i64 0] 94)).cell? ⟨w.heap.size + 1, 0, none⟩ = some (.string kb) := hi.cell 0
  have i1 : ((w.alloc (.cells #[.bool false, .int .i64 0, .slice (some ⟨g, 0, none⟩) 1 cap] 88)).alloc (.cells #[.string kb, .string vb, .int .i64 0] 94)).cell? ⟨w.heap.size + 1, 1, none⟩ = some (.string vb) := hi.cell 1
  have HB := Lib.hid hb2
  clear hn hi hb2
  show Calls Tryz.prog 130 #[.agg #[.bool false, .int .i64 0, .slice (some ⟨g, 0, none⟩) 1 cap], .agg #[.string kb, .string vb, .int .i64 0]] w _
  go_enter Tryz.func130, Tryz.ntmps130
  go_wp2_with fail
  go_ret
  exact ⟨by first | rfl | (simp [hk, hv]), HB.out⟩
theorem size_b (h : It w g kb vb) (hk : kb.size = 1) (hv : vb.size = 1) : Calls Tryz.prog 128 #[.agg (nodeC g cap)] w fun e w' => e = .returned (.int .i64 6) ∧ Below w.heap.size w w' := by
  show Calls Tryz.prog 128 #[.agg #[.bool false, .int .i64 0, .slice (some ⟨g, 0, none⟩) 1 cap]] w _
  have hn := Blk.new w 88 (nodeC g cap)
  have n0 : (w.alloc (.cells #[.bool false, .int .i64 0, .slice (some ⟨g, 0, none⟩) 1 cap] 88)).cell? ⟨w.heap.size, 0, none⟩ = some (.bool false) := hn.cell 0
  have n2 : (w.alloc (.cells #[.bool false, .int .i64 0, .slice (some ⟨g, 0, none⟩) 1 cap] 88)).cell? ⟨w.heap.size, 2, none⟩ = some (.slice (some ⟨g, 0, none⟩) 1 cap) := hn.cell 2
  have H := Lib.hid h
  have HN := Lib.hid hn
  have HIS : Hid (∀ W, Calls Tryz.prog 130 #[.agg #[.bool false, .int .i64 0, .slice (some ⟨g, 0, none⟩) 1 cap], .agg #[.string kb, .string vb, .int .i64 0]] W fun e w' => e = .returned (.int .i64 4) ∧ Below W.heap.size W w') := Lib.hid (fun W => isize_b (g := g) (cap := cap) hk hv W)
  clear h hn hk hv
  go_enter Tryz.func128, Tryz.ntmps128
  go_wp2_with fail
  go_loopw [3, 13] (fun s i wr => ((i = .int .i64 0 ∧ s = .int .i64 2) ∨ (i = .int .i64 1 ∧ s = .int .i64 6)) ∧ Hid (Below (w.heap.size + 1) (w.alloc (.cells (nodeC g cap) 88)) wr)) (fun _ i _ => 1 - (intOf i).toNat)
  case atStart => exact ⟨.inl ⟨rfl, rfl⟩, Lib.hid (Below.refl _ _)⟩
  case round =>
    obtain ⟨hst, HB⟩ := hrel
    have hsz := HB.out.size
    rw [World.size_alloc] at hsz
    have hit := (H.out.later (below_new w (.cells (nodeC g cap) 88)) H.out.lt).later HB.out (by have := H.out.lt; omega)
    have hnb : Blk wr w.heap.size 88 (nodeC g cap) := (HB.out.block w.heap.size (by omega)).trans HN.out
    rcases hst with ⟨rfl, rfl⟩ | ⟨rfl, rfl⟩
    · have m0 := hit.c0
      have m1 := hit.c1
      have m2 := hit.c2
      have hx : Below wr.heap.size wr (wr.alloc (.cells #[.string kb, .string vb, .int .i64 0] 94)) := below_new wr _
      have hnx := hnb.alloc (.cells #[.string kb, .string vb, .int .i64 0] 94)
      have q0 : (wr.alloc (.cells #[.string kb, .string vb, .int .i64 0] 94)).cell? ⟨w.heap.size, 0, none⟩ = some (.bool false) := hnx.cell 0
      have q1 : (wr.alloc (.cells #[.string kb, .string vb, .int .i64 0] 94)).cell? ⟨w.heap.size, 1, none⟩ = some (.int .i64 0) := hnx.cell 1
      have q2 : (wr.alloc (.cells #[.string kb, .string vb, .int .i64 0] 94)).cell? ⟨w.heap.size, 2, none⟩ = some (.slice (some ⟨g, 0, none⟩) 1 cap) := hnx.cell 2
      have hxb := Blk.new wr 94 #[.string kb, .string vb, .int .i64 0]
      have r0 : (wr.alloc (.cells #[.string kb, .string vb, .int .i64 0] 94)).cell? ⟨wr.heap.size, 0, none⟩ = some (.string kb) := hxb.cell 0
      have r1 : (wr.alloc (.cells #[.string kb, .string vb, .int .i64 0] 94)).cell? ⟨wr.heap.size, 1, none⟩ = some (.string vb) := hxb.cell 1
      have r2 : (wr.alloc (.cells #[.string kb, .string vb, .int .i64 0] 94)).cell? ⟨wr.heap.size, 2, none⟩ = some (.int .i64 0) := hxb.cell 2
      have HX := Lib.hid hx
      have HSZ := Lib.hid hsz
      clear hx hnx hxb hnb hit hsz
      go_wp2_with fail
      (with_reducible refine (HIS.out _).mono ?_)
      rintro e w5 ⟨rfl, hb5⟩
      have HB5 : Hid (Below (w.heap.size + 1) (w.alloc (.cells (nodeC g cap) 88)) w5) := Lib.hid ((HB.out.trans (HX.out.mono HSZ.out)).trans (hb5.mono (by have := HSZ.out; simp; omega)))
      clear hb5 m0 m1 m2 q0 q1 q2 r0 r1 r2
      go_wp2_with fail
      go_roundw
      case rel => exact ⟨.inr ⟨by first | rfl | go_num, by first | rfl | go_num⟩, HB5⟩
      case measure => simp [intOf]
    · clear hit hnb hsz
      have HE : Hid (Below w.heap.size w wr) := Lib.hid ((below_new w _).trans (HB.out.mono (by omega)))
      go_wp2_with fail
      go_ret
      exact ⟨rfl, HE.out⟩
theorem parts_b (h : It w g kb vb) (hk : kb.size = 1) (hv : vb.size = 1) : Calls Tryz.prog 111 #[.agg (nodeC g cap)] w fun e w' => ∃ q, e = .returned (.tuple #[.slice (some ⟨q, 0, none⟩) 1 1, .slice none 0 0]) ∧ (w.heap.size ≤ q ∧ Blk w' q 88 (nodeC g cap)) ∧ Below w.heap.size w w' := by
  show Calls Tryz.prog 111 #[.agg #[.bool false, .int .i64 0, .slice (some ⟨g, 0, none⟩) 1 cap]] w _
  have hn := Blk.new w 88 (nodeC g cap)
  have n0 : (w.alloc (.cells #[.bool false, .int .i64 0, .slice (some ⟨g, 0, none⟩) 1 cap] 88)).cell? ⟨w.heap.size, 0, none⟩ = some (.bool false) := hn.cell 0
  have n1 : (w.alloc (.cells #[.bool false, .int .i64 0, .slice (some ⟨g, 0, none⟩) 1 cap] 88)).cell? ⟨w.heap.size, 1, none⟩ = some (.int .i64 0) := hn.cell 1
  have n2 : (w.alloc (.cells #[.bool false, .int .i64 0, .slice (some ⟨g, 0, none⟩) 1 cap] 88)).cell? ⟨w.heap.size, 2, none⟩ = some (.slice (some ⟨g, 0, none⟩) 1 cap) := hn.cell 2
  have hs := size_b (cap := cap) (h.later (below_new w (.cells #[.bool false, .int .i64 0, .slice (some ⟨g, 0, none⟩) 1 cap] 88)) h.lt) hk hv
  have HS : Hid (Calls Tryz.prog 128 #[.agg #[.bool false, .int .i64 0, .slice (some ⟨g, 0, none⟩) 1 cap]] (w.alloc (.cells #[.bool false, .int .i64 0, .slice (some ⟨g, 0, none⟩) 1 cap] 88)) _) := Lib.hid hs
  have HN := Lib.hid hn
  clear h hn hk hv hs
  go_enter Tryz.func111, Tryz.ntmps111
  go_wp2_with fail
  (with_reducible refine HS.out.mono ?_)
  rintro e w5 ⟨rfl, hb5⟩
  have hnb : Blk w5 w.heap.size 88 (nodeC g cap) := HN.out.below hb5 (by simp)
  have m0 : w5.cell? ⟨w.heap.size, 0, none⟩ = some (.bool false) := hnb.cell 0
  have m1 : w5.cell? ⟨w.heap.size, 1, none⟩ = some (.int .i64 0) := hnb.cell 1
  have m2 : w5.cell? ⟨w.heap.size, 2, none⟩ = some (.slice (some ⟨g, 0, none⟩) 1 cap) := hnb.cell 2
  have hbw : Below w.heap.size w w5 := (below_new w _).trans (hb5.mono (by simp))
  have HBW : Hid (Below w.heap.size w (w5.alloc (.cells #[.bool false, .int .i64 0, .slice (some ⟨g, 0, none⟩) 1 cap] 88))) := Lib.hid (hbw.alloc hbw.size _)
  have HQ : Hid (w.heap.size ≤ w5.heap.size ∧ Blk (w5.alloc (.cells #[.bool false, .int .i64 0, .slice (some ⟨g, 0, none⟩) 1 cap] 88)) w5.heap.size 88 (nodeC g cap)) := Lib.hid ⟨hbw.size, Blk.new w5 _ _⟩
  clear hnb hb5 hbw
  go_wp2_with fail
  go_ret2
  exact ⟨_, rfl, HQ.out, HBW.out⟩
end
end Go.Proofs.YtoleojljpaglhaaGreat
/- A node of one item: its page's bytes. -/
set_option maxRecDepth 20000
namespace Go.Proofs.YtoleojljpaglhaaGreat
open Go.RowKit
/-- the head of such a page -/
def headB (kb vb : ByteArray) : List UInt8 := [1, 1, 1, 1] ++ kb.data.toList ++ vb.data.toList
def pageB (kb vb : ByteArray) : ByteArray := ⟨(headB kb vb ++ List.replicate 250 0).toArray⟩
theorem headB_len {kb vb : ByteArray} (hk : kb.size = 1) (hv : vb.size = 1) : (headB kb vb).length = 6 := by
  have h1 : kb.data.toList.length = 1 := by rw [Array.length_toList]; exact hk
  have h2 : vb.data.toList.length = 1 := by rw [Array.length_toList]; exact hv
  unfold headB
  rw [List.length_append, List.length_append, h1, h2]
  rfl
/-- a builder at work, behind the world w1 -/
structure BS (w1 : World) (b : Nat) (l : List UInt8) (W : World) : Prop where
  bu : Bu b b (Lib.byteCells l) W
  bel : Below b w1 W
section
variable {w w1 w' W : World} {b g cap : Nat} {kb vb : ByteArray} {l : List UInt8}
theorem BS.le (h : BS w1 b l W) : b ≤ W.heap.size := Nat.le_of_lt h.bu.lt
theorem BS.later (h : BS w1 b l W) (hb : Below W.heap.size W w') : BS w1 b l w' := ⟨h.bu.below hb, h.bel.trans (hb.mono h.le)⟩
theorem bs_byte (h : BS w1 b l W) (x : Int) (c : UInt8) (hx : x = (c.toNat : Int)) (hl : l.length ≤ 1000) : Calls Tryz.prog 131 #[.pointer (some ⟨b, 0, none⟩), .int .u8 x] W fun e w' => e = .returned .nilIface ∧ BS w1 b (l ++ [c]) w' ∧ Oth b W w' := by
  subst hx
  refine (writeByte_any b b (Lib.byteCells l) _ W h.bu (by rw [Lib.byteCells_length]; omega) h.le).mono ?_
  rintro e w' ⟨he, hu, hb, ho⟩
  exact ⟨he, ⟨hu.eq_ (by simp [Lib.byteCells]), h.bel.trans hb⟩, ho⟩
theorem bs_str (h : BS w1 b l W) (s : ByteArray) (hl : l.length + s.size ≤ 1000) : Calls Tryz.prog 77 #[.pointer (some ⟨b, 0, none⟩), .string s] W fun e w' => e = .returned (.tuple #[.int .i64 s.size, .nilIface]) ∧ BS w1 b (l ++ s.data.toList) w' ∧ Oth b W w' := by
  refine (writeString_any b b (Lib.byteCells l) s W h.bu (by rw [Lib.byteCells_length]; omega) h.le).mono ?_
  rintro e w' ⟨he, hu, hb, ho⟩
  exact ⟨he, ⟨hu.eq_ (by simp [Lib.byteCells, Lib.strCells]), h.bel.trans hb⟩, ho⟩
theorem Blk.othI {b g : Nat} {w w' : World} {cs : Array Value} (h : Blk w g 94 cs) (k : Oth b w w') (hne : g ≠ b) : Blk w' g 94 cs :=
  k g _ h (fun e => hne (Option.some.inj e)) (fun c fz e => by injection e with _ e2 _; exact absurd e2 (by decide))
def z250 : ByteArray := ⟨(List.replicate 250 0).toArray⟩
theorem rep250 (W : World) : Calls Tryz.prog 93 #[.string ⟨#[0]⟩, .int .i64 250] W fun e w' => e = .returned (.string z250) ∧ Below W.heap.size W w' := by
  have h := strings_Repeat ⟨#[0]⟩ 250 W (by omega) (by show 1 * 250 ≤ _; omega)
  refine h.mono ?_
  rintro e w' ⟨he, hb⟩
  refine ⟨by rw [he]; congr 1, hb⟩
set_option maxHeartbeats 2000000 in
theorem bytes_b (h : It w g kb vb) (hk : kb.size = 1) (hv : vb.size = 1) : Calls Tryz.prog 112 #[.agg (nodeC g cap)] w fun e w' => e = .returned (.string (pageB kb vb)) ∧ Below w.heap.size w w' := by
  show Calls Tryz.prog 112 #[.agg #[.bool false, .int .i64 0, .slice (some ⟨g, 0, none⟩) 1 cap]] w _
  obtain ⟨V, hV⟩ : ∃ V, (w.alloc (.cells #[.bool false, .int .i64 0, .slice (some ⟨g, 0, none⟩) 1 cap] 88)).alloc (.cells #[.pointer none, .slice none 0 0] 123) = V := ⟨_, rfl⟩
  have hs : BS (w.alloc (.cells #[.bool false, .int .i64 0, .slice (some ⟨g, 0, none⟩) 1 cap] 88)) (w.heap.size + 1) [] V := by
    have hu := bu_fresh (w.alloc (.cells #[.bool false, .int .i64 0, .slice (some ⟨g, 0, none⟩) 1 cap] 88))
    rw [World.size_alloc, hV] at hu
    exact ⟨hu, by rw [← hV]; exact (Below.refl _ _).alloc (by simp) _⟩
  have hnode : ∀ l W, BS (w.alloc (.cells #[.bool false, .int .i64 0, .slice (some ⟨g, 0, none⟩) 1 cap] 88)) (w.heap.size + 1) l W → Blk W w.heap.size 88 #[.bool false, .int .i64 0, .slice (some ⟨g, 0, none⟩) 1 cap] ∧ It W g kb vb ∧ Below w.heap.size w W := fun l W hW =>
    ⟨(hW.bel.block w.heap.size (by omega)).trans (Blk.new w _ _), (h.later (below_new w _) h.lt).later hW.bel (by have := h.lt; omega), (below_new w _).trans (hW.bel.mono (by omega))⟩
  obtain ⟨w1, hw1⟩ : ∃ w1, w.alloc (.cells #[.bool false, .int .i64 0, .slice (some ⟨g, 0, none⟩) 1 cap] 88) = w1 := ⟨_, rfl⟩
  simp only [hw1] at hs hnode
  have hs1 : w1.heap.size = w.heap.size + 1 := by rw [← hw1, World.size_alloc]
  rw [hw1] at hV
  obtain ⟨n0, n1⟩ : V.cell? ⟨w.heap.size, 0, none⟩ = some (.bool false) ∧ V.cell? ⟨w.heap.size, 2, none⟩ = some (.slice (some ⟨g, 0, none⟩) 1 cap) := ⟨(hnode _ _ hs).1.cell 0, (hnode _ _ hs).1.cell 2⟩
  have HN := Lib.hid hnode
  have HS := Lib.hid (bs_byte hs 1 1 rfl (by simp))
  have hki : (kb.size : Int) = 1 := by omega
  have hvi : (vb.size : Int) = 1 := by omega
  have HK := Lib.hid hk
  have HV := Lib.hid hv
  clear h hs hnode hk hv
  go_enter Tryz.func112, Tryz.ntmps112
  go_wp2_with fail
  (try rw [hw1, hV])
  (with_reducible refine HS.out.mono ?_)
  rintro e w3 ⟨rfl, hs3, _⟩
  have m2 : w3.cell? ⟨w.heap.size, 2, none⟩ = some (.slice (some ⟨g, 0, none⟩) 1 cap) := (HN.out _ _ hs3).1.cell 2
  have HS3 := Lib.hid (bs_byte hs3 1 1 rfl (by simp))
  clear hs3 n0 n1 hw1 hV hs1
  go_wp2_with fail
  (with_reducible refine HS3.out.mono ?_)
  rintro e w4 ⟨rfl, hs4, _⟩
  have k0 : w4.cell? ⟨w.heap.size, 0, none⟩ = some (.bool false) := (HN.out _ _ hs4).1.cell 0
  have k2 : w4.cell? ⟨w.heap.size, 2, none⟩ = some (.slice (some ⟨g, 0, none⟩) 1 cap) := (HN.out _ _ hs4).1.cell 2
  have HS4 := Lib.hid hs4
  clear hs4 m2
  go_wp2_with fail
  go_loopw [27] (fun i wr => ((i = .int .i64 0 ∧ Hid (BS w1 (w.heap.size + 1) [1, 1] wr)) ∨ (i = .int .i64 1 ∧ Hid (BS w1 (w.heap.size + 1) (headB kb vb) wr)))) (fun i _ => 1 - (intOf i).toNat)
  case atStart => exact .inl ⟨rfl, HS4⟩
  case round =>
    rcases hrel with ⟨rfl, HB⟩ | ⟨rfl, HB⟩
    · obtain ⟨hnb, hit, _⟩ := HN.out _ _ HB.out
      have m0 := hit.c0
      have m1 := hit.c1
      have m2 := hit.c2
      have hbx := HB.out.later (below_new wr (.cells #[.string kb, .string vb, .int .i64 0] 94))
      have hxb := Blk.new wr 94 #[.string kb, .string vb, .int .i64 0]
      have r0 : (wr.alloc (.cells #[.string kb, .string vb, .int .i64 0] 94)).cell? ⟨wr.heap.size, 0, none⟩ = some (.string kb) := hxb.cell 0
      have hne : wr.heap.size ≠ w.heap.size + 1 := by have := HB.out.bu.lt; omega
      have HW1 := Lib.hid (bs_byte hbx 1 1 rfl (by simp))
      have HXB := Lib.hid hxb
      have HNE := Lib.hid hne
      clear hnb hit hbx hxb hne k0 k2
      go_wp2_with fail
      (with_reducible refine HW1.out.mono ?_)
      rintro e w5 ⟨rfl, hs5, ho5⟩
      have hx5 := HXB.out.othI ho5 HNE.out
      have p0 : w5.cell? ⟨w.heap.size, 0, none⟩ = some (.bool false) := (HN.out _ _ hs5).1.cell 0
      have p1 : w5.cell? ⟨wr.heap.size, 1, none⟩ = some (.string vb) := hx5.cell 1
      have HW5 := Lib.hid (bs_byte hs5 1 1 rfl (by simp))
      have HX5 := Lib.hid hx5
      clear hs5 ho5 hx5 m0 m1 m2 r0
      go_wp2_with fail
      (with_reducible refine HW5.out.mono ?_)
      rintro e w6 ⟨rfl, hs6, ho6⟩
      have hx6 := HX5.out.othI ho6 HNE.out
      have q0 : w6.cell? ⟨wr.heap.size, 0, none⟩ = some (.string kb) := hx6.cell 0
      have HW6 := Lib.hid (bs_str hs6 kb (by have := HK.out; simp; omega))
      have HX6 := Lib.hid hx6
      clear hs6 ho6 hx6 p0 p1
      go_wp2_with fail
      (with_reducible refine HW6.out.mono ?_)
      rintro e w7 ⟨rfl, hs7, ho7⟩
      have hx7 := HX6.out.othI ho7 HNE.out
      have t0 : w7.cell? ⟨w.heap.size, 0, none⟩ = some (.bool false) := (HN.out _ _ hs7).1.cell 0
      have t1 : w7.cell? ⟨wr.heap.size, 1, none⟩ = some (.string vb) := hx7.cell 1
      have HW7 := Lib.hid (bs_str hs7 vb (by have := HK.out; have := HV.out; simp; omega))
      clear hs7 ho7 hx7 q0
      go_wp2_with fail
      (with_reducible refine HW7.out.mono ?_)
      rintro e w8 ⟨rfl, hs8, _⟩
      have HS8 : Hid (BS w1 (w.heap.size + 1) (headB kb vb) w8) := Lib.hid (by unfold headB; simpa using hs8)
      clear hs8 t0 t1
      go_wp2_with fail
      go_roundw
      case rel => exact .inr ⟨by first | rfl | go_num, HS8⟩
      case measure => simp [intOf]
    · have hlen := headB_len HK.out HV.out
      have HST := Lib.hid (bstring_keep (w.heap.size + 1) (w.heap.size + 1) (headB kb vb) wr HB.out.bu (by intro e; rw [e] at hlen; cases hlen))
      obtain ⟨s1, hS1⟩ : ∃ s1 : ByteArray, (⟨(headB kb vb).toArray⟩ : ByteArray) = s1 := ⟨_, rfl⟩
      have z1 : s1.size = 6 := by rw [← hS1]; exact List.size_toArray.trans hlen
      have z2 : z250.size = 250 := List.size_toArray.trans List.length_replicate
      rw [hS1] at HST
      have HS1 := Lib.hid hS1
      clear hS1
      have HBW := Lib.hid (HN.out _ _ HB.out).2.2
      have HLE := Lib.hid HB.out.le
      clear k0 k2
      go_wp2_with fail
      (with_reducible refine HST.out.mono ?_)
      rintro e w9 ⟨rfl, hb9, hc9⟩
      have HLEN : Hid (Calls Tryz.prog 118 #[.pointer (some ⟨w.heap.size + 1, 0, none⟩)] w9 fun e w' => e = .returned (.int .i64 6) ∧ w9 = w') := Lib.hid (by
        have := blen_cell (w.heap.size + 1) _ w9 hc9
        rw [hlen] at this
        exact this)
      have HB9 : Hid (Below w.heap.size w w9) := Lib.hid (HBW.out.trans (hb9.mono (by omega)))
      clear hb9 hc9 hlen
      go_wp2_with fail
      (with_reducible refine HLEN.out.mono ?_)
      rintro e w10 ⟨rfl, rfl⟩
      go_wp2_with fail
      (with_reducible refine (rep250 _).mono ?_)
      rintro e w11 ⟨rfl, hb11⟩
      have HB11 : Hid (Below w.heap.size w w11) := Lib.hid (HB9.out.trans (hb11.mono HB9.out.size))
      clear hb11
      go_wp2_with fail
      go_ret
      refine ⟨ret_str ?_, HB11.out⟩
      rw [← HS1.out]
      exact cat_bytes _ _
end
end Go.Proofs.YtoleojljpaglhaaGreat
