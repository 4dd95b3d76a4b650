/- The contracts of (*strings.Builder).Write on bytes of the call's own, and of Len. -/
import Derived.Test.YtoleojljpaglhaaGreatPaF
import Derived.Maps.AppendAt
import Derived.RegionTactic
import Derived.Test.YtoleojljpaglhaaGreatPaL
import Derived.Maps.RangeWalk
import Derived.BigRegion
set_option maxRecDepth 20000
namespace Go.Proofs.YtoleojljpaglhaaGreat
open Go.RowKit
set_option maxRecDepth 20000
theorem copyCheck_only (B b : Nat) (bs : List Value) (w : World) (h : Bu B b bs w) :
    Calls Tryz.prog 106 #[.pointer (some ⟨b, 0, none⟩)] w fun e w' => e = .returned (.tuple #[]) ∧ BuAt B b (.pointer (some ⟨b, 0, none⟩)) bs w' ∧ Below B w w' ∧ Only [b] w w' := by
  rcases h with h | h
  · refine (copyCheck_fresh b w h.cell0 h.shape h.frozen0).mono ?_
    rintro e w' ⟨rfl, rfl⟩
    exact ⟨rfl, h.used _, (Below.refl B w).setCell (p := ⟨b, 0, none⟩) h.1 _, (Only.refl [b] w).setCell (.inl (by simp)) _⟩
  · refine (copyCheck_used b w h.cell0).mono ?_
    rintro e w' ⟨rfl, rfl⟩
    exact ⟨rfl, h, Below.refl B _, Only.refl _ _⟩
theorem byteCells_one (l : List UInt8) : ∀ u ∈ Lib.byteCells l, u.oneCell' = true := by
  intro u hu
  simp only [Lib.byteCells, List.mem_map] at hu
  obtain ⟨c, _, rfl⟩ := hu
  rfl
set_option maxHeartbeats 1000000 in
theorem writeBytes_any (B b g cap : Nat) (bs : List Value) (l : List UInt8) (w : World) (h : Bu B b bs w) (hg : Blk w g 5 (Lib.byteCells l).toArray) (hlen : bs.length + l.length ≤ 140737488355328) (hBw : B ≤ w.heap.size) :
    Calls Tryz.prog 140 #[.pointer (some ⟨b, 0, none⟩), .slice (some ⟨g, 0, none⟩) l.length cap] w fun e w' => e = .returned (.tuple #[.int .i64 l.length, .nilIface]) ∧ Bu B b (bs ++ Lib.byteCells l) w' ∧ Below B w w' := by
  obtain ⟨i0, hi, hz0, hz1, hz2⟩ := info_parts byte_info
  have hgb : g ≠ b := by
    rintro rfl
    have key : ∀ p, Lib.BuilderAt 123 5 B g p bs w → False := by
      rintro p ⟨_, v, hbk, _⟩
      rw [show w.heap[g]? = _ from hg] at hbk
      injection hbk with e
      injection e with _ e _
      exact absurd e (by decide)
    exact h.elim (key _) (key _)
  go_enter Tryz.func140, Tryz.ntmps140
  go_wp2_with (go_at_call 106; refine (copyCheck_only B b bs _ h).mono ?_)
  rintro e w1 ⟨rfl, h1, hb1, ho1⟩
  have hg1 : Blk w1 g 5 (Lib.byteCells l).toArray := hg.only ho1 (by simpa using hgb)
  obtain ⟨hB, v, hbk, hown, hne⟩ := h1
  have c0 : w1.cell? ⟨b, 0, none⟩ = some (.pointer (some ⟨b, 0, none⟩)) := by rw [Lib.cell_of_heap hbk]; rfl
  have c1 : w1.cell? ⟨b, 1, none⟩ = some v := by rw [Lib.cell_of_heap hbk]; rfl
  have hnews : ∀ j u, (Lib.byteCells l)[j]? = some u → w1.cell? ((⟨g, 0, none⟩ : Addr).add j) = some u := fun j u hu => by
    rw [show (⟨g, 0, none⟩ : Addr).add j = ⟨g, j, none⟩ from by unfold Addr.add; split <;> simp_all, hg1.cell j]
    simpa using hu
  go_wp2_with (at_builtin; refine wpList_append_own_at _ rfl _ _ 121 rfl B 5 i0 _ 1 1 Tryz.underlying121 hi hz0 hz1 hz2 rfl (by decide) _ bs.length bs rfl hown ⟨g, 0, none⟩ l.length cap (Lib.byteCells l) rfl (by rw [Lib.byteCells_length]; omega) hnews (byteCells_one l) ?c3 ?c4 ?c5 ?_)
  case c3 => unfold maxLen; omega
  case c4 => omega
  case c5 => have := hb1.size; omega
  intro v' w2 hown' hgrow _ _
  have hlt : b < w1.heap.size := by
    rcases Nat.lt_or_ge b w1.heap.size with h' | h'
    · exact h'
    · simp [Array.getElem?_eq_none h'] at hbk
  have hb2 : w2.heap[b]? = some (.cells #[.pointer (some ⟨b, 0, none⟩), v] 123 (0, 0)) := by
    rw [hgrow.block b hlt (fun e => hne e.symm)]
    exact hbk
  have d0 : w2.cell? ⟨b, 0, none⟩ = some (.pointer (some ⟨b, 0, none⟩)) := by rw [Lib.cell_of_heap hb2]; rfl
  have d1 : w2.cell? ⟨b, 1, none⟩ = some v := by rw [Lib.cell_of_heap hb2]; rfl
  have f1 : w2.frozen? ⟨b, 1, none⟩ = false := Lib.frozen_of_heap hb2 1
  obtain ⟨ao, n', cap', rfl⟩ : ∃ ao n' cap', v' = .slice ao n' cap' := by
    rcases hown'.2 with ⟨hv, _⟩ | ⟨g, cap, cur, hv, _⟩
    · exact ⟨_, _, _, hv⟩
    · exact ⟨_, _, _, hv⟩
  go_wp2
  go_ret2
  refine ⟨rfl, .inr ?_, ?_⟩
  · exact Lib.BuilderAt.put (T := 123) (e := 5) hB hb2 (bs' := bs ++ Lib.byteCells l) (by simpa [Lib.byteCells_length] using hown') bu_ne
  · exact (hb1.grown hgrow (by have := hb1.size; omega) (fun k hk => (hown.lt k hk).1)).setCell (p := ⟨b, 1, none⟩) hB _
set_option maxHeartbeats 1000000 in
set_option maxRecDepth 100000 in
/-- String of a builder that holds a byte at least: its length can be asked behind it -/
theorem bstring_keep (B b : Nat) (l : List UInt8) (w : World) (h : Bu B b (Lib.byteCells l) w) (h0 : l ≠ []) :
    Calls Tryz.prog 78 #[.pointer (some ⟨b, 0, none⟩)] w fun e w' => e = .returned (.string ⟨l.toArray⟩) ∧ Below B w w' ∧ ∃ ao cap, w'.cell? ⟨b, 1, none⟩ = some (.slice ao l.length cap) := by
  obtain ⟨p, hB, v, hbk, hown, hne⟩ : ∃ p, Lib.BuilderAt 123 5 B b p (Lib.byteCells l) w := by
    rcases h with h | h
    · exact ⟨_, h⟩
    · exact ⟨_, h⟩
  have hl0 : l.length ≠ 0 := by simpa using h0
  rw [Lib.byteCells_length] at hown
  obtain ⟨g, cap, cur, rfl, hbg, hg, hnc, hcm, hcs, htake⟩ : ∃ g cap cur, v = .slice (some ⟨g, 0, none⟩) l.length cap ∧ B ≤ g ∧ w.heap[g]? = some (.cells cur 5 (0, 0)) ∧ l.length ≤ cap ∧ cap ≤ maxLen ∧ cur.size = cap * 1 ∧ cur.toList.take (l.length * 1) = Lib.byteCells l := by
    rcases hown.2 with ⟨_, hz⟩ | ⟨g, cap, cur, hv, r⟩
    · exact absurd hz hl0
    · exact ⟨g, cap, cur, hv, r⟩
  have c1 : w.drew.cell? ⟨b, 1, none⟩ = some (.slice (some ⟨g, 0, none⟩) l.length cap) := by
    have : w.drew.heap[b]? = some (.cells #[p, .slice (some ⟨g, 0, none⟩) l.length cap] 123 (0, 0)) := hbk
    rw [Lib.cell_of_heap this]; rfl
  have hSD : (Builtin.unsafeSliceData_ #[121] 160 #[.slice (some ⟨g, 0, none⟩) l.length cap]).run Tryz.prog w.drew = .ok (.pointer (some ⟨g, 0, none⟩)) w.drew :=
    Lib.run_unsafeSliceData_row _ _ _ _ _ _ (by omega)
  have hUS : (Builtin.unsafeString_ #[160, 3] 9 #[.pointer (some ⟨g, 0, none⟩), .int .i64 l.length]).run Tryz.prog w.drew = .ok (.string ⟨l.toArray⟩) (w.drew.freeze ⟨g, 0, none⟩ l.length) := by
    refine Lib.run_unsafeString_row w.drew 160 3 9 5 Tryz.underlying160 extra169.cellsByte g cur.size (by have hg' : w.drew.heap[g]? = some (.cells cur 5 (0, 0)) := hg; simp [World.shape?, hg']) l h0 (by omega) (by unfold maxLen at hcm; omega) ?_
    intro j x hx
    exact hown.cells (g := g) rfl j (.int .u8 x.toNat) (by simp [Lib.byteCells, hx])
  have hend : (w.drew.freeze ⟨g, 0, none⟩ l.length).cell? ⟨b, 1, none⟩ = some (.slice (some ⟨g, 0, none⟩) l.length cap) := by
    have hgb : g ≠ b := fun e => hne (by rw [e]; rfl)
    have hh : (w.drew.freeze ⟨g, 0, none⟩ l.length).heap[b]? = w.drew.heap[b]? := by
      unfold World.freeze
      split
      · rfl
      · show (w.drew.heap.modify g _)[b]? = _
        rw [Array.getElem?_modify, if_neg hgb]
    rw [World.cell?_of_block hh]
    exact c1
  have HB := Lib.hid (Lib.below_freeze (Below.drew (Below.refl B w)) (p := ⟨g, 0, none⟩) hbg l.length)
  have HE := Lib.hid hend
  clear hend hown hg hcs htake hnc hcm hbk hne h hbg hB
  go_enter Tryz.func78, Tryz.ntmps78
  go_wp2_with fail
  go_region
  all_goals (go_wp2_with fail; go_ret; exact ⟨rfl, HB.out, _, _, HE.out⟩)
theorem blen_cell (b n : Nat) (w : World) (h : ∃ ao cap, w.cell? ⟨b, 1, none⟩ = some (.slice ao n cap)) :
    Calls Tryz.prog 118 #[.pointer (some ⟨b, 0, none⟩)] w fun e w' => e = .returned (.int .i64 n) ∧ w = w' := by
  obtain ⟨ao, cap, c1⟩ := h
  go_enter Tryz.func118, Tryz.ntmps118
  go_wp2_with fail
  go_ret
  exact ⟨rfl, rfl⟩
theorem blen_any (B b : Nat) (bs : List Value) (w : World) (h : Bu B b bs w) :
    Calls Tryz.prog 118 #[.pointer (some ⟨b, 0, none⟩)] w fun e w' => e = .returned (.int .i64 bs.length) ∧ w = w' := by
  have hc : ∃ ao cap, w.cell? ⟨b, 1, none⟩ = some (.slice ao bs.length cap) := by
    have key : ∀ p, Lib.BuilderAt 123 5 B b p bs w → ∃ ao cap, w.cell? ⟨b, 1, none⟩ = some (.slice ao bs.length cap) := by
      rintro p ⟨_, v, hbk, hown, _⟩
      have c1 : w.cell? ⟨b, 1, none⟩ = some v := by rw [Lib.cell_of_heap hbk]; rfl
      rcases hown.2 with ⟨rfl, h0⟩ | ⟨g, cap, cur, rfl, _⟩
      · exact ⟨none, 0, by rw [c1, h0]⟩
      · exact ⟨_, cap, c1⟩
    exact h.elim (key _) (key _)
  obtain ⟨ao, cap, c1⟩ := hc
  clear h
  go_enter Tryz.func118, Tryz.ntmps118
  go_wp2_with fail
  go_ret
  exact ⟨rfl, rfl⟩
end Go.Proofs.YtoleojljpaglhaaGreat
/- The contract of meta: the roots and which pages are used, in bytes. -/
namespace Go.Proofs.YtoleojljpaglhaaGreat
open Go.RowKit Go.Maps
/-- which pages have been met -/
def usedL (f : Int → Option ByteArray) (left : Lit → Bool) (q : Nat) : Bool := Pb.usedP f q && !left (.int .i64 ((q : Int) + 1))
theorem put4 (r : Int) (W : World) (h : 0 ≤ r ∧ r ≤ 5000) : Calls Tryz.prog 121 #[.int .i64 r, .int .i64 4] W fun e w' => e = .returned (.tuple #[.string ⟨(Oct.beB 4 r).toArray⟩, .int .i64 0]) ∧ Below W.heap.size W w' := by
  have := put_any r 4 W
  have e : putV r 4 = .tuple #[.string ⟨(Oct.beB 4 r).toArray⟩, .int .i64 0] := by
    unfold putV
    rw [if_pos ⟨by omega, by omega, h.1⟩]
    exact putAns_yes (by have : r ≤ 5000 := h.2; show r < 256 ^ 4; omega)
  rwa [e] at this
theorem Only.grownBy {w w' : World} {g : Nat} (h : Only [g] w w') : w.grownBy w' (some g) := ⟨h.os, h.tape, h.output, h.size, fun i hi hn => h.block i hi (by simpa using fun e => hn (by rw [e]))⟩
theorem int_law : Keyed Tryz.prog 3 := int_keyed Tryz.underlying3
theorem ret_str {a b : ByteArray} (h : a = b) : Ending.returned (.string a) = .returned (.string b) := by rw [h]
theorem cat_bytes (a b : List UInt8) : (⟨a.toArray⟩ : ByteArray) ++ ⟨b.toArray⟩ = ⟨(a ++ b).toArray⟩ := by
  apply ByteArray.ext
  simp
theorem Bu.lower {B B' b : Nat} {bs : List Value} {w : World} (h : Bu B b bs w) (hb : B' ≤ B) : Bu B' b bs w := by
  have key : ∀ p, Lib.BuilderAt 123 5 B b p bs w → Lib.BuilderAt 123 5 B' b p bs w := by
    rintro p ⟨hB, v, hbk, hown, hne⟩
    refine ⟨Nat.le_trans hb hB, v, hbk, ⟨hown.1, ?_⟩, hne⟩
    rcases hown.2 with hn | ⟨g, cap, cur, hv, hbg, rest⟩
    · exact .inl hn
    · exact .inr ⟨g, cap, cur, hv, Nat.le_trans hb hbg, rest⟩
  exact h.elim (fun x => .inl (key _ x)) (fun x => .inr (key _ x))
section
variable {S : Nat → Prop} {w0 w w' : World} {G : PH} {d d' : Vd.VD} {L L' : Wa.WL} {P : PP}
set_option maxRecDepth 20000 in
set_option maxHeartbeats 4000000 in
theorem meta_any (h : PG S w0 w G d L P) (hn : 8 ≤ P.n) (hn2 : P.n ≤ 5000) {M sz : Nat} {f : Int → Option ByteArray} {roots : List Int} (hm : PMap w M f sz) (hk : Pb.Wf P.n f roots sz) :
    Calls Tryz.prog 120 #[.pointer (some ⟨G.pg, 0, none⟩), .agg (scells M roots)] w fun e w' => e = .returned (.string ⟨(Pb.metaL P.n f roots).toArray⟩) ∧ Below w.heap.size w w' := by
  obtain ⟨a0, a1, a2, a3, a4, a5, a6, a7, rfl⟩ := len8 hk.len
  rw [scells_lit]
  have hrt := hk.rt
  have hput : ∀ r ∈ [a0, a1, a2, a3, a4, a5, a6, a7], ∀ W, Calls Tryz.prog 121 #[.int .i64 r, .int .i64 4] W fun e w' => e = .returned (.tuple #[.string ⟨(Oct.beB 4 r).toArray⟩, .int .i64 0]) ∧ Below W.heap.size W w' := fun r hr W => put4 r W (hrt r hr)
  have HPUT := Lib.hid hput
  have HP := Lib.hid h
  have HM := Lib.hid hm
  have HK := Lib.hid hk
  have i1 : (P.n : Int) ≤ 5000 := by omega
  have i2 : 8 ≤ (P.n : Int) := by omega
  clear hrt hput h hm hk hn hn2
  go_enter Tryz.func120, Tryz.ntmps120
  go_wp2_with fail
  obtain ⟨V, hV⟩ : ∃ V, (w.alloc (.cells #[.map (some M), .int .i64 a0, .int .i64 a1, .int .i64 a2, .int .i64 a3, .int .i64 a4, .int .i64 a5, .int .i64 a6, .int .i64 a7] 76)).alloc (.cells #[.pointer none, .slice none 0 0] 123) = V := ⟨_, rfl⟩
  have hbox : Blk V w.heap.size 76 #[.map (some M), .int .i64 a0, .int .i64 a1, .int .i64 a2, .int .i64 a3, .int .i64 a4, .int .i64 a5, .int .i64 a6, .int .i64 a7] := by rw [← hV]; exact (Blk.new w _ _).alloc _
  have hbu : Bu w.heap.size (w.heap.size + 1) [] V := by
    have := bu_fresh (w.alloc (.cells #[.map (some M), .int .i64 a0, .int .i64 a1, .int .i64 a2, .int .i64 a3, .int .i64 a4, .int .i64 a5, .int .i64 a6, .int .i64 a7] 76))
    rw [World.size_alloc, hV] at this
    exact this.lower (by omega)
  have hbel : Below w.heap.size w V := by rw [← hV]; exact ((Below.refl _ _).alloc (Nat.le_refl _) _).alloc (by simp) _
  rw [hV]
  have HBOX := Lib.hid hbox
  have HBU := Lib.hid hbu
  have HBEL := Lib.hid hbel
  clear hV hbox hbu hbel
  go_loopw [14] (fun i wr => ∃ j : Nat, j ≤ 8 ∧ i = .int .i64 (j : Int) ∧ Hid (Bu w.heap.size (w.heap.size + 1) (Lib.byteCells (([a0, a1, a2, a3, a4, a5, a6, a7].take j).flatMap (Oct.beB 4))) wr) ∧ Hid (Below w.heap.size w wr) ∧ Hid (Blk wr w.heap.size 76 #[.map (some M), .int .i64 a0, .int .i64 a1, .int .i64 a2, .int .i64 a3, .int .i64 a4, .int .i64 a5, .int .i64 a6, .int .i64 a7])) (fun i _ => 8 - (intOf i).toNat)
  case atStart => exact ⟨0, Nat.zero_le _, rfl, HBU, HBEL, HBOX⟩
  case round =>
    obtain ⟨j, hj, rfl, hbu, hbel, hbox⟩ := hrel
    have hsz := hbel.out.size
    have hlt1 := hbu.out.lt
    by_cases hlt : j < 8
    · have key : ∀ r, r ∈ [a0, a1, a2, a3, a4, a5, a6, a7] → [a0, a1, a2, a3, a4, a5, a6, a7].take (j + 1) = [a0, a1, a2, a3, a4, a5, a6, a7].take j ++ [r] →
          Calls Tryz.prog 121 #[.int .i64 r, .int .i64 4] wr fun e w' => e = .returned (.tuple #[.string ⟨(Oct.beB 4 r).toArray⟩, .int .i64 0]) ∧
            Calls Tryz.prog 77 #[.pointer (some ⟨w.heap.size + 1, 0, none⟩), .string ⟨(Oct.beB 4 r).toArray⟩] w' fun e w'' => e = .returned (.tuple #[.int .i64 4, .nilIface]) ∧ Hid (Bu w.heap.size (w.heap.size + 1) (Lib.byteCells (([a0, a1, a2, a3, a4, a5, a6, a7].take (j + 1)).flatMap (Oct.beB 4))) w'') ∧ Hid (Below w.heap.size w w'') ∧ Hid (Blk w'' w.heap.size 76 #[.map (some M), .int .i64 a0, .int .i64 a1, .int .i64 a2, .int .i64 a3, .int .i64 a4, .int .i64 a5, .int .i64 a6, .int .i64 a7]) := fun r hr ht => by
        refine (HPUT.out r hr wr).mono ?_
        rintro e w1 ⟨he, hb1⟩
        refine ⟨he, ?_⟩
        have h64 : (⟨(Oct.beB 4 r).toArray⟩ : ByteArray).size = 4 := List.size_toArray.trans (Oct.beB_length 4 r)
        have hl : (([a0, a1, a2, a3, a4, a5, a6, a7].take j).flatMap (Oct.beB 4)).length ≤ 32 := by rw [Pb.flat_len]; simp; omega
        have := writeString_any w.heap.size (w.heap.size + 1) _ ⟨(Oct.beB 4 r).toArray⟩ w1 (hbu.out.below hb1) (by rw [Lib.byteCells_length, h64]; omega) (by have := hb1.size; omega)
        refine this.mono ?_
        rintro e w2 ⟨he, hu2, hb2, ho2⟩
        rw [h64] at he
        refine ⟨he, Lib.hid (hu2.eq_ ?_), Lib.hid ((hbel.out.trans (hb1.mono hsz)).trans hb2), Lib.hid ?_⟩
        · rw [ht, List.flatMap_append, Lib.byteCells_append, List.flatMap_cons, List.flatMap_nil, List.append_nil, Lib.strCells_eq]
        · exact ho2 _ _ (hbox.out.below hb1 hbox.out.lt) (fun e => by injection e with e; omega) (fun c fz e => by injection e with _ e2 _; exact absurd e2 (by decide))
      have KEY := Lib.hid key
      clear key hbu hbel hbox
      obtain rfl | rfl | rfl | rfl | rfl | rfl | rfl | rfl : j = 0 ∨ j = 1 ∨ j = 2 ∨ j = 3 ∨ j = 4 ∨ j = 5 ∨ j = 6 ∨ j = 7 := by omega
      · have hix : (Instr.index 53 (.agg #[.int .i64 a0, .int .i64 a1, .int .i64 a2, .int .i64 a3, .int .i64 a4, .int .i64 a5, .int .i64 a6, .int .i64 a7]) (.int .i64 0)).run Tryz.prog wr = .ok (.int .i64 a0) wr := by kernel_rfl
        go_wp2_with fail
        (with_reducible refine (KEY.out a0 (by simp) rfl).mono ?_)
        rintro e w1 ⟨rfl, hw1⟩
        go_wp2_with fail
        (with_reducible refine hw1.mono ?_)
        rintro e w2 ⟨rfl, h2, h3, h4⟩
        go_wp2_with fail
        go_roundw
        case rel => exact ⟨1, by omega, rfl, h2, h3, h4⟩
        case measure => simp [intOf]
      · have hix : (Instr.index 53 (.agg #[.int .i64 a0, .int .i64 a1, .int .i64 a2, .int .i64 a3, .int .i64 a4, .int .i64 a5, .int .i64 a6, .int .i64 a7]) (.int .i64 1)).run Tryz.prog wr = .ok (.int .i64 a1) wr := by kernel_rfl
        go_wp2_with fail
        (with_reducible refine (KEY.out a1 (by simp) rfl).mono ?_)
        rintro e w1 ⟨rfl, hw1⟩
        go_wp2_with fail
        (with_reducible refine hw1.mono ?_)
        rintro e w2 ⟨rfl, h2, h3, h4⟩
        go_wp2_with fail
        go_roundw
        case rel => exact ⟨2, by omega, rfl, h2, h3, h4⟩
        case measure => simp [intOf]
      · have hix : (Instr.index 53 (.agg #[.int .i64 a0, .int .i64 a1, .int .i64 a2, .int .i64 a3, .int .i64 a4, .int .i64 a5, .int .i64 a6, .int .i64 a7]) (.int .i64 2)).run Tryz.prog wr = .ok (.int .i64 a2) wr := by kernel_rfl
        go_wp2_with fail
        (with_reducible refine (KEY.out a2 (by simp) rfl).mono ?_)
        rintro e w1 ⟨rfl, hw1⟩
        go_wp2_with fail
        (with_reducible refine hw1.mono ?_)
        rintro e w2 ⟨rfl, h2, h3, h4⟩
        go_wp2_with fail
        go_roundw
        case rel => exact ⟨3, by omega, rfl, h2, h3, h4⟩
        case measure => simp [intOf]
      · have hix : (Instr.index 53 (.agg #[.int .i64 a0, .int .i64 a1, .int .i64 a2, .int .i64 a3, .int .i64 a4, .int .i64 a5, .int .i64 a6, .int .i64 a7]) (.int .i64 3)).run Tryz.prog wr = .ok (.int .i64 a3) wr := by kernel_rfl
        go_wp2_with fail
        (with_reducible refine (KEY.out a3 (by simp) rfl).mono ?_)
        rintro e w1 ⟨rfl, hw1⟩
        go_wp2_with fail
        (with_reducible refine hw1.mono ?_)
        rintro e w2 ⟨rfl, h2, h3, h4⟩
        go_wp2_with fail
        go_roundw
        case rel => exact ⟨4, by omega, rfl, h2, h3, h4⟩
        case measure => simp [intOf]
      · have hix : (Instr.index 53 (.agg #[.int .i64 a0, .int .i64 a1, .int .i64 a2, .int .i64 a3, .int .i64 a4, .int .i64 a5, .int .i64 a6, .int .i64 a7]) (.int .i64 4)).run Tryz.prog wr = .ok (.int .i64 a4) wr := by kernel_rfl
        go_wp2_with fail
        (with_reducible refine (KEY.out a4 (by simp) rfl).mono ?_)
        rintro e w1 ⟨rfl, hw1⟩
        go_wp2_with fail
        (with_reducible refine hw1.mono ?_)
        rintro e w2 ⟨rfl, h2, h3, h4⟩
        go_wp2_with fail
        go_roundw
        case rel => exact ⟨5, by omega, rfl, h2, h3, h4⟩
        case measure => simp [intOf]
      · have hix : (Instr.index 53 (.agg #[.int .i64 a0, .int .i64 a1, .int .i64 a2, .int .i64 a3, .int .i64 a4, .int .i64 a5, .int .i64 a6, .int .i64 a7]) (.int .i64 5)).run Tryz.prog wr = .ok (.int .i64 a5) wr := by kernel_rfl
        go_wp2_with fail
        (with_reducible refine (KEY.out a5 (by simp) rfl).mono ?_)
        rintro e w1 ⟨rfl, hw1⟩
        go_wp2_with fail
        (with_reducible refine hw1.mono ?_)
        rintro e w2 ⟨rfl, h2, h3, h4⟩
        go_wp2_with fail
        go_roundw
        case rel => exact ⟨6, by omega, rfl, h2, h3, h4⟩
        case measure => simp [intOf]
      · have hix : (Instr.index 53 (.agg #[.int .i64 a0, .int .i64 a1, .int .i64 a2, .int .i64 a3, .int .i64 a4, .int .i64 a5, .int .i64 a6, .int .i64 a7]) (.int .i64 6)).run Tryz.prog wr = .ok (.int .i64 a6) wr := by kernel_rfl
        go_wp2_with fail
        (with_reducible refine (KEY.out a6 (by simp) rfl).mono ?_)
        rintro e w1 ⟨rfl, hw1⟩
        go_wp2_with fail
        (with_reducible refine hw1.mono ?_)
        rintro e w2 ⟨rfl, h2, h3, h4⟩
        go_wp2_with fail
        go_roundw
        case rel => exact ⟨7, by omega, rfl, h2, h3, h4⟩
        case measure => simp [intOf]
      · have hix : (Instr.index 53 (.agg #[.int .i64 a0, .int .i64 a1, .int .i64 a2, .int .i64 a3, .int .i64 a4, .int .i64 a5, .int .i64 a6, .int .i64 a7]) (.int .i64 7)).run Tryz.prog wr = .ok (.int .i64 a7) wr := by kernel_rfl
        go_wp2_with fail
        (with_reducible refine (KEY.out a7 (by simp) rfl).mono ?_)
        rintro e w1 ⟨rfl, hw1⟩
        go_wp2_with fail
        (with_reducible refine hw1.mono ?_)
        rintro e w2 ⟨rfl, h2, h3, h4⟩
        go_wp2_with fail
        go_roundw
        case rel => exact ⟨8, by omega, rfl, h2, h3, h4⟩
        case measure => simp [intOf]
    · obtain rfl : j = 8 := by omega
      obtain ⟨W4, hW4⟩ : ∃ W4, W4 = wr := ⟨_, rfl⟩
      subst hW4
      have hp2 := HP.out.later hbel.out
      have HMO := Lib.hid (most_any hp2 (by omega))
      have hn1 : 8 ≤ P.n := by omega
      have hn2 : P.n ≤ 5000 := by omega
      obtain ⟨i0, hi0, hz0, hz1, hz2⟩ := info_parts u8_info
      have hmk := fun W => make_bytes' (P := Tryz.prog) 121 5 i0 Tryz.underlying121 hi0 hz0 hz1 hz2 .i64 .i64 (((P.n : Int) - 8 + 7) / 8) (((P.n : Int) - 8 + 7) / 8) ((P.n - 1) / 8) ((P.n - 1) / 8) (by omega) (by omega) (Nat.le_refl _) (by omega) W
      have c0 : W4.cell? ⟨w.heap.size, 0, none⟩ = some (.map (some M)) := hbox.out.cell 0
      have hpm := HM.out.below hbel.out
      have hm1 : M < w.heap.size := HM.out.lt
      clear hp2 hi0 hz0 hz1 hz2
      go_wp2_with fail
      (with_reducible refine HMO.out.mono ?_)
      rintro e w1 ⟨rfl, rfl⟩
      obtain ⟨D, hown, hat, hhas, hsz2⟩ := hpm
      have hown2 := hown
      have hsz5 := hbel.out.size
      obtain ⟨V5, hV5⟩ : ∃ V5, W4.alloc (.cells (bvs (List.replicate ((P.n - 1) / 8) 0)) 5) = V5 := ⟨_, rfl⟩
      go_upto_region 9 with fail
      have hg5 : Blk V5 W4.heap.size 5 (bvs (List.replicate ((P.n - 1) / 8) 0)) := by rw [← hV5]; exact Blk.new W4 _ _
      have hb5 : Below W4.heap.size W4 V5 := by rw [← hV5]; exact (Below.refl _ _).alloc (Nat.le_refl _) _
      have hown5 : V5.ownsMap Tryz.prog 3 (plainElem Tryz.prog 9) M sz D := by rw [← hV5]; exact hown.alloc _
      have c5 : V5.cell? ⟨w.heap.size, 0, none⟩ = some (.map (some M)) := (hb5.cell (p := ⟨w.heap.size, 0, none⟩) hbox.out.lt).trans c0
      clear c0 hown hV5
      go_wp2_with (at_range; refine wpList_range_own _ rfl _ 74 rfl 3 9 int_law Tryz.underlying74 (plainElem Tryz.prog 9) M sz D rfl hown5 ?_; intro w6 hrg0 hg0 hs0)
      go_frame
      have HAT := Lib.hid hat
      have HHAS := Lib.hid hhas
      have HMK := Lib.hid hmk
      have hst : Pb.bitsL (usedL f (Maps.has D)) ((P.n - 1) / 8) = List.replicate ((P.n - 1) / 8) 0 := by
        rw [← Pb.bitsL_zero]
        refine Pb.bitsL_congr _ _ _ (fun q => ?_)
        unfold usedL Pb.usedP
        rw [hhas]
        cases (f ((q : Int) + 1)).isSome <;> rfl
      have hg6 : Blk w6 W4.heap.size 5 (bvs (Pb.bitsL (usedL f (Maps.has D)) ((P.n - 1) / 8))) := by rw [hst]; exact hg5.grown hg0 (by simp)
      have hb6 : Below W4.heap.size W4 w6 := hb5.grown hg0 hb5.size (fun q hq => by cases hq)
      have HG6 := Lib.hid hg6
      have HB6 := Lib.hid hb6
      have HB5 := Lib.hid hb5
      have hl5 := hg5.lt
      clear hat hhas hmk hst hg6 hb6 hg5 hb5 hg0 hs0 hown5 hown2 c5
      go_loopw [11] (fun _ w7 => ∃ left cnt, w7.ranges Tryz.prog 3 (plainElem Tryz.prog 9) M V5.heap.size sz D left cnt ∧ Hid (Blk w7 W4.heap.size 5 (bvs (Pb.bitsL (usedL f left) ((P.n - 1) / 8)))) ∧ Hid (Below W4.heap.size W4 w7)) (fun _ w7 => w7.rangeLeft M V5.heap.size)
      case atStart => exact ⟨_, _, hrg0, HG6, HB6⟩
      case round =>
        obtain ⟨left, cnt, hrg, hblk, hbe⟩ := hrel
        clear hrg0 HG6 HB6
        go_wp2_with (at_next; refine wpList_next_ranges_is _ rfl _ rfl 3 9 .i64 int_law Tryz.underlying3 Tryz.underlying9 M V5.heap.size sz D left cnt rfl hrg ?_ ?_)
        · intro hc0 hl0
          have hfin : Blk wr W4.heap.size 5 (Lib.byteCells (Pb.bitsL (Pb.usedP f) ((P.n - 1) / 8))).toArray := by
            have := hblk.out
            rw [Pb.bitsL_congr (usedL f left) (Pb.usedP f) _ (fun q => by unfold usedL; rw [hl0]; simp)] at this
            exact this
          have hm0 : ((P.n - 1) / 8 : Nat) ≤ 5000 := by omega
          obtain ⟨l1, hl1⟩ : ∃ l1, [a0, a1, a2, a3, a4, a5, a6, a7].flatMap (Oct.beB 4) = l1 := ⟨_, rfl⟩
          have hl1l : l1.length = 32 := by rw [← hl1, Pb.flat_len]; rfl
          obtain ⟨l2, hl2⟩ : ∃ l2, Pb.bitsL (Pb.usedP f) ((P.n - 1) / 8) = l2 := ⟨_, rfl⟩
          have hl2l : l2.length = (P.n - 1) / 8 := by rw [← hl2]; exact Pb.bitsL_length _ _
          rw [hl2] at hfin
          have hbu' := hbu.out
          have e8 : ([a0, a1, a2, a3, a4, a5, a6, a7].take 8).flatMap (Oct.beB 4) = l1 := hl1
          rw [e8] at hbu'
          have hwb := writeBytes_any w.heap.size (w.heap.size + 1) W4.heap.size ((P.n - 1) / 8) _ l2 wr (hbu'.below hbe.out) hfin (by rw [Lib.byteCells_length]; omega) (by have := hbe.out.size; omega)
          rw [hl2l] at hwb
          have HWB := Lib.hid hwb
          obtain ⟨z, hz⟩ : ∃ z : Int, ((32 + (P.n - 1) / 8 : Nat) : Int) = z := ⟨_, rfl⟩
          have hz1 : 32 ≤ z := by omega
          have hz2 : z ≤ 700 := by omega
          have hfn : Pb.metaL P.n f [a0, a1, a2, a3, a4, a5, a6, a7] = (l1 ++ l2) ++ List.replicate (2016 - (P.n - 1) / 8) 0 := by
            rw [← hl1, ← hl2]; rfl
          have HFN := Lib.hid hfn
          have hrep : ∀ W, Calls Tryz.prog 93 #[.string ⟨#[0]⟩, .int .i64 (2048 - z)] W fun e w' => e = .returned (.string ⟨(List.replicate (2016 - (P.n - 1) / 8) 0).toArray⟩) ∧ Below W.heap.size W w' := fun W => by
            have h := strings_Repeat ⟨#[0]⟩ (2016 - (P.n - 1) / 8) W (by omega) (by show 1 * (2016 - (P.n - 1) / 8) ≤ _; omega)
            rw [show ((2016 - (P.n - 1) / 8 : Nat) : Int) = 2048 - z by omega] at h
            refine h.mono ?_
            rintro e w' ⟨he, hb⟩
            refine ⟨he.trans ?_, hb⟩
            show Ending.returned (.string ⟨(Lib.repeatL [0] (2016 - (P.n - 1) / 8)).toArray⟩) = _
            rw [rep_one]
          have HREP := Lib.hid hrep
          have HZ := Lib.hid hz
          have HL1 := Lib.hid hl1l
          have HL2 := Lib.hid hl2l
          have HWS := Lib.hid (show w.heap.size ≤ wr.heap.size by have := hbe.out.size; omega)
          have HBW := Lib.hid (hbel.out.trans (hbe.out.mono hsz5))
          have hs1 : (⟨(l1 ++ l2).toArray⟩ : ByteArray).size = 32 + (P.n - 1) / 8 := List.size_toArray.trans (by rw [List.length_append, hl1l, hl2l])
          have hs2 : (⟨(List.replicate (2016 - (P.n - 1) / 8) (0 : UInt8)).toArray⟩ : ByteArray).size = 2016 - (P.n - 1) / 8 := List.size_toArray.trans List.length_replicate
          obtain ⟨s1, hS1⟩ : ∃ s1 : ByteArray, (⟨(l1 ++ l2).toArray⟩ : ByteArray) = s1 := ⟨_, rfl⟩
          obtain ⟨s2, hS2⟩ : ∃ s2 : ByteArray, (⟨(List.replicate (2016 - (P.n - 1) / 8) (0 : UInt8)).toArray⟩ : ByteArray) = s2 := ⟨_, rfl⟩
          rw [hS1] at hs1
          rw [hS2] at hs2
          simp only [hS2] at HREP
          have hs12 : s1.size ≤ 3000 := by omega
          have hs22 : s2.size ≤ 3000 := by omega
          have HS1 := Lib.hid hS1
          have HS2 := Lib.hid hS2
          clear hl1 hl2 hl1l hl2l hwb hz hfn hrep hfin hbu' e8 hs1 hs2 hS1 hS2 hl0 hc0
          go_wp2_with fail
          (with_reducible refine HWB.out.mono ?_)
          rintro e w9 ⟨rfl, hu9, hb9⟩
          have hu9' : Bu w.heap.size (w.heap.size + 1) (Lib.byteCells (l1 ++ l2)) w9 := hu9.eq_ (by rw [Lib.byteCells_append])
          have hsz9 : w.heap.size ≤ w9.heap.size := Nat.le_trans HWS.out hb9.size
          have HST := Lib.hid (bstring_keep w.heap.size (w.heap.size + 1) (l1 ++ l2) w9 hu9' (by intro e; have := congrArg List.length e; rw [List.length_append, HL1.out] at this; simp at this))
          rw [HS1.out] at HST
          have HB9 := Lib.hid hb9
          have HU9 := Lib.hid hu9'
          clear hu9 hu9' hb9 hsz9
          go_wp2_with fail
          (with_reducible refine HST.out.mono ?_)
          rintro e w10 ⟨rfl, hb10, hc10⟩
          have HLEN : Hid (Calls Tryz.prog 118 #[.pointer (some ⟨w.heap.size + 1, 0, none⟩)] w10 fun e w' => e = .returned (.int .i64 z) ∧ w10 = w') := Lib.hid (by
            have := blen_cell (w.heap.size + 1) _ w10 hc10
            rw [List.length_append, HL1.out, HL2.out, HZ.out] at this
            exact this)
          have HB10 := Lib.hid hb10
          clear hb10 hc10
          go_wp2_with fail
          (with_reducible refine HLEN.out.mono ?_)
          rintro e w11 ⟨rfl, rfl⟩
          go_wp2_with fail
          (with_reducible refine (HREP.out _).mono ?_)
          rintro e w12 ⟨rfl, hb12⟩
          have HB12 := Lib.hid hb12
          clear hb12
          go_wp2_with fail
          go_ret
          refine ⟨ret_str ?_, ((HBW.out.trans HB9.out).trans HB10.out).trans (HB12.out.mono (Nat.le_trans (Nat.le_trans HWS.out HB9.out.size) HB10.out.size))⟩
          show s1 ++ s2 = _
          rw [HFN.out, ← HS1.out, ← HS2.out]
          exact cat_bytes _ _
        · intro x c w8 cnt8 hwx hwc hlx hat8 hrg8 hlt8 hg8 hs8 hen
          have hfx : ∃ b, f x = some b := by
            have h1 := (HAT.out x .nil).symm.trans (hat8 .nil)
            cases hf : f x with
            | some b => exact ⟨b, rfl⟩
            | none => rw [hf] at h1; cases h1
          obtain ⟨b, hb⟩ := hfx
          have hd := HK.out.dom x b hb
          obtain ⟨q, rfl⟩ : ∃ q : Nat, x = (q : Int) + 1 := ⟨(x - 1).toNat, by omega⟩
          have HUSED : Hid (Pb.usedP f q = true) := Lib.hid (by unfold Pb.usedP; rw [hb]; rfl)
          have hq8 : q / 8 < (P.n - 1) / 8 := by omega
          have hblk8 : Blk w8 W4.heap.size 5 (bvs (Pb.bitsL (usedL f left) ((P.n - 1) / 8))) := hblk.out.grown hg8 (by
            intro e
            injection e with e
            omega)
          obtain ⟨B, hB⟩ : ∃ B, Pb.byteN (usedL f left) (q / 8) = B := ⟨_, rfl⟩
          have hBl : B < 256 := by rw [← hB]; exact Pb.byteN_lt _ _
          have hcell : w8.cell? ⟨W4.heap.size, q / 8, none⟩ = some (.int .u8 (B : Int)) := by
            rw [hblk8.cell, bvs_at _ _ (by rw [Pb.bitsL_length]; exact hq8)]
            simp only [Pb.bitsL, List.getElem_map, List.getElem_range, hB]
            rw [UInt8.toNat_ofNat', Nat.mod_eq_of_lt hBl]
          have hfz := hblk8.frozen (q / 8)
          have i5 : (0 : Int) ≤ (q : Int) / 8 := by omega
          have i6 : (q : Int) / 8 < (((P.n - 1) / 8 : Nat) : Int) := by omega
          have i7 : (q : Int) + 1 ≤ 5000 := by omega
          have HBL8 := Lib.hid hblk8
          have HBB := Lib.hid hB
          clear hblk8 hB hd hb hat8
          go_wp2_with fail
          go_region
          have hor : bits BinOp.or IntKind.u8 (B : Int) (2 ^ (q % 8) % 256) = ((UInt8.ofNat (B ||| 2 ^ (q % 8))).toNat : Int) := by
            have h8 : q % 8 < 8 := Nat.mod_lt _ (by omega)
            have hp : 2 ^ (q % 8) < 256 := by
              have : 2 ^ (q % 8) ≤ 2 ^ 7 := Nat.pow_le_pow_right (by omega) (by omega)
              omega
            have e2 : ((2 : Int) ^ (q % 8) % 256) = ((2 ^ (q % 8) : Nat) : Int) := by
              have e3 : ((2 : Int) ^ (q % 8)) = ((2 ^ (q % 8) : Nat) : Int) := by rw [Int.natCast_pow]; rfl
              rw [e3]
              obtain ⟨u, hu⟩ : ∃ u, 2 ^ (q % 8) = u := ⟨_, rfl⟩
              rw [hu] at hp ⊢
              omega
            rw [e2, (bits_nat .u8 8 (by decide) wraps_u8 B (2 ^ (q % 8)) hBl hp).2, UInt8.toNat_ofNat']
            have := Nat.or_lt_two_pow (n := 8) hBl hp
            rw [Nat.mod_eq_of_lt this]
          have hO : Only [W4.heap.size] w8 (w8.setCell ⟨W4.heap.size, q / 8, none⟩ (.int .u8 (bits BinOp.or IntKind.u8 (B : Int) (2 ^ (q % 8) % 256)))).drew := ((Only.refl [W4.heap.size] w8).setCell (.inl (by simp)) _).drew
          have hrg9 := hrg8.kept hO.grownBy (by intro e; injection e with e; omega) (by intro e; injection e with e; omega)
          have hbl9 : Blk (w8.setCell ⟨W4.heap.size, q / 8, none⟩ (.int .u8 (bits BinOp.or IntKind.u8 (B : Int) (2 ^ (q % 8) % 256)))).drew W4.heap.size 5 (bvs (Pb.bitsL (usedL f (fun z => left z && !z.sameKey (.int .i64 ((q : Int) + 1)))) ((P.n - 1) / 8))) := by
            have h1 := (HBL8.out.set_ (q / 8) (.int .u8 (bits BinOp.or IntKind.u8 (B : Int) (2 ^ (q % 8) % 256)))).drew
            rw [hor] at h1 ⊢
            have hs := Pb.bitsL_set (usedL f left) _ q hq8
            rw [HBB.out] at hs
            rw [bvs_set, hs] at h1
            refine h1.eq_ (congrArg bvs (Pb.bitsL_congr _ _ _ (fun q' => ?_)))
            unfold usedL
            by_cases e : q' = q
            · subst e
              have hu : Pb.usedP f q' = true := HUSED.out
              simp [hu, Lit.sameKey]
            · have e1 : (q' == q) = false := by simpa using e
              have e2 : (Lit.int .i64 ((q' : Int) + 1)).sameKey (.int .i64 ((q : Int) + 1)) = false := by
                simp only [Lit.sameKey, true_and, decide_eq_false_iff_not]
                omega
              simp only [e1, e2]
              simp
          have hb9' : Below W4.heap.size W4 (w8.setCell ⟨W4.heap.size, q / 8, none⟩ (.int .u8 (bits BinOp.or IntKind.u8 (B : Int) (2 ^ (q % 8) % 256)))).drew := ((hbe.out.grown hg8 hbe.out.size (fun q hq => by injection hq with hq; omega)).setCell (p := ⟨W4.heap.size, q / 8, none⟩) (Nat.le_refl _) _).drew
          have hm9 := hrg9.left_eq
          have hm8 := hrg.left_eq
          have HM9 := Lib.hid hm9
          have HM8 := Lib.hid hm8
          have HL8 := Lib.hid hlt8
          have HR9 := Lib.hid hrg9
          have HBL9 := Lib.hid hbl9
          have HB9 := Lib.hid hb9'
          clear hm9 hm8 hrg9 hbl9 hb9' hO hor hlt8
          go_wp2_with fail
          go_roundw
          case rel => exact ⟨_, _, HR9.out, HBL9, HB9⟩
          case measure =>
            rw [HM9.out, HM8.out]
            exact HL8.out
end
end Go.Proofs.YtoleojljpaglhaaGreat
