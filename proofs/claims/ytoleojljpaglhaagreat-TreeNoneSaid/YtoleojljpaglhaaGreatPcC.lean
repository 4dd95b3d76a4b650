/- The contract of record. -/
import Derived.Test.YtoleojljpaglhaaGreatPaW
import Derived.Test.YtoleojljpaglhaaGreatPbV
import Derived.Test.YtoleojljpaglhaaGreatPaT
namespace Go.Proofs.YtoleojljpaglhaaGreat
open Go.RowKit Go.Maps
set_option maxRecDepth 20000
theorem PMap.look0 {w : World} {M sz : Nat} {f : Int → Option ByteArray} (h : PMap w M f sz) (k : Int) (hk : (Lit.int .i64 k).wf = true) :
    (Instr.lookup 74 (.map (some M)) (.int .i64 k) false).run Tryz.prog w = .ok (.string ((f k).getD ⟨#[]⟩)) w := by
  obtain ⟨D, ho, ha, hh, hz⟩ := h
  obtain ⟨v, ps, hrun, hv⟩ := ho.lookup intKey Tryz.underlying74 (zeroStr w) (plainElem_string Tryz.underlying9 (by decide)) (keyOf_int_mk Tryz.underlying3 hk)
  obtain ⟨c, rfl, hc, _⟩ := plainElem_string_inv Tryz.underlying9 hv
  rw [hrun]
  have e := congrArg Prod.fst hc
  simp only at e
  rw [ha k] at e
  cases hf : f k with
  | none =>
    rw [hf] at e
    injection e with e
    injection e with e
    have : c = ⟨#[]⟩ := by
      cases c; congr 1; exact Array.toList_inj.1 e.symm
    rw [this]
    rfl
  | some v =>
    rw [hf] at e
    injection e with e
    injection e with e
    have : c = v := by
      cases c; cases v; congr 1; exact Array.toList_inj.1 e.symm
    rw [this]
    rfl
/-- a list of pages in memory -/
structure PgsAt (w : World) (v : Value) (ch : List Int) : Prop where
  shape : ∃ p cap, v = .slice p ch.length cap ∧ ∀ j (h : j < ch.length), ∃ g, p = some ⟨g, 0, none⟩ ∧ g < w.heap.size ∧ w.cell? ⟨g, j, none⟩ = some (.int .i64 ch[j])
theorem PgsAt.below {w w' : World} {v : Value} {ch : List Int} (h : PgsAt w v ch) (hb : Below w.heap.size w w') : PgsAt w' v ch := by
  obtain ⟨p, cap, hv, hc⟩ := h.shape
  refine ⟨p, cap, hv, fun j hj => ?_⟩
  obtain ⟨g, hp, hlt, hcell⟩ := hc j hj
  exact ⟨g, hp, Nat.lt_of_lt_of_le hlt hb.size, (hb.cell (p := ⟨g, j, none⟩) hlt).trans hcell⟩
section
variable {S : Nat → Prop} {w0 w w' : World} {G : PH} {d d' : Vd.VD} {L L' : Wa.WL} {P : PP}
set_option maxRecDepth 20000 in
set_option maxHeartbeats 4000000 in
theorem record_any (h : PG S w0 w G d L P) (hn : 8 ≤ P.n) (hn2 : P.n ≤ 5000) {M sz : Nat} {f : Int → Option ByteArray} {roots : List Int} (hm : PMap w M f sz) (hk : Pb.Wf P.n f roots sz) (v : Value) (ch : List Int) (hv : PgsAt w v ch) (hc : ∀ p ∈ ch, ∃ b, f p = some b) (hch : ch.length ≤ 5000) :
    Calls Tryz.prog 96 #[.pointer (some ⟨G.pg, 0, none⟩), .agg (scells M roots), v] w fun e w' => e = .returned (.string ⟨(Pb.recL P.n f roots ch).toArray⟩) ∧ Below w.heap.size w w' := by
  have hmt := fun (W : World) (hW : Below w.heap.size w W) => meta_any (h.later hW) hn hn2 (hm.below hW) hk
  have hml := Pb.metaL_length P.n f roots hk.len hn2
  obtain ⟨ML, hML⟩ : ∃ ML, Pb.metaL P.n f roots = ML := ⟨_, rfl⟩
  have hrec : Pb.recL P.n f roots ch = ML ++ ch.flatMap (recP f) := by rw [← hML]; rfl
  rw [hrec]
  rw [hML] at hml
  simp only [hML] at hmt
  obtain ⟨a0, a1, a2, a3, a4, a5, a6, a7, rfl⟩ := len8 hk.len
  rw [scells_lit] at hmt ⊢
  obtain ⟨p0, cap0, rfl, hcell⟩ := hv.shape
  have hput : ∀ p ∈ ch, ∀ W, Calls Tryz.prog 121 #[.int .i64 p, .int .i64 4] W fun e w' => e = .returned (.tuple #[.string ⟨(Oct.beB 4 p).toArray⟩, .int .i64 0]) ∧ Below W.heap.size W w' := fun p hp W => by
    obtain ⟨b, hb⟩ := hc p hp
    have := hk.dom p b hb
    exact put4 p W (by omega)
  have hlook : ∀ p ∈ ch, ∃ b : ByteArray, b.size = 256 ∧ recP f p = (⟨(Oct.beB 4 p).toArray⟩ ++ b : ByteArray).data.toList ∧ ∀ W, Below w.heap.size w W → (Instr.lookup 74 (.map (some M)) (.int .i64 p) false).run Tryz.prog W = .ok (.string b) W := fun p hp => by
    obtain ⟨b, hb⟩ := hc p hp
    have hd := hk.dom p b hb
    refine ⟨b, hk.size p b hb, ?_, fun W hW => ?_⟩
    · unfold recP
      rw [hb]
      simp
    · have := (hm.below hW).look0 p (wf64 (by omega) (by omega))
      rwa [hb] at this
  have hrl : ∀ p ∈ ch, (recP f p).length = 260 := fun p hp => by
    obtain ⟨b, hb, he, _⟩ := hlook p hp
    rw [he, Array.length_toList]
    show (_ ++ b : ByteArray).size = 260
    rw [ByteArray.size_append, hb]
    exact congrArg (· + 256) (List.size_toArray.trans (Oct.beB_length 4 p))
  have hfl : ∀ k, k ≤ ch.length → ((ch.take k).flatMap (recP f)).length = 260 * k := by
    intro k
    induction k with
    | zero => intro _; rfl
    | succ k ih =>
      intro hk
      rw [List.take_succ_eq_append_getElem (by omega), List.flatMap_append, List.length_append, ih (by omega), List.flatMap_cons, List.flatMap_nil, List.append_nil, hrl _ (List.getElem_mem _)]
      omega
  have HMT := Lib.hid hmt
  have HML := Lib.hid hml
  have HPUT := Lib.hid hput
  have HLOOK := Lib.hid hlook
  have HCELL := Lib.hid hcell
  have HFL := Lib.hid hfl
  have HCH := Lib.hid hch
  have hM := hm.lt
  clear h hn hn2 hm hk hv hc hch hmt hml hput hlook hcell hrl hfl hML hrec
  go_enter Tryz.func96, Tryz.ntmps96
  go_upto_region 2 with fail
  obtain ⟨V, hV⟩ : ∃ V, (w.alloc (.cells #[.map (some M), .int .i64 a0, .int .i64 a1, .int .i64 a2, .int .i64 a3, .int .i64 a4, .int .i64 a5, .int .i64 a6, .int .i64 a7] 76)).alloc (.cells #[.pointer none, .slice none 0 0] 123) = V := ⟨_, rfl⟩
  have hbox : Blk V w.heap.size 76 #[.map (some M), .int .i64 a0, .int .i64 a1, .int .i64 a2, .int .i64 a3, .int .i64 a4, .int .i64 a5, .int .i64 a6, .int .i64 a7] := by rw [← hV]; exact (Blk.new w _ _).alloc _
  have hbu : Bu w.heap.size (w.heap.size + 1) [] V := by
    have := bu_fresh (w.alloc (.cells #[.map (some M), .int .i64 a0, .int .i64 a1, .int .i64 a2, .int .i64 a3, .int .i64 a4, .int .i64 a5, .int .i64 a6, .int .i64 a7] 76))
    rw [World.size_alloc, hV] at this
    exact this.lower (by omega)
  have hbel : Below w.heap.size w V := by rw [← hV]; exact ((Below.refl _ _).alloc (Nat.le_refl _) _).alloc (by simp) _
  rw [hV]
  have c0 : V.cell? ⟨w.heap.size, 0, none⟩ = some (.map (some M)) := hbox.cell 0
  have c1 : V.cell? ⟨w.heap.size, 1, none⟩ = some (.int .i64 a0) := hbox.cell 1
  have c2 : V.cell? ⟨w.heap.size, 2, none⟩ = some (.int .i64 a1) := hbox.cell 2
  have c3 : V.cell? ⟨w.heap.size, 3, none⟩ = some (.int .i64 a2) := hbox.cell 3
  have c4 : V.cell? ⟨w.heap.size, 4, none⟩ = some (.int .i64 a3) := hbox.cell 4
  have c5 : V.cell? ⟨w.heap.size, 5, none⟩ = some (.int .i64 a4) := hbox.cell 5
  have c6 : V.cell? ⟨w.heap.size, 6, none⟩ = some (.int .i64 a5) := hbox.cell 6
  have c7 : V.cell? ⟨w.heap.size, 7, none⟩ = some (.int .i64 a6) := hbox.cell 7
  have c8 : V.cell? ⟨w.heap.size, 8, none⟩ = some (.int .i64 a7) := hbox.cell 8
  have HBOX := Lib.hid hbox
  have HBU := Lib.hid hbu
  have HBEL := Lib.hid hbel
  clear hV hbox hbu hbel
  go_wp2_with fail
  (with_reducible refine (HMT.out V HBEL.out).mono ?_)
  rintro e w1 ⟨rfl, hb1⟩
  obtain ⟨s0, hs0⟩ : ∃ s0 : ByteArray, (⟨ML.toArray⟩ : ByteArray) = s0 := ⟨_, rfl⟩
  have hs0l : s0.data.toList = ML := by rw [← hs0]
  have hs0s : s0.size = 2048 := by rw [← hs0]; exact List.size_toArray.trans HML.out
  have hsz1 : w.heap.size ≤ w1.heap.size := Nat.le_trans HBEL.out.size hb1.size
  have HW := Lib.hid (writeString_any w.heap.size (w.heap.size + 1) [] s0 w1 (HBU.out.below hb1) (by rw [hs0s]; simp) hsz1)
  have HBX1 := Lib.hid (HBOX.out.below hb1 HBOX.out.lt)
  have HB1 := Lib.hid (HBEL.out.trans (hb1.mono HBEL.out.size))
  rw [hs0]
  have HS0 := Lib.hid hs0l
  have HS0S := Lib.hid hs0s
  have HSZ1 := Lib.hid hsz1
  clear hs0 hs0l hs0s hsz1 hb1 c0 c1 c2 c3 c4 c5 c6 c7 c8
  go_wp2_with fail
  (with_reducible refine HW.out.mono ?_)
  rintro e w2 ⟨rfl, hu2, hb2, ho2⟩
  have HU2 : Hid (Bu w.heap.size (w.heap.size + 1) (Lib.byteCells (ML ++ (ch.take 0).flatMap (recP f))) w2) := Lib.hid (hu2.eq_ (by rw [List.take_zero, List.flatMap_nil, List.append_nil, List.nil_append, Lib.strCells_eq, HS0.out]))
  have HB2 := Lib.hid (HB1.out.trans hb2)
  have HBX2 : Hid (Blk w2 w.heap.size 76 #[.map (some M), .int .i64 a0, .int .i64 a1, .int .i64 a2, .int .i64 a3, .int .i64 a4, .int .i64 a5, .int .i64 a6, .int .i64 a7]) := Lib.hid (ho2 _ _ HBX1.out (fun e => by injection e with e; omega) (fun c fz e => by injection e with _ e2 _; exact absurd e2 (by decide)))
  clear hu2 hb2 ho2
  go_wp2_with fail
  go_loopw [18] (fun i wr => ∃ k : Nat, k ≤ ch.length ∧ i = .int .i64 (k : Int) ∧ Hid (Bu w.heap.size (w.heap.size + 1) (Lib.byteCells (ML ++ (ch.take k).flatMap (recP f))) wr) ∧ Hid (Below w.heap.size w wr) ∧ Hid (Blk wr w.heap.size 76 #[.map (some M), .int .i64 a0, .int .i64 a1, .int .i64 a2, .int .i64 a3, .int .i64 a4, .int .i64 a5, .int .i64 a6, .int .i64 a7])) (fun i _ => ch.length - (intOf i).toNat)
  case atStart => exact ⟨0, Nat.zero_le _, rfl, HU2, HB2, HBX2⟩
  case round =>
    obtain ⟨k, hk, rfl, hbu, hbel, hbox⟩ := hrel
    have hsz := hbel.out.size
    by_cases hlt : k < ch.length
    · obtain ⟨g, rfl, hgl, hg⟩ := HCELL.out k hlt
      obtain ⟨p, hpe⟩ : ∃ p, ch[k] = p := ⟨_, rfl⟩
      have hp : p ∈ ch := by rw [← hpe]; exact List.getElem_mem hlt
      rw [hpe] at hg
      have hgc : wr.cell? ⟨g, k, none⟩ = some (.int .i64 p) := (hbel.out.cell (p := ⟨g, k, none⟩) hgl).trans hg
      have HTK : Hid (ML ++ (ch.take (k + 1)).flatMap (recP f) = (ML ++ (ch.take k).flatMap (recP f)) ++ recP f p) := Lib.hid (by rw [List.take_succ_eq_append_getElem hlt, hpe, List.flatMap_append, List.flatMap_cons, List.flatMap_nil, List.append_nil, List.append_assoc])
      obtain ⟨b, hbs, hre, hlk⟩ := HLOOK.out p hp
      obtain ⟨x4, hx4⟩ : ∃ x4 : ByteArray, (⟨(Oct.beB 4 p).toArray⟩ : ByteArray) = x4 := ⟨_, rfl⟩
      have hx4s : x4.size = 4 := by rw [← hx4]; exact List.size_toArray.trans (Oct.beB_length 4 p)
      have hpt := HPUT.out p hp wr
      rw [hx4] at hpt hre
      have HPT := Lib.hid hpt
      have HLT := Lib.hid hlt
      have i1 : ((k : Int) < (ch.length : Int)) := by omega
      have i2 : (k : Int) ≤ 5000 := by have := HCH.out; omega
      have hx4m : x4.size ≤ 4 := by omega
      have hbm : b.size ≤ 256 := by omega
      have HRE := Lib.hid hre
      have HLK := Lib.hid hlk
      have HX4 := Lib.hid hx4s
      have HBS := Lib.hid hbs
      have HHG := Lib.hid hg
      clear hpe hp hg hbs hre hlk hx4 hx4s hpt hgl
      go_wp2_with fail
      (with_reducible refine HPT.out.mono ?_)
      rintro e w4 ⟨rfl, hb4⟩
      have hbx4 := hbox.out.below hb4 hbox.out.lt
      have d0 : w4.cell? ⟨w.heap.size, 0, none⟩ = some (.map (some M)) := hbx4.cell 0
      have HB4 := Lib.hid (hbel.out.trans (hb4.mono hsz))
      have hlk4 := HLK.out w4 HB4.out
      have HBX4 := Lib.hid hbx4
      have HWS := Lib.hid (writeString_any w.heap.size (w.heap.size + 1) _ (x4 ++ b) w4 (hbu.out.below hb4) (by rw [Lib.byteCells_length, List.length_append, HML.out, HFL.out k hk, ByteArray.size_append, HX4.out, HBS.out]; have := HCH.out; omega) HB4.out.size)
      clear hb4 hbx4 hgc
      go_wp2_with fail
      (with_reducible refine HWS.out.mono ?_)
      rintro e w5 ⟨rfl, hu5, hb5, ho5⟩
      have HU5 : Hid (Bu w.heap.size (w.heap.size + 1) (Lib.byteCells (ML ++ (ch.take (k + 1)).flatMap (recP f))) w5) := Lib.hid (hu5.eq_ (by rw [HTK.out, HRE.out, Lib.strCells_eq]; simp only [Lib.byteCells_append]))
      have HB5 := Lib.hid (HB4.out.trans hb5)
      have HBX5 : Hid (Blk w5 w.heap.size 76 #[.map (some M), .int .i64 a0, .int .i64 a1, .int .i64 a2, .int .i64 a3, .int .i64 a4, .int .i64 a5, .int .i64 a6, .int .i64 a7]) := Lib.hid (ho5 _ _ HBX4.out (fun e => by injection e with e; omega) (fun c fz e => by injection e with _ e2 _; exact absurd e2 (by decide)))
      clear hu5 hb5 ho5 d0 hlk4
      go_wp2_with fail
      go_roundw
      case rel => exact ⟨k + 1, by have := HLT.out; omega, by go_num, HU5, HB5, HBX5⟩
      case measure => have := HLT.out; simp [intOf]; omega
    · obtain rfl : k = ch.length := by omega
      have i1 : ¬ ((ch.length : Int) < (ch.length : Int)) := by omega
      have HST : Hid (Calls Tryz.prog 78 #[.pointer (some ⟨w.heap.size + 1, 0, none⟩)] wr fun e w' => e = .returned (.string ⟨(ML ++ ch.flatMap (recP f)).toArray⟩) ∧ Below w.heap.size wr w') := Lib.hid (by
        have := bstring_any w.heap.size (w.heap.size + 1) _ wr hbu.out hsz
        rwa [List.take_length] at this)
      have HBE := hbel
      clear hbu hbel hbox
      go_wp2_with fail
      (with_reducible refine HST.out.mono ?_)
      rintro e w6 ⟨rfl, hb6⟩
      have HB6 := Lib.hid hb6
      clear hb6
      go_wp2_with fail
      go_ret
      exact ⟨rfl, HBE.out.trans HB6.out⟩
end
end Go.Proofs.YtoleojljpaglhaaGreat
