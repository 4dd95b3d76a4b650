/- What chanceryref2.put lays behind a list of bytes of the call's own. -/
import Derived.Test.YtejnfnpcabldeaaBerDE
import Derived.Test.YtejnfnpcabldeaaBerDD
import Derived.Test.YtejnfnpcabldeaaBerE
import Derived.Maps.AppendAt
import Derived.Lib.AppendStr
import Derived.Deep.CutBlock
namespace Go.Proofs.Ytejnfnpcabldeaa
open Go.RowKit Ber
/-- blocks of elements stay -/
def Ele (w w' : World) : Prop := ∀ (k : Nat) (cs : Array Value) (fz : Nat × Nat), w.heap[k]? = some (Obj.cells cs 24 fz) → w'.heap[k]? = some (Obj.cells cs 24 fz)
theorem Ele.of_below {w w' : World} (hb : Below w.heap.size w w') : Ele w w' := fun k _ _ h => (hb.block k (Array.getElem?_eq_some_iff.1 h).1).trans h
theorem Ele.trans {a b c : World} (h : Ele a b) (k : Ele b c) : Ele a c := fun i cs fz e => k i cs fz (h i cs fz e)
theorem EB.ele {w w' : World} {E : Nat} {b : ByteArray} {kv : Value} (h : EB w E b kv) (k : Ele w w') : EB w' E b kv := by
  obtain ⟨cs, h1, h2, h3⟩ := h
  exact ⟨cs, k E _ _ h1, h2, h3⟩
/-- a list of bytes of the call's own, from a world on -/
structure Ow (B : Nat) (w0 w : World) (v : Value) (xs : List Value) : Prop where
  own : w.ownsRow B 5 1 v xs.length xs
  bel : Below B w0 w
  ele : Ele w0 w
theorem Ow.eq_ {B : Nat} {w0 w : World} {v : Value} {xs ys : List Value} (h : Ow B w0 w v xs) (e : xs = ys) : Ow B w0 w v ys := e ▸ h
theorem Ow.nil {B : Nat} (w0 : World) : Ow B w0 w0 (.slice none 0 0) [] := ⟨World.ownsRow_nil _ _ _ _, Below.refl _ _, fun _ _ _ h => h⟩
theorem Ow.call {B : Nat} {w0 w w' : World} {v : Value} {xs : List Value} (h : Ow B w0 w v xs) (hb : Below w.heap.size w w') (hB : B ≤ w.heap.size) : Ow B w0 w' v xs :=
  ⟨own_below h.own hb, h.bel.trans (hb.mono hB), h.ele.trans (Ele.of_below hb)⟩
theorem Ow.comp {B : Nat} {w0 w w' : World} {v v' : Value} {xs ys : List Value} (h : Ow B w0 w v xs) (k : Ow B w w' v' ys) : Ow B w0 w' v' ys :=
  ⟨k.own, h.bel.trans k.bel, h.ele.trans k.ele⟩
theorem own_notE {w : World} {B n : Nat} {v : Value} {xs : List Value} (h : w.ownsRow B 5 1 v n xs) {k : Nat} {cs : Array Value} {fz : Nat × Nat} (hk : w.heap[k]? = some (Obj.cells cs 24 fz)) : some k ≠ v.ownBlock := by
  rcases h.2 with ⟨rfl, _⟩ | ⟨g, cap, cur, rfl, _, hg, _⟩
  · simp [Value.ownBlock]
  · intro e
    simp only [Value.ownBlock, Option.some.injEq] at e
    subst e
    rw [hg] at hk
    injection hk with hk
    injection hk with _ e2 _
    exact absurd e2 (by decide)
/-- one append -/
theorem Ow.app {B n : Nat} {w0 w w' : World} {v v' : Value} {xs ys : List Value} (h : Ow B w0 w v xs) (hB : B ≤ w.heap.size) (hg : w.grownBy w' v.ownBlock) (ho : w'.ownsRow B 5 1 v' n ys) : Ow B w0 w' v' ys := by
  refine ⟨?_, h.bel.grown hg hB (fun q hq => (h.own.lt q hq).1), h.ele.trans fun k cs fz e => ?_⟩
  · have : ys.length = n := by have := ho.1; omega
    rw [this]; exact ho
  · rw [hg.block k (Array.getElem?_eq_some_iff.1 e).1 (own_notE h.own e)]; exact e
theorem EB.app {w w' : World} {E B n : Nat} {b : ByteArray} {kv v : Value} {xs : List Value} (h : EB w E b kv) (hown : w.ownsRow B 5 1 v n xs) (hg : w.grownBy w' v.ownBlock) : EB w' E b kv := by
  obtain ⟨cs, h1, h2, h3⟩ := h
  exact ⟨cs, (hg.block E h1.lt (own_notE hown h1)).trans h1, h2, h3⟩
theorem EB.new_ {w : World} {E : Nat} {b : ByteArray} {kv : Value} (h : EB w E b kv) (o : Obj) : EB (w.alloc o) E b kv := h.below ((Below.refl _ _).alloc (Nat.le_refl _) o)
theorem Ow.new {B : Nat} {w0 w : World} {v : Value} {xs : List Value} (h : Ow B w0 w v xs) (hB : B ≤ w.heap.size) (o : Obj) : Ow B w0 (w.alloc o) v xs :=
  h.call ((Below.refl _ _).alloc (Nat.le_refl _) _) hB
/-- the bytes of a length as the walk leaves them -/
theorem lenV_1 {n : Nat} {x : Int} (h : x = (n : Int)) (h1 : x < 128) : Lib.strCells ⟨(lenL n).toArray⟩ = [.int .u8 x] := by
  rw [lenL_1 n (by omega)]
  simp only [Lib.strCells_eq, Lib.byteCells, List.map_cons, List.map_nil, UInt8.toNat_ofNat']
  congr 2
  omega
theorem lenV_2 {n : Nat} {x : Int} (h : x = (n : Int)) (h0 : ¬ x < 128) (h1 : x < 256) : Lib.strCells ⟨(lenL n).toArray⟩ = [.int .u8 129, .int .u8 x] := by
  rw [lenL_2 n (by omega) (by omega)]
  simp only [Lib.strCells_eq, Lib.byteCells, List.map_cons, List.map_nil, UInt8.toNat_ofNat']
  congr 3
  omega
theorem lenV_3 {n : Nat} {x : Int} (h : x = (n : Int)) (h0 : ¬ x < 256) (h1 : x < 65536) : Lib.strCells ⟨(lenL n).toArray⟩ = [.int .u8 130, .int .u8 (x / 256), .int .u8 (x % 256)] := by
  rw [lenL_3 n (by omega) (by omega)]
  simp only [Lib.strCells_eq, Lib.byteCells, List.map_cons, List.map_nil, UInt8.toNat_ofNat']
  congr 3
  · omega
  · congr 2
    omega
theorem lenV_4 {n : Nat} {x : Int} (h : x = (n : Int)) (h0 : ¬ x < 65536) (h1 : x ≤ 65536) : Lib.strCells ⟨(lenL n).toArray⟩ = [.int .u8 131, .int .u8 (x / 65536), .int .u8 (x / 256 % 256), .int .u8 (x % 256)] := by
  rw [lenL_4 n (by omega) (by omega)]
  simp only [Lib.strCells_eq, Lib.byteCells, List.map_cons, List.map_nil, UInt8.toNat_ofNat']
  have e1 : ((n / 65536 % 2 ^ 8 : Nat) : Int) = x / 65536 := by omega
  have e2 : ((n / 256 % 256 % 2 ^ 8 : Nat) : Int) = x / 256 % 256 := by omega
  have e3 : ((n % 256 % 2 ^ 8 : Nat) : Int) = x % 256 := by omega
  rw [e1, e2, e3]
  rfl
theorem u8_one (l : List Int) : ∀ u ∈ l.map (Value.int .u8), u.oneCell' = true := by
  intro u hu
  simp only [List.mem_map] at hu
  obtain ⟨x, _, rfl⟩ := hu
  rfl
set_option maxRecDepth 20000 in
set_option maxHeartbeats 1000000 in
theorem rput_elem {w : World} {ks : List El} {kv : Value} (h : KsAt w ks kv) : ∀ (m : Nat) (c t : Int) (k : Bool) (b : ByteArray) (w0 : World) (B : Nat) (bv : Value) (xs : List Value), Hid (Ber.Good m (.mk c t k b ks)) → w.heap.size ≤ B → B ≤ w0.heap.size → Below w.heap.size w w0 →
    Ow B w0 w0 bv xs → xs.length + esz m (.mk c t k b ks) ≤ 140737488355328 → 
    Calls Try.prog 51 #[bv, .agg #[.int .i64 c, .int .i64 t, .bool k, .string b, kv]] w0 fun e w' => ∃ v, e = .returned v ∧ Ow B w0 w' v (xs ++ Lib.byteCells (enc m (.mk c t k b ks))) := by
  induction h with
  | mk ks a cap g o f h1 h2 h3 h4 ih =>
  intro m c t k b w0 B bv xs hg hwB hBw0 hb hbu hlen
  obtain ⟨m, rfl⟩ := hg.out.pos
  have hk := h2.le
  have htg := tagOk_bd hg.out.tag
  have hf := hg.out.fits
  rw [esz_succ] at hf
  obtain ⟨t0, t1, t2, t3⟩ := htg
  simp only [El.c, El.t] at t0 t1 t2 t3
  have HI := Lib.hid ih
  have HK := Lib.hid (kid_at h3 h4)
  have H4 := Lib.hid h4
  have HB := Lib.hid hb
  have HU := Lib.hid hbu
  have HL := Lib.hid hlen
  have HF := Lib.hid hf
  clear ih h3 h4 h2 hb hbu hlen hf
  obtain ⟨x0, hx0⟩ : ∃ x : Int, ((fb (.mk c t k b ks)).toNat : Int) = x := ⟨_, rfl⟩
  have hx1 := fb_nat hg.out.tag
  rw [hx0] at hx1
  have hx2 : 0 ≤ x0 ∧ x0 ≤ 255 := by have := (fb (.mk c t k b ks)).toNat_lt; omega
  have hcsz : csz m (.mk c t k b ks) = b.size + (ks.map (esz m)).sum := rfl
  have hN : b.size + (ks.map (esz m)).sum ≤ 65536 := by have := HF.out; rw [hcsz] at this; omega
  have hT : xs.length + (1 + lenN (b.size + (ks.map (esz m)).sum) + (b.size + (ks.map (esz m)).sum)) ≤ 140737488355328 := by have := HL.out; rw [esz_succ, hcsz] at this; omega
  have HN := Lib.hid hN
  have H255 := Lib.hid hx2
  clear hx2
  have HT := Lib.hid hT
  have HSO : Hid (∀ j l x, lenL (b.size + (ks.map (esz m)).sum) = l → x0 = x → (xs ++ [.int .u8 x] ++ Lib.strCells ⟨l.toArray⟩ ++ Lib.strCells b = xs ++ Lib.byteCells (soFar m (.mk c t k b ks) 0)) ∧ (∀ hj : j < ks.length, xs ++ Lib.byteCells (soFar m (.mk c t k b ks) j) ++ Lib.byteCells (enc m ks[j]) = xs ++ Lib.byteCells (soFar m (.mk c t k b ks) (j + 1)))) :=
    Lib.hid (fun j l x hl hx => ⟨soFar_zero m (.mk c t k b ks) xs l x hl (hx0.trans hx), fun hj => soFar_push m (.mk c t k b ks) xs j hj⟩)
  have HSL : Hid (∀ j, (soFar m (.mk c t k b ks) j).length ≤ 1 + lenN (b.size + (ks.map (esz m)).sum) + (b.size + (ks.map (esz m)).sum)) := Lib.hid (fun j => soFar_le m (.mk c t k b ks) j)
  have HSE : Hid (soFar m (.mk c t k b ks) ks.length = enc (m + 1) (.mk c t k b ks)) := Lib.hid (soFar_end m (.mk c t k b ks))
  obtain ⟨SF, hSF⟩ : ∃ SF, soFar m (.mk c t k b ks) = SF := ⟨_, rfl⟩
  rw [hSF] at HSO HSL HSE
  clear hcsz hN hT hSF
  have HX := Lib.hid hx0
  have HX1 : Hid (x0 = 64 * c + kz k + t) := Lib.hid hx1
  clear hx0 hx1
  go_enter Try.func51, Try.ntmps51
  go_upto_if 16 with fail
  go_cut [5] (fun s5 wx => s5 = .int .i64 x0 ∧ wx = w0.alloc (.cells #[.int .i64 c, .int .i64 t, .bool k, .string b, .slice a ks.length cap] 24))
  case first =>
    cases k
    · go_wp2_with fail
      go_meet
      exact ⟨by rw [HX1.out]; simp [kz], rfl⟩
    · go_wp2_with fail
      go_meet
      exact ⟨by rw [HX1.out]; simp [kz]; omega, rfl⟩
  case rest =>
  obtain ⟨rfl, rfl⟩ := hcut
  go_wp2_with fail
  go_loopw [6, 7] (fun n i w2 => ∃ (j : Nat) (x : Int), j ≤ ks.length ∧ i = .int .i64 j ∧ n = .int .i64 x ∧ 0 ≤ x ∧ x ≤ 65536 ∧ Hid ((b.size : Int) + (((ks.take j).map (esz m)).sum : Nat) = x) ∧ Hid (EB w2 w0.heap.size b (.slice a ks.length cap)) ∧ Below w0.heap.size w0 w2) (fun _ i _ => ks.length - (intOf i).toNat)
  case atStart => exact ⟨0, b.size, Nat.zero_le _, rfl, rfl, by omega, by have := HN.out; omega, Lib.hid (by simp), Lib.hid (EB.new w0 _ _ _ b _), (Below.refl _ _).alloc (Nat.le_refl _) _⟩
  case round w2 =>
    obtain ⟨j, x, hj, rfl, rfl, hx0, hx1, HJ, HE, hbel⟩ := hrel
    have he3 := HE.out.c3
    have he4 := HE.out.c4
    by_cases hlt : j < ks.length
    · obtain ⟨kc, kt, kk, kb, a2, n2, cap2, rfl, hgl, hf, he, hfj, hn2, hc⟩ := HK.out j hlt
      have hS := rsize_any (H4.out j hlt) m kc kt kk kb
      have hkid : Ber.Good m ks[j] := hg.out.kid (List.getElem_mem hlt)
      rw [hfj, ← he] at hS
      obtain ⟨c0, c1, c2, c3, c4⟩ := hc.later (HB.out.trans (hbel.mono HB.out.size)) hgl
      have hs1 := sum_snoc m ks j hlt
      have hs2 := sum_take_le m ks (j + 1)
      have HS1 := Lib.hid hs1
      have hx2 : x + (esz m ks[j] : Nat) ≤ 65536 := by have := HJ.out; have := HN.out; omega
      have HX2 := Lib.hid hx2
      have Hc := Lib.hid hc
      have HSS := Lib.hid hS
      have HBB := Lib.hid hbel
      have Hf := Lib.hid hf
      have Hd : Hid (deepIn m ks[j] = false) := Lib.hid hkid.flat
      have hs := hbel.size
      clear hc he hfj hn2 hS hbel hf hkid hs1 hs2 hx2
      go_wp2_with fail
      (with_reducible refine (HSS.out _ Hf.out Hd (HB.out.trans (HBB.out.mono HB.out.size))).mono ?_)
      rintro e w3 ⟨⟨y, rfl, hy⟩, hb3⟩
      have hyv : y = ((esz m ks[j] : Nat) : Int) := hy.ok (by have := HX2.out; omega)
      have hy1 : x + y ≤ 65536 := by have := HX2.out; omega
      have hy0 : 0 ≤ y := by omega
      have HY := Lib.hid hyv
      clear hy hyv
      go_wp2_with fail
      go_roundw
      case rel => exact ⟨j + 1, x + y, by omega, by go_num, rfl, by omega, by omega, Lib.hid (by have := HS1.out; have := HY.out; have := HJ.out; omega), Lib.hid (HE.out.below hb3), HBB.out.trans (hb3.mono hs)⟩
      case measure => simp [intOf]; omega
    · obtain rfl : j = ks.length := by omega
      have hcs : x = ((b.size + (ks.map (esz m)).sum : Nat) : Int) := by
        have := HJ.out
        rw [List.take_length] at this
        omega
      have HXc := Lib.hid hcs
      have hu2 := HU.out.call hbel hBw0
      have HU2 := Lib.hid hu2
      have hs := hbel.size
      have hBr : B ≤ wr.heap.size := by omega
      have hT := HT.out
      have hbd := lenN_bd (b.size + (ks.map (esz m)).sum)
      have n1 : xs.length + 1 ≤ 140737488355328 := by omega
      have n2 : xs.length + 1 + lenN (b.size + (ks.map (esz m)).sum) ≤ 140737488355328 := by omega
      have N1 := Lib.hid n1
      have N2 := Lib.hid n2
      have H00 := Lib.hid (Int.emod_eq_of_lt H255.out.1 (by have := H255.out; omega) : x0 % 256 = x0)
      have h00 := H00.out
      obtain ⟨i0, hi, hz0, hz1, hz2⟩ := info_parts byte_info
      have Hi := Lib.hid hi
      have Hz0 := Lib.hid hz0
      have Hz1 := Lib.hid hz1
      have Hz2 := Lib.hid hz2
      clear hi hz0 hz1 hz2
      clear hcs hu2 hbel hT hbd n1 n2
      go_upto_block 2 with (at_builtin; refine wpList_append_own _ rfl _ _ 54 rfl B 5 i0 (.int .u8 0) 1 1 Try.underlying54 Hi.out Hz0.out Hz1.out Hz2.out rfl (by decide) _ _ _ rfl (HU2.out.own.alloc _) ⟨wr.heap.size, 0, none⟩ 1 1 ([x0].map (Value.int .u8)) rfl rfl ?c1 ?c2 ?c3 ?c4 ?c5 ?_)
      case c1 => exact new_row _ _ rfl _ _ _ rfl
      case c2 => exact u8_one _
      case c3 => have := N1.out; unfold maxLen; omega
      case c4 => have := N1.out; omega
      case c5 => simp; omega
      intro v3 w3 hown3 hgrow3 _
      have HU3 := Lib.hid ((HU2.out.new hBr _).app (by simp; omega) hgrow3 hown3)
      have hs3 : wr.heap.size ≤ w3.heap.size := by have := hgrow3.size; simp at this; omega
      have HE3 := Lib.hid ((HE.out.new_ (.cells #[.int .u8 x0] 5)).app (HU2.out.own.alloc _) hgrow3)
      clear hown3 hgrow3 h00 he3 he4
      have hBr3 : B ≤ w3.heap.size := by omega
      have HXN : Hid (x = ((b.size + (ks.map (esz m)).sum : Nat) : Int)) := HXc
      go_upto_block 2 with fail
      go_cut [0] (fun s0 wx => Hid (Ow B w0 wx s0 (xs ++ [.int .u8 x0] ++ Lib.strCells ⟨(lenL (b.size + (ks.map (esz m)).sum)).toArray⟩)) ∧ Hid (EB wx w0.heap.size b (.slice a ks.length cap)) ∧ w0.heap.size ≤ wx.heap.size)
      case first =>
        by_cases q1 : x < 128
        · have x1 : x % 256 = x := by omega
          have HQ := Lib.hid (lenV_1 HXN.out q1)
          have e2 : lenN (b.size + (ks.map (esz m)).sum) = 1 := by have := HXN.out; unfold lenN; rw [if_pos (by omega)]
          have n2 : xs.length + 1 + 1 ≤ 140737488355328 := by have := N2.out; omega
          have N3 := Lib.hid n2
          clear e2 n2
          go_wp2_with (at_builtin; refine wpList_append_own _ rfl _ _ 54 rfl B 5 i0 (.int .u8 0) 1 1 Try.underlying54 Hi.out Hz0.out Hz1.out Hz2.out rfl (by decide) _ _ _ rfl (HU3.out.own.alloc _) ⟨w3.heap.size, 0, none⟩ 1 1 ([x].map (Value.int .u8)) rfl rfl (new_row _ _ rfl _ _ _ rfl) (u8_one _) ?c3 ?c4 ?c5 ?_)
          case c3 => have := N3.out; unfold maxLen; simp; omega
          case c4 => have := N3.out; simp; omega
          case c5 => first | (simp; omega) | omega
          intro v4 w4 hown4 hgrow4 _
          have HU4 := Lib.hid ((HU3.out.new hBr3 _).app (by simp; omega) hgrow4 hown4)
          have hs4 : w3.heap.size ≤ w4.heap.size := by have := hgrow4.size; simp at this; omega
          have HE4 := Lib.hid ((HE3.out.new_ _).app (HU3.out.own.alloc _) hgrow4)
          clear hown4 hgrow4
          go_wp2_with fail
          go_meet
          exact ⟨Lib.hid (HU4.out.eq_ (by rw [HQ.out]; simp)), HE4, by omega⟩
        by_cases q2 : x < 256
        · have x1 : x % 256 = x := by omega
          have HQ := Lib.hid (lenV_2 HXN.out q1 q2)
          have e2 : lenN (b.size + (ks.map (esz m)).sum) = 2 := by have := HXN.out; unfold lenN; rw [if_neg (by omega), if_pos (by omega)]
          have n2 : xs.length + 1 + 2 ≤ 140737488355328 := by have := N2.out; omega
          have N3 := Lib.hid n2
          clear e2 n2
          go_wp2_with (at_builtin; refine wpList_append_own _ rfl _ _ 54 rfl B 5 i0 (.int .u8 0) 1 1 Try.underlying54 Hi.out Hz0.out Hz1.out Hz2.out rfl (by decide) _ _ _ rfl (HU3.out.own.alloc _) ⟨w3.heap.size, 0, none⟩ 2 2 ([129, x].map (Value.int .u8)) rfl rfl (new_row _ _ rfl _ _ _ rfl) (u8_one _) ?c3 ?c4 ?c5 ?_)
          case c3 => have := N3.out; unfold maxLen; simp; omega
          case c4 => have := N3.out; simp; omega
          case c5 => first | (simp; omega) | omega
          intro v4 w4 hown4 hgrow4 _
          have HU4 := Lib.hid ((HU3.out.new hBr3 _).app (by simp; omega) hgrow4 hown4)
          have hs4 : w3.heap.size ≤ w4.heap.size := by have := hgrow4.size; simp at this; omega
          have HE4 := Lib.hid ((HE3.out.new_ _).app (HU3.out.own.alloc _) hgrow4)
          clear hown4 hgrow4
          go_wp2_with fail
          go_meet
          exact ⟨Lib.hid (HU4.out.eq_ (by rw [HQ.out]; simp)), HE4, by omega⟩
        by_cases q3 : x < 65536
        · have x1 : x / 256 % 256 = x / 256 := by omega
          have HQ := Lib.hid (lenV_3 HXN.out q2 q3)
          have e2 : lenN (b.size + (ks.map (esz m)).sum) = 3 := by have := HXN.out; unfold lenN; rw [if_neg (by omega), if_neg (by omega), if_pos (by omega)]
          have n2 : xs.length + 1 + 3 ≤ 140737488355328 := by have := N2.out; omega
          have N3 := Lib.hid n2
          clear e2 n2
          go_wp2_with (at_builtin; refine wpList_append_own _ rfl _ _ 54 rfl B 5 i0 (.int .u8 0) 1 1 Try.underlying54 Hi.out Hz0.out Hz1.out Hz2.out rfl (by decide) _ _ _ rfl (HU3.out.own.alloc _) ⟨w3.heap.size, 0, none⟩ 3 3 ([130, (x / 256), (x % 256)].map (Value.int .u8)) rfl rfl (new_row _ _ rfl _ _ _ rfl) (u8_one _) ?c3 ?c4 ?c5 ?_)
          case c3 => have := N3.out; unfold maxLen; simp; omega
          case c4 => have := N3.out; simp; omega
          case c5 => first | (simp; omega) | omega
          intro v4 w4 hown4 hgrow4 _
          have HU4 := Lib.hid ((HU3.out.new hBr3 _).app (by simp; omega) hgrow4 hown4)
          have hs4 : w3.heap.size ≤ w4.heap.size := by have := hgrow4.size; simp at this; omega
          have HE4 := Lib.hid ((HE3.out.new_ _).app (HU3.out.own.alloc _) hgrow4)
          clear hown4 hgrow4
          go_wp2_with fail
          go_meet
          exact ⟨Lib.hid (HU4.out.eq_ (by rw [HQ.out]; simp)), HE4, by omega⟩
        have x1 : x / 65536 % 256 = x / 65536 := by omega
        have HQ := Lib.hid (lenV_4 HXN.out q3 hx1)
        have e2 : lenN (b.size + (ks.map (esz m)).sum) = 4 := by have := HXN.out; unfold lenN; rw [if_neg (by omega), if_neg (by omega), if_neg (by omega)]
        have n2 : xs.length + 1 + 4 ≤ 140737488355328 := by have := N2.out; omega
        have N3 := Lib.hid n2
        clear e2 n2
        go_wp2_with (at_builtin; refine wpList_append_own _ rfl _ _ 54 rfl B 5 i0 (.int .u8 0) 1 1 Try.underlying54 Hi.out Hz0.out Hz1.out Hz2.out rfl (by decide) _ _ _ rfl (HU3.out.own.alloc _) ⟨w3.heap.size, 0, none⟩ 4 4 ([131, (x / 65536), (x / 256 % 256), (x % 256)].map (Value.int .u8)) rfl rfl (new_row _ _ rfl _ _ _ rfl) (u8_one _) ?c3 ?c4 ?c5 ?_)
        case c3 => have := N3.out; unfold maxLen; simp; omega
        case c4 => have := N3.out; simp; omega
        case c5 => first | (simp; omega) | omega
        intro v4 w4 hown4 hgrow4 _
        have HU4 := Lib.hid ((HU3.out.new hBr3 _).app (by simp; omega) hgrow4 hown4)
        have hs4 : w3.heap.size ≤ w4.heap.size := by have := hgrow4.size; simp at this; omega
        have HE4 := Lib.hid ((HE3.out.new_ _).app (HU3.out.own.alloc _) hgrow4)
        clear hown4 hgrow4
        go_wp2_with fail
        go_meet
        exact ⟨Lib.hid (HU4.out.eq_ (by rw [HQ.out]; simp)), HE4, by omega⟩
      case rest =>
      obtain ⟨HU5, HE5, hs5⟩ := hcut
      have he5 := HE5.out.c3
      have hBr5 : B ≤ wc.heap.size := by omega
      have n5 : (xs ++ [Value.int .u8 x0] ++ Lib.strCells ⟨(lenL (b.size + (ks.map (esz m)).sum)).toArray⟩).length + b.size ≤ 140737488355328 := by
        have := HT.out
        have h2 := lenL_length (b.size + (ks.map (esz m)).sum)
        simp only [List.length_append, List.length_singleton, Lib.strCells_length, ba_size, h2]
        omega
      have N5 := Lib.hid n5
      clear n5
      go_wp2_with (at_builtin; refine Lib.wpList_append_own_string _ rfl _ _ 54 9 rfl B 5 i0 Try.underlying54 Try.underlying9 Hi.out Hz0.out Hz1.out Hz2.out _ _ _ rfl HU5.out.own b rfl ?c3 ?c4 ?c5 ?_)
      case c3 => have := N5.out; unfold maxLen; omega
      case c4 => exact N5.out
      case c5 => exact hBr5
      intro v6 w6 hown6 hgrow6 _
      have HU6 := Lib.hid (Ow.eq_ (ys := xs ++ Lib.byteCells (SF 0)) (HU5.out.app hBr5 hgrow6 hown6) (by have := (HSO.out 0 _ x0 rfl rfl).1; rw [← this]; simp))
      have hs6 := hgrow6.size
      have HE6 := Lib.hid (HE5.out.app HU5.out.own hgrow6)
      clear hown6 hgrow6 he5
      go_wp2_with fail
      go_loopw [0, 8] (fun v i w7 => ∃ j : Nat, j ≤ ks.length ∧ i = .int .i64 j ∧ Hid (Ow B w0 w7 v (xs ++ Lib.byteCells (SF j))) ∧ Hid (EB w7 w0.heap.size b (.slice a ks.length cap)) ∧ w0.heap.size ≤ w7.heap.size) (fun _ i _ => ks.length - (intOf i).toNat)
      case atStart => exact ⟨0, Nat.zero_le _, rfl, HU6, HE6, by omega⟩
      case round =>
        obtain ⟨j, hj, rfl, HJ7, HE7, hs7⟩ := hrel
        have he4 := HE7.out.c4
        have hBr7 : B ≤ wr.heap.size := by omega
        by_cases hlt : j < ks.length
        · obtain ⟨kc, kt, kk, kb, a2, n2, cap2, rfl, hgl, hf, he, hfj, hn2, hc⟩ := HK.out j hlt
          have hI := HI.out j hlt m kc kt kk kb
          have hkid : Ber.Good m ks[j] := hg.out.kid (List.getElem_mem hlt)
          rw [hfj, ← he] at hI
          have hbw : Below w.heap.size w wr := HB.out.trans (HJ7.out.bel.mono hwB)
          obtain ⟨c0, c1, c2, c3, c4⟩ := hc.later hbw hgl
          have hst := (HSO.out j _ x0 rfl rfl).2 hlt
          have hln := congrArg List.length hst
          simp only [List.length_append, bytes_length, enc_length] at hln
          have hsl := HSL.out (j + 1)
          have hTT := HT.out
          have hlen2 : (xs ++ Lib.byteCells (SF j)).length + esz m ks[j] ≤ 140737488355328 := by
            rw [List.length_append, bytes_length]
            omega
          have HST := Lib.hid hst
          have HI2 := Lib.hid hI
          have HK2 := Lib.hid hkid
          have HBW := Lib.hid hbw
          have HL2 := Lib.hid hlen2
          clear hst hln hsl hTT hlen2 hI hkid hc he hfj hn2 hbw
          go_wp2_with fail
          (with_reducible refine (HI2.out wr B _ _ HK2 hwB hBr7 HBW.out ⟨HJ7.out.own, Below.refl _ _, Ele.of_below (Below.refl _ _)⟩ HL2.out).mono ?_)
          rintro e w8 ⟨v8, rfl, hu8⟩
          have HU8 := Lib.hid ((HJ7.out.comp hu8).eq_ HST.out)
          have hs8 := hu8.bel.size
          have HE8 := Lib.hid (HE7.out.ele hu8.ele)
          clear hu8
          go_wp2_with fail
          go_roundw
          case rel => exact ⟨j + 1, by omega, by go_num, HU8, HE8, by omega⟩
          case measure => simp [intOf]; omega
        · obtain rfl : j = ks.length := by omega
          go_wp2_with fail
          go_ret
          exact ⟨_, rfl, HJ7.out.eq_ (by rw [HSE.out])⟩
/-- put's contract as rWrite_of wants it -/
theorem put_gives {w : World} {ks : List El} {kv : Value} (h : KsAt w ks kv) (c t : Int) (k : Bool) (b : ByteArray) (hg : Ber.Good 20 (.mk c t k b ks)) : PutGives w c t k b ks kv := by
  intro w0 hb
  refine (rput_elem h 20 c t k b w0 w0.heap.size (.slice none 0 0) [] (Lib.hid hg) hb.size (Nat.le_refl _) hb (Ow.nil w0) (by have := hg.fits; simp; omega)).mono ?_
  rintro e w' ⟨v, rfl, ho⟩
  exact ⟨⟨v, _, rfl, ho.own⟩, ho.bel⟩
/-- chanceryref2.Write -/
theorem rWrite_any {w : World} {ks : List El} {kv : Value} (h : KsAt w ks kv) (c t : Int) (k : Bool) (b : ByteArray) (w0 : World) (hfb : Few b.size) (hb : Below w.heap.size w w0) :
    Calls Try.prog 16 #[.agg #[.int .i64 c, .int .i64 t, .bool k, .string b, kv]] w0 fun e w' => e = .returned (wrV (.mk c t k b ks)) ∧ Below w0.heap.size w0 w' :=
  rWrite_of h c t k b w0 hfb hb (Lib.hid (put_gives h c t k b))
end Go.Proofs.Ytejnfnpcabldeaa
