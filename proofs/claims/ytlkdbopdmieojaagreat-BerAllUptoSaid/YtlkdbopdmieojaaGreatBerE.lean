/- The contract of ber.put. -/
import Derived.Test.YtlkdbopdmieojaaGreatBerD
import Derived.Test.YtlkdbopdmieojaaGreatBerW
namespace Go.Proofs.YtlkdbopdmieojaaGreat
open Go.RowKit Ber
set_option maxRecDepth 20000
theorem Bu.below {B b : Nat} {bs : List Value} {w w' : World} (h : Bu B b bs w) (hb : Below w.heap.size w w') : Bu B b bs w' := by
  have key : ∀ p, Lib.BuilderAt 114 5 B b p bs w → Lib.BuilderAt 114 5 B b p bs w' := by
    rintro p ⟨hB, v, hbk, hown, hne⟩
    have hlt : b < w.heap.size := (Array.getElem?_eq_some_iff.1 hbk).1
    refine ⟨hB, v, (hb.block b hlt).trans hbk, ⟨hown.1, ?_⟩, hne⟩
    rcases hown.2 with hn | ⟨g, cap, cur, hv, hbg, hg, rest⟩
    · exact .inl hn
    · have hlg : g < w.heap.size := (Array.getElem?_eq_some_iff.1 hg).1
      exact .inr ⟨g, cap, cur, hv, hbg, (hb.block g hlg).trans hg, rest⟩
  exact h.elim (fun x => .inl (key _ x)) (fun x => .inr (key _ x))
theorem Oth.below {b : Nat} {w w' : World} (hb : Below w.heap.size w w') : Oth b w w' := fun k _ hk _ _ => (hb.block k (Array.getElem?_eq_some_iff.1 hk).1).trans hk
theorem Oth.trans {b : Nat} {w w' w'' : World} (h : Oth b w w') (k : Oth b w' w'') : Oth b w w'' := Lib.OthersKept.trans h k
theorem Blk.oth {b g : Nat} {w w' : World} {cs : Array Value} (h : Blk w g 47 cs) (k : Oth b w w') (hne : g ≠ b) : Blk w' g 47 cs :=
  k g _ h (fun e => hne (Option.some.inj e)) (fun c fz e => by injection e with _ e2 _; exact absurd e2 (by decide))
theorem Bu.eq_ {B b : Nat} {bs bs' : List Value} {w : World} (h : Bu B b bs w) (e : bs = bs') : Bu B b bs' w := e ▸ h
theorem Bu.lt {B b : Nat} {bs : List Value} {w : World} (h : Bu B b bs w) : b < w.heap.size := h.elim (·.lt) (·.lt)
theorem Bu.ge {B b : Nat} {bs : List Value} {w : World} (h : Bu B b bs w) : B ≤ b := h.elim (·.1) (·.1)
/-- the first byte, as the walk leaves it -/
theorem first_prim (c t : Int) (h0 : 0 ≤ c) (h1 : c ≤ 3) (h2 : 0 ≤ t) (h3 : t ≤ 30) : bits .or .i64 (c * 64) t = c * 64 + t := by
  refine bits_join .i64 63 (by decide) (fun n h0 h1 => ?_) 6 (c * 64) t (by omega) (by omega) (by omega) (by omega) (by omega) (by omega)
  rw [IntKind.wrap_i64]; omega
theorem first_cons (c t : Int) (h0 : 0 ≤ c) (h1 : c ≤ 3) (h2 : 0 ≤ t) (h3 : t ≤ 30) : bits .or .i64 (c * 64 + t) 32 = c * 64 + t + 32 := by
  have : ∀ x : Fin 4, ∀ y : Fin 31, bits .or .i64 ((x.val : Int) * 64 + (y.val : Int)) 32 = (x.val : Int) * 64 + (y.val : Int) + 32 := by decide +kernel
  have := this ⟨c.toNat, by omega⟩ ⟨t.toNat, by omega⟩
  simpa [Int.toNat_of_nonneg h0, Int.toNat_of_nonneg h2] using this
/-- an element's own block: its bytes and its list -/
def EB (w : World) (E : Nat) (b : ByteArray) (kv : Value) : Prop := ∃ cs, Blk w E 47 cs ∧ cs[3]? = some (.string b) ∧ cs[4]? = some kv
theorem EB.below {w w' : World} {E : Nat} {b : ByteArray} {kv : Value} (h : EB w E b kv) (hb : Below w.heap.size w w') : EB w' E b kv := by
  obtain ⟨cs, h1, h2, h3⟩ := h
  exact ⟨cs, h1.below hb h1.lt, h2, h3⟩
theorem EB.oth {w w' : World} {E bb : Nat} {b : ByteArray} {kv : Value} (h : EB w E b kv) (k : Oth bb w w') (hne : E ≠ bb) : EB w' E b kv := by
  obtain ⟨cs, h1, h2, h3⟩ := h
  exact ⟨cs, h1.oth k hne, h2, h3⟩
theorem EB.c3 {w : World} {E : Nat} {b : ByteArray} {kv : Value} (h : EB w E b kv) : w.cell? ⟨E, 3, none⟩ = some (.string b) := by
  obtain ⟨cs, h1, h2, h3⟩ := h
  rw [h1.cell, h2]
theorem EB.c4 {w : World} {E : Nat} {b : ByteArray} {kv : Value} (h : EB w E b kv) : w.cell? ⟨E, 4, none⟩ = some kv := by
  obtain ⟨cs, h1, h2, h3⟩ := h
  rw [h1.cell, h3]
theorem EB.new (w : World) (c t k : Value) (b : ByteArray) (kv : Value) : EB (w.alloc (.cells #[c, t, k, .string b, kv] 47)) w.heap.size b kv := ⟨_, Blk.new w _ _, rfl, rfl⟩
theorem ba_size (l : List UInt8) : (⟨l.toArray⟩ : ByteArray).size = l.length := rfl
theorem psz_good {m : Nat} {e : El} (h : Ber.Good m e) : psz m e = (esz m e : Nat) := by unfold psz; have := h.fits; omega
/-- what has been written behind j kids -/
def soFar (m : Nat) (e : El) (j : Nat) : List UInt8 := fb e :: (lenL (csz m e) ++ (e.b.data.toList ++ ((e.ks.take j).map (enc m)).flatten))
theorem soFar_step (m : Nat) (e : El) (j : Nat) (h : j < e.ks.length) : soFar m e j ++ enc m e.ks[j] = soFar m e (j + 1) := by
  unfold soFar
  rw [List.take_succ_eq_append_getElem h, List.map_append, List.flatten_append]
  simp
theorem soFar_end (m : Nat) (e : El) : soFar m e e.ks.length = enc (m + 1) e := by
  rw [enc_succ, soFar, List.take_length]
theorem soFar_le (m : Nat) (e : El) (j : Nat) : (soFar m e j).length ≤ esz (m + 1) e := by
  rw [← enc_length, ← soFar_end]
  unfold soFar
  simp only [List.length_cons, List.length_append]
  have : ((List.take j e.ks).map (enc m)).flatten.length ≤ ((List.take e.ks.length e.ks).map (enc m)).flatten.length := by
    rw [List.take_length, flat_length _ _ (enc_length m), flat_length _ _ (enc_length m)]
    conv => rhs; rw [← List.take_append_drop j e.ks]
    rw [List.map_append, List.sum_append]
    omega
  omega
theorem bytes_append (a b : List UInt8) : Lib.byteCells (a ++ b) = Lib.byteCells a ++ Lib.byteCells b := by simp [Lib.byteCells]
theorem bytes_length (a : List UInt8) : (Lib.byteCells a).length = a.length := by simp [Lib.byteCells]
theorem soFar_zero (m : Nat) (e : El) (bs : List Value) (l : List UInt8) (x : Int) (hl : lenL (csz m e) = l) (hx : ((fb e).toNat : Int) = x) : bs ++ [.int .u8 x] ++ Lib.strCells ⟨l.toArray⟩ ++ Lib.strCells e.b = bs ++ Lib.byteCells (soFar m e 0) := by
  subst hl hx
  unfold soFar
  rw [show Lib.strCells ⟨(lenL (csz m e)).toArray⟩ = Lib.byteCells (lenL (csz m e)) from rfl, Lib.strCells_eq]
  simp [Lib.byteCells]
theorem soFar_push (m : Nat) (e : El) (bs : List Value) (j : Nat) (h : j < e.ks.length) : bs ++ Lib.byteCells (soFar m e j) ++ Lib.byteCells (enc m e.ks[j]) = bs ++ Lib.byteCells (soFar m e (j + 1)) := by
  rw [← soFar_step m e j h, bytes_append, List.append_assoc]
theorem sum_take_le (m : Nat) (ks : List El) (j : Nat) : ((ks.take j).map (esz m)).sum ≤ (ks.map (esz m)).sum := by
  conv => rhs; rw [← List.take_append_drop j ks]
  rw [List.map_append, List.sum_append]
  omega
def kz (k : Bool) : Int := if k then 32 else 0
set_option maxHeartbeats 1000000 in
theorem put_elem {w : World} {ks : List El} {kv : Value} (h : KsAt w ks kv) : ∀ (m : Nat) (c t : Int) (k : Bool) (b : ByteArray) (w0 : World) (B bb : Nat) (bs : List Value), Hid (Ber.Good m (.mk c t k b ks)) → w.heap.size ≤ B → Below w.heap.size w w0 →
    Bu B bb bs w0 → bs.length + esz m (.mk c t k b ks) ≤ 140737488355328 →
    Calls Tryz.prog 100 #[.pointer (some ⟨bb, 0, none⟩), .agg #[.int .i64 c, .int .i64 t, .bool k, .string b, kv]] w0 fun e w' => e = .returned (.tuple #[]) ∧ Bu B bb (bs ++ Lib.byteCells (enc m (.mk c t k b ks))) w' ∧ Below B w0 w' ∧ Oth bb w0 w' := by
  induction h with
  | mk ks a cap g o f h1 h2 h3 h4 ih =>
  intro m c t k b w0 B bb bs hg hwB hb hbu hlen
  obtain ⟨m, rfl⟩ := hg.out.pos
  have hk := h2.le
  have htg := tagOk_bd hg.out.tag
  have hf := hg.out.fits
  rw [esz_succ] at hf
  obtain ⟨t0, t1, t2, t3⟩ := htg
  simp only [El.c, El.t] at t0 t1 t2 t3
  have HI := Lib.hid ih
  have HK := Lib.hid (kid_at h3 h4)
  have H4 := Lib.hid h4
  have HB := Lib.hid hb
  have HU := Lib.hid hbu
  have HL := Lib.hid hlen
  have HF := Lib.hid hf
  have f1 := first_prim c t t0 t1 t2 t3
  have f2 := first_cons c t t0 t1 t2 t3
  clear ih h3 h4 h2 hb hbu hlen hf
  obtain ⟨x0, hx0⟩ : ∃ x : Int, ((fb (.mk c t k b ks)).toNat : Int) = x := ⟨_, rfl⟩
  have hx1 := fb_nat hg.out.tag
  rw [hx0] at hx1
  have hcsz : csz m (.mk c t k b ks) = b.size + (ks.map (esz m)).sum := rfl
  have hN : b.size + (ks.map (esz m)).sum ≤ 65536 := by have := HF.out; rw [hcsz] at this; omega
  have hT : bs.length + (1 + lenN (b.size + (ks.map (esz m)).sum) + (b.size + (ks.map (esz m)).sum)) ≤ 140737488355328 := by have := HL.out; rw [esz_succ, hcsz] at this; omega
  have HN := Lib.hid hN
  have HT := Lib.hid hT
  have HSO : Hid (∀ j l x, lenL (b.size + (ks.map (esz m)).sum) = l → x0 = x → (bs ++ [.int .u8 x] ++ Lib.strCells ⟨l.toArray⟩ ++ Lib.strCells b = bs ++ Lib.byteCells (soFar m (.mk c t k b ks) 0)) ∧ (∀ hj : j < ks.length, bs ++ Lib.byteCells (soFar m (.mk c t k b ks) j) ++ Lib.byteCells (enc m ks[j]) = bs ++ Lib.byteCells (soFar m (.mk c t k b ks) (j + 1)))) :=
    Lib.hid (fun j l x hl hx => ⟨soFar_zero m (.mk c t k b ks) bs l x hl (hx0.trans hx), fun hj => soFar_push m (.mk c t k b ks) bs j hj⟩)
  have HSL : Hid (∀ j, (soFar m (.mk c t k b ks) j).length ≤ 1 + lenN (b.size + (ks.map (esz m)).sum) + (b.size + (ks.map (esz m)).sum)) := Lib.hid (fun j => soFar_le m (.mk c t k b ks) j)
  have HSE : Hid (soFar m (.mk c t k b ks) ks.length = enc (m + 1) (.mk c t k b ks)) := Lib.hid (soFar_end m (.mk c t k b ks))
  obtain ⟨SF, hSF⟩ : ∃ SF, soFar m (.mk c t k b ks) = SF := ⟨_, rfl⟩
  rw [hSF] at HSO HSL HSE
  clear hcsz hN hT hSF
  have HX := Lib.hid hx0
  have HX1 : Hid (x0 = 64 * c + kz k + t) := Lib.hid hx1
  clear hx0 hx1
  have hEb : w0.heap.size ≠ bb := by have := HU.out.lt; omega
  have hBw0 : B ≤ w0.heap.size := by have := HU.out.lt; have := HU.out.ge; omega
  cases k
  all_goals
    go_enter Tryz.func100, Tryz.ntmps100
    go_wp2_with fail
    go_loopw [5, 26] (fun n i w2 => ∃ (j : Nat) (x : Int), j ≤ ks.length ∧ i = .int .i64 j ∧ n = .int .i64 x ∧ 0 ≤ x ∧ x ≤ 65536 ∧ Hid ((b.size : Int) + (((ks.take j).map (esz m)).sum : Nat) = x) ∧ Hid (EB w2 w0.heap.size b (.slice a ks.length cap)) ∧ Below w0.heap.size w0 w2) (fun _ i _ => ks.length - (intOf i).toNat)
    case atStart => exact ⟨0, b.size, Nat.zero_le _, rfl, rfl, by omega, by have := HN.out; omega, Lib.hid (by simp), Lib.hid (EB.new w0 _ _ _ b _), (Below.refl _ _).alloc (Nat.le_refl _) _⟩
    case round w2 =>
      obtain ⟨j, x, hj, rfl, rfl, hx0, hx1, HJ, HE, hbel⟩ := hrel
      by_cases hlt : j < ks.length
      · obtain ⟨kc, kt, kk, kb, a2, n2, cap2, rfl, hgl, hf, he, hfj, hn2, hc⟩ := HK.out j hlt
        have hS := size_any (H4.out j hlt) m kc kt kk kb
        have hkid : Ber.Good m ks[j] := hg.out.kid (List.getElem_mem hlt)
        rw [hfj, ← he, psz_good hkid] at hS
        obtain ⟨c0, c1, c2, c3, c4⟩ := hc.later (HB.out.trans (hbel.mono HB.out.size)) hgl
        have hs1 := sum_snoc m ks j hlt
        have hs2 := sum_take_le m ks (j + 1)
        have HS1 := Lib.hid hs1
        have hx2 : x + (esz m ks[j] : Nat) ≤ 65536 := by have := HJ.out; have := HN.out; omega
        obtain ⟨y, hy⟩ : ∃ y : Int, ((esz m ks[j] : Nat) : Int) = y := ⟨_, rfl⟩
        rw [hy] at hS hx2
        have hy0 : 0 ≤ y := by omega
        have HY := Lib.hid hy
        have Hc := Lib.hid hc
        have HSS := Lib.hid hS
        have HBB := Lib.hid hbel
        have Hf := Lib.hid hf
        have Hd := Lib.hid hkid.flat
        have hs := hbel.size
        clear hc he hfj hn2 hS hbel hf hy hkid hs1 hs2
        go_wp2_with fail
        (with_reducible refine (HSS.out _ Hf.out Hd ((HB.out.trans (HBB.out.mono HB.out.size)).trans ((Below.refl _ _).alloc (by have := HB.out.size; omega) _)) y (Lib.hid rfl)).mono ?_)
        rintro e w3 ⟨rfl, hb3⟩
        go_wp2_with fail
        go_roundw
        case rel => exact ⟨j + 1, x + y, by omega, by go_num, rfl, by omega, by omega, Lib.hid (by have := HS1.out; have := HY.out; have := HJ.out; omega), Lib.hid (HE.out.below (((Below.refl _ _).alloc (Nat.le_refl _) _).trans (hb3.mono (by simp)))), HBB.out.trans (((Below.refl _ _).alloc hs _).trans (hb3.mono (by simp; omega)))⟩
        case measure => simp [intOf]; omega
      · obtain rfl : j = ks.length := by omega
        have hu2 := HU.out.below hbel
        have hs := hbel.size
        have hcs : x = ((b.size + (ks.map (esz m)).sum : Nat) : Int) := by
          have := HJ.out
          rw [List.take_length] at this
          omega
        have HXc := Lib.hid hcs
        clear hcs
        obtain ⟨l, hl⟩ : ∃ l, lenL (b.size + (ks.map (esz m)).sum) = l := ⟨_, rfl⟩
        have HLl := Lib.hid hl
        have hll : l.length ≤ 4 := by rw [← hl, lenL_length]; exact (lenN_bd _).2
        clear hl
        have hT := HT.out
        have hLN : lenN (b.size + (ks.map (esz m)).sum) = l.length := by rw [← HLl.out, lenL_length]
        rw [hLN] at hT
        generalize (ks.map (esz m)).sum = S0 at hT
        have hge := hu2.ge
        have hlt2 := hu2.lt
        have HHL := Lib.hid hLN
        clear hLN
        go_wp2_with fail
        (with_reducible refine (writeByte_any B bb bs _ _ hu2 (by omega) (by omega)).mono ?_)
        rintro e w3 ⟨rfl, hu3, hb3, ho3⟩
        have hs3 := hb3.size
        go_wp2_with fail
        (with_reducible refine (length_var x _ HXc _ l HLl (by omega) (by omega)).mono ?_)
        rintro e w4 ⟨rfl, _, hb4⟩
        have hu4 := hu3.below hb4
        have hs4 := hb4.size
        go_wp2_with fail
        (with_reducible refine (writeString_any B bb _ _ _ hu4 (by rw [ba_size]; simp only [List.length_append, List.length_singleton]; omega) (by omega)).mono ?_)
        rintro e w5 ⟨rfl, hu5, hb5, ho5⟩
        have hE5 := ((HE.out.oth ho3 hEb).below hb4).oth ho5 hEb
        have hs5 := hb5.size
        have hc3 := hE5.c3
        go_wp2_with fail
        clear hc3
        (with_reducible refine (writeString_any B bb _ _ _ hu5 (by simp only [List.length_append, List.length_singleton, Lib.strCells_length, ba_size]; omega) (by omega)).mono ?_)
        rintro e w6 ⟨rfl, hu6, hb6, ho6⟩
        have hE6 := hE5.oth ho6 hEb
        have hs6 := hb6.size
        have hc4 := hE6.c4
        have hBw : Below B w0 w6 := (((((hbel.mono (by omega)).trans hb3).trans (hb4.mono (by omega))).trans hb5).trans hb6)
        have hOw : Oth bb w0 w6 := ((((Oth.below hbel).trans ho3).trans (Oth.below hb4)).trans ho5).trans ho6
        have hq := hu6.eq_ (HSO.out 0 l _ HLl.out (by
          have := HX1.out
          have e1 : kz true = 32 := rfl
          have e2 : kz false = 0 := rfl
          omega)).1
        clear hu2 hu3 hu4 hu5 hu6 hb3 hb4 hb5 hb6 ho3 ho5 ho6 hE5 hs3 hs4 hs5
        have HQ := Lib.hid hq
        have HBw := Lib.hid hBw
        have HOw := Lib.hid hOw
        clear hq hBw hOw hE6
        go_wp2_with fail
        clear hc4
        go_loopw [50] (fun i w7 => ∃ j : Nat, j ≤ ks.length ∧ i = .int .i64 j ∧ Hid (Bu B bb (bs ++ Lib.byteCells (SF j)) w7) ∧ Below B w0 w7 ∧ Oth bb w0 w7) (fun i _ => ks.length - (intOf i).toNat)
        case atStart => exact ⟨0, Nat.zero_le _, rfl, HQ, HBw.out, HOw.out⟩
        case round w7 =>
          obtain ⟨j, hj, rfl, HJ7, hbel7, ho7⟩ := hrel
          by_cases hlt : j < ks.length
          · obtain ⟨kc, kt, kk, kb, a2, n2, cap2, rfl, hgl, hf, he, hfj, hn2, hc⟩ := HK.out j hlt
            have hI := HI.out j hlt m kc kt kk kb
            have hkid : Ber.Good m ks[j] := hg.out.kid (List.getElem_mem hlt)
            rw [hfj, ← he] at hI
            obtain ⟨c0, c1, c2, c3, c4⟩ := hc.later (HB.out.trans (hbel7.mono (by omega))) hgl
            have hst := (HSO.out j l x0 HLl.out rfl).2 hlt
            have hln := congrArg List.length hst
            simp only [List.length_append, bytes_length, enc_length] at hln
            have hsl := HSL.out (j + 1)
            have hTT := HT.out
            have hlen2 : (bs ++ Lib.byteCells (SF j)).length + esz m ks[j] ≤ 140737488355328 := by
              rw [List.length_append, bytes_length]
              omega
            have hs7 := hbel7.size
            have HST := Lib.hid hst
            have HI2 := Lib.hid hI
            have HK2 := Lib.hid hkid
            have HB7 := Lib.hid hbel7
            have HO7 := Lib.hid ho7
            have HL2 := Lib.hid hlen2
            clear hst hln hsl hTT hlen2 hI hkid hc he hfj hn2 hbel7 ho7
            go_wp2_with fail
            (with_reducible refine (HI2.out _ B bb _ HK2 hwB ((HB.out.trans (HB7.out.mono (by omega))).trans ((Below.refl _ _).alloc (by have := HB.out.size; omega) _)) (HJ7.out.below ((Below.refl _ _).alloc (Nat.le_refl _) _)) HL2.out).mono ?_)
            rintro e w8 ⟨rfl, hu8, hb8, ho8⟩
            have HU8 := Lib.hid (hu8.eq_ HST.out)
            have HB8 := Lib.hid hb8
            have HO8 := Lib.hid ho8
            clear hu8 hb8 ho8
            go_wp2_with fail
            go_roundw
            case rel => exact ⟨j + 1, by omega, by go_num, HU8, (HB7.out.trans ((Below.refl _ _).alloc (by omega) _)).trans HB8.out, (HO7.out.trans (Oth.below ((Below.refl _ _).alloc (Nat.le_refl _) _))).trans HO8.out⟩
            case measure => simp [intOf]; omega
          · obtain rfl : j = ks.length := by omega
            go_wp2_with fail
            go_end0
            exact ⟨rfl, HJ7.out.eq_ (by rw [HSE.out]), hbel7, ho7⟩
end Go.Proofs.YtlkdbopdmieojaaGreat
