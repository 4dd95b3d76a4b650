/- The contracts of sectors and targets. -/
import Derived.Test.YtoleojljpaglhaaGreatPaR
import Derived.WalkSmall
import Derived.Deep.RegionLaw
import Derived.Deep.AppendLies
namespace Go.Proofs.YtoleojljpaglhaaGreat
open Go.RowKit
set_option maxRecDepth 20000
theorem targ_info : (Tryz.prog.info? 119).map (fun i => (i.zero, i.size, i.bytes)) = some (some (.agg #[.int .i64 0, .string ⟨#[]⟩]), 2, 24) := by kernel_rfl
theorem targ_one (a : Int) (s : ByteArray) : ∀ u ∈ [Value.int .i64 a, Value.string s], u.oneCell' = true := by
  intro u hu
  simp only [List.mem_cons, List.not_mem_nil, or_false] at hu
  rcases hu with rfl | rfl <;> rfl
theorem tod_append (a b : List (Nat × List UInt8)) : Pb.tod (a ++ b) = Pb.tod a ++ Pb.tod b := by simp [Pb.tod]
theorem tcells_append (a b : List (Int × ByteArray)) : tcells (a ++ b) = tcells a ++ tcells b := by simp [tcells]
theorem tcells_length : ∀ l : List (Int × ByteArray), (tcells l).length = l.length * 2
  | [] => rfl
  | x :: l => by
    have := tcells_length l
    have e : tcells (x :: l) = .int .i64 x.1 :: .string x.2 :: tcells l := rfl
    rw [e, List.length_cons, List.length_cons, this, List.length_cons]
    omega
theorem tcells_one : ∀ (l : List (Int × ByteArray)), ∀ u ∈ tcells l, u.oneCell' = true := by
  intro l u hu
  simp only [tcells, List.mem_flatMap] at hu
  obtain ⟨x, _, hx⟩ := hu
  exact targ_one _ _ u hx
theorem tod_length (l : List (Nat × List UInt8)) : (Pb.tod l).length = l.length := by simp [Pb.tod]
/-- a list of targets of the call's own -/
structure OwnT (B : Nat) (w0 w : World) (v : Value) (l : List (Nat × List UInt8)) : Prop where
  own : w.ownsRow B 119 2 v l.length (tcells (Pb.tod l))
  bel : Below B w0 w
theorem OwnT.nil (B : Nat) (w : World) : OwnT B w w (.slice none 0 0) [] := ⟨World.ownsRow_nil _ _ _ _, Below.refl _ _⟩
theorem ext_list' (s : ByteArray) (i j : Nat) : (s.extract i j).data.toList = (s.data.toList.drop i).take (j - i) := by simp
set_option maxRecDepth 20000 in
set_option maxHeartbeats 1000000 in
theorem psectors_any (a0 : Nat) (s : ByteArray) (k : Nat) (w : World) (hs : s.size = 64 * k) (hk : k ≤ 1000) (ha : a0 ≤ 1000000) :
    Calls Tryz.prog 70 #[.int .i64 (a0 : Int), .string s] w fun e w' => ∃ v, e = .returned v ∧ OwnT w.heap.size w w' v (Pb.secL a0 k s.data.toList) := by
  obtain ⟨i0, hi0, hz0, hz1, hz2⟩ := info_parts targ_info
  have Hi0 := Lib.hid hi0
  have Hz0 := Lib.hid hz0
  have Hz1 := Lib.hid hz1
  have Hz2 := Lib.hid hz2
  have HK := Lib.hid hk
  have HA := Lib.hid ha
  have HSZ := Lib.hid hs
  clear hi0 hz0 hz1 hz2 hs hk ha
  go_enter Tryz.func70, Tryz.ntmps70
  go_wp2_with fail
  go_loopw [0, 1, 5] (fun at_ r v wr => ∃ (t : ByteArray) (done : List (Nat × List UInt8)) (m a : Nat), at_ = .int .i64 (a : Int) ∧ r = .string t ∧ Hid (done.length + m = k ∧ t.size = 64 * m ∧ a = a0 + done.length) ∧ Hid (done ++ Pb.secL a m t.data.toList = Pb.secL a0 k s.data.toList) ∧ Hid (OwnT w.heap.size w wr v done)) (fun _ r _ _ => (match r with | .string t => t.size | _ => 0))
  case atStart => exact ⟨s, [], k, a0, rfl, rfl, Lib.hid ⟨by simp, HSZ.out, by simp⟩, Lib.hid rfl, Lib.hid (OwnT.nil _ _)⟩
  case round =>
    obtain ⟨t, done, m, a, rfl, rfl, HM, HP, HO⟩ := hrel
    have hown := HO.out.own
    have hsw := HO.out.bel.size
    cases m with
    | zero =>
      have ht : t = ⟨#[]⟩ := by
        have h1 := HM.out.2.1
        exact ByteArray.ext (Array.eq_empty_of_size_eq_zero (by show t.size = 0; omega))
      subst ht
      have he := HP.out
      clear hown
      go_wp2_with fail
      go_ret
      refine ⟨_, rfl, ?_⟩
      rw [← he]
      simpa [Pb.secL] using HO.out
    | succ m =>
      have hts : t.size = 64 * (m + 1) := HM.out.2.1
      have hdl := HM.out.1
      have hk2 := HK.out
      have ha2 : a ≤ 2000000 := by have := HM.out.2.2; have := HA.out; omega
      have hne : t.toList.isEmpty = false := by
        rw [ByteArray.toList_eq, List.isEmpty_eq_false_iff]
        intro e
        have : t.data.toList.length = 64 * (m + 1) := by rw [Array.length_toList]; exact hts
        rw [e] at this
        simp at this
      have h64 : 64 ≤ t.size := by omega
      have e1 : (t.extract 0 64).data.toList = t.data.toList.take 64 := by simp
      have e2 : (t.extract 64 t.size).data.toList = t.data.toList.drop 64 := by simp [List.take_of_length_le]
      have e3 : (t.extract 64 t.size).size = 64 * m := by simp; omega
      have e4 : (⟨(t.data.toList.take 64).toArray⟩ : ByteArray) = t.extract 0 64 := by rw [← e1]
      have H2 := Lib.hid e2
      have H3 := Lib.hid e3
      have hown2 : Hid (tcells (Pb.tod (done ++ [(a, t.data.toList.take 64)])) = tcells (Pb.tod done) ++ [.int .i64 (a : Int), .string (t.extract 0 64)]) := Lib.hid (by rw [tod_append, tcells_append]; simp only [Pb.tod, tcells, List.map_cons, List.map_nil, List.flatMap_cons, List.flatMap_nil, List.append_nil]; rw [e4])
      have HTS := Lib.hid hts
      have HDL := Lib.hid hdl
      have h64i : (64 : Int) ≤ (t.size : Int) := by omega
      have ha2i : (a : Int) ≤ 2000000 := by omega
      clear e1 e2 e3 e4 hts hdl hk2 ha2
      go_wp2_with (at_builtin; refine wpList_append_own_at _ rfl _ _ 79 rfl w.heap.size 119 i0 _ 2 24 Tryz.underlying79 Hi0.out Hz0.out Hz1.out Hz2.out rfl (by decide) _ done.length (tcells (Pb.tod done)) rfl (hown.alloc _) ⟨wr.heap.size, 0, none⟩ 1 1 [.int .i64 (a : Int), .string (t.extract 0 64)] rfl rfl (cell_two_new _ _ _ _) (targ_one _ _) ?c3 ?c4 ?c5 ?_)
      case c3 => have := HDL.out; have := HK.out; unfold maxLen; omega
      case c4 => have := HDL.out; have := HK.out; omega
      case c5 => simp; omega
      intro v4 w4 hown4 hgrow hnil hblock
      have hb4 : Below w.heap.size w w4 := (HO.out.bel.alloc hsw _).grown hgrow (by simp; omega) (fun q hq => (hown.lt q hq).1)
      have HO4 : Hid (OwnT w.heap.size w w4 v4 (done ++ [(a, t.data.toList.take 64)])) := Lib.hid ⟨by rw [hown2.out]; simpa using hown4, hb4⟩
      clear hown hown4 hgrow hnil hblock hb4
      go_wp2_with fail
      go_roundw
      case rel =>
        refine ⟨t.extract 64 t.size, done ++ [(a, t.data.toList.take 64)], m, a + 1, by go_num, rfl, Lib.hid ⟨by have := HDL.out; simp; omega, H3.out, by have := HM.out.2.2; simp; omega⟩, Lib.hid ?_, HO4⟩
        rw [H2.out, ← HP.out]
        simp [Pb.secL]
      case measure => have := H3.out; simp only; rw [this, HTS.out]; omega
theorem own_below' {w w' : World} {base : Nat} {e : TypeId} {size n : Nat} {v : Value} {xs : List Value} (h : w.ownsRow base e size v n xs) (hb : Below w.heap.size w w') : w'.ownsRow base e size v n xs := by
  refine ⟨h.1, ?_⟩
  rcases h.2 with hn | ⟨g, cap, cur, rfl, hbase, hh, rest⟩
  · exact .inl hn
  · exact .inr ⟨g, cap, cur, rfl, hbase, (hb.block g (Array.getElem?_eq_some_iff.1 hh).1).trans hh, rest⟩
section
variable {S : Nat → Prop} {w0 w w' : World} {G : PH} {d d' : Vd.VD} {L L' : Wa.WL} {P : PP}
/-- a page's part of a record -/
def recP (f : Int → Option ByteArray) (p : Int) : List UInt8 := Oct.beB 4 p ++ ((f p).getD ⟨#[]⟩).data.toList
def tgP (f : Int → Option ByteArray) (p : Int) : List (Nat × List UInt8) := Pb.secL ((p.toNat - 1) * 4) 4 ((f p).getD ⟨#[]⟩).data.toList
theorem secL_len : ∀ (k a : Nat) (b : List UInt8), (Pb.secL a k b).length = k
  | 0, _, _ => rfl
  | k + 1, a, b => by rw [Pb.secL, List.length_cons, secL_len k]
set_option maxRecDepth 20000 in
set_option maxHeartbeats 4000000 in
theorem targets_any (h : PG S w0 w G d L P) (hn : 8 ≤ P.n) (hn2 : P.n ≤ 5000) (f : Int → Option ByteArray) (roots ch : List Int) (s : ByteArray) (hs : s.data.toList = Pb.recL P.n f roots ch) (hr : roots.length = 8) (hc : ∀ p ∈ ch, 1 ≤ p ∧ p ≤ (P.n : Int) - 8 ∧ ∃ b, f p = some b ∧ b.size = 256) (hch : ch.length ≤ 10000) :
    Calls Tryz.prog 24 #[.pointer (some ⟨G.pg, 0, none⟩), .string s] w fun e w' => ∃ v, e = .returned v ∧ OwnT w.heap.size w w' v (Pb.targL P.n f roots ch) := by
  have hml := Pb.metaL_length P.n f roots hr hn2
  have hrec : s.data.toList = Pb.metaL P.n f roots ++ ch.flatMap (recP f) := hs
  have hrl : ∀ p ∈ ch, (recP f p).length = 260 := fun p hp => by
    obtain ⟨_, _, b, hb, hbs⟩ := hc p hp
    unfold recP
    rw [hb, List.length_append, Oct.beB_length]
    show 4 + b.data.toList.length = 260
    rw [Array.length_toList]
    have : b.data.size = 256 := hbs
    omega
  have hfl : ∀ l : List Int, (∀ p ∈ l, p ∈ ch) → (l.flatMap (recP f)).length = 260 * l.length := by
    intro l
    induction l with
    | nil => intro _; rfl
    | cons p l ih => intro h; rw [List.flatMap_cons, List.length_append, hrl p (h p List.mem_cons_self), ih (fun x hx => h x (List.mem_cons_of_mem _ hx)), List.length_cons]; omega
  have hsz : 2048 ≤ s.size := by
    have := congrArg List.length hrec
    rw [Array.length_toList, List.length_append, hml] at this
    show 2048 ≤ s.data.size
    omega
  obtain ⟨MB, hMB⟩ : ∃ MB, s.extract 0 2048 = MB := ⟨_, rfl⟩
  have hMBl : MB.data.toList = Pb.metaL P.n f roots := by
    rw [← hMB, ext_list', hrec, List.drop_zero, Nat.sub_zero, List.take_append_of_le_length (by omega), List.take_of_length_le (by omega)]
  have hT0l : (s.extract 2048 s.size).data.toList = ch.flatMap (recP f) := by
    rw [ext_list', hrec, List.drop_append_of_le_length (by omega), List.drop_of_length_le (by omega), List.nil_append, List.take_of_length_le]
    have := congrArg List.length hrec
    rw [Array.length_toList, List.length_append, hml] at this
    show _ ≤ s.data.size - 2048
    omega
  have hMBs : MB.size = 64 * 32 := by
    have := congrArg List.length hMBl
    rw [Array.length_toList, hml] at this
    exact this
  have hmst : Calls Tryz.prog 72 #[.pointer (some ⟨G.pg, 0, none⟩)] w.drew fun e w' => e = .returned (.int .i64 ((P.n : Int) - 8)) ∧ w.drew = w' := most_any h.drew hn2
  have hpl : ∀ W, Calls Tryz.prog 71 #[.int .i64 ((P.n : Int) - 8 + 1)] W fun e w' => e = .returned (.int .i64 (((P.n - 8) * 4 : Nat) : Int)) ∧ W = w' := fun W => by
    have := place_any ((P.n : Int) - 8 + 1) W (by omega) (by omega)
    rwa [show ((P.n : Int) - 8 + 1 - 1) * 4 = (((P.n - 8) * 4 : Nat) : Int) from by omega] at this
  have hsec := fun W => psectors_any ((P.n - 8) * 4) MB 32 W hMBs (by omega) (by omega)
  rw [hMBl] at hsec
  obtain ⟨pa, hpa⟩ : ∃ pa : Int, (((P.n - 8) * 4 : Nat) : Int) = pa := ⟨_, rfl⟩
  rw [hpa] at hpl
  simp only [hpa] at hsec
  clear hpa
  -- a page's own
  have hpl2 : ∀ p ∈ ch, ∀ W, Calls Tryz.prog 71 #[.int .i64 p] W fun e w' => e = .returned (.int .i64 (((p.toNat - 1) * 4 : Nat) : Int)) ∧ W = w' := fun p hp W => by
    obtain ⟨h1, h2, _⟩ := hc p hp
    have := place_any p W (by omega) (by omega)
    rwa [show (p - 1) * 4 = (((p.toNat - 1) * 4 : Nat) : Int) from by omega] at this
  have hget : ∀ p ∈ ch, ∀ t : ByteArray, (∃ r, t.data.toList = recP f p ++ r) → ∀ W, Calls Tryz.prog 73 #[.string (t.extract 0 4)] W fun e w' => e = .returned (.tuple #[.int .i64 p, .int .i64 0]) ∧ W = w' := fun p hp t ⟨r, ht⟩ W => by
    obtain ⟨h1, h2, _⟩ := hc p hp
    have e4 : (t.extract 0 4).data.toList = Oct.beB 4 p := by
      have := Oct.beB_length 4 p
      rw [ext_list', ht, List.drop_zero, Nat.sub_zero]
      unfold recP
      rw [List.append_assoc, List.take_append_of_le_length (by omega), List.take_of_length_le (by omega)]
    have hs4 : (t.extract 0 4).size = 4 := by
      have := congrArg List.length e4
      rw [Array.length_toList, Oct.beB_length] at this
      exact this
    have := get4 (t.extract 0 4) W hs4
    rwa [e4, Oct.get_put 4 p (by omega) (by show p < 256 ^ 4; omega)] at this
  have hsc2 : ∀ p ∈ ch, ∀ t : ByteArray, (∃ r, t.data.toList = recP f p ++ r) → ∀ W, Calls Tryz.prog 70 #[.int .i64 (((p.toNat - 1) * 4 : Nat) : Int), .string (t.extract 4 260)] W fun e w' => ∃ g cap, e = .returned (.slice (some ⟨g, 0, none⟩) 4 cap) ∧ OwnT W.heap.size W w' (.slice (some ⟨g, 0, none⟩) 4 cap) (tgP f p) := fun p hp t ⟨r, ht⟩ W => by
    obtain ⟨h1, h2, b, hb, hbs⟩ := hc p hp
    have hbl : b.data.toList.length = 256 := by rw [Array.length_toList]; exact hbs
    have e4 : (t.extract 4 260).data.toList = b.data.toList := by
      have := Oct.beB_length 4 p
      rw [ext_list', ht]
      unfold recP
      rw [hb, List.append_assoc, List.drop_append, List.drop_of_length_le (by omega), List.nil_append, this, Nat.sub_self, List.drop_zero]
      show List.take (260 - 4) (b.data.toList ++ r) = _
      rw [List.take_append_of_le_length (by omega), List.take_of_length_le (by omega)]
    have hs4 : (t.extract 4 260).size = 64 * 4 := by
      have := congrArg List.length e4
      rw [Array.length_toList, hbl] at this
      exact this
    refine (psectors_any ((p.toNat - 1) * 4) (t.extract 4 260) 4 W hs4 (by omega) (by omega)).mono ?_
    rintro e w' ⟨v, rfl, ho⟩
    rw [e4] at ho
    have e5 : Pb.secL ((p.toNat - 1) * 4) 4 b.data.toList = tgP f p := by unfold tgP; rw [hb]; rfl
    rw [e5] at ho
    have hl4 : (tgP f p).length = 4 := by rw [← e5]; exact secL_len _ _ _
    have hown := ho.own
    rw [hl4] at hown
    rcases hown.2 with ⟨_, h0⟩ | ⟨g, cap, cur, rfl, _⟩
    · omega
    · exact ⟨g, cap, rfl, ho⟩
  subst hMB
  have HM := Lib.hid hmst
  have HPL := Lib.hid hpl
  have HSEC := Lib.hid hsec
  have HT0 := Lib.hid hT0l
  have HC := Lib.hid hc
  have HCH := Lib.hid hch
  have HPL2 := Lib.hid hpl2
  have HGET := Lib.hid hget
  have HSC2 := Lib.hid hsc2
  have HFL := Lib.hid hfl
  have i1 : (2048 : Int) ≤ (s.size : Int) := by omega
  have i2 : (P.n : Int) ≤ 5000 := by omega
  have i3 : 8 ≤ (P.n : Int) := by omega
  have hw7 : IntKind.i64.wrap ((P.n : Int) - 8 + 1) = (P.n : Int) - 8 + 1 := by rw [IntKind.wrap_i64]; omega
  have HN2 := Lib.hid hn2
  obtain ⟨i0, hi0, hz0, hz1, hz2⟩ := info_parts targ_info
  have Hi0 := Lib.hid hi0
  have Hz0 := Lib.hid hz0
  have Hz1 := Lib.hid hz1
  have Hz2 := Lib.hid hz2
  obtain ⟨ML, hML⟩ : ∃ ML, Pb.secL ((P.n - 8) * 4) 32 (Pb.metaL P.n f roots) = ML := ⟨_, rfl⟩
  have HML : Hid (ML.length = 32) := Lib.hid (by rw [← hML]; exact secL_len _ _ _)
  have htg : Pb.targL P.n f roots ch = ML ++ ch.flatMap (tgP f) := by rw [← hML]; rfl
  rw [hML] at HSEC
  rw [htg]
  have hTGL : ∀ l : List Int, (l.flatMap (tgP f)).length = 4 * l.length := by
    intro l
    induction l with
    | nil => rfl
    | cons p l ih => rw [List.flatMap_cons, List.length_append, ih, List.length_cons]; unfold tgP; rw [secL_len]; omega
  have HTGL := Lib.hid hTGL
  have hRL := hrl
  have HRL := Lib.hid hRL
  clear h hs hr hc hch hml hrec hMBl hMBs hT0l hmst hpl hsec hn hn2 hi0 hz0 hz1 hz2 hML htg hsz hpl2 hget hsc2 hfl hrl hTGL hRL
  go_enter Tryz.func24, Tryz.ntmps24
  go_wp2_with fail
  go_region_held3 (fun _ => True) (trivial) (first
    | (go_at_call 72; ((with_reducible refine HM.out.mono ?_)); rintro e w5 ⟨rfl, rfl⟩)
    | (go_at_call 71; ((with_reducible refine (HPL.out _).mono ?_)); rintro e w5 ⟨rfl, rfl⟩)
    | (go_at_call 70; ((with_reducible refine (HSEC.out _).mono ?_)); rintro e w5 ⟨v5, rfl, ho5⟩))
  clear hw7
  have HO : Hid (OwnT w.heap.size w w5 v5 ML) := Lib.hid ⟨ho5.own, (Below.refl w.heap.size w).drew.trans ho5.bel⟩
  clear ho5
  go_wp2_with fail
  go_loopw [1, 5] (fun t v wr => ∃ (s' : ByteArray) (k : Nat) (v' : Value), t = .string s' ∧ v' = v ∧ k ≤ ch.length ∧ Hid (s'.data.toList = (ch.drop k).flatMap (recP f)) ∧ Hid (OwnT w.heap.size w wr v' (ML ++ (ch.take k).flatMap (tgP f)))) (fun t _ _ => match t with | .string s' => s'.size | _ => 0)
  case atStart => exact ⟨_, 0, _, rfl, rfl, Nat.zero_le _, Lib.hid (by rw [List.drop_zero]; exact HT0.out), Lib.hid (by simpa using HO.out)⟩
  case round =>
    obtain ⟨s', k, v', rfl, rfl, hk, hS, hO⟩ := hrel
    have hsl : s'.size = 260 * (ch.length - k) := by
      have := congrArg List.length hS.out
      rw [Array.length_toList, HFL.out _ (fun p hp => List.mem_of_mem_drop hp), List.length_drop] at this
      exact this
    by_cases hlt : k < ch.length
    · obtain ⟨p, hpe⟩ : ∃ p, ch[k] = p := ⟨_, rfl⟩
      have hp : p ∈ ch := by rw [← hpe]; exact List.getElem_mem hlt
      have hdr : ch.drop k = p :: ch.drop (k + 1) := by rw [List.drop_eq_getElem_cons hlt, hpe]
      have hS2 : s'.data.toList = recP f p ++ (ch.drop (k + 1)).flatMap (recP f) := by rw [hS.out, hdr, List.flatMap_cons]
      have HG := Lib.hid (HGET.out p hp s' ⟨_, hS2⟩)
      have hp2 := HPL2.out p hp
      have hs4 := HSC2.out p hp s' ⟨_, hS2⟩
      obtain ⟨pb, hpb⟩ : ∃ pb : Int, (((p.toNat - 1) * 4 : Nat) : Int) = pb := ⟨_, rfl⟩
      simp only [hpb] at hp2 hs4
      have HP2 := Lib.hid hp2
      have HS4 := Lib.hid hs4
      clear hpb hp2 hs4
      have i4 : (260 : Int) ≤ (s'.size : Int) := by omega
      have HR2 : Hid ((s'.extract 260 s'.size).data.toList = (ch.drop (k + 1)).flatMap (recP f)) := Lib.hid (by
        have h1 := HRL.out p hp
        have h2 := congrArg List.length hS2
        rw [List.length_append, h1, Array.length_toList] at h2
        rw [ext_list', hS2, List.drop_append, List.drop_of_length_le (by omega), List.nil_append, h1, Nat.sub_self, List.drop_zero, List.take_of_length_le]
        show _ ≤ s'.data.size - 260
        omega)
      have HTK : Hid (ML ++ (ch.take (k + 1)).flatMap (tgP f) = (ML ++ (ch.take k).flatMap (tgP f)) ++ tgP f p) := Lib.hid (by rw [List.take_succ_eq_append_getElem hlt, hpe, List.flatMap_append, List.flatMap_cons, List.flatMap_nil, List.append_nil, List.append_assoc])
      obtain ⟨A, hA⟩ : ∃ A, ML ++ (ch.take k).flatMap (tgP f) = A := ⟨_, rfl⟩
      have hAl : A.length = 32 + 4 * k := by rw [← hA, List.length_append, HML.out, HTGL.out, List.length_take]; omega
      have hTl : (tgP f p).length = 4 := by unfold tgP; exact secL_len _ _ _
      obtain ⟨N, hN⟩ : ∃ N, A.length = N := ⟨_, rfl⟩
      have hO' := hO.out
      rw [hA] at HTK hO'
      have hsw := hO'.bel.size
      have hN5 : N + 4 ≤ 100000 := by have := HCH.out; omega
      have HOWN : Hid (∀ w5, Below wr.heap.size wr w5 → w5.ownsRow w.heap.size 119 2 v' N (tcells (Pb.tod A)) ∧ w.heap.size ≤ w5.heap.size) := Lib.hid (fun w5 hb5 => ⟨by rw [← hN]; exact own_below' hO'.own hb5, Nat.le_trans hsw hb5.size⟩)
      have HAP : Hid (∀ w5 w6 g' cap', Below wr.heap.size wr w5 → w6.ownsRow w.heap.size 119 2 (.slice (some ⟨g', 0, none⟩) (N + 4) cap') (N + 4) (tcells (Pb.tod A) ++ tcells (Pb.tod (tgP f p))) → w5.grownBy w6 v'.ownBlock → OwnT w.heap.size w w6 (.slice (some ⟨g', 0, none⟩) (N + 4) cap') (A ++ tgP f p)) := Lib.hid (fun w5 w6 g' cap' hb5 hown hgrow => by
        refine ⟨?_, ?_⟩
        · rw [List.length_append, hTl, hN, tod_append, tcells_append]
          exact hown
        · exact (hO'.bel.trans (hb5.mono hsw)).grown hgrow (Nat.le_trans hsw hb5.size) (fun q hq => (hO'.own.lt q hq).1))
      have HNW : Hid (∀ w5 g5 cap5, OwnT wr.drew.heap.size wr.drew w5 (.slice (some ⟨g5, 0, none⟩) 4 cap5) (tgP f p) → (tcells (Pb.tod (tgP f p))).length = 4 * 2 ∧ (∀ j u, (tcells (Pb.tod (tgP f p)))[j]? = some u → w5.cell? ((⟨g5, 0, none⟩ : Addr).add j) = some u) ∧ Below wr.heap.size wr w5) := Lib.hid (fun w5 g5 cap5 ho => ⟨by rw [tcells_length, tod_length, hTl], fun j u hu => ho.own.cells (g := g5) rfl j u hu, (below_drewN (Below.refl _ _) 1).trans ho.bel⟩)
      have HSL := Lib.hid hsl
      have HLT := Lib.hid hlt
      have HN5 := Lib.hid hN5
      have HSX : Hid ((s'.extract 260 s'.size).size < s'.size) := Lib.hid (by simp; omega)
      clear hS hO hO' hsw hN5 hN hAl hTl hA hS2 hdr hp hpe hsl hlt
      go_wp2_with fail
      (with_reducible refine (HG.out _).mono ?_)
      rintro e w5 ⟨rfl, rfl⟩
      go_wp2_with fail
      go_region_law (first
        | (refine step_append_lies _ (by rfl) _ _ 79 (by rfl) w.heap.size 119 i0 _ 2 24 Tryz.underlying79 Hi0.out Hz0.out Hz1.out Hz2.out rfl (by decide) v' N (tcells (Pb.tod A)) (by rfl) (HOWN.out w5 hb5).1 ⟨g5, 0, none⟩ 4 cap5 (tcells (Pb.tod (tgP f p))) (by rfl) hnl hnc (tcells_one _) (by decide) (by have := HN5.out; unfold maxLen; omega) (by have := HN5.out; omega) (HOWN.out w5 hb5).2 _ rfl ?_; intro g' cap' w6 hown6 hgrow6 hat6 _; have HO6 := Lib.hid (HAP.out w5 w6 g' cap' hb5 hown6 hgrow6); clear hown6 hgrow6 hat6)
        | (go_simp; go_at_call 71; ((with_reducible refine (HP2.out _).mono ?_)); rintro e w5 ⟨rfl, rfl⟩)
        | (go_simp; go_at_call 70; ((with_reducible refine (HS4.out _).mono ?_)); rintro e w5 ⟨g5, cap5, rfl, ho5⟩; obtain ⟨hnl, hnc, hb5⟩ := HNW.out _ _ _ ho5))
      all_goals
        clear hnl hnc hb5 ho5
        go_wp2_with fail
        go_roundw
        case rel => exact ⟨_, k + 1, _, rfl, rfl, by have := HLT.out; omega, HR2, Lib.hid (by rw [HTK.out]; exact HO6.out)⟩
        case measure => exact HSX.out
    · obtain rfl : k = ch.length := by omega
      have i4 : ¬ (260 : Int) ≤ (s'.size : Int) := by omega
      have HO2 : Hid (OwnT w.heap.size w wr v' (ML ++ ch.flatMap (tgP f))) := Lib.hid (by have := hO.out; rwa [List.take_length] at this)
      clear hS hO hsl
      go_wp2_with fail
      go_ret
      exact ⟨_, rfl, HO2.out⟩
end
end Go.Proofs.YtoleojljpaglhaaGreat
