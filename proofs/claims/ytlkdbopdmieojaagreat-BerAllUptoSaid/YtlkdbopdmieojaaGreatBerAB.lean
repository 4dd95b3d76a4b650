/- The contract of chanceryref2.take. -/
import Derived.Test.YtlkdbopdmieojaaGreatBerAA
import Derived.Test.YtlkdbopdmieojaaGreatBerR
namespace Go.Proofs.YtlkdbopdmieojaaGreat
open Go.RowKit Ber
set_option maxRecDepth 20000
/-- what take leaves -/
def TkPost (w0 : World) (l : List UInt8) (res : Except Int (El × List UInt8)) (e : Ending) (w' : World) : Prop :=
  (∃ r, res = .error r ∧ r ≠ 0 ∧ e = .returned (.tuple #[.agg #[.int .i64 0, .int .i64 0, .bool false, .string ⟨#[]⟩, .slice none 0 0], .int .i64 0, .int .i64 r]) ∧ Below w0.heap.size w0 w') ∨
  (∃ (c t : Int) (k : Bool) (b : ByteArray) (ks : List El) (v : Value) (N : Nat), res = .ok (.mk c t k b ks, l.drop N) ∧ N ≤ l.length ∧ e = .returned (.tuple #[.agg #[.int .i64 c, .int .i64 t, .bool k, .string b, v], .int .i64 (N : Nat), .int .i64 0]) ∧ KsP (fun b => w0.heap.size ≤ b ∧ b < w'.heap.size) w' ks v ∧ Few b.size ∧ Below w0.heap.size w0 w')
def zE : Value := .agg #[.int .i64 0, .int .i64 0, .bool false, .string ⟨#[]⟩, .slice none 0 0]
set_option maxHeartbeats 1000000 in
theorem take_head (s : ByteArray) (z : Int) (w : World) (n : Nat) (r : Int) (h : Hid (frame s.data.toList = (n, r))) (hr : (r != 0) = true) : Calls Tryz.prog 19 #[.string s, .int .i64 z] w fun e w' => e = .returned (.tuple #[.agg #[.int .i64 0, .int .i64 0, .bool false, .string ⟨#[]⟩, .slice none 0 0], .int .i64 0, .int .i64 r]) ∧ Below w.heap.size w w' := by
  go_enter Tryz.func19, Tryz.ntmps19
  go_wp2_with fail
  (with_reducible refine (rframe_var _ _ n r h).mono ?_)
  rintro e w1 ⟨rfl, hb⟩
  have hR := (Blk.new w 47 #[.int .i64 0, .int .i64 0, .bool false, .string ⟨#[]⟩, .slice none 0 0]).below hb (by simp)
  obtain ⟨d0, d1, d2, d3, d4⟩ := hR.cells5
  have g0 := hR.frozen 0
  have g1 := hR.frozen 1
  have g2 := hR.frozen 2
  have g3 := hR.frozen 3
  have g4 := hR.frozen 4
  have hB : Below w.heap.size w w1 := ((Below.refl _ _).alloc (Nat.le_refl _) _).trans (hb.mono (by simp))
  clear hb hR
  go_wp2_with fail
  refine bodyPost_ret (v := .tuple #[.agg #[.int .i64 0, .int .i64 0, .bool false, .string ⟨#[]⟩, .slice none 0 0], .int .i64 0, .int .i64 r]) (by simp [results, Tryz.results19, go_sem, d0, d1, d2, d3, d4]) rfl ⟨rfl, below_s5 w.heap.size hB _ _ _ _ _⟩
set_option maxHeartbeats 1000000 in
theorem take_deep (s : ByteArray) (z : Int) (w : World) (n : Nat) (h : Hid (frame s.data.toList = (n, 0))) (hz : 20 ≤ z) : Calls Tryz.prog 19 #[.string s, .int .i64 z] w fun e w' => e = .returned (.tuple #[.agg #[.int .i64 0, .int .i64 0, .bool false, .string ⟨#[]⟩, .slice none 0 0], .int .i64 0, .int .i64 23]) ∧ Below w.heap.size w w' := by
  go_enter Tryz.func19, Tryz.ntmps19
  go_wp2_with fail
  (with_reducible refine (rframe_var _ _ n 0 h).mono ?_)
  rintro e w1 ⟨rfl, hb⟩
  have hR := (Blk.new w 47 #[.int .i64 0, .int .i64 0, .bool false, .string ⟨#[]⟩, .slice none 0 0]).below hb (by simp)
  obtain ⟨d0, d1, d2, d3, d4⟩ := hR.cells5
  have g0 := hR.frozen 0
  have g1 := hR.frozen 1
  have g2 := hR.frozen 2
  have g3 := hR.frozen 3
  have g4 := hR.frozen 4
  have hB : Below w.heap.size w w1 := ((Below.refl _ _).alloc (Nat.le_refl _) _).trans (hb.mono (by simp))
  clear hb hR
  go_wp2_with fail
  refine bodyPost_ret (v := .tuple #[.agg #[.int .i64 0, .int .i64 0, .bool false, .string ⟨#[]⟩, .slice none 0 0], .int .i64 0, .int .i64 23]) (by simp [results, Tryz.results19, go_sem, d0, d1, d2, d3, d4]) rfl ⟨rfl, below_s5 w.heap.size hB _ _ _ _ _⟩
set_option maxHeartbeats 1000000 in
theorem take_short (s : ByteArray) (z : Int) (w : World) (n : Nat) (h : Hid (frame s.data.toList = (n, 0))) (hz : z < 20) (hs : (s.size : Int) < (n : Int)) : Calls Tryz.prog 19 #[.string s, .int .i64 z] w fun e w' => e = .returned (.tuple #[.agg #[.int .i64 0, .int .i64 0, .bool false, .string ⟨#[]⟩, .slice none 0 0], .int .i64 0, .int .i64 20]) ∧ Below w.heap.size w w' := by
  go_enter Tryz.func19, Tryz.ntmps19
  go_wp2_with fail
  (with_reducible refine (rframe_var _ _ n 0 h).mono ?_)
  rintro e w1 ⟨rfl, hb⟩
  have hR := (Blk.new w 47 #[.int .i64 0, .int .i64 0, .bool false, .string ⟨#[]⟩, .slice none 0 0]).below hb (by simp)
  obtain ⟨d0, d1, d2, d3, d4⟩ := hR.cells5
  have g0 := hR.frozen 0
  have g1 := hR.frozen 1
  have g2 := hR.frozen 2
  have g3 := hR.frozen 3
  have g4 := hR.frozen 4
  have hB : Below w.heap.size w w1 := ((Below.refl _ _).alloc (Nat.le_refl _) _).trans (hb.mono (by simp))
  clear hb hR
  go_wp2_with fail
  refine bodyPost_ret (v := .tuple #[.agg #[.int .i64 0, .int .i64 0, .bool false, .string ⟨#[]⟩, .slice none 0 0], .int .i64 0, .int .i64 20]) (by simp [results, Tryz.results19, go_sem, d0, d1, d2, d3, d4]) rfl ⟨rfl, below_s5 w.heap.size hB _ _ _ _ _⟩
/-- what the first part of take leaves -/
structure TkMid (w1 : World) (u : Nat) (wx : World) : Prop where
  x : Blk wx w1.heap.size 47 #[.int .i64 (u / 64 : Nat), .int .i64 (u % 32 : Nat), .bool (decide (u / 32 % 2 = 1)), .string ⟨#[]⟩, .slice none 0 0]
  below : Below w1.heap.size w1 wx
  size : wx.heap.size = w1.heap.size + 1
theorem tkMid_of {w1 : World} {u : Nat} {q1 q2 : Int} {kk : Bool} (h1 : Hid (q1 = ((u / 64 : Nat) : Int))) (h2 : Hid (q2 = ((u % 32 : Nat) : Int))) (h3 : Hid (kk = decide (u / 32 % 2 = 1))) : TkMid w1 u (w1.alloc (.cells #[.int .i64 q1, .int .i64 q2, .bool kk, .string ⟨#[]⟩, .slice none 0 0] 47)).drew := by
  rw [h1.out, h2.out, h3.out]
  exact ⟨(Blk.new w1 _ _).drew, below_drewN ((Below.refl _ _).alloc (Nat.le_refl _) _) 1, by simp⟩
theorem tkMid_gen {w1 : World} {u : Nat} {q1 q2 : Int} {kk : Bool} (h1 : q1 = ((u / 64 : Nat) : Int)) (h2 : q2 = ((u % 32 : Nat) : Int)) (h3 : kk = decide (u / 32 % 2 = 1)) : TkMid w1 u (w1.alloc (.cells #[.int .i64 q1, .int .i64 q2, .bool kk, .string ⟨#[]⟩, .slice none 0 0] 47)).drew := tkMid_of (Lib.hid h1) (Lib.hid h2) (Lib.hid h3)
theorem len_sz (C : ByteArray) : C.data.toList.length = C.size := by simp
theorem ext_drop (s : ByteArray) (F al N : Nat) : (s.extract F al).data.toList.drop N = (s.extract (F + N) al).data.toList := by
  rw [Lib.extract_data, Lib.extract_data, List.drop_take, List.drop_drop]
  congr 1
  omega
set_option maxHeartbeats 4000000 in
set_option maxRecDepth 20000 in
theorem take_ok (d : Nat) (ih : Hid (∀ (s : ByteArray) (z : Int) (w : World), Hid (z + d = 20) → 0 ≤ z → s.size ≤ 140737488351232 → Calls Tryz.prog 19 #[.string s, .int .i64 z] w fun e w' => TkPost w s.data.toList (rd d s.data.toList) e w')) (s : ByteArray) (z : Int) (w : World) (hzd : Hid (z + (d + 1 : Nat) = 20)) (hz0 : 0 ≤ z) (n m : Nat) (h : Hid (hd s.data.toList = (n, m, 0))) (hz : z < 20) (hn0 : 2 ≤ n) (hn : (n : Int) ≤ 6) (hm : (m : Int) ≤ 65536) (hs : n + m ≤ s.size) (hp : 0 < s.size) (hsz : s.size ≤ 140737488351232) (u : Nat) (hu : s[0].toNat = u) :
    Calls Tryz.prog 19 #[.string s, .int .i64 z] w fun e w' => TkPost w s.data.toList (rd (d + 1) s.data.toList) e w' := by
  obtain ⟨R, hR⟩ : ∃ R, rd (d + 1) s.data.toList = R := ⟨_, rfl⟩
  rw [hR]
  have HR := Lib.hid hR
  clear hR
  have HU := Lib.hid hu
  have hlt := s[0].toNat_lt
  obtain ⟨zu, hzu⟩ : ∃ zu : Int, (s[0].toNat : Int) = zu := ⟨_, rfl⟩
  have zu0 : 0 ≤ zu := by omega
  have zu1 : zu < 256 := by omega
  rw [hu] at hlt
  have hzu2 : zu = (u : Int) := by omega
  obtain ⟨q1, hq1⟩ : ∃ q1, zu.tdiv 64 = q1 := ⟨_, rfl⟩
  obtain ⟨q2, hq2⟩ : ∃ q2, zu.tmod 32 = q2 := ⟨_, rfl⟩
  obtain ⟨q3, hq3⟩ : ∃ q3, zu.tdiv 32 = q3 := ⟨_, rfl⟩
  obtain ⟨kk, hkk⟩ : ∃ kk, (q3.tmod 2 == 1) = kk := ⟨_, rfl⟩
  have e1 : q1 = zu / 64 := by rw [← hq1, Int.tdiv_eq_ediv_of_nonneg zu0]
  have e2 : q2 = zu % 32 := by rw [← hq2, Int.tmod_eq_emod_of_nonneg zu0]
  have e3 : q3 = zu / 32 := by rw [← hq3, Int.tdiv_eq_ediv_of_nonneg zu0]
  have q1a : 0 ≤ q1 := by omega
  have q1b : q1 < 4 := by omega
  have q2a : 0 ≤ q2 := by omega
  have q2b : q2 < 32 := by omega
  have q3a : 0 ≤ q3 := by omega
  have q3b : q3 < 8 := by omega
  have H1 : Hid (q1 = ((u / 64 : Nat) : Int)) := Lib.hid (by omega)
  have H2 : Hid (q2 = ((u % 32 : Nat) : Int)) := Lib.hid (by omega)
  have H3 : Hid (kk = decide (u / 32 % 2 = 1)) := Lib.hid (by
    rw [← hkk, Int.tmod_eq_emod_of_nonneg q3a]
    by_cases h : u / 32 % 2 = 1
    · rw [decide_eq_true h, beq_iff_eq]; omega
    · rw [decide_eq_false h, beq_eq_false_iff_ne]; omega)
  have w1' : IntKind.u8.wrap q1 = q1 := by rw [IntKind.wrap_u8]; omega
  have w2' : IntKind.u8.wrap q2 = q2 := by rw [IntKind.wrap_u8]; omega
  have w3' : IntKind.u8.wrap q3 = q3 := by rw [IntKind.wrap_u8]; omega
  have W1 : Hid (IntKind.i64.wrap (IntKind.u8.wrap q1) = ((u / 64 : Nat) : Int)) := Lib.hid (by rw [w1', IntKind.wrap_i64]; omega)
  have W2 : Hid (IntKind.i64.wrap q2 = ((u % 32 : Nat) : Int)) := Lib.hid (by rw [IntKind.wrap_i64]; omega)
  have W4 : Hid (IntKind.i64.wrap (IntKind.u8.wrap q2) = ((u % 32 : Nat) : Int)) := Lib.hid (by rw [w2', IntKind.wrap_i64]; omega)
  have W3 : Hid (((IntKind.u8.wrap q3).tmod 2 == 1) = decide (u / 32 % 2 = 1)) := Lib.hid (by rw [w3', hkk]; exact H3.out)
  have W5 : Hid ((IntKind.u8.wrap ((IntKind.u8.wrap q3).tmod 2) == 1) = decide (u / 32 % 2 = 1)) := Lib.hid (by
    rw [w3', IntKind.wrap_u8, Int.emod_eq_of_lt (by rw [Int.tmod_eq_emod_of_nonneg q3a]; omega) (by rw [Int.tmod_eq_emod_of_nonneg q3a]; omega), hkk]; exact H3.out)
  clear hu hlt hzu2 e1 e2 e3 w1' w2' w3'
  have hfr : frame s.data.toList = (n + m, 0) := by unfold frame; rw [h.out]
  have HFR := Lib.hid hfr
  obtain ⟨al, hal⟩ : ∃ al, n + m = al := ⟨_, rfl⟩
  rw [hal] at HFR hs
  have HAL := Lib.hid hal
  have q1 : (al : Int) ≤ (s.size : Int) := by omega
  clear hfr hal
  go_enter Tryz.func19, Tryz.ntmps19
  go_wp2_with fail
  (with_reducible refine (rframe_var _ _ al 0 HFR).mono ?_)
  rintro e w0 ⟨rfl, hb0⟩
  go_wp2_with fail
  (with_reducible refine (rhead_ok _ _ n m h).mono ?_)
  rintro e w1 ⟨rfl, hb1⟩
  go_upto_region 9 with fail
  go_cut [12] (fun s12 wx => s12 = .pointer (some ⟨w1.heap.size, 0, none⟩) ∧ TkMid w1 u wx)
  case first =>
    go_region_held3 (fun _ => True) (trivial) (fail)
    all_goals (go_wp2_with fail; go_meet; refine ⟨rfl, tkMid_gen ?_ ?_ ?_⟩)
    all_goals (first | exact W1.out | exact W2.out | exact W3.out | exact H2.out | exact H3.out | exact W4.out | exact H1.out | exact W5.out)
  case rest =>
    obtain ⟨rfl, hmid⟩ := hcut
    clear hzu zu0 zu1 hq1 hq2 hq3 hkk q1a q1b q2a q2b q3a q3b H1 H2 H3 W1 W2 W3 W4 W5
    have hz0' := hb0.size
    rw [World.size_alloc] at hz0'
    have hz1 := hb1.size
    have hblR := (((Blk.new w 47 #[.int .i64 0, .int .i64 0, .bool false, .string ⟨#[]⟩, .slice none 0 0]).below hb0 (by simp)).below hb1 (by omega)).below hmid.below (by omega)
    have hB1 : Below w.heap.size w w1 := (((Below.refl _ _).alloc (Nat.le_refl _) _).trans (hb0.mono (by simp))).trans (hb1.mono (by omega))
    clear hb0 hb1
    have hsnm : n + m ≤ s.size := by rw [HAL.out]; exact hs
    by_cases hc : u / 32 % 2 = 1
    · have hdc : decide (u / 32 % 2 = 1) = true := decide_eq_true hc
      have hx := hmid.x
      rw [hdc] at hx
      have HX := Lib.hid hx
      have HRB := Lib.hid hblR
      have hms := hmid.size
      obtain ⟨_, _, c2, _, _⟩ := hx.cells5
      have hes := ext_size s n (n + m) hsnm
      have hrc := rd_cons (d := d) h.out hsnm hp HU.out hc
      have hla : (s.extract (n + m) s.size).data.toList = s.data.toList.drop (n + m) := by rw [Lib.extract_data]; exact List.take_of_length_le (by simp)
      rw [hla] at hrc
      rw [HAL.out] at hrc hes
      have HRC := Lib.hid hrc
      have hes2 : (s.extract n al).size = m := by rw [hes]; have := HAL.out; omega
      have HES := Lib.hid hes2
      have HBw := Lib.hid (hB1.trans (hmid.below.mono (by omega)))
      obtain ⟨X, hX⟩ : ∃ X, w1.heap.size = X := ⟨_, rfl⟩
      rw [hX] at HX hms c2 hz1 ⊢
      have hwX : w.heap.size < X := by omega
      have HN := Lib.hid hn0
      have HNA : Hid (n ≤ al) := Lib.hid (by have := HAL.out; omega)
      clear hx hblR hmid hdc hrc hes hB1 hes2 hla hsnm hc
      go_wp2_with fail
      have h0r : RdRel w X d u m (s.extract n al).data.toList (s.extract n al) [] (.slice none 0 0) wc :=
        ⟨by cases RA d (s.extract n al).data.toList <;> rfl, by rw [HES.out]; simp, HX.out, HRB.out, Grow.nil _ _, HBw.out, HX.out.lt, hwX⟩
      go_loopw [9] (fun s9 wr => ∃ (F : Nat) (xs : List El) (v : Value), s9 = .int .i64 (F : Int) ∧ F ≤ al ∧ RdRel w X d u m (s.extract n al).data.toList (s.extract F al) xs v wr) (fun s9 _ => al - (intOf s9).toNat)
      case atStart => exact ⟨n, [], _, rfl, HNA.out, h0r⟩
      case round =>
        clear h0r c2
        obtain ⟨F, xs, v, rfl, hF, hrel⟩ := hrel
        obtain ⟨av, nv, cv, rfl⟩ := hrel.grow.shape
        have HREL := Lib.hid hrel
        have hX1 := hrel.xlt
        have hw1 := hrel.wx
        have hfew := hrel.few
        have hCs := ext_size s F al hs
        rw [hCs] at hfew
        clear hrel hms
        have HF := Lib.hid hF
        have hF0 : 0 ≤ (F : Int) := by omega
        have hF1 : (F : Int) ≤ (al : Int) := by omega
        by_cases hC : (F : Int) < (al : Int)
        · have hCne : (s.extract F al).data.toList ≠ [] := by
            intro hq
            have := congrArg List.length hq
            have h2 := len_sz (s.extract F al)
            rw [h2, hCs] at this
            simp only [List.length_nil] at this
            omega
          have HCNE := Lib.hid hCne
          have HCS := Lib.hid hCs
          have HFW := Lib.hid hfew
          have hfk : (xs.length : Int) * 64 ≤ 4194304 := by omega
          clear hCne hCs hF hfew
          go_wp2_with fail
          (with_reducible refine (ih.out (s.extract F al) (z + 1) _ (Lib.hid (by have := hzd.out; omega)) (by omega) (by rw [HCS.out]; omega)).mono ?_)
          rintro e w3 (⟨er, her, hne, rfl, hb3⟩ | ⟨kc, kt, kk, kb, kks, kv, N, hok, hN, rfl, hk3, hfb, hb3⟩)
          · have hz3 := hb3.size
            have hR3 := (HREL.out.r.below hb3 (by omega)).alloc (.cells #[.int .i64 0, .int .i64 0, .bool false, .string ⟨#[]⟩, .slice none 0 0] 47)
            obtain ⟨d0, d1, d2, d3, d4⟩ := hR3.cells5
            have g0 := hR3.frozen 0
            have g1 := hR3.frozen 1
            have g2 := hR3.frozen 2
            have g3 := hR3.frozen 3
            have g4 := hR3.frozen 4
            have hne2 : (er != 0) = true := by rw [bne_iff_ne]; exact hne
            have HER := Lib.hid her
            have HNE := Lib.hid hne
            have hB4 : Below w.heap.size w (w3.alloc (.cells #[.int .i64 0, .int .i64 0, .bool false, .string ⟨#[]⟩, .slice none 0 0] 47)) := (HREL.out.below.trans (hb3.mono (by omega))).alloc (by omega) _
            have HB4 := Lib.hid hB4
            clear her hne hR3 hb3 hB4
            go_wp2_with fail
            refine bodyPost_ret (v := .tuple #[.agg #[.int .i64 0, .int .i64 0, .bool false, .string ⟨#[]⟩, .slice none 0 0], .int .i64 0, .int .i64 er]) (by simp [results, Tryz.results19, go_sem, d0, d1, d2, d3, d4]) rfl ?_
            refine .inl ⟨er, ?_, HNE.out, rfl, below_s5 w.heap.size HB4.out _ _ _ _ _⟩
            rw [← HR.out, HRC.out, HREL.out.ra, RA_err HCNE.out HER.out]
            rfl
          · obtain ⟨a3, cap3, rfl, _, _⟩ := hk3.at.len
            have hz3 := hb3.size
            have hK3 := Blk.new w3 47 #[.int .i64 kc, .int .i64 kt, .bool kk, .string kb, .slice a3 kks.length cap3]
            have hX3 := (HREL.out.x.below hb3 (by omega)).alloc (.cells #[.int .i64 kc, .int .i64 kt, .bool kk, .string kb, .slice a3 kks.length cap3] 47)
            have hR3 := (HREL.out.r.below hb3 (by omega)).alloc (.cells #[.int .i64 kc, .int .i64 kt, .bool kk, .string kb, .slice a3 kks.length cap3] 47)
            obtain ⟨_, _, _, _, x4⟩ := hX3.cells5
            have xf := hX3.frozen 4
            obtain ⟨d0, d1, d2, d3, d4⟩ := hK3.cells5
            have HR3 := Lib.hid hR3
            have HX3 := Lib.hid hX3
            have HK3 := Lib.hid hk3
            have HOK := Lib.hid hok
            have HFB := Lib.hid hfb
            have HN2 := Lib.hid hN
            obtain ⟨L, S, hL, hLl, hGX⟩ := HREL.out.grow.parts
            obtain ⟨i0, hi0, hz0', hz1', hz2'⟩ := info_parts el_info
            have Hi0 := Lib.hid hi0
            have Hz0 := Lib.hid hz0'
            have Hz1 := Lib.hid hz1'
            have Hz2 := Lib.hid hz2'
            have hB5 := hb3.alloc hz3 (.cells #[.int .i64 kc, .int .i64 kt, .bool kk, .string kb, .slice a3 kks.length cap3] 47)
            have hown := own_below hGX.own hB5
            rw [hLl] at hown
            have HB5 := Lib.hid hB5
            have HGX := Lib.hid hGX
            have HL := Lib.hid hL
            have HLl := Lib.hid hLl
            have hNi : (N : Int) ≤ 140737488351232 := by
              have h2 := len_sz (s.extract F al)
              rw [h2, HCS.out] at hN
              omega
            have hN0 : 0 ≤ (N : Int) := by omega
            clear hb3 hX3 hR3 hK3 hk3 hok hfb hN hi0 hz0' hz1' hz2' hGX hL hLl hB5
            go_wp2_with (at_builtin; refine wpList_append_own_at _ rfl _ _ 45 rfl (X + 1) 47 i0 _ 5 64 Tryz.underlying45 Hi0.out Hz0.out Hz1.out Hz2.out rfl (by decide) _ xs.length (rowE L) rfl (hown.alloc _) ⟨w3.heap.size + 1, 0, none⟩ 1 1 [.int .i64 kc, .int .i64 kt, .bool kk, .string kb, .slice a3 kks.length cap3] rfl rfl ?c1 ?c2 ?c3 ?c4 ?c5 ?_)
            case c1 => exact new_row _ _ (by simp) _ _ _ rfl
            case c2 => exact cells1_one (.mk kc kt kk kb [], .slice a3 kks.length cap3) _ _ _ rfl
            case c3 => unfold maxLen; omega
            case c4 => omega
            case c5 => simp; omega
            intro v4 w4 hown4 hgrow hnil hblock
            obtain ⟨gn, cap4, rfl⟩ : ∃ gn cap4, v4 = .slice (some ⟨gn, 0, none⟩) (xs.length + 1) cap4 := by
              rcases hown4.2 with ⟨_, h0⟩ | ⟨gn, cap4, cur, hv, _⟩
              · omega
              · exact ⟨gn, cap4, hv⟩
            have hob : ∀ q, q < X + 1 → some q ≠ (Value.slice av nv cv).ownBlock := fun q hq he => by have := (HGX.out.own.lt q he.symm).1; omega
            have hX4 := (HX3.out.alloc (.cells #[.int .i64 kc, .int .i64 kt, .bool kk, .string kb, .slice a3 kks.length cap3] 47)).grown hgrow (hob X (by omega))
            have hR4 := (HR3.out.alloc (.cells #[.int .i64 kc, .int .i64 kt, .bool kk, .string kb, .slice a3 kks.length cap3] 47)).grown hgrow (hob w.heap.size (by omega))
            obtain ⟨_, _, _, _, y4⟩ := hX4.cells5
            have yf := hX4.frozen 4
            have HX4 := Lib.hid hX4
            have HR4 := Lib.hid hR4
            have HGR := Lib.hid hgrow
            have HBL := Lib.hid hblock
            have HO4 := Lib.hid hown4
            clear hX4 hR4 hgrow hblock hown4 hob hnil hown x4 xf d0 d1 d2 d3 d4
            go_wp2_with fail
            go_roundw
            case rel =>
              have hsh := (rd_ne0 d _).2 _ _ HOK.out
              have hlen : (s.extract F al).data.toList.length = al - F := (len_sz _).trans HCS.out
              rw [List.length_drop, hlen] at hsh
              have hN2 := HN2.out
              rw [hlen] at hN2
              have hfew := HFW.out
              have hgr := HGR.out
              have hb5 := HB5.out
              have hk6 := (HK3.out.later (w' := w3.alloc (.cells #[.int .i64 kc, .int .i64 kt, .bool kk, .string kb, .slice a3 kks.length cap3] 47)) ((Below.refl _ _).alloc (Nat.le_refl _) _)).later (w' := (w3.alloc (.cells #[.int .i64 kc, .int .i64 kt, .bool kk, .string kb, .slice a3 kks.length cap3] 47)).alloc (.cells #[.int .i64 kc, .int .i64 kt, .bool kk, .string kb, .slice a3 kks.length cap3] 47)) ((Below.refl _ _).alloc (Nat.le_refl _) _)
              have hb6 := hb5.alloc hb5.size (.cells #[.int .i64 kc, .int .i64 kt, .bool kk, .string kb, .slice a3 kks.length cap3] 47)
              have hp := HGX.out.push (e := .mk kc kt kk kb kks) hb6 hk6 HFB.out (fun q hq => ⟨hq.1, by rw [World.size_alloc, World.size_alloc]; omega⟩) (by omega) hgr (by simpa using HBL.out) (by rw [HLl.out]; exact HO4.out)
              rw [HL.out] at hp
              have hp2 := hp.from_ (w' := w4.setCell ⟨X, 4, none⟩ (.slice (some ⟨gn, 0, none⟩) (xs.length + 1) cap4)) (by simp) (fun q hq hl => Below.heap_setCell _ _ _ _ (by show q ≠ X; omega))
              refine ⟨F + N, xs ++ [.mk kc kt kk kb kks], _, by go_num, by omega, ?_, ?_, (HX4.out.set_ 4 _).eq_ rfl, HR4.out.far (p := ⟨X, 4, none⟩) (by show w.heap.size ≠ X; omega) _, hp2, ?_, ?_, hw1⟩
              · rw [HREL.out.ra, RA_ok HCNE.out HOK.out, prep_prep, ext_drop]
              · rw [List.length_append, List.length_singleton, ext_size s _ _ hs]; omega
              · have h1 := HREL.out.below.trans (hb6.mono (by omega))
                exact (h1.grown hgr (by simp; omega) (fun q hq => by have := (HGX.out.own.lt q hq).1; omega)).setCell (p := ⟨X, 4, none⟩) (by show w.heap.size ≤ X; omega) _
              · have := hgr.size
                simp at this ⊢
                omega
            case measure =>
              have hsh := (rd_ne0 d _).2 _ _ HOK.out
              have hlen : (s.extract F al).data.toList.length = al - F := (len_sz _).trans HCS.out
              rw [List.length_drop, hlen] at hsh
              simp [intOf]
              omega
        · obtain rfl : F = al := by omega
          obtain ⟨x0, x1, x2, x3, x4⟩ := HREL.out.x.cells5
          obtain ⟨d0, d1, d2, d3, d4⟩ := HREL.out.r.cells5
          have g0 := HREL.out.r.frozen 0
          have g1 := HREL.out.r.frozen 1
          have g2 := HREL.out.r.frozen 2
          have g3 := HREL.out.r.frozen 3
          have g4 := HREL.out.r.frozen 4
          have hne : w.heap.size ≠ X := by omega
          have hfk : FewK xs.length := by unfold FewK; omega
          have HW := Lib.hid (HREL.out.grow.whole hfk)
          have hCe : (s.extract F F).data.toList = [] := List.eq_nil_of_length_eq_zero (by simp)
          have HCE := Lib.hid hCe
          clear hCe hfew hCs hF hF1
          go_wp2_with fail
          refine bodyPost_ret (v := .tuple #[.agg #[.int .i64 (u / 64 : Nat), .int .i64 (u % 32 : Nat), .bool true, .string ⟨#[]⟩, .slice av nv cv], .int .i64 F, .int .i64 0]) (by simp [results, Tryz.results19, go_sem, d0, d1, d2, d3, d4]) rfl ?_
          refine .inr ⟨_, _, _, _, xs, _, F, ?_, ?_, rfl, ?_, ?_, ?_⟩
          · rw [← HR.out, HRC.out, HREL.out.ra, HCE.out, RA_nil]
            simp [prep]
          · simpa using hs
          · refine HW.out.keep (by simp) fun g hg hS => ⟨?_, by omega, by simpa using hg⟩
            iterate 5 rw [Below.heap_setCell _ _ _ _ (by show g ≠ w.heap.size; omega)]
          · unfold Few; decide
          · exact below_s5 w.heap.size HREL.out.below _ _ _ _ _
    · have hdc : decide (u / 32 % 2 = 1) = false := decide_eq_false hc
      have hx := hmid.x
      rw [hdc] at hx
      have hes := ext_size s n (n + m) hsnm
      have hrf := rd_flat (d := d) h.out hsnm hp HU.out hc
      have hla : (s.extract (n + m) s.size).data.toList = s.data.toList.drop (n + m) := by rw [Lib.extract_data]; exact List.take_of_length_le (by simp)
      rw [hla] at hrf
      rw [HAL.out] at hrf hes
      have HRF := Lib.hid hrf
      have HES := Lib.hid hes
      obtain ⟨c0, c1, c2, c3, c4⟩ := hx.cells5
      have f3 := hx.frozen 3
      obtain ⟨d0, d1, d2, d3, d4⟩ := hblR.cells5
      have g0 := hblR.frozen 0
      have g1 := hblR.frozen 1
      have g2 := hblR.frozen 2
      have g3 := hblR.frozen 3
      have g4 := hblR.frozen 4
      have HM := Lib.hid hmid
      have HB1 := Lib.hid hB1
      have hne : w.heap.size ≠ w1.heap.size := by omega
      have HS := Lib.hid hs
      have HHZ := Lib.hid hz1
      have i1 : (n : Int) ≤ (al : Int) := by have := HAL.out; omega
      have i2 : 0 ≤ (n : Int) := by omega
      have hle1 : w.heap.size ≤ w1.heap.size := by omega
      clear hx hblR hmid hdc hrf hes hB1 hla hsnm hc hs
      go_wp2_with fail
      refine bodyPost_ret (v := .tuple #[.agg #[.int .i64 (u / 64 : Nat), .int .i64 (u % 32 : Nat), .bool false, .string (s.extract n al), .slice none 0 0], .int .i64 al, .int .i64 0]) (by simp [results, Tryz.results19, go_sem, d0, d1, d2, d3, d4]) rfl ?_
      refine .inr ⟨_, _, _, _, _, _, al, HR.out.symm.trans HRF.out, by simpa using HS.out, rfl, KsP.nil _ _, ?_, ?_⟩
      · unfold Few; rw [HES.out]; have := HS.out; omega
      · have hq : Below w.heap.size w wc := HB1.out.trans (HM.out.below.mono hle1)
        exact below_s5 w.heap.size (hq.setCell (p := ⟨_, 3, none⟩) hle1 _) _ _ _ _ _
theorem take_any (d : Nat) : ∀ (s : ByteArray) (z : Int) (w : World), Hid (z + d = 20) → 0 ≤ z → s.size ≤ 140737488351232 → Calls Tryz.prog 19 #[.string s, .int .i64 z] w fun e w' => TkPost w s.data.toList (rd d s.data.toList) e w' := by
  induction d with
  | zero =>
    intro s z w hz hz0 hs
    obtain ⟨⟨n, m, r⟩, hh⟩ : ∃ q, hd s.data.toList = q := ⟨_, rfl⟩
    have hf : frame s.data.toList = (n + m, r) := by unfold frame; rw [hh]
    by_cases hr : r = 0
    · subst hr
      refine (take_deep s z w (n + m) (Lib.hid hf) (by have := hz.out; omega)).mono fun e w' ⟨he, hb⟩ => .inl ⟨23, ?_, by decide, he, hb⟩
      rw [rd, if_pos (by rw [hh])]
    · refine (take_head s z w (n + m) r (Lib.hid hf) (by rw [bne_iff_ne]; exact hr)).mono fun e w' ⟨he, hb⟩ => .inl ⟨r, ?_, hr, he, hb⟩
      rw [rd_head (by rw [hh]; exact hr), hh]
  | succ d ih =>
    intro s z w hz hz0 hs
    obtain ⟨⟨n, m, r⟩, hh⟩ : ∃ q, hd s.data.toList = q := ⟨_, rfl⟩
    have hf : frame s.data.toList = (n + m, r) := by unfold frame; rw [hh]
    by_cases hr : r = 0
    · subst hr
      have ho := hd_ok hh
      have hl : s.data.toList.length = s.size := by simp
      rw [hl] at ho
      have hz2 : z < 20 := by have := hz.out; omega
      by_cases hsh : s.size < n + m
      · refine (take_short s z w (n + m) (Lib.hid hf) hz2 (by omega)).mono fun e w' ⟨he, hb⟩ => .inl ⟨20, ?_, by decide, he, hb⟩
        rw [rd, hh]
        simp only [if_true]
        rw [if_pos (by omega)]
      · exact take_ok d (Lib.hid ih) s z w hz hz0 n m (Lib.hid hh) hz2 ho.1 (by omega) (by omega) (by omega) (by omega) hs _ rfl
    · refine (take_head s z w (n + m) r (Lib.hid hf) (by rw [bne_iff_ne]; exact hr)).mono fun e w' ⟨he, hb⟩ => .inl ⟨r, ?_, hr, he, hb⟩
      rw [rd_head (by rw [hh]; exact hr), hh]
end Go.Proofs.YtlkdbopdmieojaaGreat
