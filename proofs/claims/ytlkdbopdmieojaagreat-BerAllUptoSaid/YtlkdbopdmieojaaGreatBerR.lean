/- The contract of ber.read. -/
import Derived.Test.YtlkdbopdmieojaaGreatBerG
import Derived.Test.YtlkdbopdmieojaaGreatBerJ
import Derived.Test.YtlkdbopdmieojaaGreatBerS
import Derived.WalkLawsBesides
import Derived.RegionTactic
import Derived.BigRegion
import Derived.StillTailTactics
import Derived.Deep.RegionHeld3
import Derived.Deep.DeepCutAuto
namespace Go.Proofs.YtlkdbopdmieojaaGreat
open Go.RowKit Ber
set_option maxRecDepth 20000
set_option maxHeartbeats 400000 in
theorem clone_any (s : ByteArray) (w : World) (hlim : s.size ≤ 281474976710656) : Calls Tryz.prog 104 #[.string s] w fun e w' => e = .returned (.string s) ∧ Below w.heap.size w w' := by
  have hc := fun W => lite_Clone s W hlim
  have HC := Lib.hid hc
  clear hc hlim
  go_enter Tryz.func104, Tryz.ntmps104
  go_wp2_with fail
  (with_reducible refine (HC.out _).mono ?_)
  rintro e w1 ⟨rfl, hb⟩
  go_wp2_with fail
  go_ret
  exact ⟨rfl, hb⟩
/-- how a reading that fails ends -/
def panicV (n : Int) : Ending := .panicked [{ v := .iface 48 (.int .i64 n), recovered := false }]
def rz : Array Value := #[.int .i64 0, .int .i64 0, .bool false, .string ⟨#[]⟩, .slice none 0 0]
set_option maxHeartbeats 1000000 in
theorem read_head (s : ByteArray) (z : Int) (w : World) (n m : Nat) (r : Int) (h : Hid (hd s.data.toList = (n, m, r))) (hr : (r != 0) = true) : Calls Tryz.prog 18 #[.string s, .int .i64 z] w fun e w' => e = panicV r ∧ Below w.heap.size w w' := by
  unfold panicV
  go_enter Tryz.func18, Tryz.ntmps18
  go_wp2_with fail
  (with_reducible refine (head_var _ _ n m r h).mono ?_)
  rintro e w1 ⟨rfl, hb⟩
  go_wp2_with fail
  exact ⟨rfl, rfl, ((Below.refl _ _).alloc (Nat.le_refl _) _).trans (hb.mono (by simp))⟩
set_option maxHeartbeats 1000000 in
theorem read_deep (s : ByteArray) (z : Int) (w : World) (n m : Nat) (h : Hid (hd s.data.toList = (n, m, 0))) (hz : 20 ≤ z) : Calls Tryz.prog 18 #[.string s, .int .i64 z] w fun e w' => e = panicV 23 ∧ Below w.heap.size w w' := by
  unfold panicV
  go_enter Tryz.func18, Tryz.ntmps18
  go_wp2_with fail
  (with_reducible refine (head_var _ _ n m 0 h).mono ?_)
  rintro e w1 ⟨rfl, hb⟩
  go_wp2_with fail
  exact ⟨rfl, rfl, ((Below.refl _ _).alloc (Nat.le_refl _) _).trans (hb.mono (by simp))⟩
set_option maxHeartbeats 1000000 in
theorem read_short (s : ByteArray) (z : Int) (w : World) (n m : Nat) (h : Hid (hd s.data.toList = (n, m, 0))) (hz : z < 20) (hn : (n : Int) ≤ 6) (hm : (m : Int) ≤ 65536) (hs : (s.size : Int) < (n : Int) + (m : Int)) : Calls Tryz.prog 18 #[.string s, .int .i64 z] w fun e w' => e = panicV 20 ∧ Below w.heap.size w w' := by
  unfold panicV
  go_enter Tryz.func18, Tryz.ntmps18
  go_wp2_with fail
  (with_reducible refine (head_var _ _ n m 0 h).mono ?_)
  rintro e w1 ⟨rfl, hb⟩
  go_wp2_with fail
  exact ⟨rfl, rfl, ((Below.refl _ _).alloc (Nat.le_refl _) _).trans (hb.mono (by simp))⟩
theorem and32 (n : Nat) (h : n < 256) : bits .and .u8 (n : Int) 32 = ((32 * (n / 32 % 2) : Nat) : Int) := by
  have : ∀ x : Fin 256, bits .and .u8 (x.val : Int) 32 = ((32 * (x.val / 32 % 2) : Nat) : Int) := by decide +kernel
  exact this ⟨n, h⟩
theorem bit32 (u : Nat) (h : u < 256) : (bits .and .u8 (u : Int) 32 != 0) = decide (u / 32 % 2 = 1) := by
  rw [and32 u h]
  have : u / 32 % 2 = 0 ∨ u / 32 % 2 = 1 := by omega
  rcases this with h | h <;> simp [h]
/-- what the first part of read leaves -/
structure RdMid (w0 w1 : World) (u n m : Nat) (s : ByteArray) (wx : World) : Prop where
  x : Blk wx w1.heap.size 47 #[.int .i64 (u / 64 : Nat), .int .i64 (u % 32 : Nat), .bool (decide (u / 32 % 2 = 1)), .string ⟨#[]⟩, .slice none 0 0]
  below : Below w1.heap.size w1 wx
  size : wx.heap.size = w1.heap.size + 1
theorem rdMid_of {w0 w1 : World} {u n m : Nat} {s : ByteArray} (hu : u < 256) : RdMid w0 w1 u n m s (w1.alloc (.cells #[.int .i64 (IntKind.i64.wrap ((u : Int) / 64)), .int .i64 (IntKind.i64.wrap (bits .and .u8 (u : Int) 31)), .bool (bits .and .u8 (u : Int) 32 != 0), .string ⟨#[]⟩, .slice none 0 0] 47)).drew := by
  have e1 : IntKind.i64.wrap ((u : Int) / 64) = ((u / 64 : Nat) : Int) := by rw [IntKind.wrap_i64]; omega
  have e2 : IntKind.i64.wrap (bits .and .u8 (u : Int) 31) = ((u % 32 : Nat) : Int) := by rw [and31 u hu, IntKind.wrap_i64]; omega
  rw [e1, e2, bit32 u hu]
  exact ⟨(Blk.new w1 _ _).drew, below_drewN ((Below.refl _ _).alloc (Nat.le_refl _) _) 1, by simp⟩
theorem Blk.cells5 {w : World} {E : Nat} {T : TypeId} {v0 v1 v2 v3 v4 : Value} (h : Blk w E T #[v0, v1, v2, v3, v4]) :
    w.cell? ⟨E, 0, none⟩ = some v0 ∧ w.cell? ⟨E, 1, none⟩ = some v1 ∧ w.cell? ⟨E, 2, none⟩ = some v2 ∧ w.cell? ⟨E, 3, none⟩ = some v3 ∧ w.cell? ⟨E, 4, none⟩ = some v4 := ⟨h.cell 0, h.cell 1, h.cell 2, h.cell 3, h.cell 4⟩
theorem ext_size (s : ByteArray) (a b : Nat) (h : b ≤ s.size) : (s.extract a b).size = b - a := by
  simp
  omega
/-- all that bytes hold, one behind the other -/
def RA (d : Nat) (l : List UInt8) : Except Int (List El) := rdAll (rd d) l.length l
def prep (xs : List El) : Except Int (List El) → Except Int (List El)
  | .error e => .error e
  | .ok ys => .ok (xs ++ ys)
theorem rdAll_fuel (f : List UInt8 → Except Int (El × List UInt8)) (hf : ∀ l x r, f l = .ok (x, r) → r.length < l.length) : ∀ (n n' : Nat) (l : List UInt8), l.length ≤ n → l.length ≤ n' → rdAll f n l = rdAll f n' l := by
  intro n
  induction n with
  | zero => intro n' l h _; rw [List.eq_nil_of_length_eq_zero (by omega : l.length = 0)]; simp [rdAll]
  | succ n ih =>
    intro n' l h h'
    cases l with
    | nil => simp [rdAll]
    | cons a l =>
      obtain ⟨n', rfl⟩ : ∃ k, n' = k + 1 := ⟨n' - 1, by simp at h'; omega⟩
      rw [rdAll, rdAll]
      split
      · rfl
      · rename_i x r hx
        have := hf _ _ _ hx
        rw [ih n' r (by simp at h this; omega) (by simp at h' this; omega)]
theorem RA_err {d : Nat} {l : List UInt8} {e : Int} (hl : l ≠ []) (h : rd d l = .error e) : RA d l = .error e := by
  cases l with
  | nil => exact absurd rfl hl
  | cons a l => unfold RA; rw [List.length_cons, rdAll, h]
theorem RA_ok {d : Nat} {l r : List UInt8} {x : El} (hl : l ≠ []) (h : rd d l = .ok (x, r)) : RA d l = prep [x] (RA d r) := by
  have hs := (rd_ne0 d l).2 x r h
  cases l with
  | nil => exact absurd rfl hl
  | cons a l =>
    unfold RA
    rw [List.length_cons, rdAll, h]
    simp only
    rw [rdAll_fuel (rd d) (fun l x r h => (rd_ne0 d l).2 x r h) l.length r.length r (by simp at hs; omega) (Nat.le_refl _)]
    cases rdAll (rd d) r.length r <;> rfl
theorem prep_prep (xs ys : List El) (r : Except Int (List El)) : prep xs (prep ys r) = prep (xs ++ ys) r := by
  cases r <;> simp [prep]
theorem RA_nil (d : Nat) : RA d [] = .ok [] := rfl
/-- what read leaves -/
def RdPost (w0 : World) (res : Except Int (El × List UInt8)) (e : Ending) (w' : World) : Prop :=
  (∃ n, res = .error n ∧ e = panicV n ∧ Below w0.heap.size w0 w') ∨
  (∃ (c t : Int) (k : Bool) (b : ByteArray) (ks : List El) (v : Value) (S' : ByteArray), res = .ok (.mk c t k b ks, S'.data.toList) ∧ e = .returned (.tuple #[.agg #[.int .i64 c, .int .i64 t, .bool k, .string b, v], .string S']) ∧ KsP (fun b => w0.heap.size ≤ b ∧ b < w'.heap.size) w' ks v ∧ Few b.size ∧ S'.size ≤ 140737488351232 ∧ Below w0.heap.size w0 w')
theorem rd_flat {d : Nat} {s : ByteArray} {n m u : Nat} (h : hd s.data.toList = (n, m, 0)) (hs : n + m ≤ s.size) (hp : 0 < s.size) (hu : s[0].toNat = u) (hc : ¬ u / 32 % 2 = 1) :
    rd (d + 1) s.data.toList = .ok (.mk (u / 64 : Nat) (u % 32 : Nat) false (s.extract n (n + m)) [], (s.extract (n + m) s.size).data.toList) := by
  have hh : (s.data.toList.headD 0).toNat = u := by
    rw [← hu]
    obtain ⟨⟨l⟩⟩ := s
    cases l with
    | nil => simp [ByteArray.size] at hp
    | cons a l => rfl
  have hl : s.data.toList.length = s.size := by simp
  rw [rd, h]
  simp only [if_true]
  rw [if_neg (by omega), hh, if_neg hc]
  have e1 : (s.extract n (n + m)).data.toList = (s.data.toList.drop n).take m := by rw [Lib.extract_data, Nat.add_sub_cancel_left]
  have e2 : (s.extract (n + m) s.size).data.toList = s.data.toList.drop (n + m) := by rw [Lib.extract_data]; exact List.take_of_length_le (by simp)
  rw [← e1, ← e2, ba_eta]
theorem rd_cons {d : Nat} {s : ByteArray} {n m u : Nat} (h : hd s.data.toList = (n, m, 0)) (hs : n + m ≤ s.size) (hp : 0 < s.size) (hu : s[0].toNat = u) (hc : u / 32 % 2 = 1) :
    rd (d + 1) s.data.toList = match RA d (s.extract n (n + m)).data.toList with | .error e => .error e | .ok ks => .ok (.mk (u / 64 : Nat) (u % 32 : Nat) true ⟨#[]⟩ ks, (s.extract (n + m) s.size).data.toList) := by
  have hh : (s.data.toList.headD 0).toNat = u := by
    rw [← hu]
    obtain ⟨⟨l⟩⟩ := s
    cases l with
    | nil => simp [ByteArray.size] at hp
    | cons a l => rfl
  have hl : s.data.toList.length = s.size := by simp
  rw [rd, h]
  simp only [if_true]
  rw [if_neg (by omega), hh, if_pos hc]
  have e1 : (s.extract n (n + m)).data.toList = (s.data.toList.drop n).take m := by rw [Lib.extract_data, Nat.add_sub_cancel_left]
  have e2 : (s.extract (n + m) s.size).data.toList = s.data.toList.drop (n + m) := by rw [Lib.extract_data]; exact List.take_of_length_le (by simp)
  rw [← e1, ← e2]
  rfl
theorem Grow.shape {B : Nat} {w : World} {ks : List El} {v : Value} (h : Grow B w ks v) : ∃ a n c, v = .slice a n c := by
  obtain ⟨L, S, _, h2, _⟩ := h
  rcases h2.2 with ⟨rfl, _⟩ | ⟨g, cap, cur, rfl, _⟩
  · exact ⟨_, _, _, rfl⟩
  · exact ⟨_, _, _, rfl⟩
/-- whatever leaves the blocks from B on leaves the list -/
theorem Grow.from_ {B : Nat} {w w' : World} {ks : List El} {v : Value} (h : Grow B w ks v) (hs : w.heap.size ≤ w'.heap.size) (hb : ∀ g, B ≤ g → g < w.heap.size → w'.heap[g]? = w.heap[g]?) : Grow B w' ks v := by
  obtain ⟨L, C, h1, h2, h3, h3', h4, h5, h6⟩ := h
  refine ⟨L, C, h1, ⟨h2.1, ?_⟩, fun i hi => (h3 i hi).keep hs (fun g hg hS => ⟨hb g (h4 i g hS).1 hg, hS⟩), h3', fun i b hS => ⟨(h4 i b hS).1, Nat.lt_of_lt_of_le (h4 i b hS).2 hs⟩, h5, h6⟩
  rcases h2.2 with h0 | ⟨g', cap, cur, rfl, hB, hh, r⟩
  · exact .inl h0
  · exact .inr ⟨g', cap, cur, rfl, hB, (hb g' hB (Array.getElem?_eq_some_iff.1 hh).1).trans hh, r⟩
/-- what holds at the head of read's loop -/
structure RdRel (w : World) (X d u m : Nat) (c0 : List UInt8) (C : ByteArray) (xs : List El) (v : Value) (wr : World) : Prop where
  ra : RA d c0 = prep xs (RA d C.data.toList)
  few : xs.length + C.size ≤ m
  x : Blk wr X 47 #[.int .i64 (u / 64 : Nat), .int .i64 (u % 32 : Nat), .bool true, .string ⟨#[]⟩, v]
  r : Blk wr w.heap.size 47 #[.int .i64 0, .int .i64 0, .bool false, .string ⟨#[]⟩, .slice none 0 0]
  grow : Grow (X + 1) wr xs v
  below : Below w.heap.size w wr
  xlt : X < wr.heap.size
  wx : w.heap.size < X
theorem below_s5 {a w : World} (E : Nat) (h : Below E a w) (v0 v1 v2 v3 v4 : Value) :
    Below E a (((((w.setCell ⟨E, 0, none⟩ v0).setCell ⟨E, 1, none⟩ v1).setCell ⟨E, 2, none⟩ v2).setCell ⟨E, 3, none⟩ v3).setCell ⟨E, 4, none⟩ v4) :=
  ((((h.setCell (p := ⟨_, 0, none⟩) (Nat.le_refl _) _).setCell (p := ⟨_, 1, none⟩) (Nat.le_refl _) _).setCell (p := ⟨_, 2, none⟩) (Nat.le_refl _) _).setCell (p := ⟨_, 3, none⟩) (Nat.le_refl _) _).setCell (p := ⟨_, 4, none⟩) (Nat.le_refl _) _
def strSize : Value → Nat
  | .string C => C.size
  | _ => 0
set_option maxHeartbeats 4000000 in
theorem read_ok (d : Nat) (ih : Hid (∀ (s : ByteArray) (z : Int) (w : World), Hid (z + d = 20) → 0 ≤ z → s.size ≤ 140737488351232 → Calls Tryz.prog 18 #[.string s, .int .i64 z] w fun e w' => RdPost w (rd d s.data.toList) e w')) (s : ByteArray) (z : Int) (w : World) (hzd : Hid (z + (d + 1 : Nat) = 20)) (hz0 : 0 ≤ z) (n m : Nat) (h : Hid (hd s.data.toList = (n, m, 0))) (hz : z < 20) (hn0 : 2 ≤ n) (hn : (n : Int) ≤ 6) (hm : (m : Int) ≤ 65536) (hs : n + m ≤ s.size) (hp : 0 < s.size) (hsz : s.size ≤ 140737488351232) (u : Nat) (hu : s[0].toNat = u) :
    Calls Tryz.prog 18 #[.string s, .int .i64 z] w fun e w' => RdPost w (rd (d + 1) s.data.toList) e w' := by
  obtain ⟨R, hR⟩ : ∃ R, rd (d + 1) s.data.toList = R := ⟨_, rfl⟩
  rw [hR]
  have HR := Lib.hid hR
  clear hR
  have HU := Lib.hid hu
  have hlt := s[0].toNat_lt
  rw [hu] at hlt
  go_enter Tryz.func18, Tryz.ntmps18
  go_wp2_with fail
  (with_reducible refine (head_var _ _ n m 0 h).mono ?_)
  rintro e w1 ⟨rfl, hb⟩
  go_upto_region 8 with fail
  go_cut [9] (fun s9 wx => s9 = .pointer (some ⟨w1.heap.size, 0, none⟩) ∧ RdMid w w1 u n m s wx)
  case first =>
    go_region_held3 (fun _ => True) (trivial) (fail)
    all_goals (go_wp2_with fail; go_meet; exact ⟨rfl, rdMid_of hlt⟩)
  case rest =>
    obtain ⟨rfl, hmid⟩ := hcut
    clear hu
    have hblR := (Blk.new w 47 #[.int .i64 0, .int .i64 0, .bool false, .string ⟨#[]⟩, .slice none 0 0]).below hb (by simp)
    have hz1 := hb.size
    rw [World.size_alloc] at hz1
    have hblR := hblR.below hmid.below (by omega)
    have hB1 : Below w.heap.size w w1 := ((Below.refl _ _).alloc (Nat.le_refl _) _).trans (hb.mono (by simp))
    clear hb
    by_cases hc : u / 32 % 2 = 1
    · have hdc : decide (u / 32 % 2 = 1) = true := decide_eq_true hc
      have hx := hmid.x
      rw [hdc] at hx
      have HX := Lib.hid hx
      have HRB := Lib.hid hblR
      have HM := Lib.hid hmid
      have hms := hmid.size
      obtain ⟨_, _, c2, _, _⟩ := hx.cells5
      have hes := ext_size s n (n + m) hs
      have hrc := rd_cons (d := d) h.out hs hp HU.out hc
      have HRC := Lib.hid hrc
      have HES := Lib.hid hes
      have HBw := Lib.hid (hB1.trans (hmid.below.mono (by omega)))
      obtain ⟨X, hX⟩ : ∃ X, w1.heap.size = X := ⟨_, rfl⟩
      rw [hX] at HX hms c2 hz1 ⊢
      have i1 : (n : Int) ≤ (n : Int) + (m : Int) := by omega
      have i2 : (n : Int) + (m : Int) ≤ (s.size : Int) := by omega
      have i3 : ((n : Int) + (m : Int)).toNat = n + m := by omega
      have i4 : (0 : Int) ≤ (n : Int) + (m : Int) := by omega
      clear hx hblR hmid hdc hrc hes hB1
      go_wp2_with fail
      have h0r : RdRel w X d u m (s.extract n (n + m)).data.toList (s.extract n (n + m)) [] (.slice none 0 0) wc :=
        ⟨by cases RA d (s.extract n (n + m)).data.toList <;> rfl, by rw [HES.out]; simp, HX.out, HRB.out, Grow.nil _ _, HBw.out, HX.out.lt, by omega⟩
      go_loopw [10] (fun s10 wr => ∃ (C : ByteArray) (xs : List El) (v : Value), s10 = .string C ∧ RdRel w X d u m (s.extract n (n + m)).data.toList C xs v wr) (fun s10 _ => strSize s10)
      case atStart => exact ⟨_, [], _, rfl, h0r⟩
      case round =>
        clear h0r c2
        obtain ⟨C, xs, v, rfl, hrel⟩ := hrel
        obtain ⟨av, nv, cv, rfl⟩ := hrel.grow.shape
        have HREL := Lib.hid hrel
        have hX1 := hrel.xlt
        have hw1 := hrel.wx
        have hfew := hrel.few
        clear hrel
        by_cases hC : C.size = 0
        · have hE : C.toList.isEmpty = true := by rw [isEmpty_ba]; exact decide_eq_true hC
          have hCe : C.data.toList = [] := List.eq_nil_of_length_eq_zero (by simpa using hC)
          have HCe := Lib.hid hCe
          obtain ⟨x0, x1, x2, x3, x4⟩ := HREL.out.x.cells5
          obtain ⟨d0, d1, d2, d3, d4⟩ := HREL.out.r.cells5
          have g0 := HREL.out.r.frozen 0
          have g1 := HREL.out.r.frozen 1
          have g2 := HREL.out.r.frozen 2
          have g3 := HREL.out.r.frozen 3
          have g4 := HREL.out.r.frozen 4
          have hne : w.heap.size ≠ X := by omega
          have hfk : FewK xs.length := by unfold FewK; omega
          have HW := Lib.hid (HREL.out.grow.whole hfk)
          clear hCe hC
          go_wp2_with fail
          go_region
          go_wp2_with fail
          refine bodyPost_ret (v := .tuple #[.agg #[.int .i64 (u / 64 : Nat), .int .i64 (u % 32 : Nat), .bool true, .string ⟨#[]⟩, .slice av nv cv], .string (s.extract (n + m) s.size)]) (by simp [results, Tryz.results18, go_sem, d0, d1, d2, d3, d4]) rfl ?_
          refine .inr ⟨_, _, _, _, xs, _, _, ?_, rfl, ?_, ?_, ?_, ?_⟩
          · rw [← HR.out, HRC.out, HREL.out.ra, HCe.out, RA_nil]
            simp [prep]
          · refine HW.out.keep (by simp) fun g hg hS => ⟨?_, by omega, by simpa using hg⟩
            rw [heap_drew]
            iterate 5 rw [Below.heap_setCell _ _ _ _ (by show g ≠ w.heap.size; omega)]
          · unfold Few; decide
          · rw [ext_size s _ _ (Nat.le_refl _)]; omega
          · exact below_drewN (below_s5 w.heap.size HREL.out.below _ _ _ _ _) 1
        · have hE : C.toList.isEmpty = false := by rw [isEmpty_ba]; exact decide_eq_false hC
          have hCne : C.data.toList ≠ [] := by
            intro hq
            apply hC
            have := congrArg List.length hq
            simpa using this
          go_wp2_with fail
          (with_reducible refine (ih.out C (z + 1) _ (Lib.hid (by have := hzd.out; omega)) (by omega) (by omega)).mono ?_)
          rintro e w3 (⟨er, her, rfl, hb3⟩ | ⟨kc, kt, kk, kb, kks, kv, S', hok, rfl, hk3, hfb, hS', hb3⟩)
          · unfold panicV
            go_wp2_with fail
            refine ⟨rfl, .inl ⟨er, ?_, rfl, ?_⟩⟩
            · rw [← HR.out, HRC.out, HREL.out.ra, RA_err hCne her]
              rfl
            · exact (HREL.out.below.alloc (by omega) _).trans (hb3.mono (by simp; omega))
          · obtain ⟨a3, cap3, rfl, _, _⟩ := hk3.at.len
            have hz3 := hb3.size
            rw [World.size_alloc] at hz3
            have hK3 := (Blk.new wr 47 #[.int .i64 0, .int .i64 0, .bool false, .string ⟨#[]⟩, .slice none 0 0]).below hb3 (by simp)
            have hX3 := (HREL.out.x.alloc (.cells #[.int .i64 0, .int .i64 0, .bool false, .string ⟨#[]⟩, .slice none 0 0] 47)).below hb3 (by simp; omega)
            obtain ⟨_, _, _, _, x4⟩ := hX3.cells5
            have xf := hX3.frozen 4
            obtain ⟨d0, d1, d2, d3, d4⟩ := hK3.cells5
            have g0 := hK3.frozen 0
            have g1 := hK3.frozen 1
            have g2 := hK3.frozen 2
            have g3 := hK3.frozen 3
            have g4 := hK3.frozen 4
            have hXK : X ≠ wr.heap.size := by omega
            have hR3 := (HREL.out.r.alloc (.cells #[.int .i64 0, .int .i64 0, .bool false, .string ⟨#[]⟩, .slice none 0 0] 47)).below hb3 (by simp; omega)
            have HR3 := Lib.hid hR3
            clear hR3
            have HB3 := Lib.hid hb3
            have HX3 := Lib.hid hX3
            have HK3 := Lib.hid hk3
            have HOK := Lib.hid hok
            have HFB := Lib.hid hfb
            obtain ⟨L, S, hL, hLl, hGX⟩ := HREL.out.grow.parts
            obtain ⟨i0, hi0, hz0', hz1', hz2'⟩ := info_parts el_info
            have Hi0 := Lib.hid hi0
            have Hz0 := Lib.hid hz0'
            have Hz1 := Lib.hid hz1'
            have Hz2 := Lib.hid hz2'
            have hB5 := below_s5 wr.heap.size (((Below.refl wr.heap.size wr).alloc (Nat.le_refl _) (.cells #[.int .i64 0, .int .i64 0, .bool false, .string ⟨#[]⟩, .slice none 0 0] 47)).trans (hb3.mono (by simp))) (.int .i64 kc) (.int .i64 kt) (.bool kk) (.string kb) (.slice a3 kks.length cap3)
            have hown := own_below hGX.own hB5
            rw [hLl] at hown
            have HB5 := Lib.hid hB5
            have HGX := Lib.hid hGX
            have HL := Lib.hid hL
            have HLl := Lib.hid hLl
            clear hb3 hX3 hK3 hk3 hok hfb hi0 hz0' hz1' hz2' hGX hL hLl hB5
            go_wp2_with (at_builtin; refine wpList_append_own_at _ rfl _ _ 45 rfl (X + 1) 47 i0 _ 5 64 Tryz.underlying45 Hi0.out Hz0.out Hz1.out Hz2.out rfl (by decide) _ xs.length (rowE L) rfl (hown.alloc _) ⟨w3.heap.size, 0, none⟩ 1 1 [.int .i64 kc, .int .i64 kt, .bool kk, .string kb, .slice a3 kks.length cap3] rfl rfl ?c1 ?c2 ?c3 ?c4 ?c5 ?_)
            case c1 => exact new_row _ _ (by simp) _ _ _ rfl
            case c2 => exact cells1_one (.mk kc kt kk kb [], .slice a3 kks.length cap3) _ _ _ rfl
            case c3 => unfold maxLen; omega
            case c4 => omega
            case c5 => simp; omega
            intro v4 w4 hown4 hgrow hnil hblock
            obtain ⟨gn, cap4, rfl⟩ : ∃ gn cap4, v4 = .slice (some ⟨gn, 0, none⟩) (xs.length + 1) cap4 := by
              rcases hown4.2 with ⟨_, h0⟩ | ⟨gn, cap4, cur, hv, _⟩
              · omega
              · exact ⟨gn, cap4, hv⟩
            have hob : ∀ q, q < X + 1 → some q ≠ (Value.slice av nv cv).ownBlock := fun q hq he => by have := (HGX.out.own.lt q he.symm).1; omega
            have far5 : ∀ (q : Nat) (cs : Array Value), q ≠ wr.heap.size → q < X + 1 → Blk w3 q 47 cs → Blk w4 q 47 cs := fun q cs hq hqX hblk =>
              (((((((hblk.far (p := ⟨wr.heap.size, 0, none⟩) hq _).far (p := ⟨wr.heap.size, 1, none⟩) hq _).far (p := ⟨wr.heap.size, 2, none⟩) hq _).far (p := ⟨wr.heap.size, 3, none⟩) hq _).far (p := ⟨wr.heap.size, 4, none⟩) hq _).alloc _).grown hgrow (hob q hqX))
            have hX4 := far5 X _ hXK (by omega) HX3.out
            have hR4 := far5 w.heap.size _ (by omega) (by omega) HR3.out
            obtain ⟨_, _, _, _, y4⟩ := hX4.cells5
            have yf := hX4.frozen 4
            have HX4 := Lib.hid hX4
            have HR4 := Lib.hid hR4
            have HGR := Lib.hid hgrow
            have HBL := Lib.hid hblock
            have HO4 := Lib.hid hown4
            clear hX4 hR4 hgrow hblock hown4 far5 hob hnil hown x4 xf d0 d1 d2 d3 d4 g0 g1 g2 g3 g4
            go_wp2_with fail
            go_roundw
            case rel =>
              have hsh := (rd_ne0 d _).2 _ _ HOK.out
              simp only [Array.length_toList] at hsh
              have hsh2 : S'.size < C.size := hsh
              obtain ⟨W5, hW5⟩ : ∃ W5, ((((w3.setCell ⟨wr.heap.size, 0, none⟩ (.int .i64 kc)).setCell ⟨wr.heap.size, 1, none⟩ (.int .i64 kt)).setCell ⟨wr.heap.size, 2, none⟩ (.bool kk)).setCell ⟨wr.heap.size, 3, none⟩ (.string kb)).setCell ⟨wr.heap.size, 4, none⟩ (.slice a3 kks.length cap3) = W5 := ⟨_, rfl⟩
              have hgr := HGR.out
              have hb5 := HB5.out
              have hk5 : KsP (fun b => wr.heap.size ≤ b ∧ b < w3.heap.size) W5 kks (.slice a3 kks.length cap3) := by
                rw [← hW5]
                refine HK3.out.keep (by simp) fun g hg hS => ⟨?_, by rw [World.size_alloc] at hS; omega, hS.2⟩
                rw [World.size_alloc] at hS
                iterate 5 rw [Below.heap_setCell _ _ _ _ (by show g ≠ wr.heap.size; omega)]
              have hz5 : W5.heap.size = w3.heap.size := by rw [← hW5]; simp
              have hbl := HBL.out
              rw [hW5] at hgr hb5
              have hk6 := hk5.later (w' := W5.alloc (.cells #[.int .i64 kc, .int .i64 kt, .bool kk, .string kb, .slice a3 kks.length cap3] 47)) ((Below.refl _ _).alloc (Nat.le_refl _) _)
              have hp := HGX.out.push (e := .mk kc kt kk kb kks) (hb5.alloc (by omega) _) hk6 HFB.out (fun q hq => ⟨by omega, by rw [World.size_alloc]; omega⟩) (by omega) hgr (by rw [World.size_alloc, hz5]; exact hbl) (by rw [HLl.out]; exact HO4.out)
              rw [HL.out] at hp
              have hp2 := hp.from_ (w' := w4.setCell ⟨X, 4, none⟩ (.slice (some ⟨gn, 0, none⟩) (xs.length + 1) cap4)) (by simp) (fun q hq hl => Below.heap_setCell _ _ _ _ (by show q ≠ X; omega))
              refine ⟨S', xs ++ [.mk kc kt kk kb kks], _, rfl, ?_, ?_, (HX4.out.set_ 4 _).eq_ rfl, HR4.out.far (p := ⟨X, 4, none⟩) (by show w.heap.size ≠ X; omega) _, hp2, ?_, ?_, hw1⟩
              · rw [HREL.out.ra, RA_ok hCne HOK.out, prep_prep]
              · rw [List.length_append, List.length_singleton]; omega
              · have h1 : Below w.heap.size w (W5.alloc (.cells #[.int .i64 kc, .int .i64 kt, .bool kk, .string kb, .slice a3 kks.length cap3] 47)) := (HREL.out.below.trans (hb5.mono (by omega))).alloc (by omega) _
                exact (h1.grown hgr (by rw [World.size_alloc]; omega) (fun q hq => by have := (HGX.out.own.lt q hq).1; omega)).setCell (p := ⟨X, 4, none⟩) (by show w.heap.size ≤ X; omega) _
              · have := hgr.size
                rw [World.size_alloc] at this
                simp
                omega
            case measure =>
              have hsh := (rd_ne0 d _).2 _ _ HOK.out
              exact hsh
    · have hdc : decide (u / 32 % 2 = 1) = false := decide_eq_false hc
      have hx := hmid.x
      rw [hdc] at hx
      have HX := Lib.hid hx
      have HRB := Lib.hid hblR
      have HM := Lib.hid hmid
      obtain ⟨_, _, c2, _, _⟩ := hx.cells5
      have hes := ext_size s n (n + m) hs
      have hcl := fun W => clone_any (s.extract n (n + m)) W (by omega)
      have HCL := Lib.hid hcl
      clear hx hblR hmid hdc hcl
      have i1 : (n : Int) ≤ (n : Int) + (m : Int) := by omega
      have i2 : (n : Int) + (m : Int) ≤ (s.size : Int) := by omega
      have i3 : ((n : Int) + (m : Int)).toNat = n + m := by omega
      go_wp2_with fail
      (with_reducible refine (HCL.out _).mono ?_)
      rintro e w3 ⟨rfl, hb3⟩
      clear c2
      have hz3 := hb3.size
      have hmz := HM.out.size
      have hX3 := HX.out.below hb3 (by omega)
      have hR3 := HRB.out.below hb3 (by omega)
      obtain ⟨c0, c1, c2, c3, c4⟩ := hX3.cells5
      have f3 := hX3.frozen 3
      obtain ⟨d0, d1, d2, d3, d4⟩ := hR3.cells5
      have g0 := hR3.frozen 0
      have g1 := hR3.frozen 1
      have g2 := hR3.frozen 2
      have g3 := hR3.frozen 3
      have g4 := hR3.frozen 4
      have i4 : (0 : Int) ≤ (n : Int) + (m : Int) := by omega
      have hne : w.heap.size ≠ w1.heap.size := by omega
      have HB3 := Lib.hid hb3
      have HB1 := Lib.hid hB1
      clear hb3 hX3 hR3 hB1
      go_wp2_with fail
      go_region
      go_wp2_with fail
      refine bodyPost_ret (v := .tuple #[.agg #[.int .i64 (u / 64 : Nat), .int .i64 (u % 32 : Nat), .bool false, .string (s.extract n (n + m)), .slice none 0 0], .string (s.extract (n + m) s.size)]) (by simp [results, Tryz.results18, go_sem, d0, d1, d2, d3, d4]) rfl ?_
      refine .inr ⟨_, _, _, _, _, _, _, HR.out.symm.trans (rd_flat h.out hs hp HU.out hc), rfl, KsP.nil _ _, ?_, ?_, ?_⟩
      · unfold Few; omega
      · rw [ext_size s _ _ (Nat.le_refl _)]; omega
      · have hq : Below w.heap.size w w3 := (HB1.out.trans (HM.out.below.mono (by omega))).trans (HB3.out.mono (by omega))
        exact below_drewN ((((((hq.setCell (p := ⟨_, 3, none⟩) (by show w.heap.size ≤ w1.heap.size; omega) _).setCell (p := ⟨_, 0, none⟩) (Nat.le_refl _) _).setCell (p := ⟨_, 1, none⟩) (Nat.le_refl _) _).setCell (p := ⟨_, 2, none⟩) (Nat.le_refl _) _).setCell (p := ⟨_, 3, none⟩) (Nat.le_refl _) _).setCell (p := ⟨_, 4, none⟩) (Nat.le_refl _) _) 1
theorem rd_head {d : Nat} {l : List UInt8} (h : (hd l).2.2 ≠ 0) : rd d l = .error (hd l).2.2 := by
  cases d with
  | zero => rw [rd, if_neg h]
  | succ d => rw [rd, if_neg h]
theorem read_any (d : Nat) : ∀ (s : ByteArray) (z : Int) (w : World), Hid (z + d = 20) → 0 ≤ z → s.size ≤ 140737488351232 → Calls Tryz.prog 18 #[.string s, .int .i64 z] w fun e w' => RdPost w (rd d s.data.toList) e w' := by
  induction d with
  | zero =>
    intro s z w hz hz0 hs
    obtain ⟨⟨n, m, r⟩, hh⟩ : ∃ q, hd s.data.toList = q := ⟨_, rfl⟩
    by_cases hr : r = 0
    · subst hr
      refine (read_deep s z w n m (Lib.hid hh) (by have := hz.out; omega)).mono fun e w' ⟨he, hb⟩ => .inl ⟨23, ?_, he, hb⟩
      rw [rd, if_pos (by rw [hh])]
    · refine (read_head s z w n m r (Lib.hid hh) (by rw [bne_iff_ne]; exact hr)).mono fun e w' ⟨he, hb⟩ => .inl ⟨r, ?_, he, hb⟩
      rw [rd_head (by rw [hh]; exact hr), hh]
  | succ d ih =>
    intro s z w hz hz0 hs
    obtain ⟨⟨n, m, r⟩, hh⟩ : ∃ q, hd s.data.toList = q := ⟨_, rfl⟩
    by_cases hr : r = 0
    · subst hr
      have ho := hd_ok hh
      have hl : s.data.toList.length = s.size := by simp
      rw [hl] at ho
      have hz2 : z < 20 := by have := hz.out; omega
      by_cases hsh : s.size < n + m
      · refine (read_short s z w n m (Lib.hid hh) hz2 (by omega) (by omega) (by omega)).mono fun e w' ⟨he, hb⟩ => .inl ⟨20, ?_, he, hb⟩
        rw [rd, hh]
        simp only [if_true]
        rw [if_pos (by omega)]
      · exact read_ok d (Lib.hid ih) s z w hz hz0 n m (Lib.hid hh) hz2 ho.1 (by omega) (by omega) (by omega) (by omega) hs _ rfl
    · refine (read_head s z w n m r (Lib.hid hh) (by rw [bne_iff_ne]; exact hr)).mono fun e w' ⟨he, hb⟩ => .inl ⟨r, ?_, he, hb⟩
      rw [rd_head (by rw [hh]; exact hr), hh]
end Go.Proofs.YtlkdbopdmieojaaGreat
