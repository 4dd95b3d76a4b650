/- The contracts of wal.generation, of wal.Open where the first sector has no generation, and of the law's own alive. -/
import Derived.Test.YtoleojljpaglhaaGreatWaD
set_option maxRecDepth 20000
namespace Go.Proofs.YtoleojljpaglhaaGreat
open Go.RowKit
set_option maxRecDepth 20000
theorem sectors_df {w : World} {g : Nat} {d : Vd.VD} {fp : List Nat} (h : DF w g d fp) : Calls Tryz.prog 21 #[.pointer (some ⟨g, 0, none⟩)] w fun e w' => e = .returned (.int .i64 (d.secs.length : Int)) ∧ w = w' := by
  obtain ⟨S, M, qv, rfl, h⟩ := h
  exact sectors_any h
/-- the generation that stands in a sector -/
def genOf (l : List UInt8) : Int := max (Oct.getFrom 0 (l.take 4)) (Oct.getFrom 0 (l.drop 60))
theorem generation_any (s : ByteArray) (w : World) (hs : s.size = 64) : Calls Tryz.prog 66 #[.string s] w fun e w' => e = .returned (.int .i64 (genOf s.data.toList)) ∧ w = w' := by
  have h1 := fun W => get_any (s.extract 0 4) W
  have h2 := fun W => get_any (s.extract 60 s.size) W
  have e1 : getV (s.extract 0 4) = .tuple #[.int .i64 (Oct.getFrom 0 (s.data.toList.take 4)), .int .i64 0] := by
    unfold getV
    rw [if_pos (by simp; omega)]
    simp
  have e2 : getV (s.extract 60 s.size) = .tuple #[.int .i64 (Oct.getFrom 0 (s.data.toList.drop 60)), .int .i64 0] := by
    unfold getV
    rw [if_pos (by simp; omega)]
    have : (s.extract 60 s.size).data.toList = s.data.toList.drop 60 := by simp [List.take_of_length_le]
    rw [this]
  rw [e1] at h1
  rw [e2] at h2
  have i1 : (4 : Int) ≤ (s.size : Int) := by omega
  have i2 : (60 : Int) ≤ (s.size : Int) := by omega
  have H1 := Lib.hid h1
  have H2 := Lib.hid h2
  have HG : Hid (genOf s.data.toList = max (Oct.getFrom 0 (s.data.toList.take 4)) (Oct.getFrom 0 (s.data.toList.drop 60))) := Lib.hid rfl
  clear h1 h2 e1 e2 hs
  go_enter Tryz.func66, Tryz.ntmps66
  go_wp2_with fail
  (with_reducible refine (H1.out _).mono ?_)
  rintro e w1 ⟨rfl, rfl⟩
  go_wp2_with fail
  (with_reducible refine (H2.out _).mono ?_)
  rintro e w1 ⟨rfl, rfl⟩
  go_wp2_with fail
  go_ret
  exact ⟨rfl, rfl⟩
/-- a log that nobody wrote -/
def freshL (fr n gen : Nat) : Wa.WL := { fr := fr, n := n, gen := gen, op := false, used := 0, recs := [] }
theorem genOf_zero : genOf (List.replicate 64 0) = 0 := by decide +kernel
set_option maxRecDepth 20000 in
set_option maxHeartbeats 1000000 in
theorem open_zero {S : Nat → Prop} {w0 w : World} {dg : Nat} {d : Vd.VD} {fp : List Nat} (hbel : KeepS S w0 w) (hup : ∀ k, w0.heap.size ≤ k → S k) (hd : DF w dg d fp) (hlow : ∀ b ∈ fp, S b) (fr n : Nat) (hon : d.on = true) (h1 : 1 ≤ n) (h2 : fr + n ≤ d.secs.length) (h3 : d.secs.length ≤ 65536) (hz : Vd.look d fr = List.replicate 64 0) :
    Calls Tryz.prog 22 #[.pointer (some ⟨dg, 0, none⟩), .int .i64 (fr : Int), .int .i64 (n : Int)] w fun e w' => ∃ lg, e = .returned (.tuple #[.pointer (some ⟨lg, 0, none⟩), .int .i64 0]) ∧ LG S w0 w' dg d lg (freshL fr n 0) fp (.slice none 0 0) := by
  have hsec : ∀ W, Below w.heap.size w W → Calls Tryz.prog 21 #[.pointer (some ⟨dg, 0, none⟩)] W fun e w' => e = .returned (.int .i64 (d.secs.length : Int)) ∧ W = w' := fun W hW => sectors_df (hd.below hW)
  have hrd : Vd.read d (fr : Int) = (0, List.replicate 64 0) := by
    unfold Vd.read
    have ha : Vd.asked d (fr : Int) = 0 := by unfold Vd.asked; rw [if_pos hon, if_neg (by omega)]
    rw [if_neg (by rw [ha]; simp), Int.toNat_natCast, hz]
  have hr : ∀ W, Below w.heap.size w W → Calls Tryz.prog 65 #[.pointer (some ⟨dg, 0, none⟩), .int .i64 (fr : Int)] W fun e w' => e = .returned (rdV (0, List.replicate 64 0)) ∧ Below W.heap.size W w' := fun W hW => by
    have := read_any (hd.below hW) (fr : Int)
    rwa [hrd] at this
  obtain ⟨Z, hZ⟩ : ∃ Z : ByteArray, (⟨(List.replicate 64 (0 : UInt8)).toArray⟩ : ByteArray) = Z := ⟨_, rfl⟩
  unfold rdV at hr
  simp only [hZ] at hr
  have hgn : ∀ W, Calls Tryz.prog 66 #[.string Z] W fun e w' => e = .returned (.int .i64 0) ∧ W = w' := fun W => by
    have := generation_any Z W (by rw [← hZ]; rfl)
    have e : Z.data.toList = List.replicate 64 0 := by rw [← hZ]
    rwa [e, genOf_zero] at this
  obtain ⟨sl, hsl⟩ : ∃ sl : Int, (d.secs.length : Int) = sl := ⟨_, rfl⟩
  have i1 : (fr : Int) + (n : Int) ≤ sl := by omega
  have i2 : sl ≤ 65536 := by omega
  rw [hsl] at hsec
  have HS := Lib.hid hsec
  have HR := Lib.hid hr
  have HG := Lib.hid hgn
  have HD := Lib.hid hd
  have HBL := Lib.hid hbel
  have HL := Lib.hid hlow
  clear hsec hr hgn hd hbel hlow hrd hZ hsl h2 h3 hz hon
  have hs0 : w0.heap.size ≤ w.heap.size := HBL.out.size
  have HUP := Lib.hid hup
  clear hup
  go_enter Tryz.func22, Tryz.ntmps22
  have j1 : ¬ (n : Int) < 1 := by omega
  have j2 : ¬ (fr : Int) < 0 := by omega
  have j3 : ¬ sl < (fr : Int) := by omega
  have j4 : ¬ sl - (fr : Int) < (n : Int) := by omega
  go_wp2_with fail
  (with_reducible refine (HS.out _ (Below.refl _ _)).mono ?_)
  rintro e w1 ⟨rfl, rfl⟩
  go_wp2_with fail
  (with_reducible refine (HS.out _ (Below.refl _ _)).mono ?_)
  rintro e w1 ⟨rfl, rfl⟩
  go_wp2_with fail
  (with_reducible refine (HR.out _ (Below.refl _ _)).mono ?_)
  rintro e w1 ⟨rfl, hb1⟩
  go_wp2_with fail
  (with_reducible refine (HG.out _).mono ?_)
  rintro e w2 ⟨rfl, rfl⟩
  have hs1 := hb1.size
  have hnew : LG S w0 (w1.alloc (.cells (lcells (.pointer (some ⟨dg, 0, none⟩)) (freshL fr n 0) (.slice none 0 0)) 112)) dg d w1.heap.size (freshL fr n 0) fp (.slice none 0 0) := by
    have hD1 := HD.out.below hb1
    refine ⟨(HBL.out.below hb1).alloc _, HUP.out, hD1.below ((Below.refl _ _).alloc (Nat.le_refl _) _), HL.out, HUP.out _ (by omega), Blk.new _ _ _, fun hm => ?_, World.ownsRow_nil _ _ _ _, by simp [Value.ownBlock], by simp [Value.ownBlock]⟩
    have := hD1.lt _ hm
    omega
  have HN := Lib.hid hnew
  clear hnew hb1
  go_wp2_with fail
  go_loopw [12] (fun i wr => i = .int .i64 0 ∧ wr = w1.alloc (.cells (lcells (.pointer (some ⟨dg, 0, none⟩)) (freshL fr n 0) (.slice none 0 0)) 112)) (fun _ _ => 0)
  case atStart => exact ⟨rfl, rfl⟩
  case round =>
    obtain ⟨rfl, rfl⟩ := hrel
    obtain ⟨V, hV⟩ : ∃ V, w1.alloc (.cells (lcells (.pointer (some ⟨dg, 0, none⟩)) (freshL fr n 0) (.slice none 0 0)) 112) = V := ⟨_, rfl⟩
    have hN := HN.out
    rw [hV] at hN ⊢
    have c3 : V.cell? ⟨w1.heap.size, 3, none⟩ = some (.int .i64 0) := hN.cells.c3
    have HN2 := Lib.hid hN
    have j0 : (0 : Int) < (n : Int) := by omega
    clear hV hN
    go_wp2_with fail
    go_ret2
    exact ⟨_, rfl, HN2.out⟩
end Go.Proofs.YtoleojljpaglhaaGreat
/- The contract of the law's own alive (chapter 11). -/
namespace Go.Proofs.YtoleojljpaglhaaGreat
open Go.RowKit
theorem wnew_df {w w' : World} {n : Nat} (h : DiskAt w' (w.heap.size + 2) w.heap.size (w.heap.size + 1) (.slice none 0 0) (newVD n)) : DF w' (w.heap.size + 2) (newVD n) [w.heap.size + 2, w.heap.size, w.heap.size + 1] := ⟨_, _, _, rfl, h⟩
theorem new_look (n a : Nat) (h : a < n) : Vd.look (newVD n) a = List.replicate 64 0 := by
  unfold Vd.look newVD Vd.lay
  simp [List.getD_eq_getElem?_getD, h]
theorem new_takes (n : Nat) : Wa.Takes (newVD n) := ⟨rfl, rfl, rfl⟩
theorem os_slice {B : Nat} {w0 w : World} {v : Value} {l : List (List UInt8)} (h : OwnS B w0 w v l) : ∃ p cap, v = .slice p l.length cap := by
  rcases h.own.2 with ⟨rfl, h0⟩ | ⟨g, cap, cur, rfl, _⟩
  · exact ⟨none, 0, by rw [h0]⟩
  · exact ⟨_, cap, rfl⟩
def aL (op : Bool) (gen used : Nat) (recs : List (List UInt8)) : Wa.WL := { fr := 2, n := 4, gen := gen, op := op, used := used, recs := recs }
theorem aL_ok (op : Bool) (gen used : Nat) (recs : List (List UInt8)) (h : used ≤ 4) (h2 : gen ≤ 1) (h3 : recs.length ≤ 1) : Wok (aL op gen used recs) := ⟨by simp [aL], by simp [aL], h, by simp only [aL]; omega, by simp only [aL]; omega⟩
theorem pieces_a : Wa.pieces (⟨#[97]⟩ : ByteArray).data.toList = [[97]] := by decide
end Go.Proofs.YtoleojljpaglhaaGreat
