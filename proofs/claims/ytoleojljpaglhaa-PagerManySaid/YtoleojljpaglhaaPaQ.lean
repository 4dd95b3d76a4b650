/- What a nil and a zero pager answer. -/
import Derived.Test.YtoleojljpaglhaaProg
import Derived.Test.YtoleojljpaglhaaWords
import Derived.WalkKit
import Derived.ProofKit
import Derived.Lib.Hide
import Derived.Outline
import Derived.Test.YtoleojljpaglhaaPaN
set_option maxRecDepth 20000
namespace Go.Proofs.Ytoleojljpaglhaa
open Go.RowKit
set_option maxRecDepth 20000
/-- whatever is no pager -/
structure NoPg (w : World) (v : Value) : Prop where
  at_ : v = .pointer none ∨ ∃ g, v = .pointer (some ⟨g, 0, none⟩) ∧ w.cell? ⟨g, 0, none⟩ = some (.pointer none)
theorem NoPg.later {w w' : World} {v : Value} (h : NoPg w v) (hb : Below w.heap.size w w') : NoPg w' v := by
  rcases h.at_ with rfl | ⟨g, rfl, hc⟩
  · exact ⟨.inl rfl⟩
  · exact ⟨.inr ⟨g, rfl, (hb.cell (p := ⟨g, 0, none⟩) (World.block_lt_of_cell? _ _ hc)).trans hc⟩⟩
theorem pnone_no {w : World} {v : Value} (h : NoPg w v) : Calls Try.prog 35 #[v] w fun e w' => e = .returned (.bool true) ∧ w = w' := by
  rcases h.at_ with rfl | ⟨g, rfl, hc⟩
  · go_enter Try.func35, Try.ntmps35
    go_wp2_with fail
    go_ret
    exact ⟨rfl, rfl⟩
  · go_enter Try.func35, Try.ntmps35
    go_wp2_with fail
    go_ret
    exact ⟨rfl, rfl⟩
set_option maxRecDepth 20000 in
theorem popen_no {w : World} {v : Value} (h : NoPg w v) : Calls Try.prog 37 #[v] w fun e w' => e = .returned (.int .i64 1) ∧ w = w' := by
  have H := Lib.hid (pnone_no h)
  clear h
  go_enter Try.func37, Try.ntmps37
  go_wp2_with fail
  (with_reducible refine H.out.mono ?_)
  rintro e w1 ⟨rfl, rfl⟩
  go_wp2_with fail
  go_ret
  exact ⟨rfl, rfl⟩
set_option maxRecDepth 20000 in
theorem pread_no {w : World} {v : Value} (h : NoPg w v) (page : Int) : Calls Try.prog 16 #[v, .int .i64 page] w fun e w' => e = .returned (.tuple #[.string ⟨#[]⟩, .int .i64 1]) ∧ w = w' := by
  have H := Lib.hid (pnone_no h)
  clear h
  go_enter Try.func16, Try.ntmps16
  go_wp2_with fail
  (with_reducible refine H.out.mono ?_)
  rintro e w1 ⟨rfl, rfl⟩
  go_wp2_with fail
  go_ret2
  exact ⟨rfl, rfl⟩
set_option maxRecDepth 20000 in
theorem palloc_no {w : World} {v : Value} (h : NoPg w v) : Calls Try.prog 11 #[v] w fun e w' => e = .returned (.tuple #[.int .i64 0, .int .i64 1]) ∧ w = w' := by
  have H := Lib.hid (popen_no h)
  clear h
  go_enter Try.func11, Try.ntmps11
  go_wp2_with fail
  (with_reducible refine H.out.mono ?_)
  rintro e w1 ⟨rfl, rfl⟩
  go_wp2_with fail
  go_ret2
  exact ⟨rfl, rfl⟩
set_option maxRecDepth 20000 in
theorem proot_no {w : World} {v : Value} (h : NoPg w v) (i : Int) : Calls Try.prog 18 #[v, .int .i64 i] w fun e w' => e = .returned (.tuple #[.int .i64 0, .int .i64 1]) ∧ w = w' := by
  have H := Lib.hid (pnone_no h)
  clear h
  go_enter Try.func18, Try.ntmps18
  go_wp2_with fail
  (with_reducible refine H.out.mono ?_)
  rintro e w1 ⟨rfl, rfl⟩
  go_wp2_with fail
  go_ret2
  exact ⟨rfl, rfl⟩
set_option maxRecDepth 20000 in
theorem pbegin_no {w : World} {v : Value} (h : NoPg w v) : Calls Try.prog 10 #[v] w fun e w' => e = .returned (.int .i64 1) ∧ w = w' := by
  have H := Lib.hid (pnone_no h)
  clear h
  go_enter Try.func10, Try.ntmps10
  go_wp2_with fail
  (with_reducible refine H.out.mono ?_)
  rintro e w1 ⟨rfl, rfl⟩
  go_wp2_with fail
  go_ret
  exact ⟨rfl, rfl⟩
set_option maxRecDepth 20000 in
theorem pcommit_no {w : World} {v : Value} (h : NoPg w v) : Calls Try.prog 14 #[v] w fun e w' => e = .returned (.int .i64 1) ∧ Below w.heap.size w w' := by
  rcases h.at_ with rfl | ⟨g, rfl, hc⟩
  ·
    have H : Hid (∀ o, Calls Try.prog 35 #[.pointer none] (w.alloc o) fun e w' => e = .returned (.bool true) ∧ w.alloc o = w') := Lib.hid (fun o => pnone_no (h.later ((Below.refl _ _).alloc (Nat.le_refl _) o)))
    clear h
    go_enter Try.func14, Try.ntmps14
    go_wp2_with fail
    (with_reducible refine (H.out _).mono ?_)
    rintro e w1 ⟨rfl, rfl⟩
    go_wp2_with fail
    go_ret
    exact ⟨rfl, (Below.refl _ _).alloc (Nat.le_refl _) _⟩
  ·
    have H : Hid (∀ o, Calls Try.prog 35 #[.pointer (some ⟨g, 0, none⟩)] (w.alloc o) fun e w' => e = .returned (.bool true) ∧ w.alloc o = w') := Lib.hid (fun o => pnone_no (h.later ((Below.refl _ _).alloc (Nat.le_refl _) o)))
    clear h
    go_enter Try.func14, Try.ntmps14
    go_wp2_with fail
    (with_reducible refine (H.out _).mono ?_)
    rintro e w1 ⟨rfl, rfl⟩
    go_wp2_with fail
    go_ret
    exact ⟨rfl, (Below.refl _ _).alloc (Nat.le_refl _) _⟩
set_option maxRecDepth 20000 in
theorem pabort_no {w : World} {v : Value} (h : NoPg w v) : Calls Try.prog 19 #[v] w fun e w' => e = .returned (.int .i64 1) ∧ w = w' := by
  have H := Lib.hid (popen_no h)
  clear h
  go_enter Try.func19, Try.ntmps19
  go_wp2_with fail
  (with_reducible refine H.out.mono ?_)
  rintro e w1 ⟨rfl, rfl⟩
  go_wp2_with fail
  go_ret
  exact ⟨rfl, rfl⟩
set_option maxRecDepth 20000 in
theorem pwrite_no {w : World} {v : Value} (h : NoPg w v) (page : Int) (s : ByteArray) : Calls Try.prog 12 #[v, .int .i64 page, .string s] w fun e w' => e = .returned (.int .i64 1) ∧ w = w' := by
  have H := Lib.hid (popen_no h)
  clear h
  go_enter Try.func12, Try.ntmps12
  go_wp2_with fail
  (with_reducible refine H.out.mono ?_)
  rintro e w1 ⟨rfl, rfl⟩
  go_wp2_with fail
  go_ret
  exact ⟨rfl, rfl⟩
set_option maxRecDepth 20000 in
theorem pfree_no {w : World} {v : Value} (h : NoPg w v) (page : Int) : Calls Try.prog 15 #[v, .int .i64 page] w fun e w' => e = .returned (.int .i64 1) ∧ w = w' := by
  have H := Lib.hid (popen_no h)
  clear h
  go_enter Try.func15, Try.ntmps15
  go_wp2_with fail
  (with_reducible refine H.out.mono ?_)
  rintro e w1 ⟨rfl, rfl⟩
  go_wp2_with fail
  go_ret
  exact ⟨rfl, rfl⟩
set_option maxRecDepth 20000 in
theorem psetRoot_no {w : World} {v : Value} (h : NoPg w v) (i page : Int) : Calls Try.prog 20 #[v, .int .i64 i, .int .i64 page] w fun e w' => e = .returned (.int .i64 1) ∧ w = w' := by
  have H := Lib.hid (popen_no h)
  clear h
  go_enter Try.func20, Try.ntmps20
  go_wp2_with fail
  (with_reducible refine H.out.mono ?_)
  rintro e w1 ⟨rfl, rfl⟩
  go_wp2_with fail
  go_ret
  exact ⟨rfl, rfl⟩
set_option maxRecDepth 20000 in
theorem pused_no {w : World} {v : Value} (h : NoPg w v) : Calls Try.prog 17 #[v] w fun e w' => e = .returned (.int .i64 0) ∧ w = w' := by
  have H := Lib.hid (pnone_no h)
  clear h
  go_enter Try.func17, Try.ntmps17
  go_wp2_with fail
  (with_reducible refine H.out.mono ?_)
  rintro e w1 ⟨rfl, rfl⟩
  go_wp2_with fail
  go_ret
  exact ⟨rfl, rfl⟩
set_option maxRecDepth 20000 in
theorem pbusy_no {w : World} {v : Value} (h : NoPg w v) : Calls Try.prog 21 #[v] w fun e w' => e = .returned (.bool false) ∧ w = w' := by
  have H := Lib.hid (pnone_no h)
  clear h
  go_enter Try.func21, Try.ntmps21
  go_wp2_with fail
  (with_reducible refine H.out.mono ?_)
  rintro e w1 ⟨rfl, rfl⟩
  go_wp2_with fail
  go_ret
  exact ⟨rfl, rfl⟩
end Go.Proofs.Ytoleojljpaglhaa
/- The contract of the law's own alive (chapter 12). -/
namespace Go.Proofs.Ytoleojljpaglhaa
open Go.RowKit
def openP (n : Nat) : PP := beginT (freshP n)
theorem pbegin_fresh {S : Nat → Prop} {w0 w : World} {G : PH} {d : Vd.VD} {L : Wa.WL} {n : Nat} (h : PG S w0 w G d L (freshP n)) (hon : d.on = true) (hw : d.writes < 1000000000) :
    Calls Try.prog 10 #[.pointer (some ⟨G.pg, 0, none⟩)] w fun e w' => e = .returned (.int .i64 0) ∧ ∃ G', G'.pg = G.pg ∧ G'.dg = G.dg ∧ PG S w0 w' G' d L (openP n) := by
  have h1 := pbegin_any h rfl rfl [] rfl (by simp) hon (by simpa using hw) (by simp)
  exact h1
def oneT (n : Nat) : PT := writeT (freshT (freshP n)) 1 zeros
theorem free_first (n : Nat) (hn : 9 ≤ n) : freeAt (freshT (freshP n)).pages (n - 8) 1 = 1 := by
  obtain ⟨m, hm⟩ : ∃ m, n - 8 = m + 1 := ⟨n - 9, by omega⟩
  rw [hm]
  rfl
set_option maxRecDepth 20000 in
set_option maxHeartbeats 1000000 in
theorem palive_any (w : World) : Calls Try.prog 7 #[] w fun e w' => e = .returned (.bool true) ∧ Below w.heap.size w w' := by
  have hN : Calls Try.prog 8 #[.int .i64 480] w fun e w' => e = .returned (.tuple #[.pointer (some ⟨w.heap.size + 2, 0, none⟩), .int .i64 0]) ∧ DiskAt w' (w.heap.size + 2) w.heap.size (w.heap.size + 1) (.slice none 0 0) (newVD 480) ∧ Below w.heap.size w w' := new_in 480 w (by omega) (by omega)
  have HN := Lib.hid hN
  clear hN
  go_enter Try.func7, Try.ntmps7
  go_wp2_with fail
  (with_reducible refine HN.out.mono ?_)
  rintro e w1 ⟨rfl, hD, hb1⟩
  have hO : Calls Try.prog 9 #[.pointer (some ⟨w.heap.size + 2, 0, none⟩), .int .i64 40] w1 _ := popen_new (n := 40) (KeepS.ofBelow hb1) (fun _ h => h) (wnew_df hD) (by simp [Up]) (by omega) (by omega) (by omega) (by omega)
  have HO := Lib.hid hO
  clear hO hD hb1
  go_wp2_with fail
  (with_reducible refine HO.out.mono ?_)
  rintro e w2 ⟨G, L, rfl, hdg, hk, hr, h2⟩
  have HB := Lib.hid (pbegin_fresh h2 rfl (by simp [newVD]))
  clear h2 hk hr hdg
  go_wp2_with fail
  (with_reducible refine HB.out.mono ?_)
  rintro e w3 ⟨rfl, G3, hpg, hdg, h3⟩
  have hB2 := pbegin_busy h3 rfl _ rfl
  have hal := palloc_some h3 (by show 8 ≤ 40; omega) (by show 40 ≤ 5000; omega) rfl (by unfold maxLen; show (0 : Nat) < _ ∧ (0 : Nat) < _; omega)
  have e1 : allocE (openP 40) = (1, 0) := by decide +kernel
  have e2 : allocP (openP 40) = (openP 40).with_ (oneT 40) := by
    unfold allocP
    have : freeAt (freshT (freshP 40)).pages (40 - 8) 1 = 1 := free_first 40 (by omega)
    show (if freeAt (freshT (freshP 40)).pages (40 - 8) 1 = 0 then openP 40 else (openP 40).with_ (writeT (freshT (freshP 40)) (freeAt (freshT (freshP 40)).pages (40 - 8) 1 : Nat) zeros)) = _
    rw [this]
    rfl
  rw [e1, e2] at hal
  rw [hpg] at hB2 hal
  have HB2 := Lib.hid hB2
  have HAL := Lib.hid hal
  clear hB2 hal e1 e2 h3
  go_wp2_with fail
  (with_reducible refine HB2.out.mono ?_)
  rintro e w4 ⟨rfl, rfl⟩
  go_wp2_with fail
  (with_reducible refine HAL.out.mono ?_)
  rintro e w4 ⟨rfl, h4⟩
  have hrd := pread_any h4 rfl 1 (by decide)
  have hus := pused_any h4 rfl
  have hbu := pbusy_any h4
  have e3 : prd ((openP 40).with_ (oneT 40)) 1 = .tuple #[.string zeros, .int .i64 0] := rfl
  rw [e3] at hrd
  rw [hpg] at hrd hus hbu
  have hus : Calls Try.prog 17 #[.pointer (some ⟨G.pg, 0, none⟩)] w4 fun e w' => e = .returned (.int .i64 1) ∧ w4 = w' := hus
  have hbu : Calls Try.prog 21 #[.pointer (some ⟨G.pg, 0, none⟩)] w4 fun e w' => e = .returned (.bool true) ∧ w4 = w' := hbu
  have hzs : (zeros.size : Int) = 256 := by rw [zeros_size]; rfl
  have HBL := Lib.hid (h4.log.bel.toBelow (Nat.le_refl _))
  have HRD := Lib.hid hrd
  have HUS := Lib.hid hus
  have HBU := Lib.hid hbu
  clear hrd hus hbu h4 e3
  go_wp2_with fail
  (with_reducible refine HRD.out.mono ?_)
  rintro e w5 ⟨rfl, rfl⟩
  go_wp2_with fail
  (with_reducible refine HUS.out.mono ?_)
  rintro e w5 ⟨rfl, rfl⟩
  go_wp2_with fail
  (with_reducible refine HBU.out.mono ?_)
  rintro e w5 ⟨rfl, rfl⟩
  go_wp2_with fail
  go_ret
  exact ⟨rfl, HBL.out⟩
end Go.Proofs.Ytoleojljpaglhaa
/- The walk of the law PagerOpens. -/
namespace Go.Proofs.Ytoleojljpaglhaa
open Go.RowKit
set_option maxRecDepth 20000 in
set_option maxHeartbeats 4000000 in
theorem pagerOpens_walk (a b c : Int) (w : World) (hc : (Lit.int .i64 c).wf = true) : Calls Try.prog 4 #[.int .i64 a, .int .i64 b, .int .i64 c] w fun e w' => e = .returned (.bool true) ∧ Below w.heap.size w w' := by
  have HX : Hid (∀ W, NoPg W (.pointer none)) := Lib.hid (fun W => ⟨.inl rfl⟩)
  obtain ⟨W0, hW0⟩ : ∃ W0, w.alloc (.cells #[.pointer none, .pointer none, .int .i64 0, .map none, .int .i64 0, .int .i64 0, .int .i64 0, .int .i64 0, .int .i64 0, .int .i64 0, .int .i64 0, .int .i64 0, .pointer none, .map none, .slice none 0 0] 51) = W0 := ⟨_, rfl⟩
  have hz0 : W0.heap.size = w.heap.size + 1 := by rw [← hW0]; simp
  have hblk : Blk W0 w.heap.size 51 #[.pointer none, .pointer none, .int .i64 0, .map none, .int .i64 0, .int .i64 0, .int .i64 0, .int .i64 0, .int .i64 0, .int .i64 0, .int .i64 0, .int .i64 0, .pointer none, .map none, .slice none 0 0] := by rw [← hW0]; exact Blk.new w _ _
  have HZ : Hid (∀ W, Below (w.heap.size + 1) W0 W → NoPg W (.pointer (some ⟨w.heap.size, 0, none⟩))) := Lib.hid (fun W hW => ⟨.inr ⟨_, rfl, (hW.cell (p := ⟨w.heap.size, 0, none⟩) (Nat.lt_succ_self _)).trans (hblk.cell 0)⟩⟩)
  have HW : Hid (∀ W, Below (w.heap.size + 1) W0 W → Below w.heap.size w W) := Lib.hid (fun W hW => by
    have h0 : Below w.heap.size w W0 := by rw [← hW0]; exact (Below.refl _ _).alloc (Nat.le_refl _) _
    exact h0.trans (hW.mono (Nat.le_succ _)))
  have HB0 : Hid (Below (w.heap.size + 1) W0 W0) := Lib.hid (Below.refl _ _)
  have HZ0 := Lib.hid hz0
  clear hblk hz0
  go_enter Try.func4, Try.ntmps4
  go_wp2_with fail
  clear hW0
  (with_reducible refine (pread_no (HX.out _) c).mono ?_)
  rintro e w1 ⟨rfl, rfl⟩
  go_wp2_with fail
  (with_reducible refine (palloc_no (HZ.out _ HB0.out)).mono ?_)
  rintro e w1 ⟨rfl, rfl⟩
  go_wp2_with fail
  (with_reducible refine (proot_no (HX.out _) c).mono ?_)
  rintro e w1 ⟨rfl, rfl⟩
  go_wp2_with fail
  (with_reducible refine (pbegin_no (HX.out _)).mono ?_)
  rintro e w1 ⟨rfl, rfl⟩
  go_wp2_with fail
  (with_reducible refine (pcommit_no (HZ.out _ HB0.out)).mono ?_)
  rintro e w1 ⟨rfl, hb1⟩
  have hz1 : w1.heap.size ≥ w.heap.size + 1 := by have := hb1.size; have := HZ0.out; omega
  have HB1 : Hid (Below (w.heap.size + 1) W0 w1) := Lib.hid (hb1.mono (by have := HZ0.out; omega))
  have HZ1 := Lib.hid hz1
  clear hb1 hz1 HB0 HZ0
  go_wp2_with fail
  (with_reducible refine (pabort_no (HX.out _)).mono ?_)
  rintro e w2 ⟨rfl, rfl⟩
  go_wp2_with fail
  (with_reducible refine (pwrite_no (HZ.out _ HB1.out) c ⟨#[]⟩).mono ?_)
  rintro e w2 ⟨rfl, rfl⟩
  go_wp2_with fail
  (with_reducible refine (pfree_no (HX.out _) c).mono ?_)
  rintro e w2 ⟨rfl, rfl⟩
  go_wp2_with fail
  (with_reducible refine (psetRoot_no (HZ.out _ HB1.out) 0 c).mono ?_)
  rintro e w2 ⟨rfl, rfl⟩
  go_wp2_with fail
  (with_reducible refine (pused_no (HX.out _)).mono ?_)
  rintro e w2 ⟨rfl, rfl⟩
  go_wp2_with fail
  (with_reducible refine (pused_no (HZ.out _ HB1.out)).mono ?_)
  rintro e w2 ⟨rfl, rfl⟩
  go_wp2_with fail
  (with_reducible refine (pbusy_no (HX.out _)).mono ?_)
  rintro e w2 ⟨rfl, rfl⟩
  go_wp2_with fail
  (with_reducible refine (pbusy_no (HZ.out _ HB1.out)).mono ?_)
  rintro e w2 ⟨rfl, rfl⟩
  go_wp2_with fail
  (with_reducible refine (popen_nil b _).mono ?_)
  rintro e w2 ⟨rfl, rfl⟩
  have HBW := Lib.hid (HW.out _ HB1.out)
  clear HX HZ HW HB1 HZ1 hc
  by_cases h1 : a < 1
  · go_wp2_with fail
    (with_reducible refine (palive_any _).mono ?_)
    rintro e w3 ⟨rfl, hb3⟩
    have HB3 := Lib.hid (HBW.out.trans (hb3.mono HBW.out.size))
    clear hb3
    go_wp2_with fail
    go_ret
    exact ⟨rfl, HB3.out⟩
  by_cases h2 : 2000 < a
  · go_wp2_with fail
    (with_reducible refine (palive_any _).mono ?_)
    rintro e w3 ⟨rfl, hb3⟩
    have HB3 := Lib.hid (HBW.out.trans (hb3.mono HBW.out.size))
    clear hb3
    go_wp2_with fail
    go_ret
    exact ⟨rfl, HB3.out⟩
  obtain ⟨m, rfl⟩ : ∃ m : Nat, a = m := ⟨a.toNat, by omega⟩
  have HN := Lib.hid (new_in m w1 (by omega) (by omega))
  go_wp2_with fail
  (with_reducible refine HN.out.mono ?_)
  rintro e w3 ⟨rfl, hD, hb3⟩
  have hdf := wnew_df hD
  have HB3 := Lib.hid (HBW.out.trans (hb3.mono HBW.out.size))
  have hl : (newVD m).secs.length = m := by simp [newVD]
  by_cases h3 : b < 8 ∨ 5000 < b ∨ (m : Int) < 12 * b
  · have ha := popen_arg hdf b (by rw [hl]; exact h3)
    have HA := Lib.hid ha
    clear ha hdf hD hb3 hl
    by_cases h4 : b < 8
    · clear h3
      go_wp2_with fail
      (with_reducible refine HA.out.mono ?_)
      rintro e w4 ⟨rfl, rfl⟩
      go_wp2_with fail
      (with_reducible refine (palive_any _).mono ?_)
      rintro e w5 ⟨rfl, hb5⟩
      have HB5 := Lib.hid (HB3.out.trans (hb5.mono HB3.out.size))
      clear hb5
      go_wp2_with fail
      go_ret
      exact ⟨rfl, HB5.out⟩
    by_cases h5 : 5000 < b
    · clear h3
      go_wp2_with fail
      (with_reducible refine HA.out.mono ?_)
      rintro e w4 ⟨rfl, rfl⟩
      go_wp2_with fail
      (with_reducible refine (palive_any _).mono ?_)
      rintro e w5 ⟨rfl, hb5⟩
      have HB5 := Lib.hid (HB3.out.trans (hb5.mono HB3.out.size))
      clear hb5
      go_wp2_with fail
      go_ret
      exact ⟨rfl, HB5.out⟩
    have h6 : (m : Int) < 12 * b := by omega
    have h7 : b ≤ 5000 := by omega
    have h8 : 8 ≤ b := by omega
    clear h3
    go_wp2_with fail
    (with_reducible refine HA.out.mono ?_)
    rintro e w4 ⟨rfl, rfl⟩
    go_wp2_with fail
    (with_reducible refine (palive_any _).mono ?_)
    rintro e w5 ⟨rfl, hb5⟩
    have HB5 := Lib.hid (HB3.out.trans (hb5.mono HB3.out.size))
    clear hb5
    go_wp2_with fail
    go_ret
    exact ⟨rfl, HB5.out⟩
  obtain ⟨n, rfl⟩ : ∃ n : Nat, b = n := ⟨b.toNat, by omega⟩
  have h4 : 8 ≤ (n : Int) := by omega
  have h5 : (n : Int) ≤ 5000 := by omega
  have h6 : 12 * (n : Int) ≤ (m : Int) := by omega
  have hO : Calls Try.prog 9 #[.pointer (some ⟨w1.heap.size + 2, 0, none⟩), .int .i64 (n : Int)] w3 _ := popen_new (n := n) (w0 := w1) (KeepS.ofBelow hb3) (fun _ h => h) hdf (by simp [Up]) (by omega) (by omega) (by omega) (by omega)
  have HO := Lib.hid hO
  have HN8 : Hid (8 ≤ n ∧ n ≤ 5000 ∧ 12 * n ≤ (newVD m).secs.length) := Lib.hid ⟨by omega, by omega, by rw [hl]; omega⟩
  clear hO hD hdf hb3 hl h3 HN
  go_wp2_with fail
  (with_reducible refine HO.out.mono ?_)
  rintro e w4 ⟨G, L, rfl, hdg, hk, hr, h4'⟩
  have hcr := crash_any h4'.log.disk 0 0
  rw [hdg] at hcr
  have HCR := Lib.hid hcr
  have HP4 := Lib.hid h4'
  have HDG := Lib.hid hdg
  clear hcr h4' hk hr hdg
  go_wp2_with fail
  (with_reducible refine HCR.out.mono ?_)
  rintro e w5 hp5
  have hp5' : DPost (.tuple #[]) G.dg (Vd.crash (newVD m) 0 0) G.fp w4 e w5 := by rw [HDG.out]; exact hp5
  obtain ⟨rfl, fp5, h5'⟩ := HP4.out.called hp5'
  have hoff : (Vd.crash (newVD m) 0 0).on = false := rfl
  have hopn := popen_off h5'.log.disk hoff HN8.out.1 HN8.out.2.1 HN8.out.2.2
  have e1 : ({ G with fp := fp5 } : PH).dg = w1.heap.size + 2 := HDG.out
  rw [e1] at hopn
  have HOP := Lib.hid hopn
  have H5 := Lib.hid h5'
  clear hp5 hp5' h5' hopn e1
  go_wp2_with fail
  (with_reducible refine HOP.out.mono ?_)
  rintro e w6 ⟨rfl, hb6⟩
  have h6' := H5.out.later hb6
  have H6 := Lib.hid h6'
  clear h6' hb6
  go_wp2_with fail
  (with_reducible refine (palive_any _).mono ?_)
  rintro e w7 ⟨rfl, hb7⟩
  have h7' := H6.out.later hb7
  have hus : Calls Try.prog 17 #[.pointer (some ⟨G.pg, 0, none⟩)] w7 fun e w' => e = .returned (.int .i64 0) ∧ w7 = w' := pused_any h7' rfl
  have hbe : Calls Try.prog 10 #[.pointer (some ⟨G.pg, 0, none⟩)] w7 fun e w' => e = .returned (.int .i64 80) ∧ w7 = w' := pbegin_off (G := { G with fp := fp5 }) h7' hoff
  have HUS := Lib.hid hus
  have HBE := Lib.hid hbe
  have HB7 := Lib.hid (HBW.out.trans ((h7'.log.bel.toBelow (Nat.le_refl _)).mono HBW.out.size))
  clear hus hbe h7' hb7
  go_wp2_with fail
  (with_reducible refine HUS.out.mono ?_)
  rintro e w8 ⟨rfl, rfl⟩
  go_wp2_with fail
  (with_reducible refine HBE.out.mono ?_)
  rintro e w8 ⟨rfl, rfl⟩
  go_wp2_with fail
  go_ret
  exact ⟨rfl, HB7.out⟩
end Go.Proofs.Ytoleojljpaglhaa
