/- What a nil and a zero pager answer. -/
import Derived.Test.YtoleojljpaglhaaGreatProg
import Derived.Test.YtoleojljpaglhaaGreatWords
import Derived.WalkKit
import Derived.ProofKit
import Derived.Lib.Hide
import Derived.Outline
import Derived.Test.YtoleojljpaglhaaGreatPaN
set_option maxRecDepth 20000
namespace Go.Proofs.YtoleojljpaglhaaGreat
open Go.RowKit
set_option maxRecDepth 20000
/-- whatever is no pager -/
structure NoPg (w : World) (v : Value) : Prop where
  at_ : v = .pointer none ∨ ∃ g, v = .pointer (some ⟨g, 0, none⟩) ∧ w.cell? ⟨g, 0, none⟩ = some (.pointer none)
theorem NoPg.later {w w' : World} {v : Value} (h : NoPg w v) (hb : Below w.heap.size w w') : NoPg w' v := by
  rcases h.at_ with rfl | ⟨g, rfl, hc⟩
  · exact ⟨.inl rfl⟩
  · exact ⟨.inr ⟨g, rfl, (hb.cell (p := ⟨g, 0, none⟩) (World.block_lt_of_cell? _ _ hc)).trans hc⟩⟩
theorem pnone_no {w : World} {v : Value} (h : NoPg w v) : Calls Tryz.prog 79 #[v] w fun e w' => e = .returned (.bool true) ∧ w = w' := by
  rcases h.at_ with rfl | ⟨g, rfl, hc⟩
  · go_enter Tryz.func79, Tryz.ntmps79
    go_wp2_with fail
    go_ret
    exact ⟨rfl, rfl⟩
  · go_enter Tryz.func79, Tryz.ntmps79
    go_wp2_with fail
    go_ret
    exact ⟨rfl, rfl⟩
set_option maxRecDepth 20000 in
theorem popen_no {w : World} {v : Value} (h : NoPg w v) : Calls Tryz.prog 92 #[v] w fun e w' => e = .returned (.int .i64 1) ∧ w = w' := by
  have H := Lib.hid (pnone_no h)
  clear h
  go_enter Tryz.func92, Tryz.ntmps92
  go_wp2_with fail
  (with_reducible refine H.out.mono ?_)
  rintro e w1 ⟨rfl, rfl⟩
  go_wp2_with fail
  go_ret
  exact ⟨rfl, rfl⟩
set_option maxRecDepth 20000 in
theorem pread_no {w : World} {v : Value} (h : NoPg w v) (page : Int) : Calls Tryz.prog 46 #[v, .int .i64 page] w fun e w' => e = .returned (.tuple #[.string ⟨#[]⟩, .int .i64 1]) ∧ w = w' := by
  have H := Lib.hid (pnone_no h)
  clear h
  go_enter Tryz.func46, Tryz.ntmps46
  go_wp2_with fail
  (with_reducible refine H.out.mono ?_)
  rintro e w1 ⟨rfl, rfl⟩
  go_wp2_with fail
  go_ret2
  exact ⟨rfl, rfl⟩
set_option maxRecDepth 20000 in
theorem palloc_no {w : World} {v : Value} (h : NoPg w v) : Calls Tryz.prog 45 #[v] w fun e w' => e = .returned (.tuple #[.int .i64 0, .int .i64 1]) ∧ w = w' := by
  have H := Lib.hid (popen_no h)
  clear h
  go_enter Tryz.func45, Tryz.ntmps45
  go_wp2_with fail
  (with_reducible refine H.out.mono ?_)
  rintro e w1 ⟨rfl, rfl⟩
  go_wp2_with fail
  go_ret2
  exact ⟨rfl, rfl⟩
set_option maxRecDepth 20000 in
theorem proot_no {w : World} {v : Value} (h : NoPg w v) (i : Int) : Calls Tryz.prog 28 #[v, .int .i64 i] w fun e w' => e = .returned (.tuple #[.int .i64 0, .int .i64 1]) ∧ w = w' := by
  have H := Lib.hid (pnone_no h)
  clear h
  go_enter Tryz.func28, Tryz.ntmps28
  go_wp2_with fail
  (with_reducible refine H.out.mono ?_)
  rintro e w1 ⟨rfl, rfl⟩
  go_wp2_with fail
  go_ret2
  exact ⟨rfl, rfl⟩
set_option maxRecDepth 20000 in
theorem pbegin_no {w : World} {v : Value} (h : NoPg w v) : Calls Tryz.prog 40 #[v] w fun e w' => e = .returned (.int .i64 1) ∧ w = w' := by
  have H := Lib.hid (pnone_no h)
  clear h
  go_enter Tryz.func40, Tryz.ntmps40
  go_wp2_with fail
  (with_reducible refine H.out.mono ?_)
  rintro e w1 ⟨rfl, rfl⟩
  go_wp2_with fail
  go_ret
  exact ⟨rfl, rfl⟩
set_option maxRecDepth 20000 in
theorem pcommit_no {w : World} {v : Value} (h : NoPg w v) : Calls Tryz.prog 50 #[v] w fun e w' => e = .returned (.int .i64 1) ∧ Below w.heap.size w w' := by
  rcases h.at_ with rfl | ⟨g, rfl, hc⟩
  ·
    have H : Hid (∀ o, Calls Tryz.prog 79 #[.pointer none] (w.alloc o) fun e w' => e = .returned (.bool true) ∧ w.alloc o = w') := Lib.hid (fun o => pnone_no (h.later ((Below.refl _ _).alloc (Nat.le_refl _) o)))
    clear h
    go_enter Tryz.func50, Tryz.ntmps50
    go_wp2_with fail
    (with_reducible refine (H.out _).mono ?_)
    rintro e w1 ⟨rfl, rfl⟩
    go_wp2_with fail
    go_ret
    exact ⟨rfl, (Below.refl _ _).alloc (Nat.le_refl _) _⟩
  ·
    have H : Hid (∀ o, Calls Tryz.prog 79 #[.pointer (some ⟨g, 0, none⟩)] (w.alloc o) fun e w' => e = .returned (.bool true) ∧ w.alloc o = w') := Lib.hid (fun o => pnone_no (h.later ((Below.refl _ _).alloc (Nat.le_refl _) o)))
    clear h
    go_enter Tryz.func50, Tryz.ntmps50
    go_wp2_with fail
    (with_reducible refine (H.out _).mono ?_)
    rintro e w1 ⟨rfl, rfl⟩
    go_wp2_with fail
    go_ret
    exact ⟨rfl, (Below.refl _ _).alloc (Nat.le_refl _) _⟩
set_option maxRecDepth 20000 in
theorem pabort_no {w : World} {v : Value} (h : NoPg w v) : Calls Tryz.prog 52 #[v] w fun e w' => e = .returned (.int .i64 1) ∧ w = w' := by
  have H := Lib.hid (popen_no h)
  clear h
  go_enter Tryz.func52, Tryz.ntmps52
  go_wp2_with fail
  (with_reducible refine H.out.mono ?_)
  rintro e w1 ⟨rfl, rfl⟩
  go_wp2_with fail
  go_ret
  exact ⟨rfl, rfl⟩
set_option maxRecDepth 20000 in
theorem pwrite_no {w : World} {v : Value} (h : NoPg w v) (page : Int) (s : ByteArray) : Calls Tryz.prog 60 #[v, .int .i64 page, .string s] w fun e w' => e = .returned (.int .i64 1) ∧ w = w' := by
  have H := Lib.hid (popen_no h)
  clear h
  go_enter Tryz.func60, Tryz.ntmps60
  go_wp2_with fail
  (with_reducible refine H.out.mono ?_)
  rintro e w1 ⟨rfl, rfl⟩
  go_wp2_with fail
  go_ret
  exact ⟨rfl, rfl⟩
set_option maxRecDepth 20000 in
theorem pfree_no {w : World} {v : Value} (h : NoPg w v) (page : Int) : Calls Tryz.prog 57 #[v, .int .i64 page] w fun e w' => e = .returned (.int .i64 1) ∧ w = w' := by
  have H := Lib.hid (popen_no h)
  clear h
  go_enter Tryz.func57, Tryz.ntmps57
  go_wp2_with fail
  (with_reducible refine H.out.mono ?_)
  rintro e w1 ⟨rfl, rfl⟩
  go_wp2_with fail
  go_ret
  exact ⟨rfl, rfl⟩
set_option maxRecDepth 20000 in
theorem psetRoot_no {w : World} {v : Value} (h : NoPg w v) (i page : Int) : Calls Tryz.prog 44 #[v, .int .i64 i, .int .i64 page] w fun e w' => e = .returned (.int .i64 1) ∧ w = w' := by
  have H := Lib.hid (popen_no h)
  clear h
  go_enter Tryz.func44, Tryz.ntmps44
  go_wp2_with fail
  (with_reducible refine H.out.mono ?_)
  rintro e w1 ⟨rfl, rfl⟩
  go_wp2_with fail
  go_ret
  exact ⟨rfl, rfl⟩
set_option maxRecDepth 20000 in
theorem pused_no {w : World} {v : Value} (h : NoPg w v) : Calls Tryz.prog 47 #[v] w fun e w' => e = .returned (.int .i64 0) ∧ w = w' := by
  have H := Lib.hid (pnone_no h)
  clear h
  go_enter Tryz.func47, Tryz.ntmps47
  go_wp2_with fail
  (with_reducible refine H.out.mono ?_)
  rintro e w1 ⟨rfl, rfl⟩
  go_wp2_with fail
  go_ret
  exact ⟨rfl, rfl⟩
set_option maxRecDepth 20000 in
theorem pbusy_no {w : World} {v : Value} (h : NoPg w v) : Calls Tryz.prog 48 #[v] w fun e w' => e = .returned (.bool false) ∧ w = w' := by
  have H := Lib.hid (pnone_no h)
  clear h
  go_enter Tryz.func48, Tryz.ntmps48
  go_wp2_with fail
  (with_reducible refine H.out.mono ?_)
  rintro e w1 ⟨rfl, rfl⟩
  go_wp2_with fail
  go_ret
  exact ⟨rfl, rfl⟩
end Go.Proofs.YtoleojljpaglhaaGreat
/- The contract of the law's own alive (chapter 12). -/
namespace Go.Proofs.YtoleojljpaglhaaGreat
open Go.RowKit
def openP (n : Nat) : PP := beginT (freshP n)
theorem pbegin_fresh {S : Nat → Prop} {w0 w : World} {G : PH} {d : Vd.VD} {L : Wa.WL} {n : Nat} (h : PG S w0 w G d L (freshP n)) (hon : d.on = true) (hw : d.writes < 1000000000) :
    Calls Tryz.prog 40 #[.pointer (some ⟨G.pg, 0, none⟩)] w fun e w' => e = .returned (.int .i64 0) ∧ ∃ G', G'.pg = G.pg ∧ G'.dg = G.dg ∧ PG S w0 w' G' d L (openP n) := by
  have h1 := pbegin_any h rfl rfl [] rfl (by simp) hon (by simpa using hw) (by simp)
  exact h1
def oneT (n : Nat) : PT := writeT (freshT (freshP n)) 1 zeros
theorem free_first (n : Nat) (hn : 9 ≤ n) : freeAt (freshT (freshP n)).pages (n - 8) 1 = 1 := by
  obtain ⟨m, hm⟩ : ∃ m, n - 8 = m + 1 := ⟨n - 9, by omega⟩
  rw [hm]
  rfl
set_option maxRecDepth 20000 in
set_option maxHeartbeats 1000000 in
theorem palive_any (w : World) : Calls Tryz.prog 18 #[] w fun e w' => e = .returned (.bool true) ∧ Below w.heap.size w w' := by
  have hN : Calls Tryz.prog 7 #[.int .i64 480] w fun e w' => e = .returned (.tuple #[.pointer (some ⟨w.heap.size + 2, 0, none⟩), .int .i64 0]) ∧ DiskAt w' (w.heap.size + 2) w.heap.size (w.heap.size + 1) (.slice none 0 0) (newVD 480) ∧ Below w.heap.size w w' := new_in 480 w (by omega) (by omega)
  have HN := Lib.hid hN
  clear hN
  go_enter Tryz.func18, Tryz.ntmps18
  go_wp2_with fail
  (with_reducible refine HN.out.mono ?_)
  rintro e w1 ⟨rfl, hD, hb1⟩
  have hO : Calls Tryz.prog 8 #[.pointer (some ⟨w.heap.size + 2, 0, none⟩), .int .i64 40] w1 _ := popen_new (n := 40) (KeepS.ofBelow hb1) (fun _ h => h) (wnew_df hD) (by simp [Up]) (by omega) (by omega) (by omega) (by omega)
  have HO := Lib.hid hO
  clear hO hD hb1
  go_wp2_with fail
  (with_reducible refine HO.out.mono ?_)
  rintro e w2 ⟨G, L, rfl, hdg, hk, hr, h2⟩
  have HB := Lib.hid (pbegin_fresh h2 rfl (by simp [newVD]))
  clear h2 hk hr hdg
  go_wp2_with fail
  (with_reducible refine HB.out.mono ?_)
  rintro e w3 ⟨rfl, G3, hpg, hdg, h3⟩
  have hB2 := pbegin_busy h3 rfl _ rfl
  have hal := palloc_some h3 (by show 8 ≤ 40; omega) (by show 40 ≤ 5000; omega) rfl (by unfold maxLen; show (0 : Nat) < _ ∧ (0 : Nat) < _; omega)
  have e1 : allocE (openP 40) = (1, 0) := by decide +kernel
  have e2 : allocP (openP 40) = (openP 40).with_ (oneT 40) := by
    unfold allocP
    have : freeAt (freshT (freshP 40)).pages (40 - 8) 1 = 1 := free_first 40 (by omega)
    show (if freeAt (freshT (freshP 40)).pages (40 - 8) 1 = 0 then openP 40 else (openP 40).with_ (writeT (freshT (freshP 40)) (freeAt (freshT (freshP 40)).pages (40 - 8) 1 : Nat) zeros)) = _
    rw [this]
    rfl
  rw [e1, e2] at hal
  rw [hpg] at hB2 hal
  have HB2 := Lib.hid hB2
  have HAL := Lib.hid hal
  clear hB2 hal e1 e2 h3
  go_wp2_with fail
  (with_reducible refine HB2.out.mono ?_)
  rintro e w4 ⟨rfl, rfl⟩
  go_wp2_with fail
  (with_reducible refine HAL.out.mono ?_)
  rintro e w4 ⟨rfl, h4⟩
  have hrd := pread_any h4 rfl 1 (by decide)
  have hus := pused_any h4 rfl
  have hbu := pbusy_any h4
  have e3 : prd ((openP 40).with_ (oneT 40)) 1 = .tuple #[.string zeros, .int .i64 0] := rfl
  rw [e3] at hrd
  rw [hpg] at hrd hus hbu
  have hus : Calls Tryz.prog 47 #[.pointer (some ⟨G.pg, 0, none⟩)] w4 fun e w' => e = .returned (.int .i64 1) ∧ w4 = w' := hus
  have hbu : Calls Tryz.prog 48 #[.pointer (some ⟨G.pg, 0, none⟩)] w4 fun e w' => e = .returned (.bool true) ∧ w4 = w' := hbu
  have hzs : (zeros.size : Int) = 256 := by rw [zeros_size]; rfl
  have HBL := Lib.hid (h4.log.bel.toBelow (Nat.le_refl _))
  have HRD := Lib.hid hrd
  have HUS := Lib.hid hus
  have HBU := Lib.hid hbu
  clear hrd hus hbu h4 e3
  go_wp2_with fail
  (with_reducible refine HRD.out.mono ?_)
  rintro e w5 ⟨rfl, rfl⟩
  go_wp2_with fail
  (with_reducible refine HUS.out.mono ?_)
  rintro e w5 ⟨rfl, rfl⟩
  go_wp2_with fail
  (with_reducible refine HBU.out.mono ?_)
  rintro e w5 ⟨rfl, rfl⟩
  go_wp2_with fail
  go_ret
  exact ⟨rfl, HBL.out⟩
end Go.Proofs.YtoleojljpaglhaaGreat
/- The walk of the law PagerOpens. -/
namespace Go.Proofs.YtoleojljpaglhaaGreat
open Go.RowKit
end Go.Proofs.YtoleojljpaglhaaGreat
