/- What a nil and a zero pager answer. -/
import Derived.Test.YtoleojljpaglhaaProg
import Derived.Test.YtoleojljpaglhaaWords
import Derived.WalkKit
import Derived.ProofKit
import Derived.Lib.Hide
import Derived.Outline
namespace Go.Proofs.Ytoleojljpaglhaa
open Go.RowKit
set_option maxRecDepth 20000
/-- whatever is no pager -/
structure NoPg (w : World) (v : Value) : Prop where
  at_ : v = .pointer none ∨ ∃ g, v = .pointer (some ⟨g, 0, none⟩) ∧ w.cell? ⟨g, 0, none⟩ = some (.pointer none)
theorem NoPg.later {w w' : World} {v : Value} (h : NoPg w v) (hb : Below w.heap.size w w') : NoPg w' v := by
  rcases h.at_ with rfl | ⟨g, rfl, hc⟩
  · exact ⟨.inl rfl⟩
  · exact ⟨.inr ⟨g, rfl, (hb.cell (p := ⟨g, 0, none⟩) (World.block_lt_of_cell? _ _ hc)).trans hc⟩⟩
theorem pnone_no {w : World} {v : Value} (h : NoPg w v) : Calls Try.prog 35 #[v] w fun e w' => e = .returned (.bool true) ∧ w = w' := by
  rcases h.at_ with rfl | ⟨g, rfl, hc⟩
  · go_enter Try.func35, Try.ntmps35
    go_wp2_with fail
    go_ret
    exact ⟨rfl, rfl⟩
  · go_enter Try.func35, Try.ntmps35
    go_wp2_with fail
    go_ret
    exact ⟨rfl, rfl⟩
set_option maxRecDepth 20000 in
theorem popen_no {w : World} {v : Value} (h : NoPg w v) : Calls Try.prog 37 #[v] w fun e w' => e = .returned (.int .i64 1) ∧ w = w' := by
  have H := Lib.hid (pnone_no h)
  clear h
  go_enter Try.func37, Try.ntmps37
  go_wp2_with fail
  (with_reducible refine H.out.mono ?_)
  rintro e w1 ⟨rfl, rfl⟩
  go_wp2_with fail
  go_ret
  exact ⟨rfl, rfl⟩
set_option maxRecDepth 20000 in
theorem pread_no {w : World} {v : Value} (h : NoPg w v) (page : Int) : Calls Try.prog 16 #[v, .int .i64 page] w fun e w' => e = .returned (.tuple #[.string ⟨#[]⟩, .int .i64 1]) ∧ w = w' := by
  have H := Lib.hid (pnone_no h)
  clear h
  go_enter Try.func16, Try.ntmps16
  go_wp2_with fail
  (with_reducible refine H.out.mono ?_)
  rintro e w1 ⟨rfl, rfl⟩
  go_wp2_with fail
  go_ret2
  exact ⟨rfl, rfl⟩
set_option maxRecDepth 20000 in
theorem palloc_no {w : World} {v : Value} (h : NoPg w v) : Calls Try.prog 11 #[v] w fun e w' => e = .returned (.tuple #[.int .i64 0, .int .i64 1]) ∧ w = w' := by
  have H := Lib.hid (popen_no h)
  clear h
  go_enter Try.func11, Try.ntmps11
  go_wp2_with fail
  (with_reducible refine H.out.mono ?_)
  rintro e w1 ⟨rfl, rfl⟩
  go_wp2_with fail
  go_ret2
  exact ⟨rfl, rfl⟩
set_option maxRecDepth 20000 in
theorem proot_no {w : World} {v : Value} (h : NoPg w v) (i : Int) : Calls Try.prog 18 #[v, .int .i64 i] w fun e w' => e = .returned (.tuple #[.int .i64 0, .int .i64 1]) ∧ w = w' := by
  have H := Lib.hid (pnone_no h)
  clear h
  go_enter Try.func18, Try.ntmps18
  go_wp2_with fail
  (with_reducible refine H.out.mono ?_)
  rintro e w1 ⟨rfl, rfl⟩
  go_wp2_with fail
  go_ret2
  exact ⟨rfl, rfl⟩
set_option maxRecDepth 20000 in
theorem pbegin_no {w : World} {v : Value} (h : NoPg w v) : Calls Try.prog 10 #[v] w fun e w' => e = .returned (.int .i64 1) ∧ w = w' := by
  have H := Lib.hid (pnone_no h)
  clear h
  go_enter Try.func10, Try.ntmps10
  go_wp2_with fail
  (with_reducible refine H.out.mono ?_)
  rintro e w1 ⟨rfl, rfl⟩
  go_wp2_with fail
  go_ret
  exact ⟨rfl, rfl⟩
set_option maxRecDepth 20000 in
theorem pcommit_no {w : World} {v : Value} (h : NoPg w v) : Calls Try.prog 14 #[v] w fun e w' => e = .returned (.int .i64 1) ∧ Below w.heap.size w w' := by
  rcases h.at_ with rfl | ⟨g, rfl, hc⟩
  ·
    have H : Hid (∀ o, Calls Try.prog 35 #[.pointer none] (w.alloc o) fun e w' => e = .returned (.bool true) ∧ w.alloc o = w') := Lib.hid (fun o => pnone_no (h.later ((Below.refl _ _).alloc (Nat.le_refl _) o)))
    clear h
    go_enter Try.func14, Try.ntmps14
    go_wp2_with fail
    (with_reducible refine (H.out _).mono ?_)
    rintro e w1 ⟨rfl, rfl⟩
    go_wp2_with fail
    go_ret
    exact ⟨rfl, (Below.refl _ _).alloc (Nat.le_refl _) _⟩
  ·
    have H : Hid (∀ o, Calls Try.prog 35 #[.pointer (some ⟨g, 0, none⟩)] (w.alloc o) fun e w' => e = .returned (.bool true) ∧ w.alloc o = w') := Lib.hid (fun o => pnone_no (h.later ((Below.refl _ _).alloc (Nat.le_refl _) o)))
    clear h
    go_enter Try.func14, Try.ntmps14
    go_wp2_with fail
    (with_reducible refine (H.out _).mono ?_)
    rintro e w1 ⟨rfl, rfl⟩
    go_wp2_with fail
    go_ret
    exact ⟨rfl, (Below.refl _ _).alloc (Nat.le_refl _) _⟩
set_option maxRecDepth 20000 in
theorem pabort_no {w : World} {v : Value} (h : NoPg w v) : Calls Try.prog 19 #[v] w fun e w' => e = .returned (.int .i64 1) ∧ w = w' := by
  have H := Lib.hid (popen_no h)
  clear h
  go_enter Try.func19, Try.ntmps19
  go_wp2_with fail
  (with_reducible refine H.out.mono ?_)
  rintro e w1 ⟨rfl, rfl⟩
  go_wp2_with fail
  go_ret
  exact ⟨rfl, rfl⟩
set_option maxRecDepth 20000 in
theorem pwrite_no {w : World} {v : Value} (h : NoPg w v) (page : Int) (s : ByteArray) : Calls Try.prog 12 #[v, .int .i64 page, .string s] w fun e w' => e = .returned (.int .i64 1) ∧ w = w' := by
  have H := Lib.hid (popen_no h)
  clear h
  go_enter Try.func12, Try.ntmps12
  go_wp2_with fail
  (with_reducible refine H.out.mono ?_)
  rintro e w1 ⟨rfl, rfl⟩
  go_wp2_with fail
  go_ret
  exact ⟨rfl, rfl⟩
set_option maxRecDepth 20000 in
theorem pfree_no {w : World} {v : Value} (h : NoPg w v) (page : Int) : Calls Try.prog 15 #[v, .int .i64 page] w fun e w' => e = .returned (.int .i64 1) ∧ w = w' := by
  have H := Lib.hid (popen_no h)
  clear h
  go_enter Try.func15, Try.ntmps15
  go_wp2_with fail
  (with_reducible refine H.out.mono ?_)
  rintro e w1 ⟨rfl, rfl⟩
  go_wp2_with fail
  go_ret
  exact ⟨rfl, rfl⟩
set_option maxRecDepth 20000 in
theorem psetRoot_no {w : World} {v : Value} (h : NoPg w v) (i page : Int) : Calls Try.prog 20 #[v, .int .i64 i, .int .i64 page] w fun e w' => e = .returned (.int .i64 1) ∧ w = w' := by
  have H := Lib.hid (popen_no h)
  clear h
  go_enter Try.func20, Try.ntmps20
  go_wp2_with fail
  (with_reducible refine H.out.mono ?_)
  rintro e w1 ⟨rfl, rfl⟩
  go_wp2_with fail
  go_ret
  exact ⟨rfl, rfl⟩
set_option maxRecDepth 20000 in
theorem pused_no {w : World} {v : Value} (h : NoPg w v) : Calls Try.prog 17 #[v] w fun e w' => e = .returned (.int .i64 0) ∧ w = w' := by
  have H := Lib.hid (pnone_no h)
  clear h
  go_enter Try.func17, Try.ntmps17
  go_wp2_with fail
  (with_reducible refine H.out.mono ?_)
  rintro e w1 ⟨rfl, rfl⟩
  go_wp2_with fail
  go_ret
  exact ⟨rfl, rfl⟩
set_option maxRecDepth 20000 in
theorem pbusy_no {w : World} {v : Value} (h : NoPg w v) : Calls Try.prog 21 #[v] w fun e w' => e = .returned (.bool false) ∧ w = w' := by
  have H := Lib.hid (pnone_no h)
  clear h
  go_enter Try.func21, Try.ntmps21
  go_wp2_with fail
  (with_reducible refine H.out.mono ?_)
  rintro e w1 ⟨rfl, rfl⟩
  go_wp2_with fail
  go_ret
  exact ⟨rfl, rfl⟩
end Go.Proofs.Ytoleojljpaglhaa
