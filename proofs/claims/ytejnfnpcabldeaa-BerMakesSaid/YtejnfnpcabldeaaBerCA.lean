/- The contracts of chanceryref2.Int, Str, Bool, Seq, As. -/
import Derived.Test.YtejnfnpcabldeaaBerH
namespace Go.Proofs.Ytejnfnpcabldeaa
open Go.RowKit Ber
set_option maxHeartbeats 400000 in
theorem rInt_any (t v : Int) (w : World) (hlo : -9223372036854775808 ≤ v) (hhi : v ≤ 9223372036854775807) : Calls Try.prog 24 #[.int .i64 t, .int .i64 v] w fun e w' => e = .returned (EV 0 t false ⟨(Oct.beB (Oct.psLen v) v).toArray⟩ (.slice none 0 0)) ∧ Below w.heap.size w w' := by
  have hp := fun W => refPutSigned_any v W hlo hhi
  obtain ⟨l, hl⟩ : ∃ l, Oct.beB (Oct.psLen v) v = l := ⟨_, rfl⟩
  rw [hl] at hp ⊢
  have HP := Lib.hid hp
  clear hp hl hlo hhi
  unfold EV
  go_enter Try.func24, Try.ntmps24
  go_wp2_with fail
  (with_reducible refine (HP.out _).mono ?_)
  rintro e w1 ⟨rfl, hb1⟩
  have hz1 := hb1.size
  have hblk := ((Blk.new w 24 #[.int .i64 0, .int .i64 0, .bool false, .string ⟨#[]⟩, .slice none 0 0]).below hb1 (by simp))
  obtain ⟨d0, d1, d2, d3, d4⟩ : w1.cell? ⟨w.heap.size, 0, none⟩ = some (.int .i64 0) ∧ w1.cell? ⟨w.heap.size, 1, none⟩ = some (.int .i64 0) ∧ w1.cell? ⟨w.heap.size, 2, none⟩ = some (.bool false) ∧ w1.cell? ⟨w.heap.size, 3, none⟩ = some (.string ⟨#[]⟩) ∧ w1.cell? ⟨w.heap.size, 4, none⟩ = some (.slice none 0 0) := ⟨hblk.cell 0, hblk.cell 1, hblk.cell 2, hblk.cell 3, hblk.cell 4⟩
  have f0 := hblk.frozen 0
  have f1 := hblk.frozen 1
  have f2 := hblk.frozen 2
  have f3 := hblk.frozen 3
  have f4 := hblk.frozen 4
  go_wp2_with fail
  refine bodyPost_ret (v := .agg #[.int .i64 0, .int .i64 t, .bool false, .string ⟨l.toArray⟩, .slice none 0 0]) (by simp [results, Try.results24, go_sem, d0, d1, d2, d3, d4]) rfl ⟨rfl, ?_⟩
  exact below_set5 w.heap.size (((Below.refl _ _).alloc (Nat.le_refl _) _).trans (hb1.mono (by simp))) _ _ _ _ _
set_option maxHeartbeats 400000 in
theorem rStr_any (t : Int) (s : ByteArray) (w : World) : Calls Try.prog 25 #[.int .i64 t, .string s] w fun e w' => e = .returned (EV 0 t false s (.slice none 0 0)) ∧ Below w.heap.size w w' := by
  unfold EV
  go_enter Try.func25, Try.ntmps25
  go_wp2_with fail
  refine bodyPost_ret (v := .agg #[.int .i64 0, .int .i64 t, .bool false, .string s, .slice none 0 0]) (by simp [results, Try.results25, go_sem]) rfl ⟨rfl, ?_⟩
  exact (Below.refl _ _).alloc (Nat.le_refl _) _
set_option maxHeartbeats 400000 in
theorem rSeq_any (a : Option Addr) (n cap : Nat) (w : World) : Calls Try.prog 27 #[.slice a n cap] w fun e w' => e = .returned (EV 0 16 true ⟨#[]⟩ (.slice a n cap)) ∧ Below w.heap.size w w' := by
  unfold EV
  go_enter Try.func27, Try.ntmps27
  go_wp2_with fail
  refine bodyPost_ret (v := .agg #[.int .i64 0, .int .i64 16, .bool true, .string ⟨#[]⟩, .slice a n cap]) (by simp [results, Try.results27, go_sem]) rfl ⟨rfl, ?_⟩
  exact (Below.refl _ _).alloc (Nat.le_refl _) _
set_option maxHeartbeats 400000 in
theorem rAs_any (c t : Int) (k : Bool) (b : ByteArray) (a : Option Addr) (n cap : Nat) (c2 t2 : Int) (w : World) : Calls Try.prog 29 #[EV c t k b (.slice a n cap), .int .i64 c2, .int .i64 t2] w fun e w' => e = .returned (EV c2 t2 k b (.slice a n cap)) ∧ Below w.heap.size w w' := by
  unfold EV
  go_enter Try.func29, Try.ntmps29
  go_wp2_with fail
  refine bodyPost_ret (v := .agg #[.int .i64 c2, .int .i64 t2, .bool k, .string b, .slice a n cap]) (by simp [results, Try.results29, go_sem]) rfl ⟨rfl, ?_⟩
  exact ((Below.refl _ _).alloc (Nat.le_refl _) _).alloc (by simp) _
set_option maxHeartbeats 400000 in
theorem rBool_any (t : Int) (v : Bool) (w : World) : Calls Try.prog 26 #[.int .i64 t, .bool v] w fun e w' => e = .returned (EV 0 t false ⟨(if v then [255] else [0]).toArray⟩ (.slice none 0 0)) ∧ Below w.heap.size w w' := by
  unfold EV
  cases v
  all_goals
    go_enter Try.func26, Try.ntmps26
    go_wp2_with fail
    refine bodyPost_ret (v := .agg #[.int .i64 0, .int .i64 t, .bool false, .string ⟨#[_]⟩, .slice none 0 0]) (by simp [results, Try.results26, go_sem]) rfl ⟨rfl, ?_⟩
    exact (Below.refl _ _).alloc (Nat.le_refl _) _
end Go.Proofs.Ytejnfnpcabldeaa
