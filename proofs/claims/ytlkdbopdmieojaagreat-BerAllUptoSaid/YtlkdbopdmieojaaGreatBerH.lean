/- The contracts of ber.Int, Str, Bool, Seq, As. -/
import Derived.Test.YtlkdbopdmieojaaGreatBerG
import Derived.Test.YtlkdbopdmieojaaGreatOctF
import Derived.Test.YtlkdbopdmieojaaGreatBerD
namespace Go.Proofs.YtlkdbopdmieojaaGreat
open Go.RowKit Ber
set_option maxRecDepth 20000
/-- an element as a value -/
def EV (c t : Int) (k : Bool) (b : ByteArray) (kv : Value) : Value := .agg #[.int .i64 c, .int .i64 t, .bool k, .string b, kv]
theorem below_set5 {a w : World} (E : Nat) (h : Below a.heap.size a w) (v0 v1 v2 v3 v4 : Value) (hE : a.heap.size = E := by rfl) :
    Below a.heap.size a (((((w.setCell ⟨E, 0, none⟩ v0).setCell ⟨E, 1, none⟩ v1).setCell ⟨E, 2, none⟩ v2).setCell ⟨E, 3, none⟩ v3).setCell ⟨E, 4, none⟩ v4) := by
  subst hE
  exact ((((h.setCell (p := ⟨_, 0, none⟩) (Nat.le_refl _) _).setCell (p := ⟨_, 1, none⟩) (Nat.le_refl _) _).setCell (p := ⟨_, 2, none⟩) (Nat.le_refl _) _).setCell (p := ⟨_, 3, none⟩) (Nat.le_refl _) _).setCell (p := ⟨_, 4, none⟩) (Nat.le_refl _) _
theorem ksp_set5 {w : World} (E : Nat) {ks : List El} {kv : Value} {N : Nat} (h : KsP (fun b => E + 1 ≤ b ∧ b < N) w ks kv) (v0 v1 v2 v3 v4 : Value) :
    KsP (fun b => E ≤ b ∧ b < (((((w.setCell ⟨E, 0, none⟩ v0).setCell ⟨E, 1, none⟩ v1).setCell ⟨E, 2, none⟩ v2).setCell ⟨E, 3, none⟩ v3).setCell ⟨E, 4, none⟩ v4).heap.size) (((((w.setCell ⟨E, 0, none⟩ v0).setCell ⟨E, 1, none⟩ v1).setCell ⟨E, 2, none⟩ v2).setCell ⟨E, 3, none⟩ v3).setCell ⟨E, 4, none⟩ v4) ks kv := by
  refine h.keep (by simp) fun g hg hS => ⟨?_, by omega, by simpa using hg⟩
  have hne : ∀ i, g ≠ (⟨E, i, none⟩ : Addr).block := fun i => by show g ≠ E; omega
  rw [Below.heap_setCell _ _ _ _ (hne 4), Below.heap_setCell _ _ _ _ (hne 3), Below.heap_setCell _ _ _ _ (hne 2), Below.heap_setCell _ _ _ _ (hne 1), Below.heap_setCell _ _ _ _ (hne 0)]
set_option maxHeartbeats 400000 in
theorem str_any (t : Int) (s : ByteArray) (w : World) : Calls Tryz.prog 15 #[.int .i64 t, .string s] w fun e w' => e = .returned (EV 0 t false s (.slice none 0 0)) ∧ Below w.heap.size w w' := by
  unfold EV
  go_enter Tryz.func15, Tryz.ntmps15
  go_wp2_with fail
  refine bodyPost_ret (v := .agg #[.int .i64 0, .int .i64 t, .bool false, .string s, .slice none 0 0]) (by simp [results, Tryz.results15, go_sem]) rfl ⟨rfl, ?_⟩
  exact (Below.refl _ _).alloc (Nat.le_refl _) _
set_option maxHeartbeats 400000 in
theorem int_any (t v : Int) (w : World) (hlo : -9223372036854775808 ≤ v) (hhi : v ≤ 9223372036854775807) : Calls Tryz.prog 14 #[.int .i64 t, .int .i64 v] w fun e w' => e = .returned (EV 0 t false ⟨(Oct.beB (Oct.psLen v) v).toArray⟩ (.slice none 0 0)) ∧ Below w.heap.size w w' := by
  have hp := fun W => putSigned_any v W hlo hhi
  obtain ⟨l, hl⟩ : ∃ l, Oct.beB (Oct.psLen v) v = l := ⟨_, rfl⟩
  rw [hl] at hp ⊢
  have HP := Lib.hid hp
  clear hp hl hlo hhi
  unfold EV
  go_enter Tryz.func14, Tryz.ntmps14
  go_wp2_with fail
  (with_reducible refine (HP.out _).mono ?_)
  rintro e w1 ⟨rfl, hb1⟩
  have hz1 := hb1.size
  have hc := hb1.cell (p := ⟨w.heap.size, 0, none⟩) (by simp)
  go_wp2_with fail
  (with_reducible refine (str_any t _ _).mono ?_)
  rintro e w2 ⟨rfl, hb2⟩
  unfold EV
  have hz2 := hb2.size
  have hblk := ((Blk.new w 47 #[.int .i64 0, .int .i64 0, .bool false, .string ⟨#[]⟩, .slice none 0 0]).below hb1 (by simp)).below hb2 (by simp at hz1; omega)
  obtain ⟨d0, d1, d2, d3, d4⟩ : w2.cell? ⟨w.heap.size, 0, none⟩ = some (.int .i64 0) ∧ w2.cell? ⟨w.heap.size, 1, none⟩ = some (.int .i64 0) ∧ w2.cell? ⟨w.heap.size, 2, none⟩ = some (.bool false) ∧ w2.cell? ⟨w.heap.size, 3, none⟩ = some (.string ⟨#[]⟩) ∧ w2.cell? ⟨w.heap.size, 4, none⟩ = some (.slice none 0 0) := ⟨hblk.cell 0, hblk.cell 1, hblk.cell 2, hblk.cell 3, hblk.cell 4⟩
  have f0 := hblk.frozen 0
  have f1 := hblk.frozen 1
  have f2 := hblk.frozen 2
  have f3 := hblk.frozen 3
  have f4 := hblk.frozen 4
  clear hc
  go_wp2_with fail
  refine bodyPost_ret (v := .agg #[.int .i64 0, .int .i64 t, .bool false, .string ⟨l.toArray⟩, .slice none 0 0]) (by simp [results, Tryz.results14, go_sem, d0, d1, d2, d3, d4]) rfl ⟨rfl, ?_⟩
  exact below_set5 w.heap.size (((Below.refl _ _).alloc (Nat.le_refl _) _).trans ((hb1.mono (by simp)).trans (hb2.mono (by simp at hz1; omega)))) _ _ _ _ _
/-- what a maker leaves whose list is its own -/
def MkPost (w0 : World) (c t : Int) (k : Bool) (b : ByteArray) (ks : List El) (e : Ending) (w' : World) : Prop := ∃ v, e = .returned (EV c t k b v) ∧ KsP (fun b => w0.heap.size ≤ b ∧ b < w'.heap.size) w' ks v ∧ Below w0.heap.size w0 w'
set_option maxHeartbeats 400000 in
theorem seq_any {w : World} {ks : List El} {kv : Value} (h : KsAt w ks kv) : Calls Tryz.prog 11 #[kv] w fun e w' => MkPost w 0 16 true ⟨#[]⟩ ks e w' := by
  have hc := fun w0 hb => copies_any h w0 hb
  obtain ⟨a, cap, rfl, _, _⟩ := h.len
  have HC := Lib.hid hc
  clear hc h
  go_enter Tryz.func11, Tryz.ntmps11
  go_wp2_with fail
  (with_reducible refine (HC.out _ ((Below.refl _ _).alloc (Nat.le_refl _) _)).mono ?_)
  rintro e w2 ⟨v2, rfl, hk2, hb2⟩
  obtain ⟨a3, cap3, rfl, _, _⟩ := hk2.at.len
  have hz2 := hb2.size
  have hblk := (Blk.new w 47 #[.int .i64 0, .int .i64 0, .bool false, .string ⟨#[]⟩, .slice none 0 0]).below hb2 (by simp)
  obtain ⟨d0, d1, d2, d3, d4⟩ : w2.cell? ⟨w.heap.size, 0, none⟩ = some (.int .i64 0) ∧ w2.cell? ⟨w.heap.size, 1, none⟩ = some (.int .i64 0) ∧ w2.cell? ⟨w.heap.size, 2, none⟩ = some (.bool false) ∧ w2.cell? ⟨w.heap.size, 3, none⟩ = some (.string ⟨#[]⟩) ∧ w2.cell? ⟨w.heap.size, 4, none⟩ = some (.slice none 0 0) := ⟨hblk.cell 0, hblk.cell 1, hblk.cell 2, hblk.cell 3, hblk.cell 4⟩
  have f0 := hblk.frozen 0
  have f1 := hblk.frozen 1
  have f2 := hblk.frozen 2
  have f3 := hblk.frozen 3
  have f4 := hblk.frozen 4
  have HK := Lib.hid hk2
  clear hk2
  go_wp2_with fail
  refine bodyPost_ret (v := .agg #[.int .i64 0, .int .i64 16, .bool true, .string ⟨#[]⟩, .slice a3 ks.length cap3]) (by simp [results, Tryz.results11, go_sem, d0, d1, d2, d3, d4]) rfl ⟨_, rfl, ?_, ?_⟩
  · exact ksp_set5 w.heap.size (by simpa using HK.out) _ _ _ _ _
  · exact below_set5 w.heap.size (((Below.refl _ _).alloc (Nat.le_refl _) _).trans (hb2.mono (by simp))) _ _ _ _ _
end Go.Proofs.YtlkdbopdmieojaaGreat
