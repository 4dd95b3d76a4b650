/- The contract of wal.form: a piece's sector. -/
import Derived.Test.YtoleojljpaglhaaShelf
import Derived.Test.YtoleojljpaglhaaWaP
import Derived.Test.YtoleojljpaglhaaOctB
import Derived.Test.YtoleojljpaglhaaOctE
import Derived.Deep.RegionHeld
import Derived.BigQuiet
import Derived.Laws.Concat
import Derived.Lib.Hide
namespace Go.Proofs.Ytoleojljpaglhaa
open Go.RowKit
set_option maxRecDepth 20000
/-- a text that may be joined -/
def Small (a : ByteArray) : Prop := a.size ≤ 4194304
theorem run_cat {P : Program} {w : World} (a b : ByteArray) (h : Small a) (k : Small b) : (Op.stringOp .add a b).run P w = .ok (.string (a ++ b)) w :=
  run_string_add_sum (P := P) w a b (by unfold Small at h k; omega)
theorem ba_app (l m : List UInt8) : (⟨l.toArray⟩ : ByteArray) ++ ⟨m.toArray⟩ = ⟨(l ++ m).toArray⟩ := by
  apply ByteArray.ext
  simp
theorem ba_len (l : List UInt8) : (⟨l.toArray⟩ : ByteArray).size = l.length := by simp [ByteArray.size]
theorem ba_back (s : ByteArray) : (⟨s.data.toList.toArray⟩ : ByteArray) = s := by
  apply ByteArray.ext
  simp
theorem rep_one (c : Nat) : Lib.repeatL [0] c = List.replicate c 0 := by
  induction c with
  | zero => rfl
  | succ c ih => simp [Lib.repeatL, ih, List.replicate_succ]
/-- two bytes of a block as a text -/
theorem two_back {W : World} {b : Nat} {t : TypeId} {x : UInt8} (h : Blk W b t #[.int .u8 (x.toNat : Int), .int .u8 0]) : (convert 39 9 (.slice (some ⟨b, 0, none⟩) 2 2)).run Try.prog W = .ok (.string ⟨#[x, 0]⟩) W :=
  run_convert_bytes_back W 39 9 5 ⟨b, 0, none⟩ 2 [x, 0] Try.underlying39 Try.underlying5 Try.underlying9 (fun j hj => by
    match j, hj with
    | 0, _ => exact h.cell 0
    | 1, _ => exact h.cell 1)
attribute [local go_sem ↓] run_cat
set_option maxRecDepth 20000 in
set_option maxHeartbeats 1000000 in
theorem form_any (s : ByteArray) (kind gen place : Nat) (w : World) (hs : s.size ≤ 48) (hg : gen < 4294967296) (hp : place < 4294967296) :
    Calls Try.prog 73 #[.string s, .int .i64 kind, .int .i64 gen, .int .i64 place] w fun e w' => e = .returned (.string ⟨(Wa.formL s.data.toList kind gen place).toArray⟩) ∧ Below w.heap.size w w' := by
  have P1 : (∀ W, Calls Try.prog 70 #[.int .i64 (gen : Int), .int .i64 4] W fun e w' => e = .returned (.tuple #[.string ⟨(Oct.beB 4 (gen : Int)).toArray⟩, .int .i64 0]) ∧ Below W.heap.size W w') := fun W => put_yes (gen : Int) 4 W (by omega) (by omega) (by omega) (by simp; omega)
  have P2 : (∀ W, Calls Try.prog 70 #[.int .i64 (s.size : Int), .int .i64 2] W fun e w' => e = .returned (.tuple #[.string ⟨(Oct.beB 2 (s.size : Int)).toArray⟩, .int .i64 0]) ∧ Below W.heap.size W w') := fun W => put_yes (s.size : Int) 2 W (by omega) (by omega) (by omega) (by simp; omega)
  have P3 : (∀ W, Calls Try.prog 70 #[.int .i64 (place : Int), .int .i64 4] W fun e w' => e = .returned (.tuple #[.string ⟨(Oct.beB 4 (place : Int)).toArray⟩, .int .i64 0]) ∧ Below W.heap.size W w') := fun W => put_yes (place : Int) 4 W (by omega) (by omega) (by omega) (by simp; omega)
  obtain ⟨G, hG⟩ : ∃ G : ByteArray, ⟨(Oct.beB 4 (gen : Int)).toArray⟩ = G := ⟨_, rfl⟩
  obtain ⟨Z, hZ⟩ : ∃ G : ByteArray, ⟨(Oct.beB 2 (s.size : Int)).toArray⟩ = G := ⟨_, rfl⟩
  obtain ⟨A, hA⟩ : ∃ G : ByteArray, ⟨(Oct.beB 4 (place : Int)).toArray⟩ = G := ⟨_, rfl⟩
  rw [hG] at P1
  rw [hZ] at P2
  rw [hA] at P3
  obtain ⟨x, hx⟩ : ∃ x : UInt8, UInt8.ofNat kind = x := ⟨_, rfl⟩
  have hkx : IntKind.u8.wrap (kind : Int) = (x.toNat : Int) := by rw [← hx, UInt8.toNat_ofNat']; simp [IntKind.wrap, IntKind.bits, IntKind.signed]
  obtain ⟨n, hn⟩ : ∃ n : Nat, 48 - s.size = n := ⟨_, rfl⟩
  have hni : (48 : Int) - (s.size : Int) = (n : Int) := by omega
  have hnw : IntKind.i64.wrap (n : Int) = (n : Int) := by rw [IntKind.wrap_i64]; omega
  have PR := fun W => strings_Repeat ⟨#[0]⟩ n W (by omega) (by show 1 * n ≤ _; omega)
  obtain ⟨R, hR⟩ : ∃ R : ByteArray, ⟨(Lib.repeatL (⟨#[0]⟩ : ByteArray).data.toList n).toArray⟩ = R := ⟨_, rfl⟩
  rw [hR] at PR
  have zG : G.size = 4 := by rw [← hG, ba_len, Oct.beB_length]
  have zZ : Z.size = 2 := by rw [← hZ, ba_len, Oct.beB_length]
  have zA : A.size = 4 := by rw [← hA, ba_len, Oct.beB_length]
  have zR : R.size = n := by rw [← hR, ba_len]; show (Lib.repeatL [0] n).length = n; rw [rep_one, List.length_replicate]
  have zX : (⟨#[x, 0]⟩ : ByteArray).size = 2 := rfl
  have m0 : Small s := by unfold Small; omega
  have m1 : Small G := by unfold Small; omega
  have m2 : Small Z := by unfold Small; omega
  have m3 : Small A := by unfold Small; omega
  have m4 : Small R := by unfold Small; omega
  have m5 : Small ⟨#[x, 0]⟩ := by unfold Small; omega
  have m6 : Small (G ++ Z) := by unfold Small; rw [ByteArray.size_append]; omega
  have m7 : Small (G ++ Z ++ ⟨#[x, 0]⟩) := by unfold Small; simp only [ByteArray.size_append]; omega
  have m8 : Small (G ++ Z ++ ⟨#[x, 0]⟩ ++ s) := by unfold Small; simp only [ByteArray.size_append]; omega
  have m9 : Small (G ++ Z ++ ⟨#[x, 0]⟩ ++ s ++ R) := by unfold Small; simp only [ByteArray.size_append]; omega
  have m10 : Small (G ++ Z ++ ⟨#[x, 0]⟩ ++ s ++ R ++ A) := by unfold Small; simp only [ByteArray.size_append]; omega
  have hall : G ++ Z ++ ⟨#[x, 0]⟩ ++ s ++ R ++ A ++ G = ⟨(Wa.formL s.data.toList kind gen place).toArray⟩ := by
    rw [← hG, ← hZ, ← hA, ← hR, ← ba_back s]
    have e : (⟨#[x, 0]⟩ : ByteArray) = ⟨[x, 0].toArray⟩ := rfl
    rw [e, ba_app, ba_app, ba_app, ba_app, ba_app, ba_app]
    unfold Wa.formL
    rw [hx, show Lib.repeatL (⟨#[0]⟩ : ByteArray).data.toList n = List.replicate n 0 from rep_one n]
    simp [← hn]
  have P1 := Lib.hid P1
  have P2 := Lib.hid P2
  have P3 := Lib.hid P3
  have PR := Lib.hid PR
  have HALL := Lib.hid hall
  have HS := Lib.hid hs
  clear hG hZ hA hx hn hR zG zZ zA zR zX hall hs hg hp
  go_enter Try.func73, Try.ntmps73
  go_wp2_with fail
  (with_reducible refine (P1.out _).mono ?_)
  rintro e w1 ⟨rfl, hb1⟩
  go_wp2_with fail
  (with_reducible refine (P2.out _).mono ?_)
  rintro e w2 ⟨rfl, hb2⟩
  go_wp2_with fail
  (with_reducible refine (P3.out _).mono ?_)
  rintro e w3 ⟨rfl, hb3⟩
  have hB3 := hb1.trans ((hb2.mono hb1.size).trans (hb3.mono (by have := hb1.size; have := hb2.size; omega)))
  clear hb1 hb2 hb3
  go_wp2_with fail
  have q1 := two_back (x := x) (Blk.new w3 5 #[.int .u8 (x.toNat : Int), .int .u8 0]).drew
  go_region_held (fun _ => True) (trivial)
    ((go_at_call 39; ((with_reducible refine (PR.out _).mono ?_)); rintro e w5 ⟨rfl, hb5⟩; (try have q5 := two_back (x := x) ((Blk.new w3 5 #[.int .u8 (x.toNat : Int), .int .u8 0]).drew.below hb5 (by simp))); have q6 := two_back (x := x) (Blk.new w5 5 #[.int .u8 (x.toNat : Int), .int .u8 0])))
  all_goals
    go_wp2_with fail
    go_ret
    refine ⟨by rw [HALL.out]; rfl, ?_⟩
    have hs3 := hB3.size
  · exact (hB3.alloc hs3 _).drew.trans (hb5.mono (by simp; omega))
  · exact (hB3.alloc hs3 _).drew.trans (hb5.mono (by simp; omega))
  · exact (hB3.drew.trans (hb5.mono (by simp; omega))).alloc (by have := hb5.size; simp at this; omega) _
end Go.Proofs.Ytoleojljpaglhaa
