/- The contracts of the readers of elements: is, GetInt, GetStr, GetBool, GetKids, on both sides; chancerybook.SameElements. -/
import Derived.Test.YtlkdbopdmieojaaGreatBerQ
import Derived.Test.YtlkdbopdmieojaaGreatBerF
import Derived.Test.YtlkdbopdmieojaaGreatBerR
import Derived.Test.YtlkdbopdmieojaaGreatOctE
namespace Go.Proofs.YtlkdbopdmieojaaGreat
open Go.RowKit Ber
set_option maxRecDepth 20000
def isB (c t : Int) (k : Bool) (z1 z2 : Int) (kk : Bool) : Bool := (c == z1) && ((t == z2) && (k == kk))
def giV (q : Bool) (b : ByteArray) : Value := if q = true ∧ (1 ≤ b.size ∧ b.size ≤ 8) then .tuple #[.int .i64 (Oct.sgnZ b.data.toList), .int .i64 0] else .tuple #[.int .i64 0, .int .i64 24]
def gbV (q : Bool) (b : ByteArray) : Value := if h : q = true ∧ b.size = 1 then .tuple #[.bool (((b[0]'(by omega)).toNat : Int) != 0), .int .i64 0] else .tuple #[.bool false, .int .i64 24]
theorem giV_shape (q : Bool) (b : ByteArray) : ∃ v r, giV q b = .tuple #[.int .i64 v, .int .i64 r] := by
  unfold giV
  split
  · exact ⟨_, _, rfl⟩
  · exact ⟨_, _, rfl⟩
theorem gbV_shape (q : Bool) (b : ByteArray) : ∃ v r, gbV q b = .tuple #[.bool v, .int .i64 r] := by
  unfold gbV
  split
  · exact ⟨_, _, rfl⟩
  · exact ⟨_, _, rfl⟩
set_option maxHeartbeats 1000000 in
theorem is_any (c t : Int) (k : Bool) (b : ByteArray) (a : Option Addr) (n cap : Nat) (z1 z2 : Int) (kk q : Bool) (h : Hid (isB c t k z1 z2 kk = q)) (w : World) : Calls Tryz.prog 20 #[.agg #[.int .i64 c, .int .i64 t, .bool k, .string b, .slice a n cap], .int .i64 z1, .int .i64 z2, .bool kk] w fun e w' => e = .returned (.bool q) ∧ Below w.heap.size w w' := by
  obtain ⟨q1, h1⟩ : ∃ q1, (c == z1) = q1 := ⟨_, rfl⟩
  obtain ⟨q2, h2⟩ : ∃ q2, (t == z2) = q2 := ⟨_, rfl⟩
  obtain ⟨q3, h3⟩ : ∃ q3, (k == kk) = q3 := ⟨_, rfl⟩
  have hq := h.out
  unfold isB at hq
  rw [h1, h2, h3] at hq
  subst hq
  clear h
  cases q1 <;> cases q2 <;> cases q3
  all_goals
    go_enter Tryz.func20, Tryz.ntmps20
    go_wp2_with fail
    go_ret
    exact ⟨rfl, (Below.refl _ _).alloc (Nat.le_refl _) _⟩
/-- what a GetKids leaves -/
def GkPost (w0 : World) (q : Bool) (ks : List El) (e : Ending) (w' : World) : Prop := ∃ v, e = .returned (.tuple #[v, .int .i64 (if q then 0 else 24)]) ∧ KsAt w' (if q then ks else []) v ∧ Below w0.heap.size w0 w'
set_option maxHeartbeats 1000000 in
theorem getKids_any {w' : World} {ks : List El} {a : Option Addr} {n cap : Nat} (hk : KsAt w' ks (.slice a n cap)) (c t : Int) (k : Bool) (b : ByteArray) (z1 z2 : Int) (q : Bool) (h : Hid (isB c t k z1 z2 true = q)) (w : World) (hw : Below w'.heap.size w' w) : Calls Tryz.prog 9 #[.agg #[.int .i64 c, .int .i64 t, .bool k, .string b, .slice a n cap], .int .i64 z1, .int .i64 z2] w fun e w1 => GkPost w q ks e w1 := by
  have hB := fun (w1 : World) (hb : Below (w.alloc (.cells #[.int .i64 c, .int .i64 t, .bool k, .string b, .slice a n cap] 47)).heap.size (w.alloc (.cells #[.int .i64 c, .int .i64 t, .bool k, .string b, .slice a n cap] 47)) w1) => ((Below.refl w.heap.size w).alloc (Nat.le_refl _) (.cells #[.int .i64 c, .int .i64 t, .bool k, .string b, .slice a n cap] 47)).trans (hb.mono (by simp))
  have HB := Lib.hid hB
  clear hB
  have HK := Lib.hid (hk.later hw)
  clear hk hw
  cases q
  · go_enter Tryz.func9, Tryz.ntmps9
    go_wp2_with fail
    (with_reducible refine (is_any c t k b a n cap z1 z2 true false h _).mono ?_)
    rintro e w1 ⟨rfl, hb1⟩
    have HB1 := Lib.hid (HB.out _ hb1)
    clear hb1
    go_wp2_with fail
    go_ret2
    exact ⟨_, rfl, KsAt.nil _, HB1.out⟩
  · go_enter Tryz.func9, Tryz.ntmps9
    go_wp2_with fail
    (with_reducible refine (is_any c t k b a n cap z1 z2 true true h _).mono ?_)
    rintro e w1 ⟨rfl, hb1⟩
    obtain ⟨d0, d1, d2, d3, d4⟩ := ((Blk.new w 47 #[.int .i64 c, .int .i64 t, .bool k, .string b, .slice a n cap]).below hb1 (by simp)).five
    have HB1 := Lib.hid (HB.out _ hb1)
    have HK1 := Lib.hid (HK.out.later HB1.out)
    clear hb1
    go_wp2_with fail
    (with_reducible refine (copies_any HK1.out _ (Below.refl _ _)).mono ?_)
    rintro e w2 ⟨v2, rfl, hk2, hb2⟩
    obtain ⟨a2, cap2, rfl, _, _⟩ := hk2.at.len
    go_wp2_with fail
    go_ret2
    exact ⟨_, rfl, hk2.at, HB1.out.trans (hb2.mono HB1.out.size)⟩
end Go.Proofs.YtlkdbopdmieojaaGreat
