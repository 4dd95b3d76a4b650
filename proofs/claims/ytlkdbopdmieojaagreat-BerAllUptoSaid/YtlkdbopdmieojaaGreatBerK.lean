/- The contract of chancerylaw2.alive. -/
import Derived.Test.YtlkdbopdmieojaaGreatBerF
import Derived.Test.YtlkdbopdmieojaaGreatBerH
import Derived.Test.YtlkdbopdmieojaaGreatBerJ
namespace Go.Proofs.YtlkdbopdmieojaaGreat
open Go.RowKit Ber
set_option maxRecDepth 20000
def aliveE : El := .mk 0 16 true ⟨#[]⟩ [.mk 0 2 false ⟨[5].toArray⟩ [], .mk 0 4 false ⟨[97, 98].toArray⟩ []]
theorem alive_wr : wr aliveE = ([48, 7, 2, 1, 5, 4, 2, 97, 98], 0) := by decide +kernel
theorem alive_fr : frame [48, 7] = (9, 0) := by decide +kernel
theorem alive_5 : Oct.beB (Oct.psLen 5) 5 = [5] := by decide +kernel
/-- two elements without lists, side by side -/
theorem two_at {w : World} {g : Nat} {c0 t0 c1 t1 : Int} {k0 k1 : Bool} {b0 b1 : ByteArray} (h : Blk w g 47 #[.int .i64 c0, .int .i64 t0, .bool k0, .string b0, .slice none 0 0, .int .i64 c1, .int .i64 t1, .bool k1, .string b1, .slice none 0 0]) (h0 : Few b0.size) (h1 : Few b1.size) :
    KsAt w [.mk c0 t0 k0 b0 [], .mk c1 t1 k1 b1 []] (.slice (some ⟨g, 0, none⟩) 2 2) := by
  refine .mk [.mk c0 t0 k0 b0 [], .mk c1 t1 k1 b1 []] (some ⟨g, 0, none⟩) 2 g 0 (fun _ => .slice none 0 0) ⟨Nat.le_refl _, by unfold maxLen; simp⟩ (by unfold FewK; simp) ?_ ?_
  · intro i hi
    match i, hi with
    | 0, _ => exact ⟨rfl, h.lt, ⟨h.cell 0, h.cell 1, h.cell 2, h.cell 3, h.cell 4⟩, h0⟩
    | 1, _ => exact ⟨rfl, h.lt, ⟨h.cell 5, h.cell 6, h.cell 7, h.cell 8, h.cell 9⟩, h1⟩
  · intro i hi
    match i, hi with
    | 0, _ => exact KsAt.nil w
    | 1, _ => exact KsAt.nil w
set_option maxHeartbeats 400000 in
theorem alive_any (w : World) : Calls Tryz.prog 4 #[] w fun e w' => e = .returned (.bool true) ∧ Below w.heap.size w w' := by
  have hi := fun W => int_any 2 5 W (by omega) (by omega)
  rw [alive_5] at hi
  have HI := Lib.hid hi
  clear hi
  go_enter Tryz.func4, Tryz.ntmps4
  go_wp2_with fail
  (with_reducible refine (HI.out _).mono ?_)
  rintro e w1 ⟨rfl, hb1⟩
  unfold EV
  go_wp2_with fail
  (with_reducible refine (str_any 4 _ _).mono ?_)
  rintro e w2 ⟨rfl, hb2⟩
  unfold EV
  go_wp2_with fail
  have hK := two_at (w := w2.alloc (.cells #[.int .i64 0, .int .i64 2, .bool false, .string ⟨#[5]⟩, .slice none 0 0, .int .i64 0, .int .i64 4, .bool false, .string ⟨#[97, 98]⟩, .slice none 0 0] 47)) (g := w2.heap.size) (Blk.new w2 _ _) (by unfold Few; decide) (by unfold Few; decide)
  (with_reducible refine (seq_any hK).mono ?_)
  clear hK
  rintro e w3 ⟨v3, rfl, hk3, hb3⟩
  obtain ⟨a3, cap3, rfl, _, _⟩ := hk3.at.len
  have HK3 : Hid (KsAt w3 [.mk 0 2 false ⟨#[5]⟩ [], .mk 0 4 false ⟨#[97, 98]⟩ []] (.slice a3 2 cap3)) := Lib.hid hk3.at
  have hB3 : Below w.heap.size w w3 := ((hb1.trans (hb2.mono hb1.size)).alloc (by have := hb1.size; have := hb2.size; omega) _).trans (hb3.mono (by have := hb1.size; have := hb2.size; simp; omega))
  clear hk3 hb1 hb2 hb3
  unfold EV
  go_wp2_with fail
  have hW := write_any HK3.out 0 16 true ⟨#[]⟩ w3 (by unfold Few; decide) (Below.refl _ _)
  have hV : wrV (.mk 0 16 true ⟨#[]⟩ [.mk 0 2 false ⟨#[5]⟩ [], .mk 0 4 false ⟨#[97, 98]⟩ []]) = .tuple #[.string ⟨#[48, 7, 2, 1, 5, 4, 2, 97, 98]⟩, .int .i64 0] := by
    show wrV aliveE = _
    unfold wrV
    rw [alive_wr]
  rw [hV] at hW
  (with_reducible refine hW.mono ?_)
  clear hW hV
  rintro e w4 ⟨rfl, hb4⟩
  have hB4 := hB3.trans (hb4.mono hB3.size)
  have hF := fun W => frame_any ⟨#[48, 7]⟩ W
  have hV : frV ⟨#[48, 7]⟩ = .tuple #[.int .i64 9, .int .i64 0] := by
    unfold frV
    rw [show (⟨#[48, 7]⟩ : ByteArray).data.toList = [48, 7] from rfl, alive_fr]
    rfl
  rw [hV] at hF
  clear hV hB3 hb4
  have HF := Lib.hid hF
  clear hF
  go_wp2_with fail
  (with_reducible refine (HF.out _).mono ?_)
  rintro e w5 ⟨rfl, hb5⟩
  have hB5 := hB4.trans (hb5.mono hB4.size)
  go_wp2_with fail
  go_ret
  exact ⟨rfl, hB5⟩
end Go.Proofs.YtlkdbopdmieojaaGreat
