/- The walk of the law BerBack. -/
import Derived.Test.YtlkdbopdmieojaaGreatBerL
import Derived.Test.YtlkdbopdmieojaaGreatBerQ
import Derived.Test.YtlkdbopdmieojaaGreatBerT
namespace Go.Proofs.YtlkdbopdmieojaaGreat
open Go.RowKit Ber
set_option maxRecDepth 20000
theorem read_var (s : ByteArray) (w : World) (hs : s.size ≤ 140737488351232) (c t : Int) (k : Bool) (b : ByteArray) (ks : List El) (r : Int) (h : Hid (rdTop s.data.toList = (.mk c t k b ks, r))) :
    Calls Tryz.prog 5 #[.string s] w fun e w' => (∃ v, e = .returned (.tuple #[.agg #[.int .i64 c, .int .i64 t, .bool k, .string b, v], .int .i64 r]) ∧ KsP (fun b => w.heap.size ≤ b ∧ b < w'.heap.size) w' ks v) ∧ Few b.size ∧ Below w.heap.size w w' := by
  refine (Read_any s w hs).mono ?_
  rintro e w' ⟨c', t', k', b', ks', v, r', hq, he, hk, hf, hb⟩
  rw [h.out] at hq
  obtain ⟨h1, rfl⟩ := Prod.mk.inj hq
  obtain ⟨rfl, rfl, rfl, rfl, rfl⟩ := El.mk.inj h1
  exact ⟨⟨v, he, hk⟩, hf, hb⟩
end Go.Proofs.YtlkdbopdmieojaaGreat
