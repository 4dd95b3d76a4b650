/- The walk of the law BerFrames. -/
import Derived.Test.YtlkdbopdmieojaaGreatBerG
import Derived.Test.YtlkdbopdmieojaaGreatBerK
namespace Go.Proofs.YtlkdbopdmieojaaGreat
open Go.RowKit Ber
set_option maxRecDepth 20000
theorem write_var {w : World} {ks : List El} {kv : Value} (h : KsAt w ks kv) (c t : Int) (k : Bool) (b : ByteArray) (w0 : World) (hfb : Few b.size) (hb : Below w.heap.size w w0) (S : ByteArray) (r : Int) (hS : Hid (wr (.mk c t k b ks) = (S.data.toList, r))) :
    Calls Tryz.prog 13 #[.agg #[.int .i64 c, .int .i64 t, .bool k, .string b, kv]] w0 fun e w' => e = .returned (.tuple #[.string S, .int .i64 r]) ∧ Below w0.heap.size w0 w' := by
  have := write_any h c t k b w0 hfb hb
  unfold wrV at this
  rw [hS.out, ba_eta] at this
  exact this
theorem frame_var (s : ByteArray) (w : World) (n : Nat) (r : Int) (h : Hid (frame s.data.toList = (n, r))) : Calls Tryz.prog 16 #[.string s] w fun e w' => e = .returned (.tuple #[.int .i64 n, .int .i64 r]) ∧ Below w.heap.size w w' := by
  have := frame_any s w
  unfold frV at this
  rw [h.out] at this
  exact this
theorem wr_err {e : El} {l : List UInt8} {r : Int} (h : wr e = (l, r)) : r = 0 ∨ r = 21 ∨ r = 24 ∨ r = 23 ∨ r = 2 := by
  unfold wr at h
  (repeat' split at h) <;> simp_all
theorem size_enc {S : ByteArray} {e : El} (h : S.data.toList = enc 20 e) : S.size = esz 20 e := by
  have := congrArg List.length h
  rw [enc_length] at this
  exact this
end Go.Proofs.YtlkdbopdmieojaaGreat
