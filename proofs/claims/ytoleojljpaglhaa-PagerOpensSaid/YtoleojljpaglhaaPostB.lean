/- The arguments read behind the call as they did, whatever they are; a slice of integers opened. -/
import Derived.Test.YtoleojljpaglhaaProg
import Derived.Test.YtoleojljpaglhaaPost
import Derived.Carry
import Derived.ProofKit
import Derived.OpenShut
import Derived.ChangeSlices
namespace Go.Proofs.Ytoleojljpaglhaa
open Go.RowKit Go.WideShapes Go.ChangeShapes
set_option maxRecDepth 20000
theorem laidOut_ : laidOutB Try.prog = true := by kernel_rfl
section
variable {H : Type} {enc : TypeId × Value → H}
theorem trodAll_stays {W W' : World} {sp : Nat → Bool} (hb : Below W.heap.size W W') : ∀ (ts : List TypeId) (vs : List Value) (ds : List (DataW H)) (ps : List MemPlace), (∀ t ∈ ts, Try.prog.readableRec t = true ∧ t < Try.prog.types.size) →
    DataW.TrodAll enc Try.prog W 0 (fun _ => true) true ts vs ds ps → (∀ x ∈ ps, x.block < W.heap.size) → (∀ x ∈ ps, sp x.block = true) → DataW.TrodAll enc Try.prog W' 0 sp true ts vs ds ps
  | [], vs, ds, ps, _, h, _, _ => by
    obtain ⟨rfl, rfl, rfl⟩ := trodAll_nil h
    exact trodAll_mk0
  | t :: ts, vs, ds, ps, hr, h, hl, hs => by
    obtain ⟨v, vs, d, ds, p, q, rfl, rfl, rfl, h0, r0⟩ := trodAll_cons h
    refine trodAll_cons_mk (WideElems.Trod_stays laidOut_ (hr t (by simp)).1 (hr t (by simp)).2 h0 (fun x hx => hb.same (hl x (by simp [hx]))) (fun x hx => hs x (by simp [hx]))) ?_
    exact trodAll_stays hb ts vs ds q (fun t ht => hr t (by simp [ht])) r0 (fun x hx => hl x (by simp [hx])) (fun x hx => hs x (by simp [hx]))
end
end Go.Proofs.Ytoleojljpaglhaa
