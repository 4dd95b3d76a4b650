/-
  No cell of these rows narrows 'for every input' (looked for: loops, veiled, ifaces, maps, wideKeys, modest, calm, conditions, laid).
  DERIVED. THE GIVEN ROWS OF THIS SEAT. 4 by the template 'for every input the law returns true; each argument reads behind the call as it read before'; 0 by the template 'total and deterministic' (their statements: YtoleojljpaglhaaTotals.lean).
  GIVEN WITH THE SEED: the statements are not yours to turn. If you find one false, say at which input.
  Laid BY PROGRAM, IN A SANDBOX (cutbox-rows.mjs): the forced cells as the released guide's own fill.sh prints them over the translation a547fcfe0a9ac824… (all of the seat's roots in one cut). By AI agents, Wed Nov 11 2026. No macro, syntax, notation, axiom, sorry.
-/
import Derived.Test.YtoleojljpaglhaaChecked
import GoSem.Claim
import GoSem.ClaimJoined
import GoSem.ClaimMapViews
import Derived.JoinedTies
import Derived.KernelRfl
namespace Go.Proofs.Ytoleojljpaglhaa
/- THE CELL 'sum', in the pinned program and in every row, IS THE sha256 OF THE DUMP (.gsa) THAT YtoleojljpaglhaaProg.lean LOADS. Nothing in Lean hashes anything: it is a label: what it is worth is what the hold of that sum in a sandbox is worth. -/
noncomputable def Try.pinned : Pinned := { name := "ytoleojljpaglhaa", sum := "a547fcfe0a9ac8241bfdbf2c951b2003c8956475e6e4730b71b7035b69c680e6", checked := Try.checked }
namespace Rows
def none {H : Type} : Left H := { results := [], args := [] }

/-- 'chancerylaw12.PagerMany': WHATEVER THE INPUT: true; the input reads as it did. -/
def pagerManySpec : ChangeSpec := { name := "pagerMany", fn := fun _ => fun
  | [d] => { results := [.lit (.bool true)], args := [d] }
  | _ => none }
def pagerManyRow : OpenClaim := { program := "ytoleojljpaglhaa", sum := "a547fcfe0a9ac8241bfdbf2c951b2003c8956475e6e4730b71b7035b69c680e6", func := "chancery/chancerylaw12.PagerMany", spec := "pagerMany", inPlace := ["internal/abi.NoEscape", "internal/bytealg.MakeNoZero", "maps.clone"], unfollowed := true, recurses := true, apart := false }
def PagerManySaid : Prop := pagerManyRow.holds Try.pinned (OpenSpec.ofChange pagerManySpec)

/-- ITS FALSE NEIGHBOUR: 'it returns false'. Refute it at one input. -/
def pagerManyWrong : ChangeSpec := { name := "pagerMany", fn := fun _ => fun
  | [d] => { results := [.lit (.bool false)], args := [d] }
  | _ => none }
def PagerManyWrongFalsely : Prop := pagerManyRow.holds Try.pinned (OpenSpec.ofChange pagerManyWrong)

/-- 'chancerylaw12.PagerOpens': WHATEVER THE INPUT: true; the input reads as it did. -/
def pagerOpensSpec : ChangeSpec := { name := "pagerOpens", fn := fun _ => fun
  | [d1, d2, d3] => { results := [.lit (.bool true)], args := [d1, d2, d3] }
  | _ => none }
def pagerOpensRow : OpenClaim := { program := "ytoleojljpaglhaa", sum := "a547fcfe0a9ac8241bfdbf2c951b2003c8956475e6e4730b71b7035b69c680e6", func := "chancery/chancerylaw12.PagerOpens", spec := "pagerOpens", inPlace := ["internal/abi.NoEscape", "internal/bytealg.MakeNoZero", "maps.clone"], unfollowed := true, recurses := true, apart := false }
def PagerOpensSaid : Prop := pagerOpensRow.holds Try.pinned (OpenSpec.ofChange pagerOpensSpec)

/-- ITS FALSE NEIGHBOUR: 'it returns false'. Refute it at one input. -/
def pagerOpensWrong : ChangeSpec := { name := "pagerOpens", fn := fun _ => fun
  | [d1, d2, d3] => { results := [.lit (.bool false)], args := [d1, d2, d3] }
  | _ => none }
def PagerOpensWrongFalsely : Prop := pagerOpensRow.holds Try.pinned (OpenSpec.ofChange pagerOpensWrong)

/-- 'chancerylaw12.PagerFull': WHATEVER THE INPUT: true; the input reads as it did. -/
def pagerFullSpec : ChangeSpec := { name := "pagerFull", fn := fun _ => fun
  | [d1, d2] => { results := [.lit (.bool true)], args := [d1, d2] }
  | _ => none }
def pagerFullRow : OpenClaim := { program := "ytoleojljpaglhaa", sum := "a547fcfe0a9ac8241bfdbf2c951b2003c8956475e6e4730b71b7035b69c680e6", func := "chancery/chancerylaw12.PagerFull", spec := "pagerFull", inPlace := ["internal/abi.NoEscape", "internal/bytealg.MakeNoZero", "maps.clone"], unfollowed := true, recurses := true, apart := false }
def PagerFullSaid : Prop := pagerFullRow.holds Try.pinned (OpenSpec.ofChange pagerFullSpec)

/-- ITS FALSE NEIGHBOUR: 'it returns false'. Refute it at one input. -/
def pagerFullWrong : ChangeSpec := { name := "pagerFull", fn := fun _ => fun
  | [d1, d2] => { results := [.lit (.bool false)], args := [d1, d2] }
  | _ => none }
def PagerFullWrongFalsely : Prop := pagerFullRow.holds Try.pinned (OpenSpec.ofChange pagerFullWrong)

/-- 'chancerylaw12.PagerCut': WHATEVER THE INPUT: true; the input reads as it did. -/
def pagerCutSpec : ChangeSpec := { name := "pagerCut", fn := fun _ => fun
  | [d1, d2, d3, d4, d5] => { results := [.lit (.bool true)], args := [d1, d2, d3, d4, d5] }
  | _ => none }
def pagerCutRow : OpenClaim := { program := "ytoleojljpaglhaa", sum := "a547fcfe0a9ac8241bfdbf2c951b2003c8956475e6e4730b71b7035b69c680e6", func := "chancery/chancerylaw12.PagerCut", spec := "pagerCut", inPlace := ["internal/abi.NoEscape", "internal/bytealg.MakeNoZero", "maps.clone"], unfollowed := true, recurses := true, apart := false }
def PagerCutSaid : Prop := pagerCutRow.holds Try.pinned (OpenSpec.ofChange pagerCutSpec)

/-- ITS FALSE NEIGHBOUR: 'it returns false'. Refute it at one input. -/
def pagerCutWrong : ChangeSpec := { name := "pagerCut", fn := fun _ => fun
  | [d1, d2, d3, d4, d5] => { results := [.lit (.bool false)], args := [d1, d2, d3, d4, d5] }
  | _ => none }
def PagerCutWrongFalsely : Prop := pagerCutRow.holds Try.pinned (OpenSpec.ofChange pagerCutWrong)

/- THE SECOND FORM. 'bulk': how many values and letters a reading holds, each counted each time it is reached (what is shared counts as often as it is met; a slice's spare places count too). A statement '..UptoSaid' is the law's where the arguments, and the package variables that the reading takes, are together of bulk at most 1048576: NARROWER than '..Said'. Prove '..Said' where nothing that the law and all that it calls make is longer than what came in: it says more and counts as full. Else prove '..UptoSaid'. A law counts once. -/
mutual
def uptoBulk {H : Type} : DataW H → Nat
  | .lit (.string bytes) => bytes.length + 1
  | .lit _ => 1
  | .nil => 1
  | .ptr d => uptoBulk d + 1
  | .slice elems spare => uptoBulkAll elems + uptoBulkAll spare + 1
  | .agg parts => uptoBulkAll parts + 1
  | .iface _ d => uptoBulk d + 1
  | .map entries => uptoBulkEntries entries + 1
  | .held _ => 1
def uptoBulkAll {H : Type} : List (DataW H) → Nat
  | [] => 0
  | d :: r => uptoBulk d + uptoBulkAll r
def uptoBulkEntries {H : Type} : List (Lit × DataW H) → Nat
  | [] => 0
  | x :: r => uptoBulkEntry x + uptoBulkEntries r
def uptoBulkEntry {H : Type} : Lit × DataW H → Nat
  | (.string bytes, d) => bytes.length + uptoBulk d + 1
  | (_, d) => uptoBulk d + 1
 end
def uptoSmall : (H : Type) → List (DataW H) → Bool := fun _ ds => decide (uptoBulkAll ds ≤ 1048576)
def OpenSpec.upto (s : _root_.Go.ChangeSpec) : _root_.Go.OpenSpec := { _root_.Go.OpenSpec.ofChange s with cond := some uptoSmall }

/-- 'chancerylaw12.PagerMany', WHERE WHAT IT READS IS OF BULK AT MOST 1048576: true; the input reads as it did. -/
def pagerManyUptoRow : OpenClaim := { program := "ytoleojljpaglhaa", sum := "a547fcfe0a9ac8241bfdbf2c951b2003c8956475e6e4730b71b7035b69c680e6", func := "chancery/chancerylaw12.PagerMany", spec := "pagerMany", inPlace := ["internal/abi.NoEscape", "internal/bytealg.MakeNoZero", "maps.clone"], unfollowed := true, recurses := true, apart := false, narrowed := true }
def PagerManyUptoSaid : Prop := pagerManyUptoRow.holds Try.pinned (OpenSpec.upto pagerManySpec)

/-- 'chancerylaw12.PagerOpens', WHERE WHAT IT READS IS OF BULK AT MOST 1048576: true; the input reads as it did. -/
def pagerOpensUptoRow : OpenClaim := { program := "ytoleojljpaglhaa", sum := "a547fcfe0a9ac8241bfdbf2c951b2003c8956475e6e4730b71b7035b69c680e6", func := "chancery/chancerylaw12.PagerOpens", spec := "pagerOpens", inPlace := ["internal/abi.NoEscape", "internal/bytealg.MakeNoZero", "maps.clone"], unfollowed := true, recurses := true, apart := false, narrowed := true }
def PagerOpensUptoSaid : Prop := pagerOpensUptoRow.holds Try.pinned (OpenSpec.upto pagerOpensSpec)

/-- 'chancerylaw12.PagerFull', WHERE WHAT IT READS IS OF BULK AT MOST 1048576: true; the input reads as it did. -/
def pagerFullUptoRow : OpenClaim := { program := "ytoleojljpaglhaa", sum := "a547fcfe0a9ac8241bfdbf2c951b2003c8956475e6e4730b71b7035b69c680e6", func := "chancery/chancerylaw12.PagerFull", spec := "pagerFull", inPlace := ["internal/abi.NoEscape", "internal/bytealg.MakeNoZero", "maps.clone"], unfollowed := true, recurses := true, apart := false, narrowed := true }
def PagerFullUptoSaid : Prop := pagerFullUptoRow.holds Try.pinned (OpenSpec.upto pagerFullSpec)

/-- 'chancerylaw12.PagerCut', WHERE WHAT IT READS IS OF BULK AT MOST 1048576: true; the input reads as it did. -/
def pagerCutUptoRow : OpenClaim := { program := "ytoleojljpaglhaa", sum := "a547fcfe0a9ac8241bfdbf2c951b2003c8956475e6e4730b71b7035b69c680e6", func := "chancery/chancerylaw12.PagerCut", spec := "pagerCut", inPlace := ["internal/abi.NoEscape", "internal/bytealg.MakeNoZero", "maps.clone"], unfollowed := true, recurses := true, apart := false, narrowed := true }
def PagerCutUptoSaid : Prop := pagerCutUptoRow.holds Try.pinned (OpenSpec.upto pagerCutSpec)

end Rows
end Go.Proofs.Ytoleojljpaglhaa
