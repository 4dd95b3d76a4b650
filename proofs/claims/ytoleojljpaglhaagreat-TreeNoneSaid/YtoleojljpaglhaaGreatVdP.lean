/- Plain mathematics of chapter 10: a disk as a state, and what each call makes of it. No program, no conditions. -/
import Derived.WalkKit
namespace Go.Proofs.YtoleojljpaglhaaGreat.Vd
open Go Go.RowKit
/-- a disk's state -/
structure VD where
  secs : List (List UInt8)
  q : List (Nat × List UInt8)
  on : Bool
  room : Int
  fuse : Option (Int × Int × Int)
  writes : Int
  sc : Nat
  sr : List Value
/-- every sector and every write has 64 bytes; every write goes to a sector; the numbers are in their ranges -/
structure VD.ok (d : VD) : Prop where
  secs : ∀ s ∈ d.secs, s.length = 64
  secs0 : 1 ≤ d.secs.length
  q : ∀ x ∈ d.q, x.1 < d.secs.length ∧ x.2.length = 64
  room : -1 ≤ d.room ∧ d.room ≤ 9223372036854775807
  fuse : ∀ n k t, d.fuse = some (n, k, t) → 0 ≤ n ∧ n ≤ 9223372036854775807
  writes : (d.q.length : Int) ≤ d.writes
/-- writes laid on the sectors, in their order -/
def lay (secs : List (List UInt8)) (q : List (Nat × List UInt8)) : List (List UInt8) := q.foldl (fun s x => s.set x.1 x.2) secs
theorem lay_length (q : List (Nat × List UInt8)) : ∀ secs, (lay secs q).length = secs.length := by
  induction q with
  | nil => intro secs; rfl
  | cons x q ih => intro secs; show (lay (secs.set x.1 x.2) q).length = _; rw [ih, List.length_set]
theorem lay_snoc (secs : List (List UInt8)) (q : List (Nat × List UInt8)) (x : Nat × List UInt8) : lay secs (q ++ [x]) = (lay secs q).set x.1 x.2 := by
  unfold lay
  rw [List.foldl_append, List.foldl_cons, List.foldl_nil]
/-- the place of a sector's last write in the queue -/
def lastAt (q : List (Nat × List UInt8)) (at_ : Nat) : Option Nat := (List.range q.length).reverse.find? fun i => (q.getD i (0, [])).1 == at_
/-- a number between -/
def clamp (x lo hi : Int) : Int := min (max x lo) hi
/-- the power fails -/
def crash (d : VD) (keep torn : Int) : VD :=
  if d.on = true then
    let k := (clamp keep 0 d.q.length).toNat
    let t := (clamp torn 0 64).toNat
    let s1 := lay d.secs (d.q.take k)
    let s2 := match d.q.drop k with
      | [] => s1
      | x :: _ => s1.set x.1 (x.2.take t ++ (s1.getD x.1 []).drop t)
    { d with secs := s2, q := [], on := false }
  else d
/-- the fuse is asked -/
def burns (d : VD) : Bool × VD :=
  match d.fuse with
  | none => (false, d)
  | some (n, keep, torn) => if 0 < n then (false, { d with fuse := some (n - 1, keep, torn) }) else (true, crash { d with fuse := none } keep torn)
/-- a call asks for a sector -/
def asked (d : VD) (a : Int) : Int := if d.on = true then (if a < 0 ∨ (d.secs.length : Int) ≤ a then 81 else 0) else 80
/-- a write -/
def write (d : VD) (a : Int) (data : List UInt8) : Int × VD :=
  if asked d a ≠ 0 then (asked d a, d)
  else if data.length ≠ 64 then (82, d)
  else if d.room = 0 then (83, d)
  else if (burns d).1 = true then (80, (burns d).2)
  else
    let d1 := (burns d).2
    (0, { d1 with room := if 0 < d1.room then d1.room - 1 else d1.room, q := d1.q ++ [(a.toNat, data)], writes := d1.writes + 1 })
/-- a sector's bytes with the whole queue -/
def look (d : VD) (a : Nat) : List UInt8 := (lay d.secs d.q).getD a []
/-- a read -/
def read (d : VD) (a : Int) : Int × List UInt8 := if asked d a ≠ 0 then (asked d a, []) else (0, look d a.toNat)
/-- a sync -/
def sync (d : VD) : Int × VD :=
  if d.on = true then (if (burns d).1 = true then (80, (burns d).2) else (0, { (burns d).2 with secs := lay (burns d).2.secs (burns d).2.q, q := [] })) else (80, d)
end Go.Proofs.YtoleojljpaglhaaGreat.Vd
