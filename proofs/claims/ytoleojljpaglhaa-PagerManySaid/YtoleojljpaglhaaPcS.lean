/- The shelf's contract of slices.Sort at this program: the tables of numbers, and one application each (printed by the kit's lay-shelf, cut down). No conditions beyond the lengths. -/
import Derived.Shelf.LaysM
import Derived.Shelf.Sort.Plain
import Derived.Shelf.Slices.In.SortNone
import Derived.Test.YtoleojljpaglhaaProg
import Derived.Test.YtoleojljpaglhaaPaN
import Derived.Sort.OwnSortedInts
namespace Go.Proofs.Ytoleojljpaglhaa
open Go.Shelf Go.Proofs Go.RowKit
def lays189_ren : Go.Shelf.Ren := ⟨fun | 189 => 68 | 125 => 83 | 257 => 82 | 128 => 96 | 129 => 97 | 294 => 87 | 295 => 88 | 296 => 89 | 297 => 90 | 298 => 91 | 299 => 92 | 216 => 93 | 300 => 94 | 301 => 95 | 328 => 98 | 329 => 99 | 330 => 100 | 331 => 101 | 332 => 102 | 215 => 103 | 343 => 104 | n => n, fun | 28 => 31 | 3 => 3 | 46 => 113 | 0 => 0 | 51 => 124 | 53 => 127 | 4 => 4 | 183 => 138 | 182 => 137 | 131 => 121 | 5 => 5 | 9 => 9 | 218 => 146 | 222 => 150 | 228 => 152 | 229 => 153 | n => n, fun | n => n⟩
theorem lays189 : Go.Proofs.Lays.n189 Try.prog lays189_ren := {
  mixed := by kernel_rfl
  f125 := Try.func83.trans (congrArg some (by kernel_rfl))
  f128 := Try.func96.trans (congrArg some (by kernel_rfl))
  f129 := Try.func97.trans (congrArg some (by kernel_rfl))
  f189 := Try.func68.trans (congrArg some (by kernel_rfl))
  f215 := Try.func103.trans (congrArg some (by kernel_rfl))
  f216 := Try.func93.trans (congrArg some (by kernel_rfl))
  f257 := Try.func82.trans (congrArg some (by kernel_rfl))
  f294 := Try.func87.trans (congrArg some (by kernel_rfl))
  f295 := Try.func88.trans (congrArg some (by kernel_rfl))
  f296 := Try.func89.trans (congrArg some (by kernel_rfl))
  f297 := Try.func90.trans (congrArg some (by kernel_rfl))
  f298 := Try.func91.trans (congrArg some (by kernel_rfl))
  f299 := Try.func92.trans (congrArg some (by kernel_rfl))
  f300 := Try.func94.trans (congrArg some (by kernel_rfl))
  f301 := Try.func95.trans (congrArg some (by kernel_rfl))
  f328 := Try.func98.trans (congrArg some (by kernel_rfl))
  f329 := Try.func99.trans (congrArg some (by kernel_rfl))
  f330 := Try.func100.trans (congrArg some (by kernel_rfl))
  f331 := Try.func101.trans (congrArg some (by kernel_rfl))
  f332 := Try.func102.trans (congrArg some (by kernel_rfl))
  f343 := Try.func104.trans (congrArg some (by kernel_rfl))
  t0 := Try.underlying0
  a0 := Try.isAgg0
  z0 := Try.sizeOf0
  v0 := Try.zeroValue0
  t3 := Try.underlying3
  a3 := Try.isAgg3
  z3 := Try.sizeOf3
  v3 := Try.zeroValue3
  t4 := Try.underlying4
  a4 := Try.isAgg4
  z4 := Try.sizeOf4
  v4 := Try.zeroValue4
  t5 := Try.underlying5
  a5 := Try.isAgg5
  z5 := Try.sizeOf5
  v5 := Try.zeroValue5
  t9 := Try.underlying9
  a9 := Try.isAgg9
  z9 := Try.sizeOf9
  v9 := Try.zeroValue9
  t28 := Try.underlying31
  a28 := Try.isAgg31
  z28 := Try.sizeOf31
  v28 := Try.zeroValue31
  t46 := Try.underlying113
  a46 := Try.isAgg113
  z46 := Try.sizeOf113
  v46 := Try.zeroValue113
  t51 := Try.underlying124
  a51 := Try.isAgg124
  z51 := Try.sizeOf124
  v51 := Try.zeroValue124
  t53 := Try.underlying127
  a53 := Try.isAgg127
  z53 := Try.sizeOf127
  v53 := Try.zeroValue127
  t131 := Try.underlying121
  a131 := Try.isAgg121
  z131 := Try.sizeOf121
  v131 := Try.zeroValue121
  t182 := Try.underlying137
  a182 := Try.isAgg137
  z182 := Try.sizeOf137
  v182 := Try.zeroValue137
  t183 := Try.underlying138
  a183 := Try.isAgg138
  z183 := Try.sizeOf138
  v183 := Try.zeroValue138
  t218 := Try.underlying146
  a218 := Try.isAgg146
  z218 := Try.sizeOf146
  v218 := Try.zeroValue146
  t222 := Try.underlying150
  a222 := Try.isAgg150
  z222 := Try.sizeOf150
  v222 := Try.zeroValue150
  t228 := Try.underlying152
  a228 := Try.isAgg152
  z228 := Try.sizeOf152
  v228 := Try.zeroValue152
  t229 := Try.underlying153
  a229 := Try.isAgg153
  z229 := Try.sizeOf153
  v229 := Try.zeroValue153 }
open Go.Sort Go.RowKit in
theorem slices_Sort_int (blk off cap : Nat) (zs : List Int) (w : World) (hH : Holds (Value.int .i64) w blk off zs.toArray) (hblk : blk < w.heap.size) (hsz : zs.length < 4611686018427387904) :
    Calls Try.prog 68 #[.slice (some ⟨blk, off, none⟩) zs.length cap] w fun e w' =>
      e = .returned (.tuple #[]) ∧ ∃ n os, w' = grow (putRow (Value.int .i64) (Sort.ahead w n) blk off (zs.mergeSort fun x y => decide (x ≤ y)).toArray) os := Any.slices_Sort_int lays189 blk off cap zs w hH hblk hsz
open Go.RowKit Go.Sort in
theorem slices_Sort_int_none (p : Option Addr) (cap : Nat) (w : World) :
    Calls Try.prog 68 #[.slice p 0 cap] w fun e w' => e = .returned (.tuple #[]) ∧ w' = w := Any.slices_Sort_int_none lays189 p cap w
set_option maxRecDepth 20000
end Go.Proofs.Ytoleojljpaglhaa
/- The contract of slices.Sort on a row of the call's own. -/
namespace Go.Proofs.Ytoleojljpaglhaa
open Go.RowKit Go.Sort
def pis (l : List Int) : List Value := l.map (Value.int .i64)
theorem psort_any (B : Nat) (v : Value) (l : List Int) (w : World) (h : w.ownsRow B 3 1 v l.length (pis l)) (hl : l.length ≤ 10000) :
    Calls Try.prog 68 #[v] w fun e w' => e = .returned (.tuple #[]) ∧ ∃ l' : List Int, l'.Perm l ∧ w'.ownsRow B 3 1 v l'.length (pis l') ∧ Below B w w' := by
  rcases h.2 with ⟨rfl, h0⟩ | ⟨g, cap, cur, rfl, hbase, hb, h1, h2, h3, h4⟩
  · have : l = [] := List.eq_nil_of_length_eq_zero h0
    subst this
    refine (slices_Sort_int_none none 0 w).mono ?_
    rintro e w' ⟨he, rfl⟩
    exact ⟨he, [], List.Perm.refl _, World.ownsRow_nil _ _ _ _, Below.refl _ _⟩
  · have hlt : g < w.heap.size := (Array.getElem?_eq_some_iff.1 hb).1
    have hc := slices_Sort_int g 0 cap l w (holds_of_blockI hb (by simpa [pis] using h4)) hlt (by omega)
    have hlen : (l.mergeSort fun x y => decide (x ≤ y)).length = l.length := List.length_mergeSort _
    have hperm := List.mergeSort_perm l (fun x y => decide (x ≤ y))
    obtain ⟨ts, hts⟩ : ∃ ts, (l.mergeSort fun x y => decide (x ≤ y)) = ts := ⟨_, rfl⟩
    rw [hts] at hlen hperm hc
    refine hc.mono ?_
    rintro e w' ⟨he, n, os, rfl⟩
    have h5 := ownsRow_sortedI (n := n) (os := os) hlen hbase hb h1 h2 h3
    rw [← hlen] at h5
    refine ⟨he, ts, hperm, ?_, (Below.refl B w).grown (grownBy_sortedI _) (by omega) (fun k hk => by injection hk with hk; omega)⟩
    rw [← hlen]
    exact h5
end Go.Proofs.Ytoleojljpaglhaa
