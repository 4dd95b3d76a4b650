/- The contracts of chancerylaw12's row and state. -/
import Derived.Test.YtoleojljpaglhaaGreatPaN
import Derived.Laws.Runes
import Derived.Laws.Cover4
import Derived.Test.YtoleojljpaglhaaGreatPaX
set_option maxRecDepth 20000
namespace Go.Proofs.YtoleojljpaglhaaGreat
open Go.RowKit
set_option maxRecDepth 20000
theorem bits_le (x : Int) (c : Nat) (hc : c < 9223372036854775808) : 0 ≤ bits .and .i64 x (c : Int) ∧ bits .and .i64 x (c : Int) ≤ (c : Int) := by
  have h : (BitVec.ofInt 64 x &&& BitVec.ofInt 64 (c : Int)).toNat ≤ c := by
    rw [BitVec.toNat_and]
    refine Nat.le_trans Nat.and_le_right ?_
    rw [BitVec.ofInt_natCast, BitVec.toNat_ofNat]
    exact Nat.mod_le _ _
  have e : bits .and .i64 x (c : Int) = IntKind.i64.wrap ((BitVec.ofInt 64 x &&& BitVec.ofInt 64 (c : Int)).toNat : Int) := rfl
  rw [e, IntKind.wrap_i64]
  omega
theorem byte_mod (v : Int) : v % 256 = ((UInt8.ofNat (v % 256).toNat).toNat : Int) := by
  rw [UInt8.toNat_ofNat']; omega
theorem row_put {wr : World} {B : Nat} {t : TypeId} {l : List UInt8} (h : Blk wr B t (bvs l)) (k : Nat) (v : Int) : ∃ l' : List UInt8, l'.length = l.length ∧ Blk (wr.setCell ⟨B, k, none⟩ (.int .u8 (v % 256))) B t (bvs l') :=
  ⟨l.set k (UInt8.ofNat (v % 256).toNat), List.length_set, (h.set_ k _).eq_ (by rw [← bvs_set, ← byte_mod])⟩
set_option maxHeartbeats 400000 in
theorem row12_any (v : Int) (w : World) : Calls Tryz.prog 59 #[.int .i64 v] w fun e w' => ∃ s : ByteArray, e = .returned (.string s) ∧ s.size = 256 ∧ Below w.heap.size w w' := by
  obtain ⟨i0, hi0, hz0, hz1, hz2⟩ := info_parts u8_info
  have hmk := fun W => make_bytes' (P := Tryz.prog) 121 5 i0 Tryz.underlying121 hi0 hz0 hz1 hz2 .i64 .i64 256 256 256 256 rfl rfl (by omega) (by omega) W
  clear hi0 hz0 hz1 hz2
  go_enter Tryz.func59, Tryz.ntmps59
  go_wp2_with fail
  clear hmk
  go_loopw [4] (fun i wr => ∃ k : Nat, k ≤ 256 ∧ i = .int .i64 k ∧ (∃ l : List UInt8, l.length = 256 ∧ Blk wr w.heap.size 5 (bvs l)) ∧ Below w.heap.size w wr) (fun i _ => 256 - (intOf i).toNat)
  case atStart => exact ⟨0, Nat.zero_le _, rfl, ⟨_, List.length_replicate, Blk.new w _ _⟩, (Below.refl _ _).alloc (Nat.le_refl _) _⟩
  case round =>
    obtain ⟨k, hk, rfl, ⟨l, hl, hblk⟩, hbel⟩ := hrel
    by_cases hlt : k < 256
    · obtain ⟨c0, hc⟩ := hblk.some_ (i := k) (by rw [bvs_size, hl]; omega)
      have hf := hblk.frozen k
      have HB := Lib.hid hblk
      have HL := Lib.hid hl
      clear hblk hl
      go_wp2_with fail
      go_roundw
      case rel =>
        refine ⟨k + 1, by omega, by go_num, ?_, hbel.setCell (Nat.le_refl _) _⟩
        obtain ⟨l', h1, h2⟩ := row_put HB.out k _
        exact ⟨l', h1.trans HL.out, h2⟩
      case measure => simp [intOf]; omega
    · obtain rfl : k = 256 := by omega
      have hcv := string_of_blk (P := Tryz.prog) hblk 121 9 5 256 256 hl.symm Tryz.underlying121 Tryz.underlying5 Tryz.underlying9
      have HL := Lib.hid hl
      clear hblk hl
      go_wp2_with fail
      go_ret
      exact ⟨_, rfl, List.size_toArray.trans HL.out, hbel⟩
/-- a root's part of the text of a state -/
def stStep (P : PP) (s : ByteArray) (k : Int) : ByteArray := if k = 0 then s ++ ⟨#[45]⟩ else match P.seen k with | some b => s ++ b | none => (s ++ ⟨#[103, 111, 110, 101]⟩) ++ ⟨#[]⟩
def stS (P : PP) (j : Nat) : ByteArray := (P.seenRoots.take j).foldl (stStep P) ⟨#[]⟩
/-- the text of a state -/
def stB (P : PP) : ByteArray := stS P 8 ++ Utf8.encode (48 + ((P.seenSz : Nat) : Int) % 64)
theorem stS_succ (P : PP) (j : Nat) (hj : j < P.seenRoots.length) : stS P (j + 1) = stStep P (stS P j) (P.seenRoots.getD j 0) := by
  unfold stS
  rw [List.take_succ_eq_append_getElem hj, List.foldl_append, List.getD_eq_getElem?_getD, List.getElem?_eq_getElem hj]
  rfl
theorem stS_size (P : PP) (hp : ∀ k b, P.seen k = some b → b.size ≤ 256) : ∀ j, j ≤ P.seenRoots.length → (stS P j).size ≤ 256 * j := by
  intro j
  induction j with
  | zero => intro _; exact Nat.le_refl _
  | succ j ih =>
    intro h
    have := ih (by omega)
    rw [stS_succ P j (by omega)]
    unfold stStep
    split
    · rw [ByteArray.size_append]
      show (stS P j).size + 1 ≤ _
      omega
    · split
      · rename_i b hb
        have := hp _ b hb
        rw [ByteArray.size_append]
        omega
      · rw [ByteArray.size_append, ByteArray.size_append]
        show (stS P j).size + 4 + 0 ≤ _
        omega
section
variable {S : Nat → Prop} {w0 w w' : World} {G : PH} {d d' : Vd.VD} {L L' : Wa.WL} {P : PP}
end
end Go.Proofs.YtoleojljpaglhaaGreat
/- The contract of chancerylaw12's apply: all that a transaction does is let. -/
namespace Go.Proofs.YtoleojljpaglhaaGreat
open Go.RowKit
theorem bits3 (x : Int) : 0 ≤ bits .and .i64 x 3 ∧ bits .and .i64 x 3 ≤ 3 := bits_le x 3 (by decide)
theorem bits7 (x : Int) : 0 ≤ bits .and .i64 x 7 ∧ bits .and .i64 x 7 ≤ 7 := bits_le x 7 (by decide)
theorem cnt_all (n : Nat) (g : Nat → Bool) (h : ∀ q, q < n → g q = true) : Pb.cnt n g = n := by
  unfold Pb.cnt
  rw [List.filter_eq_self.2 (fun q hq => h q (List.mem_range.1 hq)), List.length_range]
/-- a page that is not used is found -/
theorem free_some {n : Nat} {f : Int → Option ByteArray} {roots : List Int} {sz : Nat} (h : Pb.Wf n f roots sz) (hs : sz < n - 8) : freeAt f (n - 8) 1 ≠ 0 ∧ 1 ≤ freeAt f (n - 8) 1 ∧ freeAt f (n - 8) 1 ≤ n - 8 ∧ f (freeAt f (n - 8) 1 : Nat) = none := by
  have h0 : freeAt f (n - 8) 1 ≠ 0 := by
    intro e
    have hz := freeAt_zero f (n - 8) 1 (Nat.le_refl _) e
    have := cnt_all (n - 8) (Pb.usedP f) (fun q hq => by
      have := hz (q + 1) (by omega) (by omega)
      unfold Pb.usedP
      rw [Int.natCast_add] at this
      exact this)
    have h2 := h.sz
    unfold Pb.cnt at this
    omega
  have := freeAt_ge f (n - 8) 1 h0
  exact ⟨h0, this.1, by omega, this.2.2⟩
section
variable {S : Nat → Prop} {w0 w w' : World} {G : PH} {d d' : Vd.VD} {L L' : Wa.WL} {P : PP} {t : PT}
theorem txi_len (h : Pb.TxI P t) : t.sz < maxLen ∧ t.dz < maxLen ∨ ¬ P.n ≤ 5000 := by
  by_cases hn : P.n ≤ 5000
  · left
    have h1 := Pb.wf_sz_le h.ok.wf
    have h2 := h.dz_le
    unfold maxLen
    omega
  · exact .inr hn
/-- Alloc where there is a page -/
theorem tx_alloc (h : PG S w0 w G d L (P.with_ t)) (ht : Pb.TxI P t) (hn : 8 ≤ P.n) (hn2 : P.n ≤ 5000) (hs : t.sz < P.n - 8) :
    Calls Tryz.prog 45 #[.pointer (some ⟨G.pg, 0, none⟩)] w fun e w' => ∃ (k : Int) (t' : PT), e = .returned (.tuple #[.int .i64 k, .int .i64 0]) ∧ (1 ≤ k ∧ k ≤ (P.n : Int) - 8) ∧ t.pages k = none ∧ t' = writeT t k zeros ∧ Pb.TxI P t' ∧ t'.sz = t.sz + 1 ∧ PG S w0 w' G d L (P.with_ t') := by
  obtain ⟨h0, h1, h2, h3⟩ := free_some ht.ok.wf hs
  have hz : t.sz < maxLen ∧ t.dz < maxLen := (txi_len ht).resolve_right (fun h => h hn2)
  refine (palloc_some h hn hn2 rfl hz).mono ?_
  rintro e w' ⟨he, hP⟩
  have e1 : allocE (P.with_ t) = (((freeAt t.pages (P.n - 8) 1 : Nat) : Int), 0) := if_neg h0
  have e2 : allocP (P.with_ t) = P.with_ (writeT t (freeAt t.pages (P.n - 8) 1 : Nat) zeros) := if_neg h0
  rw [e1] at he
  rw [e2] at hP
  refine ⟨(freeAt t.pages (P.n - 8) 1 : Nat), _, he, by omega, h3, rfl, ht.write _ _ (by omega) zeros_size, ?_, hP⟩
  show putSz t.pages t.sz _ = _
  unfold putSz
  rw [h3]
  rfl
/-- Write, whatever the page -/
theorem tx_write (h : PG S w0 w G d L (P.with_ t)) (ht : Pb.TxI P t) (hn2 : P.n ≤ 5000) (k : Int) (s : ByteArray) (hk : (Lit.int .i64 k).wf = true) (hs : s.size = 256) :
    Calls Tryz.prog 60 #[.pointer (some ⟨G.pg, 0, none⟩), .int .i64 k, .string s] w fun e w' => ∃ (c : Int) (t' : PT), e = .returned (.int .i64 c) ∧ (c = 0 ∨ c = 91) ∧ ((t.pages k).isSome = true → c = 0) ∧ Pb.TxI P t' ∧ t'.sz = t.sz ∧ (∀ x, (t.pages x).isSome = true → (t'.pages x).isSome = true) ∧ PG S w0 w' G d L (P.with_ t') := by
  have hz : t.sz < maxLen ∧ t.dz < maxLen := (txi_len ht).resolve_right (fun h => h hn2)
  refine (pwrite_any h k s hk (by omega) (fun t' h' => by have h' : some t = some t' := h'; injection h' with h'; subst h'; exact hz)).mono ?_
  rintro e w' ⟨he, hP⟩
  by_cases hu : (t.pages k).isSome = true
  · have e1 : writeE (P.with_ t) k s = 0 := (if_pos hu).trans (if_pos hs)
    have e2 : writeP (P.with_ t) k s = P.with_ (writeT t k s) := (if_pos hu).trans (if_pos hs)
    rw [e1] at he
    rw [e2] at hP
    obtain ⟨b, hb⟩ := Option.isSome_iff_exists.1 hu
    refine ⟨0, _, he, .inl rfl, fun _ => rfl, ht.write k s (ht.ok.wf.dom k b hb) hs, ?_, fun x hx => ?_, hP⟩
    · show putSz t.pages t.sz k = _
      unfold putSz
      rw [if_pos hu]
    · show (putF t.pages k s x).isSome = true
      unfold putF
      split
      · rfl
      · exact hx
  · have e1 : writeE (P.with_ t) k s = 91 := if_neg hu
    have e2 : writeP (P.with_ t) k s = P.with_ t := if_neg hu
    rw [e1] at he
    rw [e2] at hP
    exact ⟨91, t, he, .inr rfl, fun h => absurd h hu, ht, rfl, fun _ h => h, hP⟩
/-- SetRoot to a page that is used -/
theorem tx_setRoot (h : PG S w0 w G d L (P.with_ t)) (ht : Pb.TxI P t) (hn2 : P.n ≤ 5000) (i v : Int) (hi : 0 ≤ i ∧ i ≤ 7) (hv : (t.pages v).isSome = true) (hw : (Lit.int .i64 v).wf = true) :
    Calls Tryz.prog 44 #[.pointer (some ⟨G.pg, 0, none⟩), .int .i64 i, .int .i64 v] w fun e w' => ∃ t' : PT, e = .returned (.int .i64 0) ∧ Pb.TxI P t' ∧ t'.sz = t.sz ∧ PG S w0 w' G d L (P.with_ t') := by
  refine (psetRoot_any h i v hw).mono ?_
  rintro e w' ⟨he, hP⟩
  have e1 : setRootE (P.with_ t) i v = 0 := (if_neg (by omega)).trans (if_pos (.inl hv))
  have e2 : setRootP (P.with_ t) i v = P.with_ (rootT t i.toNat v) := (if_neg (by omega)).trans (if_pos (.inl hv))
  rw [e1] at he
  rw [e2] at hP
  obtain ⟨b, hb⟩ := Option.isSome_iff_exists.1 hv
  have := ht.ok.wf.dom v b hb
  exact ⟨_, he, ht.root _ _ (by omega), rfl, hP⟩
/-- Root -/
theorem tx_root (h : PG S w0 w G d L (P.with_ t)) (ht : Pb.TxI P t) (i : Int) (hi : 0 ≤ i ∧ i ≤ 7) :
    Calls Tryz.prog 28 #[.pointer (some ⟨G.pg, 0, none⟩), .int .i64 i] w fun e w' => ∃ r : Int, e = .returned (.tuple #[.int .i64 r, .int .i64 0]) ∧ (0 ≤ r ∧ r ≤ 5000) ∧ w = w' := by
  refine (proot_any h i).mono ?_
  rintro e w' ⟨he, hw⟩
  unfold prootV at he
  rw [if_pos (by omega)] at he
  refine ⟨_, he, ?_, hw⟩
  have hl : i.toNat < t.roots.length := by rw [ht.ok.wf.len]; omega
  have e1 : (P.with_ t).seenRoots.getD i.toNat 0 = t.roots[i.toNat] := by
    show t.roots.getD i.toNat 0 = _
    rw [List.getD_eq_getElem?_getD, List.getElem?_eq_getElem hl]
    rfl
  rw [e1]
  exact ht.ok.wf.rt _ (List.getElem_mem hl)
/-- Free -/
theorem tx_free (h : PG S w0 w G d L (P.with_ t)) (ht : Pb.TxI P t) (k : Int) (hk : (Lit.int .i64 k).wf = true) :
    Calls Tryz.prog 57 #[.pointer (some ⟨G.pg, 0, none⟩), .int .i64 k] w fun e w' => ∃ (c : Int) (t' : PT), e = .returned (.int .i64 c) ∧ (c = 0 ∨ c = 91) ∧ Pb.TxI P t' ∧ t'.sz ≤ t.sz ∧ PG S w0 w' G d L (P.with_ t') := by
  refine (pfree_any h k hk).mono ?_
  rintro e w' ⟨he, hP⟩
  by_cases hu : (t.pages k).isSome = true
  · have e1 : freeE (P.with_ t) k = 0 := if_pos hu
    have e2 : freeP (P.with_ t) k = P.with_ (freeT t k) := if_pos hu
    rw [e1] at he
    rw [e2] at hP
    obtain ⟨b, hb⟩ := Option.isSome_iff_exists.1 hu
    refine ⟨0, _, he, .inl rfl, ht.free k (ht.ok.wf.dom k b hb), ?_, hP⟩
    show delSz t.pages t.sz k ≤ t.sz
    unfold delSz
    split <;> omega
  · have e1 : freeE (P.with_ t) k = 91 := if_neg hu
    have e2 : freeP (P.with_ t) k = P.with_ t := if_neg hu
    rw [e1] at he
    rw [e2] at hP
    exact ⟨91, t, he, .inr rfl, ht, Nat.le_refl _, hP⟩
/-- a transaction is under way -/
def ApR (S : Nat → Prop) (w0 : World) (G : PH) (d : Vd.VD) (L : Wa.WL) (P : PP) (m : Nat) (w : World) : Prop := ∃ t : PT, Pb.TxI P t ∧ t.sz ≤ m ∧ PG S w0 w G d L (P.with_ t)
end
end Go.Proofs.YtoleojljpaglhaaGreat
