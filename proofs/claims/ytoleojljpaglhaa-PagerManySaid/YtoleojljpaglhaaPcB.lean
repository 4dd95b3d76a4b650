/- The contracts of chancerylaw12's row and state. -/
import Derived.Test.YtoleojljpaglhaaPaN
import Derived.Laws.Runes
import Derived.Laws.Cover4
import Derived.Test.YtoleojljpaglhaaPaX
set_option maxRecDepth 20000
namespace Go.Proofs.Ytoleojljpaglhaa
open Go.RowKit
set_option maxRecDepth 20000
theorem bits_le (x : Int) (c : Nat) (hc : c < 9223372036854775808) : 0 ≤ bits .and .i64 x (c : Int) ∧ bits .and .i64 x (c : Int) ≤ (c : Int) := by
  have h : (BitVec.ofInt 64 x &&& BitVec.ofInt 64 (c : Int)).toNat ≤ c := by
    rw [BitVec.toNat_and]
    refine Nat.le_trans Nat.and_le_right ?_
    rw [BitVec.ofInt_natCast, BitVec.toNat_ofNat]
    exact Nat.mod_le _ _
  have e : bits .and .i64 x (c : Int) = IntKind.i64.wrap ((BitVec.ofInt 64 x &&& BitVec.ofInt 64 (c : Int)).toNat : Int) := rfl
  rw [e, IntKind.wrap_i64]
  omega
theorem byte_mod (v : Int) : v % 256 = ((UInt8.ofNat (v % 256).toNat).toNat : Int) := by
  rw [UInt8.toNat_ofNat']; omega
theorem row_put {wr : World} {B : Nat} {t : TypeId} {l : List UInt8} (h : Blk wr B t (bvs l)) (k : Nat) (v : Int) : ∃ l' : List UInt8, l'.length = l.length ∧ Blk (wr.setCell ⟨B, k, none⟩ (.int .u8 (v % 256))) B t (bvs l') :=
  ⟨l.set k (UInt8.ofNat (v % 256).toNat), List.length_set, (h.set_ k _).eq_ (by rw [← bvs_set, ← byte_mod])⟩
set_option maxHeartbeats 400000 in
theorem row12_any (v : Int) (w : World) : Calls Try.prog 13 #[.int .i64 v] w fun e w' => ∃ s : ByteArray, e = .returned (.string s) ∧ s.size = 256 ∧ Below w.heap.size w w' := by
  obtain ⟨i0, hi0, hz0, hz1, hz2⟩ := info_parts u8_info
  have hmk := fun W => make_bytes' (P := Try.prog) 39 5 i0 Try.underlying39 hi0 hz0 hz1 hz2 .i64 .i64 256 256 256 256 rfl rfl (by omega) (by omega) W
  clear hi0 hz0 hz1 hz2
  go_enter Try.func13, Try.ntmps13
  go_wp2_with fail
  clear hmk
  go_loopw [4] (fun i wr => ∃ k : Nat, k ≤ 256 ∧ i = .int .i64 k ∧ (∃ l : List UInt8, l.length = 256 ∧ Blk wr w.heap.size 5 (bvs l)) ∧ Below w.heap.size w wr) (fun i _ => 256 - (intOf i).toNat)
  case atStart => exact ⟨0, Nat.zero_le _, rfl, ⟨_, List.length_replicate, Blk.new w _ _⟩, (Below.refl _ _).alloc (Nat.le_refl _) _⟩
  case round =>
    obtain ⟨k, hk, rfl, ⟨l, hl, hblk⟩, hbel⟩ := hrel
    by_cases hlt : k < 256
    · obtain ⟨c0, hc⟩ := hblk.some_ (i := k) (by rw [bvs_size, hl]; omega)
      have hf := hblk.frozen k
      have HB := Lib.hid hblk
      have HL := Lib.hid hl
      clear hblk hl
      go_wp2_with fail
      go_roundw
      case rel =>
        refine ⟨k + 1, by omega, by go_num, ?_, hbel.setCell (Nat.le_refl _) _⟩
        obtain ⟨l', h1, h2⟩ := row_put HB.out k _
        exact ⟨l', h1.trans HL.out, h2⟩
      case measure => simp [intOf]; omega
    · obtain rfl : k = 256 := by omega
      have hcv := string_of_blk (P := Try.prog) hblk 39 9 5 256 256 hl.symm Try.underlying39 Try.underlying5 Try.underlying9
      have HL := Lib.hid hl
      clear hblk hl
      go_wp2_with fail
      go_ret
      exact ⟨_, rfl, List.size_toArray.trans HL.out, hbel⟩
/-- a root's part of the text of a state -/
def stStep (P : PP) (s : ByteArray) (k : Int) : ByteArray := if k = 0 then s ++ ⟨#[45]⟩ else match P.seen k with | some b => s ++ b | none => (s ++ ⟨#[103, 111, 110, 101]⟩) ++ ⟨#[]⟩
def stS (P : PP) (j : Nat) : ByteArray := (P.seenRoots.take j).foldl (stStep P) ⟨#[]⟩
/-- the text of a state -/
def stB (P : PP) : ByteArray := stS P 8 ++ Utf8.encode (48 + ((P.seenSz : Nat) : Int) % 64)
theorem stS_succ (P : PP) (j : Nat) (hj : j < P.seenRoots.length) : stS P (j + 1) = stStep P (stS P j) (P.seenRoots.getD j 0) := by
  unfold stS
  rw [List.take_succ_eq_append_getElem hj, List.foldl_append, List.getD_eq_getElem?_getD, List.getElem?_eq_getElem hj]
  rfl
theorem stS_size (P : PP) (hp : ∀ k b, P.seen k = some b → b.size ≤ 256) : ∀ j, j ≤ P.seenRoots.length → (stS P j).size ≤ 256 * j := by
  intro j
  induction j with
  | zero => intro _; exact Nat.le_refl _
  | succ j ih =>
    intro h
    have := ih (by omega)
    rw [stS_succ P j (by omega)]
    unfold stStep
    split
    · rw [ByteArray.size_append]
      show (stS P j).size + 1 ≤ _
      omega
    · split
      · rename_i b hb
        have := hp _ b hb
        rw [ByteArray.size_append]
        omega
      · rw [ByteArray.size_append, ByteArray.size_append]
        show (stS P j).size + 4 + 0 ≤ _
        omega
section
variable {S : Nat → Prop} {w0 w w' : World} {G : PH} {d d' : Vd.VD} {L L' : Wa.WL} {P : PP}
set_option maxHeartbeats 1000000 in
theorem state_any (h : PG S w0 w G d L P) (hu : P.up = true) (hl : P.seenRoots.length = 8) (hr : ∀ r ∈ P.seenRoots, 0 ≤ r ∧ r ≤ 5000) (hp : ∀ k b, P.seen k = some b → b.size ≤ 256) (hz : P.seenSz ≤ 5000) :
    Calls Try.prog 23 #[.pointer (some ⟨G.pg, 0, none⟩)] w fun e w' => e = .returned (.string (stB P)) ∧ w = w' := by
  have hrt : ∀ j : Nat, j < 8 → Calls Try.prog 18 #[.pointer (some ⟨G.pg, 0, none⟩), .int .i64 (j : Int)] w fun e w' => e = .returned (.tuple #[.int .i64 (P.seenRoots.getD j 0), .int .i64 0]) ∧ w = w' := fun j hj => by
    have := proot_any h (j : Int)
    unfold prootV at this
    rwa [if_pos (by omega), Int.toNat_natCast] at this
  have hrd := fun k hk => pread_any h hu k hk
  have hus := pused_any h hu
  have hrb : ∀ j : Nat, j < 8 → 0 ≤ P.seenRoots.getD j 0 ∧ P.seenRoots.getD j 0 ≤ 5000 := fun j hj => by
    have hj' : j < P.seenRoots.length := by omega
    rw [List.getD_eq_getElem?_getD, List.getElem?_eq_getElem hj']
    exact hr _ (List.getElem_mem hj')
  have hss := stS_size P hp
  have hst := stS_succ P
  rw [hl] at hss hst
  have HRT := Lib.hid hrt
  have HRD := Lib.hid hrd
  have HUS := Lib.hid hus
  have HRB := Lib.hid hrb
  have HSS := Lib.hid hss
  have HST := Lib.hid hst
  have HP := Lib.hid hp
  have hz1 : (0 : Int) ≤ ((P.seenSz : Nat) : Int) := by omega
  obtain ⟨zs, hzs⟩ : ∃ zs : Int, ((P.seenSz : Nat) : Int) = zs := ⟨_, rfl⟩
  rw [hzs] at HUS hz1
  have hz2 : zs ≤ 5000 := by omega
  have HZ := Lib.hid hzs
  clear hrt hrd hus hrb hss hst hp hr hl h hu hz hzs
  go_enter Try.func23, Try.ntmps23
  go_wp2_with fail
  go_loop [3, 4] (fun s i => ∃ j : Nat, j ≤ 8 ∧ i = .int .i64 (j : Int) ∧ s = .string (stS P j)) (fun _ i => 8 - (intOf i).toNat)
  case atStart => exact ⟨0, Nat.zero_le _, rfl, rfl⟩
  case round =>
    obtain ⟨j, hj, rfl, rfl⟩ := hrel
    by_cases hlt : j < 8
    · have hs1 := HSS.out j (by omega)
      have H1 := Lib.hid (HRT.out j hlt)
      have hb := HRB.out j hlt
      have hst := HST.out j hlt
      obtain ⟨k, hk⟩ : ∃ k, P.seenRoots.getD j 0 = k := ⟨_, rfl⟩
      rw [hk] at H1 hb hst
      obtain ⟨s, hs⟩ : ∃ s, stS P j = s := ⟨_, rfl⟩
      rw [hs] at hs1 hst ⊢
      have hs3 : s.size ≤ 3000 := by omega
      have hs4 : s.size ≤ maxLen := by unfold maxLen; omega
      have i1 : (j : Int) < 8 := by omega
      clear hk hs hs1
      by_cases hk0 : k = 0
      · subst hk0
        have HE : Hid (stS P (j + 1) = s ++ ⟨#[45]⟩) := Lib.hid (by rw [hst]; unfold stStep; rw [if_pos rfl])
        clear hst hb
        go_wp2_with fail
        (with_reducible refine H1.out.mono ?_)
        rintro e w5 ⟨rfl, rfl⟩
        go_wp2_with fail
        go_round
        case rel => exact ⟨j + 1, by omega, by go_num, by rw [HE.out]⟩
        case measure => simp [intOf]; omega
      · have H2 := HRD.out k (wf64 (by omega) (by omega))
        unfold prd at H2
        have hk1 : (k == 0) = false := by simpa using hk0
        cases hsee : P.seen k with
        | some b =>
          rw [hsee] at H2
          have hbs := HP.out k b hsee
          have HE : Hid (stS P (j + 1) = s ++ b) := Lib.hid (by rw [hst]; unfold stStep; rw [if_neg hk0, hsee])
          have H2' : Hid (Calls Try.prog 16 #[.pointer (some ⟨G.pg, 0, none⟩), .int .i64 k] w fun e w' => e = .returned (.tuple #[.string b, .int .i64 0]) ∧ w = w') := Lib.hid H2
          clear hst H2 hsee
          go_wp2_with fail
          (with_reducible refine H1.out.mono ?_)
          rintro e w5 ⟨rfl, rfl⟩
          go_wp2_with fail
          (with_reducible refine H2'.out.mono ?_)
          rintro e w5 ⟨rfl, rfl⟩
          go_wp2_with fail
          go_round
          case rel => exact ⟨j + 1, by omega, by go_num, by rw [HE.out]⟩
          case measure => simp [intOf]; omega
        | none =>
          rw [hsee] at H2
          have HE : Hid (stS P (j + 1) = (s ++ ⟨#[103, 111, 110, 101]⟩) ++ ⟨#[]⟩) := Lib.hid (by rw [hst]; unfold stStep; rw [if_neg hk0, hsee])
          have H2' : Hid (Calls Try.prog 16 #[.pointer (some ⟨G.pg, 0, none⟩), .int .i64 k] w fun e w' => e = .returned (.tuple #[.string ⟨#[]⟩, .int .i64 91]) ∧ w = w') := Lib.hid H2
          clear hst H2 hsee
          go_wp2_with fail
          (with_reducible refine H1.out.mono ?_)
          rintro e w5 ⟨rfl, rfl⟩
          go_wp2_with fail
          (with_reducible refine H2'.out.mono ?_)
          rintro e w5 ⟨rfl, rfl⟩
          go_wp2_with fail
          go_round
          case rel => exact ⟨j + 1, by omega, by go_num, by rw [HE.out]⟩
          case measure => simp [intOf]; omega
    · obtain rfl : j = 8 := by omega
      have hs1 := HSS.out 8 (by omega)
      have HSB : Hid (stB P = stS P 8 ++ Utf8.encode (48 + zs % 64)) := Lib.hid (by unfold stB; rw [HZ.out])
      obtain ⟨s, hs⟩ : ∃ s, stS P 8 = s := ⟨_, rfl⟩
      rw [hs] at hs1 HSB ⊢
      have hs3 : s.size ≤ 3000 := by omega
      have he4 := encode_size_le (48 + zs % 64)
      clear hs hs1
      go_wp2_with fail
      (with_reducible refine HUS.out.mono ?_)
      rintro e w5 ⟨rfl, rfl⟩
      go_wp2_with fail
      go_ret
      exact ⟨by rw [HSB.out]; rfl, rfl⟩
end
end Go.Proofs.Ytoleojljpaglhaa
/- The contract of chancerylaw12's apply: all that a transaction does is let. -/
namespace Go.Proofs.Ytoleojljpaglhaa
open Go.RowKit
theorem bits3 (x : Int) : 0 ≤ bits .and .i64 x 3 ∧ bits .and .i64 x 3 ≤ 3 := bits_le x 3 (by decide)
theorem bits7 (x : Int) : 0 ≤ bits .and .i64 x 7 ∧ bits .and .i64 x 7 ≤ 7 := bits_le x 7 (by decide)
theorem cnt_all (n : Nat) (g : Nat → Bool) (h : ∀ q, q < n → g q = true) : Pb.cnt n g = n := by
  unfold Pb.cnt
  rw [List.filter_eq_self.2 (fun q hq => h q (List.mem_range.1 hq)), List.length_range]
/-- a page that is not used is found -/
theorem free_some {n : Nat} {f : Int → Option ByteArray} {roots : List Int} {sz : Nat} (h : Pb.Wf n f roots sz) (hs : sz < n - 8) : freeAt f (n - 8) 1 ≠ 0 ∧ 1 ≤ freeAt f (n - 8) 1 ∧ freeAt f (n - 8) 1 ≤ n - 8 ∧ f (freeAt f (n - 8) 1 : Nat) = none := by
  have h0 : freeAt f (n - 8) 1 ≠ 0 := by
    intro e
    have hz := freeAt_zero f (n - 8) 1 (Nat.le_refl _) e
    have := cnt_all (n - 8) (Pb.usedP f) (fun q hq => by
      have := hz (q + 1) (by omega) (by omega)
      unfold Pb.usedP
      rw [Int.natCast_add] at this
      exact this)
    have h2 := h.sz
    unfold Pb.cnt at this
    omega
  have := freeAt_ge f (n - 8) 1 h0
  exact ⟨h0, this.1, by omega, this.2.2⟩
section
variable {S : Nat → Prop} {w0 w w' : World} {G : PH} {d d' : Vd.VD} {L L' : Wa.WL} {P : PP} {t : PT}
theorem txi_len (h : Pb.TxI P t) : t.sz < maxLen ∧ t.dz < maxLen ∨ ¬ P.n ≤ 5000 := by
  by_cases hn : P.n ≤ 5000
  · left
    have h1 := Pb.wf_sz_le h.ok.wf
    have h2 := h.dz_le
    unfold maxLen
    omega
  · exact .inr hn
/-- Alloc where there is a page -/
theorem tx_alloc (h : PG S w0 w G d L (P.with_ t)) (ht : Pb.TxI P t) (hn : 8 ≤ P.n) (hn2 : P.n ≤ 5000) (hs : t.sz < P.n - 8) :
    Calls Try.prog 11 #[.pointer (some ⟨G.pg, 0, none⟩)] w fun e w' => ∃ (k : Int) (t' : PT), e = .returned (.tuple #[.int .i64 k, .int .i64 0]) ∧ (1 ≤ k ∧ k ≤ (P.n : Int) - 8) ∧ t.pages k = none ∧ t' = writeT t k zeros ∧ Pb.TxI P t' ∧ t'.sz = t.sz + 1 ∧ PG S w0 w' G d L (P.with_ t') := by
  obtain ⟨h0, h1, h2, h3⟩ := free_some ht.ok.wf hs
  have hz : t.sz < maxLen ∧ t.dz < maxLen := (txi_len ht).resolve_right (fun h => h hn2)
  refine (palloc_some h hn hn2 rfl hz).mono ?_
  rintro e w' ⟨he, hP⟩
  have e1 : allocE (P.with_ t) = (((freeAt t.pages (P.n - 8) 1 : Nat) : Int), 0) := if_neg h0
  have e2 : allocP (P.with_ t) = P.with_ (writeT t (freeAt t.pages (P.n - 8) 1 : Nat) zeros) := if_neg h0
  rw [e1] at he
  rw [e2] at hP
  refine ⟨(freeAt t.pages (P.n - 8) 1 : Nat), _, he, by omega, h3, rfl, ht.write _ _ (by omega) zeros_size, ?_, hP⟩
  show putSz t.pages t.sz _ = _
  unfold putSz
  rw [h3]
  rfl
/-- Write, whatever the page -/
theorem tx_write (h : PG S w0 w G d L (P.with_ t)) (ht : Pb.TxI P t) (hn2 : P.n ≤ 5000) (k : Int) (s : ByteArray) (hk : (Lit.int .i64 k).wf = true) (hs : s.size = 256) :
    Calls Try.prog 12 #[.pointer (some ⟨G.pg, 0, none⟩), .int .i64 k, .string s] w fun e w' => ∃ (c : Int) (t' : PT), e = .returned (.int .i64 c) ∧ (c = 0 ∨ c = 91) ∧ ((t.pages k).isSome = true → c = 0) ∧ Pb.TxI P t' ∧ t'.sz = t.sz ∧ (∀ x, (t.pages x).isSome = true → (t'.pages x).isSome = true) ∧ PG S w0 w' G d L (P.with_ t') := by
  have hz : t.sz < maxLen ∧ t.dz < maxLen := (txi_len ht).resolve_right (fun h => h hn2)
  refine (pwrite_any h k s hk (by omega) (fun t' h' => by have h' : some t = some t' := h'; injection h' with h'; subst h'; exact hz)).mono ?_
  rintro e w' ⟨he, hP⟩
  by_cases hu : (t.pages k).isSome = true
  · have e1 : writeE (P.with_ t) k s = 0 := (if_pos hu).trans (if_pos hs)
    have e2 : writeP (P.with_ t) k s = P.with_ (writeT t k s) := (if_pos hu).trans (if_pos hs)
    rw [e1] at he
    rw [e2] at hP
    obtain ⟨b, hb⟩ := Option.isSome_iff_exists.1 hu
    refine ⟨0, _, he, .inl rfl, fun _ => rfl, ht.write k s (ht.ok.wf.dom k b hb) hs, ?_, fun x hx => ?_, hP⟩
    · show putSz t.pages t.sz k = _
      unfold putSz
      rw [if_pos hu]
    · show (putF t.pages k s x).isSome = true
      unfold putF
      split
      · rfl
      · exact hx
  · have e1 : writeE (P.with_ t) k s = 91 := if_neg hu
    have e2 : writeP (P.with_ t) k s = P.with_ t := if_neg hu
    rw [e1] at he
    rw [e2] at hP
    exact ⟨91, t, he, .inr rfl, fun h => absurd h hu, ht, rfl, fun _ h => h, hP⟩
/-- SetRoot to a page that is used -/
theorem tx_setRoot (h : PG S w0 w G d L (P.with_ t)) (ht : Pb.TxI P t) (hn2 : P.n ≤ 5000) (i v : Int) (hi : 0 ≤ i ∧ i ≤ 7) (hv : (t.pages v).isSome = true) (hw : (Lit.int .i64 v).wf = true) :
    Calls Try.prog 20 #[.pointer (some ⟨G.pg, 0, none⟩), .int .i64 i, .int .i64 v] w fun e w' => ∃ t' : PT, e = .returned (.int .i64 0) ∧ Pb.TxI P t' ∧ t'.sz = t.sz ∧ PG S w0 w' G d L (P.with_ t') := by
  refine (psetRoot_any h i v hw).mono ?_
  rintro e w' ⟨he, hP⟩
  have e1 : setRootE (P.with_ t) i v = 0 := (if_neg (by omega)).trans (if_pos (.inl hv))
  have e2 : setRootP (P.with_ t) i v = P.with_ (rootT t i.toNat v) := (if_neg (by omega)).trans (if_pos (.inl hv))
  rw [e1] at he
  rw [e2] at hP
  obtain ⟨b, hb⟩ := Option.isSome_iff_exists.1 hv
  have := ht.ok.wf.dom v b hb
  exact ⟨_, he, ht.root _ _ (by omega), rfl, hP⟩
/-- Root -/
theorem tx_root (h : PG S w0 w G d L (P.with_ t)) (ht : Pb.TxI P t) (i : Int) (hi : 0 ≤ i ∧ i ≤ 7) :
    Calls Try.prog 18 #[.pointer (some ⟨G.pg, 0, none⟩), .int .i64 i] w fun e w' => ∃ r : Int, e = .returned (.tuple #[.int .i64 r, .int .i64 0]) ∧ (0 ≤ r ∧ r ≤ 5000) ∧ w = w' := by
  refine (proot_any h i).mono ?_
  rintro e w' ⟨he, hw⟩
  unfold prootV at he
  rw [if_pos (by omega)] at he
  refine ⟨_, he, ?_, hw⟩
  have hl : i.toNat < t.roots.length := by rw [ht.ok.wf.len]; omega
  have e1 : (P.with_ t).seenRoots.getD i.toNat 0 = t.roots[i.toNat] := by
    show t.roots.getD i.toNat 0 = _
    rw [List.getD_eq_getElem?_getD, List.getElem?_eq_getElem hl]
    rfl
  rw [e1]
  exact ht.ok.wf.rt _ (List.getElem_mem hl)
/-- Free -/
theorem tx_free (h : PG S w0 w G d L (P.with_ t)) (ht : Pb.TxI P t) (k : Int) (hk : (Lit.int .i64 k).wf = true) :
    Calls Try.prog 15 #[.pointer (some ⟨G.pg, 0, none⟩), .int .i64 k] w fun e w' => ∃ (c : Int) (t' : PT), e = .returned (.int .i64 c) ∧ (c = 0 ∨ c = 91) ∧ Pb.TxI P t' ∧ t'.sz ≤ t.sz ∧ PG S w0 w' G d L (P.with_ t') := by
  refine (pfree_any h k hk).mono ?_
  rintro e w' ⟨he, hP⟩
  by_cases hu : (t.pages k).isSome = true
  · have e1 : freeE (P.with_ t) k = 0 := if_pos hu
    have e2 : freeP (P.with_ t) k = P.with_ (freeT t k) := if_pos hu
    rw [e1] at he
    rw [e2] at hP
    obtain ⟨b, hb⟩ := Option.isSome_iff_exists.1 hu
    refine ⟨0, _, he, .inl rfl, ht.free k (ht.ok.wf.dom k b hb), ?_, hP⟩
    show delSz t.pages t.sz k ≤ t.sz
    unfold delSz
    split <;> omega
  · have e1 : freeE (P.with_ t) k = 91 := if_neg hu
    have e2 : freeP (P.with_ t) k = P.with_ t := if_neg hu
    rw [e1] at he
    rw [e2] at hP
    exact ⟨91, t, he, .inr rfl, ht, Nat.le_refl _, hP⟩
/-- a transaction is under way -/
def ApR (S : Nat → Prop) (w0 : World) (G : PH) (d : Vd.VD) (L : Wa.WL) (P : PP) (m : Nat) (w : World) : Prop := ∃ t : PT, Pb.TxI P t ∧ t.sz ≤ m ∧ PG S w0 w G d L (P.with_ t)
set_option maxRecDepth 20000 in
set_option maxHeartbeats 4000000 in
theorem apply_any (h : PG S w0 w G d L (P.with_ t)) (ht : Pb.TxI P t) (hn : 8 ≤ P.n) (hn2 : P.n ≤ 5000) (hs : t.sz + 3 ≤ P.n - 8) (ca cf cw cr v : Int) :
    Calls Try.prog 25 #[.pointer (some ⟨G.pg, 0, none⟩), .agg #[.int .i64 ca, .int .i64 cf, .int .i64 cw, .int .i64 cr], .int .i64 v] w fun e w' => e = .returned (.bool true) ∧ ApR S w0 G d L P (t.sz + 3) w' := by
  have hB : Below w.heap.size w (w.alloc (.cells #[.int .i64 ca, .int .i64 cf, .int .i64 cw, .int .i64 cr] 61)) := (Below.refl _ _).alloc (Nat.le_refl _) _
  have hblk := Blk.new w 61 #[.int .i64 ca, .int .i64 cf, .int .i64 cw, .int .i64 cr]
  have h1 := h.later hB
  have hnf : ¬ PFoot G (P.with_ t) (w.alloc (.cells #[.int .i64 ca, .int .i64 cf, .int .i64 cw, .int .i64 cr] 61)) w.heap.size := by
    rintro (hx | hx | hx | hx | hx)
    · exact absurd (h.lt _ hx) (Nat.lt_irrefl _)
    · have := h.log.blk.lt; omega
    · exact absurd (h.log.disk.lt _ hx) (Nat.lt_irrefl _)
    · exact absurd (ownBlock_lt h.log.row hx) (Nat.lt_irrefl _)
    · rw [World.size_alloc] at hx; omega
  obtain ⟨w1, hw1⟩ : ∃ w1, w.alloc (.cells #[.int .i64 ca, .int .i64 cf, .int .i64 cw, .int .i64 cr] 61) = w1 := ⟨_, rfl⟩
  have hx1 := h1.rebase
  rw [hw1] at hx1 h1 hblk hnf
  obtain ⟨Sf, hSf⟩ : ∃ Sf, PFoot G (P.with_ t) w1 = Sf := ⟨_, rfl⟩
  have hvia : ∀ W t', PG Sf w1 W G d L (P.with_ t') → PG S w0 W G d L (P.with_ t') := fun W t' k => by
    rw [← hSf] at k
    exact h1.via k
  rw [hSf] at hx1 hnf
  have hblt := hblk.lt
  have hcell : ∀ W t', PG Sf w1 W G d L (P.with_ t') → W.cell? ⟨w.heap.size, 0, none⟩ = some (.int .i64 ca) ∧ W.cell? ⟨w.heap.size, 1, none⟩ = some (.int .i64 cf) ∧ W.cell? ⟨w.heap.size, 2, none⟩ = some (.int .i64 cw) ∧ W.cell? ⟨w.heap.size, 3, none⟩ = some (.int .i64 cr) := fun W t' k => by
    have hb : Blk W w.heap.size 61 #[.int .i64 ca, .int .i64 cf, .int .i64 cw, .int .i64 cr] := (k.log.bel.block _ hblt hnf).trans hblk
    exact ⟨hb.cell 0, hb.cell 1, hb.cell 2, hb.cell 3⟩
  obtain ⟨A, hA⟩ : ∃ A, bits .and .i64 ca 3 = A := ⟨_, rfl⟩
  have hA3 := bits3 ca
  rw [hA] at hA3
  have HVIA := Lib.hid hvia
  have HW1 := Lib.hid hw1
  have HC := Lib.hid hcell
  have HX1 := Lib.hid hx1
  have HT := Lib.hid ht
  have HN := Lib.hid hn
  have HN2 := Lib.hid hn2
  have HS := Lib.hid hs
  clear h ht hn hn2 hs hB hblk h1 hnf hx1 hSf hvia hblt hcell hw1
  go_enter Try.func25, Try.ntmps25
  go_wp2_with fail
  go_loopw [7] (fun i wr => ∃ (j : Nat) (t' : PT), (j : Int) ≤ A ∧ i = .int .i64 (j : Int) ∧ Hid (Pb.TxI P t') ∧ t'.sz ≤ t.sz + j ∧ Hid (PG Sf w1 wr G d L (P.with_ t'))) (fun i _ => (A - intOf i).toNat)
  case atStart => exact ⟨0, t, by omega, rfl, HT, by omega, by rw [HW1.out]; exact HX1⟩
  case round =>
    obtain ⟨j, t', hj, rfl, HT', hz', HP'⟩ := hrel
    obtain ⟨c0, c1, c2, c3⟩ := HC.out _ _ HP'.out
    have HZ' := Lib.hid hz'
    clear hz'
    by_cases hlt : (j : Int) < A
    · have HAL := Lib.hid (tx_alloc HP'.out HT'.out HN.out HN2.out (by have := HZ'.out; have := HS.out; omega))
      go_wp2_with fail
      (with_reducible refine HAL.out.mono ?_)
      rintro e w3 ⟨k, t3, rfl, hk, hkn, ht3, hI3, hz3, hP3⟩
      have HT3 := Lib.hid hI3
      have HZ3 := Lib.hid hz3
      have HP3 := Lib.hid hP3
      have HK := Lib.hid hk
      have HU3 : Hid ((t3.pages k).isSome = true) := Lib.hid (by rw [ht3]; show (putF t'.pages k zeros k).isSome = true; unfold putF; rw [if_pos rfl]; rfl)
      have HWK : Hid ((Lit.int .i64 k).wf = true) := Lib.hid (wf64 (by omega) (by have := HN2.out; omega))
      clear hk hkn ht3 hI3 hz3 hP3 c0 c1 c2 c3
      obtain ⟨c0, c1, c2, c3⟩ := HC.out _ _ HP3.out
      go_wp2_with fail
      (with_reducible refine (row12_any _ _).mono ?_)
      rintro e w4 ⟨s4, rfl, hs4, hb4⟩
      have HP4 := Lib.hid (HP3.out.later hb4)
      have HWR := Lib.hid (tx_write HP4.out HT3.out HN2.out k s4 HWK.out hs4)
      clear hs4 hb4 c0 c1 c2 c3
      obtain ⟨c0, c1, c2, c3⟩ := HC.out _ _ HP4.out
      go_wp2_with fail
      (with_reducible refine HWR.out.mono ?_)
      rintro e w5 ⟨c, t5, rfl, hc, hc0, hI5, hz5, hu5, hP5⟩
      have hc0 := hc0 HU3.out
      subst hc0
      have HT5 := Lib.hid hI5
      have HZ5 := Lib.hid hz5
      have HP5 := Lib.hid hP5
      have HU5 := Lib.hid (hu5 k HU3.out)
      clear hc hI5 hz5 hu5 hP5 c0 c1 c2 c3
      obtain ⟨c0, c1, c2, c3⟩ := HC.out _ _ HP5.out
      go_wp2_with fail
      (with_reducible refine (tx_setRoot HP5.out HT5.out HN2.out _ k (bits7 _) HU5.out HWK.out).mono ?_)
      rintro e w6 ⟨t6, rfl, hI6, hz6, hP6⟩
      have HT6 := Lib.hid hI6
      have HZ6 := Lib.hid hz6
      have HP6 := Lib.hid hP6
      clear hI6 hz6 hP6 c0 c1 c2 c3
      go_wp2_with fail
      go_roundw
      case rel => exact ⟨j + 1, t6, by omega, by go_num, HT6, by have h1 := HZ6.out; have h2 := HZ5.out; have h3 := HZ3.out; have h4 := HZ'.out; omega, HP6⟩
      case measure => simp [intOf]; omega
    · have hzz : t'.sz ≤ t.sz + 3 := by have := HZ'.out; omega
      have HZZ := Lib.hid hzz
      clear hzz
      go_wp2_with fail
      (with_reducible refine (tx_root HP'.out HT'.out _ (bits7 _)).mono ?_)
      rintro e w3 ⟨r, rfl, hr, rfl⟩
      have HR := Lib.hid hr
      have HAP : Hid (ApR Sf w1 G d L P (t.sz + 3) wr) := Lib.hid ⟨t', HT'.out, HZZ.out, HP'.out⟩
      clear hr hA hA3 hlt hj
      go_upto_if 58 with fail
      go_cut [12] (fun _ wx => Hid (ApR Sf w1 G d L P (t.sz + 3) wx))
      case first =>
        by_cases hr0 : r = 0
        · subst hr0
          go_wp2_with fail
          go_meet
          case rel => exact HAP
        · have e1 : (r != 0) = true := by simpa using hr0
          have e2 : (r == 0) = false := by simpa using hr0
          clear hr0
          go_wp2_with fail
          (with_reducible refine (row12_any _ _).mono ?_)
          rintro e w4 ⟨s4, rfl, hs4, hb4⟩
          have HP4 := Lib.hid (HP'.out.later hb4)
          have HWR := Lib.hid (tx_write HP4.out HT'.out HN2.out r s4 (wf64 (by have := HR.out; omega) (by have := HR.out; omega)) hs4)
          clear hs4 hb4 c0 c1 c2 c3
          go_wp2_with fail
          (with_reducible refine HWR.out.mono ?_)
          rintro e w5 ⟨c, t5, rfl, hc, hc0, hI5, hz5, hu5, hP5⟩
          have HAP5 : Hid (ApR Sf w1 G d L P (t.sz + 3) w5) := Lib.hid ⟨t5, hI5, by rw [hz5]; exact HZZ.out, hP5⟩
          clear hc0 hI5 hz5 hu5 hP5
          rcases hc with rfl | rfl
          · go_wp2_with fail
            go_meet
            case rel => exact HAP5
          · go_wp2_with fail
            go_meet
            case rel => exact HAP5
      case rest =>
      clear HAP HR HT' HP' HZ' HZZ c0 c1 c2 c3
      obtain ⟨t6, hT6, hz6, hP6⟩ := hcut.out
      obtain ⟨c0, c1, c2, c3⟩ := HC.out _ _ hP6
      have HT6 := Lib.hid hT6
      have HZ6 := Lib.hid hz6
      have HP6 := Lib.hid hP6
      clear hT6 hz6 hP6 hcut
      go_wp2_with fail
      (with_reducible refine (tx_root HP6.out HT6.out _ (bits7 _)).mono ?_)
      rintro e w3 ⟨r, rfl, hr, rfl⟩
      have HR := Lib.hid hr
      have HAP : Hid (ApR S w0 G d L P (t.sz + 3) wc) := Lib.hid ⟨t6, HT6.out, HZ6.out, HVIA.out _ _ HP6.out⟩
      clear hr
      by_cases hr0 : r = 0
      · subst hr0
        go_wp2_with fail
        go_ret
        exact ⟨rfl, HAP.out⟩
      · have e1 : (r != 0) = true := by simpa using hr0
        have e2 : (r == 0) = false := by simpa using hr0
        clear hr0
        obtain ⟨F, hF⟩ : ∃ F, bits .and .i64 cf 8 = F := ⟨_, rfl⟩
        by_cases hF0 : F = 0
        · subst hF0
          go_wp2_with fail
          go_ret
          exact ⟨rfl, HAP.out⟩
        · have e3 : (F != 0) = true := by simpa using hF0
          have e4 : (F == 0) = false := by simpa using hF0
          clear hF0
          have HFR := Lib.hid (tx_free HP6.out HT6.out r (wf64 (by have := HR.out; omega) (by have := HR.out; omega)))
          go_wp2_with fail
          (with_reducible refine HFR.out.mono ?_)
          rintro e w7 ⟨c, t7, rfl, hc, hI7, hz7, hP7⟩
          have HAP7 : Hid (ApR S w0 G d L P (t.sz + 3) w7) := Lib.hid ⟨t7, hI7, by have := HZ6.out; omega, HVIA.out _ _ hP7⟩
          clear hI7 hz7 hP7 c0 c1 c2 c3
          rcases hc with rfl | rfl
          · go_wp2_with fail
            go_ret
            exact ⟨rfl, HAP7.out⟩
          · go_wp2_with fail
            go_ret
            exact ⟨rfl, HAP7.out⟩
end
end Go.Proofs.Ytoleojljpaglhaa
