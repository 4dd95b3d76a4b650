/- The contracts of the reference's Alloc and Free. -/
import Derived.Test.YtoleojljpaglhaaGreatPeB
import Derived.Deep.RegionLaw
import Derived.Deep.AppendLies
import Derived.Test.YtoleojljpaglhaaGreatPeE
set_option maxRecDepth 20000
namespace Go.Proofs.YtoleojljpaglhaaGreat
open Go.RowKit
set_option maxRecDepth 20000
/-- append onto an own row at a step of a drawn region; nothing may be appended -/
theorem step_append_at {P : Program} {w : World} {ops : Array Oper} {o : Oper} {a : Act} {K : Act → World → Prop} {Q : Exit → Act → World → Prop} {E : Prop} (hgd : o.guard = none) (s x : Operand) (t : TypeId)
    (ho : o.op = .call { callee := .builtin .append, args := #[s, x], argTypes := #[t, t] })
    (base : Nat) (e : TypeId) (i : TypeInfo) (z : Value) (size bytes : Nat) (ht : P.underlying t = some (.slice e)) (hi : P.info? e = some i) (hz : i.zero = some z)
    (hsize : i.size = size) (hby : i.bytes = bytes) (hzs : z.cells.size = size) (hsz : 0 < size)
    (v : Value) (n : Nat) (xs : List Value) (hs : a.eval s = v) (hown : w.ownsRow base e size v n xs)
    (ad : Addr) (m c : Nat) (news : List Value) (hx : a.eval x = .slice (some ad) m c) (hl : news.length = m * size) (hnews : ∀ j u, news[j]? = some u → w.cell? (ad.add j) = some u) (h1 : ∀ u ∈ news, u.oneCell' = true)
    (h63 : n + m ≤ maxLen) (hbytes : (n + m) * bytes ≤ 140737488355328) (hbase : base ≤ w.heap.size)
    (h : ∀ v' w', w'.ownsRow base e size v' (n + m) (xs ++ news) → w.grownBy w' v.ownBlock → (v'.ownBlock = v.ownBlock ∨ v'.ownBlock = some w.heap.size) → K (a.put o.dst v') w') :
    if Region.wanted o (yielded ops a.tmps) = true then Oper.wp P o a w K Q else E := by
  have hw : Region.wanted o (yielded ops a.tmps) = true := by simp [Region.wanted, hgd]
  rw [if_pos hw]
  obtain ⟨v', w', hr, h2, h3, _, h5⟩ := run_append_own_at (P := P) w base t o.type e i z size bytes ht hi hz hsize hby hzs hsz v n xs hown ad m c news hl hnews h1 h63 hbytes hbase
  unfold Oper.wp execOp
  simp only [ho, resolve, invoke, builtin, Sem.run_bind, Sem.run_pure, Result.andThen_ok, List.map_toArray, List.map_cons, List.map_nil, hs, hx, hr]
  exact h v' w' h2 h3 h5
theorem row_take {w : World} {b e n cap q i : Nat} {xs : List Value} (h : w.ownsRow b e 1 (.slice (some ⟨q, 0, none⟩) n cap) n xs) (hi : i ≤ n) : w.ownsRow b e 1 (.slice (some ⟨q, 0, none⟩) i cap) i (xs.take i) := by
  refine ⟨by rw [List.length_take, h.1]; omega, ?_⟩
  rcases h.2 with ⟨h1, _⟩ | ⟨g, cap', cur, he, hb, hh, h1, h2, h3, h4⟩
  · cases h1
  · injection he with e1 e2 e3
    subst e3
    exact .inr ⟨g, cap, cur, by rw [e1], hb, hh, by omega, h2, h3, by rw [← h4, List.take_take]; congr 1; omega⟩
theorem row_rest {w : World} {b e n cap q : Nat} {xs : List Value} (h : w.ownsRow b e 1 (.slice (some ⟨q, 0, none⟩) n cap) n xs) (i : Nat) : ∀ j u, (xs.drop i)[j]? = some u → w.cell? ((⟨q, i, none⟩ : Addr).add j) = some u := by
  intro j u hj
  rw [List.getElem?_drop] at hj
  have e : (⟨q, i, none⟩ : Addr).add j = ⟨q, i + j, none⟩ := by unfold Addr.add; split <;> simp_all
  have hlt := (List.getElem?_eq_some_iff.1 hj).1
  have := h.1
  rw [e, h.cellAt (i + j) (by omega)]
  exact hj
theorem pis_erase (l : List Int) (i : Nat) : (pis l).take i ++ (pis l).drop (i + 1) = pis (l.eraseIdx i) := by
  rw [List.eraseIdx_eq_take_drop_succ]
  unfold pis
  rw [List.map_append, List.map_take, List.map_drop]
theorem bsl_erase (l : List ByteArray) (i : Nat) : (bsl l).take i ++ (bsl l).drop (i + 1) = bsl (l.eraseIdx i) := by
  rw [List.eraseIdx_eq_take_drop_succ]
  unfold bsl
  rw [List.map_append, List.map_take, List.map_drop]
section
variable {w w' w'' : World} {b0 B dg pg : Nat} {V V' : RV} {R R' R'' : RR}
/-- the row of Now's pages is another one -/
theorem RefAt.newNp (h : RefAt w b0 B dg pg V R) (hk : KeepS (fun q => V.np.ownBlock = some q) w w') {v' : Value} {l : List Int} (hr : w'.ownsRow b0 3 1 v' l.length (pis l)) (hat : ∀ q, v'.ownBlock = some q → V.np.ownBlock = some q ∨ w.heap.size ≤ q) :
    RefAt (w'.setCell ⟨B, 13, none⟩ v') b0 B dg pg { V with np := v' } { R with now := { R.now with page := l } } ∧ KeepS (RB B V) w (w'.setCell ⟨B, 13, none⟩ v') ∧ ∀ q, RB B { V with np := v' } q → RB B V q ∨ w.heap.size ≤ q := by
  have hBlt := h.blk.lt
  have hbB : Blk w' B 59 (bcl dg pg V R).toArray := (hk.block B hBlt (fun e => h.offB (.inr (.inr (.inl e))) rfl)).trans h.blk
  have ho : Only [B] w' (w'.setCell ⟨B, 13, none⟩ v') := (Only.refl _ _).own 13 _
  have hvB : ∀ q, v'.ownBlock = some q → q ≠ B := fun q hq e => by
    rcases hat q hq with h1 | h1
    · exact h.offB (.inr (.inr (.inl h1))) e
    · omega
  have hone : ∀ {e n : Nat} {v : Value} {xs : List Value}, w.ownsRow b0 e 1 v n xs → (∀ q, v.ownBlock = some q → V.np.ownBlock ≠ some q ∧ q ≠ B) → (w'.setCell ⟨B, 13, none⟩ v').ownsRow b0 e 1 v n xs := fun hv hn =>
    ownsRow_only (ownsRow_keep hv hk (fun q hq e => (hn q hq).1 e)) ho (fun q hq hm => (hn q hq).2 (List.mem_singleton.1 hm))
  have hrr := h.rows
  refine ⟨⟨(hbB.set_ 13 _).eq_ ((bcl_set V R h.lr h.nr).2.1 v'), h.lr, h.nr, ⟨hone hrr.lp (fun q hq => ⟨(hrr.s1 q hq).1, h.offB (.inl hq)⟩), hone hrr.ld (fun q hq => ⟨own_types hrr.ld hrr.np (by decide) hq, h.offB (.inr (.inl hq))⟩), ownsRow_only hr ho (fun q hq hm => hvB q hq (List.mem_singleton.1 hm)), hone hrr.nd (fun q hq => ⟨own_types hrr.nd hrr.np (by decide) hq, h.offB (.inr (.inr (.inr (.inl hq))))⟩), hone hrr.ov (fun q hq => ⟨fun e => hrr.s2 q e hq, h.offB (.inr (.inr (.inr (.inr hq))))⟩), fun q hq => ⟨fun e => ?_, (hrr.s1 q hq).2⟩, fun q hq e => ?_, hrr.s3⟩⟩, ?_, ?_⟩
  · rcases hat q e with h1 | h1
    · exact (hrr.s1 q hq).1 h1
    · have := (hrr.lp.lt q hq).2; omega
  · rcases hat q hq with h1 | h1
    · exact hrr.s2 q h1 e
    · have := (hrr.ov.lt q e).2; omega
  · exact (KeepS.trans (S := RB B V) ⟨hk.os, hk.tape, hk.output, hk.size, fun k h1 h2 => hk.block k h1 (fun e => h2 (.inr (.inr (.inr (.inl e)))))⟩ (keep_one (B := B) (V := V) 13 v') (fun _ h => h))
  · rintro q (h1 | h1 | h1 | h1 | h1 | h1)
    · exact .inl (.inl h1)
    · exact .inl (.inr (.inl h1))
    · exact .inl (.inr (.inr (.inl h1)))
    · rcases hat q h1 with h2 | h2
      · exact .inl (.inr (.inr (.inr (.inl h2))))
      · exact .inr h2
    · exact .inl (.inr (.inr (.inr (.inr (.inl h1)))))
    · exact .inl (.inr (.inr (.inr (.inr (.inr h1)))))
/-- the row of Now's texts is another one -/
theorem RefAt.newNd (h : RefAt w b0 B dg pg V R) (hk : KeepS (fun q => V.nd.ownBlock = some q) w w') {v' : Value} {l : List ByteArray} (hr : w'.ownsRow b0 9 1 v' l.length (bsl l)) (hat : ∀ q, v'.ownBlock = some q → V.nd.ownBlock = some q ∨ w.heap.size ≤ q) :
    RefAt (w'.setCell ⟨B, 14, none⟩ v') b0 B dg pg { V with nd := v' } { R with now := { R.now with data := l } } ∧ KeepS (RB B V) w (w'.setCell ⟨B, 14, none⟩ v') ∧ ∀ q, RB B { V with nd := v' } q → RB B V q ∨ w.heap.size ≤ q := by
  have hBlt := h.blk.lt
  have hbB : Blk w' B 59 (bcl dg pg V R).toArray := (hk.block B hBlt (fun e => h.offB (.inr (.inr (.inr (.inl e)))) rfl)).trans h.blk
  have ho : Only [B] w' (w'.setCell ⟨B, 14, none⟩ v') := (Only.refl _ _).own 14 _
  have hvB : ∀ q, v'.ownBlock = some q → q ≠ B := fun q hq e => by
    rcases hat q hq with h1 | h1
    · exact h.offB (.inr (.inr (.inr (.inl h1)))) e
    · omega
  have hone : ∀ {e n : Nat} {v : Value} {xs : List Value}, w.ownsRow b0 e 1 v n xs → (∀ q, v.ownBlock = some q → V.nd.ownBlock ≠ some q ∧ q ≠ B) → (w'.setCell ⟨B, 14, none⟩ v').ownsRow b0 e 1 v n xs := fun hv hn =>
    ownsRow_only (ownsRow_keep hv hk (fun q hq e => (hn q hq).1 e)) ho (fun q hq hm => (hn q hq).2 (List.mem_singleton.1 hm))
  have hrr := h.rows
  refine ⟨⟨(hbB.set_ 14 _).eq_ ((bcl_set V R h.lr h.nr).2.2.1 v'), h.lr, h.nr, ⟨hone hrr.lp (fun q hq => ⟨own_types hrr.lp hrr.nd (by decide) hq, h.offB (.inl hq)⟩), hone hrr.ld (fun q hq => ⟨hrr.s3 q hq, h.offB (.inr (.inl hq))⟩), hone hrr.np (fun q hq => ⟨own_types hrr.np hrr.nd (by decide) hq, h.offB (.inr (.inr (.inl hq)))⟩), ownsRow_only hr ho (fun q hq hm => hvB q hq (List.mem_singleton.1 hm)), hone hrr.ov (fun q hq => ⟨own_types hrr.ov hrr.nd (by decide) hq, h.offB (.inr (.inr (.inr (.inr hq))))⟩), hrr.s1, hrr.s2, fun q hq e => ?_⟩⟩, ?_, ?_⟩
  · rcases hat q e with h1 | h1
    · exact hrr.s3 q hq h1
    · have := (hrr.ld.lt q hq).2; omega
  · exact (KeepS.trans (S := RB B V) ⟨hk.os, hk.tape, hk.output, hk.size, fun k h1 h2 => hk.block k h1 (fun e => h2 (.inr (.inr (.inr (.inr (.inl e))))))⟩ (keep_one (B := B) (V := V) 14 v') (fun _ h => h))
  · rintro q (h1 | h1 | h1 | h1 | h1 | h1)
    · exact .inl (.inl h1)
    · exact .inl (.inr (.inl h1))
    · exact .inl (.inr (.inr (.inl h1)))
    · exact .inl (.inr (.inr (.inr (.inl h1))))
    · rcases hat q h1 with h2 | h2
      · exact .inl (.inr (.inr (.inr (.inr (.inl h2)))))
      · exact .inr h2
    · exact .inl (.inr (.inr (.inr (.inr (.inr h1)))))
/-- the row of the pages that were handed out is another one -/
theorem RefAt.newOv (h : RefAt w b0 B dg pg V R) (hk : KeepS (fun q => V.ov.ownBlock = some q) w w') {v' : Value} {l : List Int} (hr : w'.ownsRow b0 3 1 v' l.length (pis l)) (hat : ∀ q, v'.ownBlock = some q → V.ov.ownBlock = some q ∨ w.heap.size ≤ q) :
    RefAt (w'.setCell ⟨B, 24, none⟩ v') b0 B dg pg { V with ov := v' } { R with out := l } ∧ KeepS (RB B V) w (w'.setCell ⟨B, 24, none⟩ v') ∧ ∀ q, RB B { V with ov := v' } q → RB B V q ∨ w.heap.size ≤ q := by
  have hBlt := h.blk.lt
  have hbB : Blk w' B 59 (bcl dg pg V R).toArray := (hk.block B hBlt (fun e => h.offB (.inr (.inr (.inr (.inr e)))) rfl)).trans h.blk
  have ho : Only [B] w' (w'.setCell ⟨B, 24, none⟩ v') := (Only.refl _ _).own 24 _
  have hvB : ∀ q, v'.ownBlock = some q → q ≠ B := fun q hq e => by
    rcases hat q hq with h1 | h1
    · exact h.offB (.inr (.inr (.inr (.inr h1)))) e
    · omega
  have hone : ∀ {e n : Nat} {v : Value} {xs : List Value}, w.ownsRow b0 e 1 v n xs → (∀ q, v.ownBlock = some q → V.ov.ownBlock ≠ some q ∧ q ≠ B) → (w'.setCell ⟨B, 24, none⟩ v').ownsRow b0 e 1 v n xs := fun hv hn =>
    ownsRow_only (ownsRow_keep hv hk (fun q hq e => (hn q hq).1 e)) ho (fun q hq hm => (hn q hq).2 (List.mem_singleton.1 hm))
  have hrr := h.rows
  refine ⟨⟨(hbB.set_ 24 _).eq_ ((bcl_set V R h.lr h.nr).2.2.2.1 v'), h.lr, h.nr, ⟨hone hrr.lp (fun q hq => ⟨(hrr.s1 q hq).2, h.offB (.inl hq)⟩), hone hrr.ld (fun q hq => ⟨own_types hrr.ld hrr.ov (by decide) hq, h.offB (.inr (.inl hq))⟩), hone hrr.np (fun q hq => ⟨hrr.s2 q hq, h.offB (.inr (.inr (.inl hq)))⟩), hone hrr.nd (fun q hq => ⟨own_types hrr.nd hrr.ov (by decide) hq, h.offB (.inr (.inr (.inr (.inl hq))))⟩), ownsRow_only hr ho (fun q hq hm => hvB q hq (List.mem_singleton.1 hm)), fun q hq => ⟨(hrr.s1 q hq).1, fun e => ?_⟩, fun q hq e => ?_, hrr.s3⟩⟩, ?_, ?_⟩
  · rcases hat q e with h1 | h1
    · exact (hrr.s1 q hq).2 h1
    · have := (hrr.lp.lt q hq).2; omega
  · rcases hat q e with h1 | h1
    · exact hrr.s2 q hq h1
    · have := (hrr.np.lt q hq).2; omega
  · exact (KeepS.trans (S := RB B V) ⟨hk.os, hk.tape, hk.output, hk.size, fun k h1 h2 => hk.block k h1 (fun e => h2 (.inr (.inr (.inr (.inr (.inr e))))))⟩ (keep_one (B := B) (V := V) 24 v') (fun _ h => h))
  · rintro q (h1 | h1 | h1 | h1 | h1 | h1)
    · exact .inl (.inl h1)
    · exact .inl (.inr (.inl h1))
    · exact .inl (.inr (.inr (.inl h1)))
    · exact .inl (.inr (.inr (.inr (.inl h1))))
    · exact .inl (.inr (.inr (.inr (.inr (.inl h1)))))
    · rcases hat q h1 with h2 | h2
      · exact .inl (.inr (.inr (.inr (.inr (.inr h2)))))
      · exact .inr h2
theorem keep_grown {W : World} {row : Option Nat} (hb : Below w.heap.size w W) (hg : W.grownBy w' row) : KeepS (fun q => row = some q) w w' :=
  ⟨hg.os.trans hb.os, hg.tape.trans hb.tape, hg.output.trans hb.output, Nat.le_trans hb.size hg.size, fun k hk hn => (hg.block k (Nat.lt_of_lt_of_le hk hb.size) (fun e => hn e.symm)).trans (hb.block k hk)⟩
theorem zeros_bvs : zeros = ⟨(List.replicate 256 (0 : UInt8)).toArray⟩ := rfl
end
end Go.Proofs.YtoleojljpaglhaaGreat
/- The walks of the reference's Alloc and Free. -/
set_option maxRecDepth 20000
namespace Go.Proofs.YtoleojljpaglhaaGreat
open Go.RowKit
section
variable {w w' w'' : World} {b0 B dg pg : Nat} {V V' : RV} {R R' R'' : RR} {T : Nat → Prop}
theorem RefAt.cell_of (h : RefAt w b0 B dg pg V R) (hk : KeepS T w w') (hn : ¬ T B) (j : Nat) : w'.cell? ⟨B, j, none⟩ = w.cell? ⟨B, j, none⟩ ∧ w'.frozen? ⟨B, j, none⟩ = false := by
  have hb : Blk w' B 59 (bcl dg pg V R).toArray := (hk.block B h.blk.lt hn).trans h.blk
  exact ⟨(hb.cell j).trans (h.blk.cell j).symm, hb.frozen j⟩
theorem below_up1 {W X : World} (h : Below W.heap.size W X) (o : Obj) : Below W.heap.size W (X.alloc o) := h.alloc h.size o
theorem str_one' (s : ByteArray) : ∀ u ∈ [Value.string s], u.oneCell' = true := by
  intro u hu
  rw [List.mem_singleton] at hu
  subst hu
  rfl
theorem int_one' (k : Int) : ∀ u ∈ [Value.int .i64 k], u.oneCell' = true := by
  intro u hu
  rw [List.mem_singleton] at hu
  subst hu
  rfl
set_option maxHeartbeats 2000000 in
theorem ralloc_any (h : RefAt w b0 B dg pg V R) (hbase : b0 ≤ w.heap.size) (hl : R.now.page.length ≤ 1000) (hl2 : R.now.data.length ≤ 1000) (k : Int) :
    Calls Tryz.prog 55 #[.pointer (some ⟨B, 2, none⟩), .int .i64 k] w fun e w' => e = .returned (.tuple #[]) ∧ RPost w b0 B dg pg V { R with now := { R.now with page := R.now.page ++ [k], data := R.now.data ++ [zeros] } } w' := by
  obtain ⟨i0, hi0, hz0, hz1, hz2⟩ := info_parts i64_info
  obtain ⟨i1, hi1, hy0, hy1, hy2⟩ := info_parts str_info
  obtain ⟨i8, hi8, hx0, hx1, hx2⟩ := info_parts u8_info
  have hmk := fun W => make_bytes' (P := Tryz.prog) 121 5 i8 Tryz.underlying121 hi8 hx0 hx1 hx2 .i64 .i64 256 256 256 256 rfl rfl (by omega) (by omega) W
  obtain ⟨zl, hzl⟩ : ∃ zl, List.replicate 256 (0 : UInt8) = zl := ⟨_, rfl⟩
  have hzz : zeros = ⟨zl.toArray⟩ := by rw [← hzl]; rfl
  have hzn : 256 = zl.length := by rw [← hzl, List.length_replicate]
  simp only [hzl] at hmk
  have HZZ := Lib.hid hzz
  have HZN := Lib.hid hzn
  clear hzl hzz hzn
  have Hi0 := Lib.hid hi0
  have Hz0 := Lib.hid hz0
  have Hz1 := Lib.hid hz1
  have Hz2 := Lib.hid hz2
  have Hi1 := Lib.hid hi1
  have Hy0 := Lib.hid hy0
  have Hy1 := Lib.hid hy1
  have Hy2 := Lib.hid hy2
  have c13 := h.cells.c13
  have f13 := h.cells.fz 13
  have hnp := h.rows.np
  obtain ⟨vp, hvp⟩ : ∃ vp, V.np = vp := ⟨_, rfl⟩
  rw [hvp] at c13 hnp
  have H := Lib.hid h
  have HBS := Lib.hid hbase
  have HL := Lib.hid hl
  have HL2 := Lib.hid hl2
  have HVP := Lib.hid hvp
  have HNP := Lib.hid hnp
  obtain ⟨n, hn⟩ : ∃ n, R.now.page.length = n := ⟨_, rfl⟩
  have HNN := Lib.hid hn
  clear hi0 hz0 hz1 hz2 hi1 hy0 hy1 hy2 hi8 hx0 hx1 hx2 h hbase hl hl2 hvp hnp hn
  go_enter Tryz.func55, Tryz.ntmps55
  go_wp2_with (at_builtin; refine wpList_append_own_at _ rfl _ _ 51 rfl b0 3 i0 _ 1 8 Tryz.underlying51 Hi0.out Hz0.out Hz1.out Hz2.out rfl (by decide) vp R.now.page.length (pis R.now.page) rfl (HNP.out.alloc _) ⟨w.heap.size, 0, none⟩ 1 1 [.int .i64 k] rfl rfl (cell_one_new _ _ _) (int_one' k) ?c3 ?c4 ?c5 ?_)
  case c3 => have := HL.out; unfold maxLen; omega
  case c4 => have := HL.out; omega
  case c5 => have := HBS.out; simp; omega

  intro v4 w4 hown4 hgrow hnil hblock
  obtain ⟨_, A4, cp4, rfl, _⟩ := row_form hown4
  have hk : KeepS (fun q => V.np.ownBlock = some q) w w4 := keep_grown ((Below.refl _ _).alloc (Nat.le_refl _) _) (by rw [HVP.out]; exact hgrow)
  have hnB : ¬ (V.np.ownBlock = some B) := fun e => H.out.offB (.inr (.inr (.inl e))) rfl
  have d13 := (H.out.cell_of hk hnB 13).1.trans c13
  have g13 := (H.out.cell_of hk hnB 13).2
  have h6 := H.out.newNp hk (v' := .slice A4 (R.now.page.length + 1) cp4) (l := R.now.page ++ [k]) (by unfold pis at hown4 ⊢; simpa using hown4) (fun q hq => by
    rcases hblock with e | e
    · rw [hq, ← HVP.out] at e; exact .inl e.symm
    · rw [hq] at e
      injection e with e
      rw [e]
      exact .inr (by simp))
  clear hk hnB hown4 hgrow hnil hblock c13 f13
  have H6 := Lib.hid h6
  clear h6
  go_wp2_with fail
  obtain ⟨W6, hW6⟩ : ∃ W6, w4.setCell ⟨B, 13, none⟩ (.slice A4 (R.now.page.length + 1) cp4) = W6 := ⟨_, rfl⟩
  rw [hW6] at H6 ⊢
  clear hW6 d13 g13 HNP HNN HVP
  obtain ⟨h6, hk6, hf6⟩ := H6.out
  have c14 := h6.cells.c14
  have f14 := h6.cells.fz 14
  have hnd := h6.rows.nd
  obtain ⟨vd, hvd⟩ : ∃ vd, V.nd = vd := ⟨_, rfl⟩
  simp only at c14 hnd
  rw [hvd] at c14 hnd
  have HS6 : Hid (b0 ≤ W6.heap.size) := Lib.hid (Nat.le_trans HBS.out hk6.size)
  have HND : Hid (∀ X, Below W6.heap.size W6 X → X.ownsRow b0 9 1 vd R.now.data.length (bsl R.now.data) ∧ b0 ≤ X.heap.size) := Lib.hid (fun X hX => ⟨own_below' hnd hX, Nat.le_trans HS6.out hX.size⟩)
  have HFIN : Hid (∀ X, Below W6.heap.size W6 X → ∀ v' w', w'.ownsRow b0 9 1 v' (R.now.data.length + 1) (bsl R.now.data ++ [.string zeros]) → X.grownBy w' vd.ownBlock → (v'.ownBlock = vd.ownBlock ∨ v'.ownBlock = some X.heap.size) →
      w'.cell? ⟨B, 14, none⟩ = some vd ∧ w'.frozen? ⟨B, 14, none⟩ = false ∧ RPost w b0 B dg pg V { R with now := { R.now with page := R.now.page ++ [k], data := R.now.data ++ [zeros] } } (w'.setCell ⟨B, 14, none⟩ v')) := Lib.hid (fun X hX v' w' hown hgrow hat => by
    have hk : KeepS (fun q => V.nd.ownBlock = some q) W6 w' := keep_grown hX (by rw [hvd]; exact hgrow)
    have hnB : ¬ (V.nd.ownBlock = some B) := fun e => h6.offB (.inr (.inr (.inr (.inl e)))) rfl
    obtain ⟨k1, k2⟩ := h6.cell_of hk hnB 14
    refine ⟨k1.trans c14, k2, ?_⟩
    have h8 := h6.newNd hk (v' := v') (l := R.now.data ++ [zeros]) (by unfold bsl at hown ⊢; simpa using hown) (fun q hq => by
      rcases hat with e | e
      · rw [hq, ← hvd] at e; exact .inl e.symm
      · rw [hq] at e
        injection e with e
        rw [e]
        exact .inr hX.size)
    exact RPost.trans' hk6 hf6 ⟨_, h8.1, h8.2.1, h8.2.2⟩)
  have hcv : (convert 121 9 (.slice (some ⟨W6.heap.size, 0, none⟩) 256 256)).run Tryz.prog (W6.alloc (.cells (bvs zl) 5)).drew = .ok (.string zeros) (W6.alloc (.cells (bvs zl) 5)).drew := by
    have hb : Blk (W6.alloc (.cells (bvs zl) 5)).drew W6.heap.size 5 (bvs zl) := Blk.new W6 _ _
    rw [HZZ.out]
    exact string_of_blk (P := Tryz.prog) hb 121 9 5 256 256 HZN.out Tryz.underlying121 Tryz.underlying5 Tryz.underlying9
  clear H6 h6 hk6 hf6 hnd hvd
  have c14a : (W6.alloc (.cells (bvs zl) 5)).cell? ⟨B, 14, none⟩ = some vd := (World.cell?_alloc_some W6 ⟨B, 14, none⟩ (.cells (bvs zl) 5) (by rw [c14]; rfl)).trans c14
  have c14c : ((W6.alloc (.cells (bvs zl) 5)).alloc (.cells #[.string zeros] 9)).cell? ⟨B, 14, none⟩ = some vd := (World.cell?_alloc_some (W6.alloc (.cells (bvs zl) 5)) ⟨B, 14, none⟩ (.cells #[.string zeros] 9) (by rw [c14a]; rfl)).trans c14a
  go_region_law (refine step_append_at (by rfl) _ _ 52 (by rfl) b0 9 i1 _ 1 16 Tryz.underlying52 Hi1.out Hy0.out Hy1.out Hy2.out rfl (by decide) vd R.now.data.length (bsl R.now.data) (by rfl) (HND.out _ (by repeat (first | exact Below.refl _ _ | apply below_up1 | apply Below.drew))).1 ⟨W6.heap.size + 1, 0, none⟩ 1 1 [.string zeros] (by rfl) (by rfl) (fun j u hj => by rw [show W6.heap.size + 1 = (W6.alloc (.cells (bvs zl) 5)).drew.heap.size from (World.size_alloc _ _).symm]; exact cell_one_new _ _ _ j u hj) (str_one' _) (by have := HL2.out; unfold maxLen; omega) (by have := HL2.out; omega) (HND.out _ (by repeat (first | exact Below.refl _ _ | apply below_up1 | apply Below.drew))).2 ?_; intro v7 w7 hown7 hgrow7 hat7; obtain ⟨_, A7, cp7, rfl, _⟩ := row_form hown7; obtain ⟨d14, g14, hp7⟩ := HFIN.out _ (by repeat (first | exact Below.refl _ _ | apply below_up1 | apply Below.drew)) _ w7 hown7 hgrow7 hat7; have HP7 := Lib.hid hp7; clear hp7 hown7 hgrow7 hat7)
  all_goals
    clear c14 f14 d14 g14 c14a c14c
    go_wp2_with fail
    (try simp only [Exit.inBlock, Exit.then])
    first
      | exact ⟨rfl, _, results_none rfl _ _ _, rfl, HP7.out⟩
      | (refine bodyPost_end (results_none rfl _ _ _) rfl ?_; exact ⟨rfl, HP7.out⟩)
end
end Go.Proofs.YtoleojljpaglhaaGreat
/- The walk of the reference's Free. -/
set_option maxRecDepth 20000
namespace Go.Proofs.YtoleojljpaglhaaGreat
open Go.RowKit
section
variable {w w' w'' : World} {b0 B dg pg : Nat} {V V' : RV} {R R' R'' : RR} {T : Nat → Prop}
theorem rfree_closed (h : RefAt w b0 B dg pg V R) (hb : R.busy = false) (hl : R.now.page.length ≤ 1000) (k : Int) : Calls Tryz.prog 58 #[.pointer (some ⟨B, 2, none⟩), .int .i64 k] w fun e w' => e = .returned (.int .i64 90) ∧ w = w' := by
  have c23 := h.cells.c23
  rw [hb] at c23
  clear hb
  have HA := Lib.hid (h.at_ k hl)
  clear h hl
  go_enter Tryz.func58, Tryz.ntmps58
  go_wp2_with fail
  (with_reducible refine HA.out.mono ?_)
  rintro e w2 ⟨⟨r, rfl, hr⟩, rfl⟩
  clear hr
  go_wp2_with fail
  go_ret
  exact ⟨rfl, rfl⟩
theorem rfree_none (h : RefAt w b0 B dg pg V R) (hb : R.busy = true) (hl : R.now.page.length ≤ 1000) (k : Int) (hk : k ∉ R.now.page) : Calls Tryz.prog 58 #[.pointer (some ⟨B, 2, none⟩), .int .i64 k] w fun e w' => e = .returned (.int .i64 91) ∧ w = w' := by
  have c23 := h.cells.c23
  rw [hb] at c23
  clear hb
  have HA := Lib.hid (h.at_ k hl)
  have HK := Lib.hid hk
  clear h hl hk
  go_enter Tryz.func58, Tryz.ntmps58
  go_wp2_with fail
  (with_reducible refine HA.out.mono ?_)
  rintro e w2 ⟨⟨r, rfl, hr⟩, rfl⟩
  obtain rfl : r = -1 := by
    rcases hr with ⟨h1, _⟩ | ⟨i, _, hi⟩
    · exact h1
    · exact absurd (List.mem_of_getElem? hi) HK.out
  clear hr
  go_wp2_with fail
  go_ret
  exact ⟨rfl, rfl⟩
/-- what stands behind an element of a row, as a slice -/
theorem row_after {b e n cap q i : Nat} {xs : List Value} (h : w.ownsRow b e 1 (.slice (some ⟨q, 0, none⟩) n cap) n xs) (hi : i < n) (hc : n ≤ cap) : ∃ ad : Addr, (if cap = i + 1 then some (⟨q, 0, none⟩ : Addr) else some ⟨q, i + 1, none⟩) = some ad ∧ ∀ j u, (xs.drop (i + 1))[j]? = some u → w.cell? (ad.add j) = some u := by
  by_cases hci : cap = i + 1
  · refine ⟨_, if_pos hci, fun j u hj => ?_⟩
    have := (List.getElem?_eq_some_iff.1 hj).1
    rw [List.length_drop, h.1] at this
    omega
  · exact ⟨_, if_neg hci, row_rest h (i + 1)⟩
theorem RefAt.npCap (h : RefAt w b0 B dg pg V R) {q n cap : Nat} (hv : V.np = .slice (some ⟨q, 0, none⟩) n cap) : n ≤ cap := by
  have hr := h.rows.np
  rw [hv] at hr
  rcases hr.2 with ⟨h1, _⟩ | ⟨g, cap', cur, he, _, _, h1, _⟩
  · cases h1
  · injection he with e1 e2 e3
    omega
theorem RefAt.ndCap (h : RefAt w b0 B dg pg V R) {q n cap : Nat} (hv : V.nd = .slice (some ⟨q, 0, none⟩) n cap) : n ≤ cap := by
  have hr := h.rows.nd
  rw [hv] at hr
  rcases hr.2 with ⟨h1, _⟩ | ⟨g, cap', cur, he, _, _, h1, _⟩
  · cases h1
  · injection he with e1 e2 e3
    omega
theorem free_np {X : World} {v' : Value} {m q : Nat} {l : List Int} (h : RefAt w b0 B dg pg V R) (hq : V.np.ownBlock = some q) (hX : Below w.heap.size w X) (hown : w'.ownsRow b0 3 1 v' m (pis l)) (hm : m = l.length) (hg : X.grownBy w' (some q)) (hat : v'.ownBlock = some q ∨ v'.ownBlock = some X.heap.size) :
    w'.cell? ⟨B, 13, none⟩ = w.cell? ⟨B, 13, none⟩ ∧ w'.frozen? ⟨B, 13, none⟩ = false ∧ RefAt (w'.setCell ⟨B, 13, none⟩ v') b0 B dg pg { V with np := v' } { R with now := { R.now with page := l } } ∧ KeepS (RB B V) w (w'.setCell ⟨B, 13, none⟩ v') ∧ ∀ x, RB B { V with np := v' } x → RB B V x ∨ w.heap.size ≤ x := by
  have hk : KeepS (fun x => V.np.ownBlock = some x) w w' := by rw [hq]; exact keep_grown hX hg
  obtain ⟨k1, k2⟩ := h.cell_of hk (fun e => h.offB (.inr (.inr (.inl e))) rfl) 13
  subst hm
  exact ⟨k1, k2, h.newNp hk hown (fun x hx => by
    rcases hat with e | e
    · rw [hx] at e; exact .inl (by rw [hq, e])
    · rw [hx] at e
      injection e with e
      rw [e]
      exact .inr hX.size)⟩
theorem free_nd {X : World} {v' : Value} {m q : Nat} {l : List ByteArray} (h : RefAt w b0 B dg pg V R) (hq : V.nd.ownBlock = some q) (hX : Below w.heap.size w X) (hown : w'.ownsRow b0 9 1 v' m (bsl l)) (hm : m = l.length) (hg : X.grownBy w' (some q)) (hat : v'.ownBlock = some q ∨ v'.ownBlock = some X.heap.size) :
    w'.cell? ⟨B, 14, none⟩ = w.cell? ⟨B, 14, none⟩ ∧ w'.frozen? ⟨B, 14, none⟩ = false ∧ RefAt (w'.setCell ⟨B, 14, none⟩ v') b0 B dg pg { V with nd := v' } { R with now := { R.now with data := l } } ∧ KeepS (RB B V) w (w'.setCell ⟨B, 14, none⟩ v') ∧ ∀ x, RB B { V with nd := v' } x → RB B V x ∨ w.heap.size ≤ x := by
  have hk : KeepS (fun x => V.nd.ownBlock = some x) w w' := by rw [hq]; exact keep_grown hX hg
  obtain ⟨k1, k2⟩ := h.cell_of hk (fun e => h.offB (.inr (.inr (.inr (.inl e)))) rfl) 14
  subst hm
  exact ⟨k1, k2, h.newNd hk hown (fun x hx => by
    rcases hat with e | e
    · rw [hx] at e; exact .inl (by rw [hq, e])
    · rw [hx] at e
      injection e with e
      rw [e]
      exact .inr hX.size)⟩
set_option maxHeartbeats 2000000 in
theorem rfree_ok (h : RefAt w b0 B dg pg V R) (hb : R.busy = true) (hbase : b0 ≤ w.heap.size) (hl : R.now.page.length ≤ 1000) (hll : R.now.data.length = R.now.page.length) (k : Int) (hn : R.now.page.Nodup) {i : Nat} (hi : R.now.page[i]? = some k) :
    Calls Tryz.prog 58 #[.pointer (some ⟨B, 2, none⟩), .int .i64 k] w fun e w' => e = .returned (.int .i64 0) ∧ RPost w b0 B dg pg V { R with now := { R.now with page := R.now.page.eraseIdx i, data := R.now.data.eraseIdx i } } w' := by
  have c23 := h.cells.c23
  rw [hb] at c23
  clear hb
  have hil : i < R.now.page.length := (List.getElem?_eq_some_iff.1 hi).1
  have HA := Lib.hid (h.at_ k hl)
  have HK := Lib.hid hi
  have HN := Lib.hid hn
  obtain ⟨i0, hi0, hz0, hz1, hz2⟩ := info_parts i64_info
  obtain ⟨i1, hi1, hy0, hy1, hy2⟩ := info_parts str_info
  have Hi0 := Lib.hid hi0
  have Hz0 := Lib.hid hz0
  have Hz1 := Lib.hid hz1
  have Hz2 := Lib.hid hz2
  have Hi1 := Lib.hid hi1
  have Hy0 := Lib.hid hy0
  have Hy1 := Lib.hid hy1
  have Hy2 := Lib.hid hy2
  have c13 := h.cells.c13
  have f13 := h.cells.fz 13
  have hnp := h.rows.np
  obtain ⟨_, A, cap, hvp, hcell⟩ := row_form hnp
  obtain ⟨q, hA, _⟩ := hcell i (.int .i64 k) (by unfold pis; rw [List.getElem?_map, hi]; rfl)
  subst hA
  rw [hvp] at c13 hnp
  have hcap : R.now.page.length ≤ cap := h.npCap hvp
  obtain ⟨ad, had, hnews⟩ := row_after hnp hil hcap
  obtain ⟨n, hnn⟩ : ∃ n, R.now.page.length = n := ⟨_, rfl⟩
  have H := Lib.hid h
  have HVP := Lib.hid hvp
  have HNN := Lib.hid hnn
  have HBS := Lib.hid hbase
  have HLL := Lib.hid hll
  rw [hnn] at c13 hnp hl hcap hil
  have hi4 : (i : Int) < (n : Int) := by omega
  have hi5 : (i : Int) ≤ (cap : Int) := by omega
  have hi6 : (0 : Int) ≤ (i : Int) := by omega
  have hi7 : (i : Int) + 1 ≤ (n : Int) := by omega
  have hi8 : (n : Int) ≤ (cap : Int) := by omega
  have hi9 : ¬ (i : Int) < 0 := by omega
  have hi10 : (0 : Int) ≤ (i : Int) + 1 := by omega
  have hwr : IntKind.i64.wrap ((i : Int) + 1) = (i : Int) + 1 := by rw [IntKind.wrap_i64]; omega
  have HROW := Lib.hid hnp
  have HNEW := Lib.hid hnews
  have HL := Lib.hid hl
  have HIL := Lib.hid hil
  have HCAP := Lib.hid hcap
  clear h hbase hl hll hi hn hnp hnews hcell hvp hnn hil hcap hi0 hz0 hz1 hz2 hi1 hy0 hy1 hy2
  go_enter Tryz.func58, Tryz.ntmps58
  go_wp2_with fail
  (with_reducible refine HA.out.mono ?_)
  rintro e w2 ⟨⟨r, rfl, hr⟩, rfl⟩
  obtain rfl : r = (i : Int) := at_yes hr HN.out HK.out
  clear hr
  go_wp2_with fail
  go_region_law (refine step_append_at (by rfl) _ _ 51 (by rfl) b0 3 i0 _ 1 8 Tryz.underlying51 Hi0.out Hz0.out Hz1.out Hz2.out rfl (by decide) (.slice (some ⟨q, 0, none⟩) i cap) i ((pis R.now.page).take i) (by rfl) (row_take HROW.out (Nat.le_of_lt HIL.out)) ad (n - (i + 1)) (cap - (i + 1)) ((pis R.now.page).drop (i + 1)) (by rfl) (by rw [List.length_drop, HROW.out.1, Nat.mul_one, Nat.mul_one]) HNEW.out (fun u hu => ints_oneCell .i64 R.now.page u (List.mem_of_mem_drop hu)) (by have := HL.out; have := HIL.out; unfold maxLen; omega) (by have := HL.out; have := HIL.out; omega) HBS.out ?_; intro v7 w7 hown7 hgrow7 hat7; obtain ⟨_, A7, cp7, rfl, _⟩ := row_form hown7; obtain ⟨d13, g13, hp7⟩ := free_np (l := R.now.page.eraseIdx i) H.out (by rw [HVP.out]; rfl) (by repeat (first | exact Below.refl _ _ | apply below_up1 | apply Below.drew)) (by rw [← pis_erase]; exact hown7) (by have := HIL.out; rw [List.length_eraseIdx, HNN.out, if_pos this]; omega) hgrow7 hat7; have d13' := d13.trans c13; have HP7 := Lib.hid hp7; clear hp7 hown7 hgrow7 hat7 d13)
  all_goals
    clear c13 f13 d13' g13 had
    obtain ⟨W8, hW8⟩ : ∃ W8, w7.setCell ⟨B, 13, none⟩ (.slice A7 (i + (n - (i + 1))) cp7) = W8 := ⟨_, rfl⟩
    rw [hW8] at HP7
    go_wp2_with fail
    (try rw [hW8])
    clear hW8
    obtain ⟨h8, hk8, hf8⟩ := HP7.out
    have c14 := h8.cells.c14
    have f14 := h8.cells.fz 14
    have hnd := h8.rows.nd
    have hil2 : i < R.now.data.length := by have := HLL.out; have := HNN.out; have := HIL.out; omega
    obtain ⟨_, A8, cap2, hvd, hcell⟩ := row_form hnd
    obtain ⟨q2, hA2, hx2⟩ := hcell i (.string R.now.data[i]) (by unfold bsl; rw [List.getElem?_map, List.getElem?_eq_getElem hil2]; rfl)
    subst hA2
    rw [hvd] at c14 hnd
    simp only at c14 hnd
    have hcap2 : R.now.data.length ≤ cap2 := h8.ndCap hvd
    obtain ⟨ad2, had2, hnews2⟩ := row_after hnd hil2 hcap2
    have e1 : R.now.data.length = n := HLL.out.trans HNN.out
    rw [e1] at c14 hnd hcap2
    have hi5' : (i : Int) ≤ (cap2 : Int) := by omega
    have hi8' : (n : Int) ≤ (cap2 : Int) := by omega
    have HROW2 := Lib.hid hnd
    have HNEW2 := Lib.hid hnews2
    have HVD := Lib.hid hvd
    have HE1 := Lib.hid e1
    have HBS2 : Hid (b0 ≤ W8.heap.size) := Lib.hid (Nat.le_trans HBS.out hk8.size)
    have H8 := Lib.hid h8
    clear h8 hk8 hf8 hnd hcell hvd hx2 hil2 hnews2 e1 hcap2
    go_region_law (refine step_append_at (by rfl) _ _ 52 (by rfl) b0 9 i1 _ 1 16 Tryz.underlying52 Hi1.out Hy0.out Hy1.out Hy2.out rfl (by decide) (.slice (some ⟨q2, 0, none⟩) i cap2) i ((bsl R.now.data).take i) (by rfl) (row_take HROW2.out (Nat.le_of_lt HIL.out)) ad2 (n - (i + 1)) (cap2 - (i + 1)) ((bsl R.now.data).drop (i + 1)) (by rfl) (by rw [List.length_drop, HROW2.out.1, Nat.mul_one, Nat.mul_one]) HNEW2.out (fun u hu => bsl_one R.now.data u (List.mem_of_mem_drop hu)) (by have := HL.out; have := HIL.out; unfold maxLen; omega) (by have := HL.out; have := HIL.out; omega) HBS2.out ?_; intro v9 w9 hown9 hgrow9 hat9; obtain ⟨_, A9, cp9, rfl, _⟩ := row_form hown9; obtain ⟨d14, g14, hp9⟩ := free_nd (l := R.now.data.eraseIdx i) H8.out (by rw [HVD.out]; rfl) (by repeat (first | exact Below.refl _ _ | apply below_up1 | apply Below.drew)) (by rw [← bsl_erase]; exact hown9) (by have := HIL.out; rw [List.length_eraseIdx, HE1.out, if_pos this]; omega) hgrow9 hat9; have d14' := d14.trans c14; have HP9 := Lib.hid hp9; clear hp9 hown9 hgrow9 hat9 d14)
    all_goals
      clear c14 f14 d14' g14 had2
      go_wp2_with fail
      go_ret
      exact ⟨rfl, RPost.trans' HP7.out.2.1 HP7.out.2.2 ⟨_, HP9.out.1, HP9.out.2.1, HP9.out.2.2⟩⟩
end
end Go.Proofs.YtoleojljpaglhaaGreat
