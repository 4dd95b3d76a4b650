/- The memory of the law LogWhole: a disk, a log over it, and the law's own two lists of texts, all apart. -/
import Derived.Test.YtokkifiakmplgaaWaK
import Derived.Test.YtokkifiakmplgaaWbR
namespace Go.Proofs.Ytokkifiakmplgaa
open Go.RowKit
theorem KeepS.trans {S T : Nat → Prop} {a b c : World} (h : KeepS S a b) (k : KeepS T b c) (hT : ∀ x, T x → S x) : KeepS S a c :=
  ⟨k.os.trans h.os, k.tape.trans h.tape, k.output.trans h.output, Nat.le_trans h.size k.size, fun x hx hn => (k.block x (Nat.lt_of_lt_of_le hx h.size) (fun ht => hn (hT x ht))).trans (h.block x hx hn)⟩
theorem ownsRow_keep {S : Nat → Prop} {w w' : World} {base : Nat} {e : TypeId} {size n : Nat} {v : Value} {xs : List Value} (h : w.ownsRow base e size v n xs) (k : KeepS S w w') (hn : ∀ q, v.ownBlock = some q → ¬ S q) : w'.ownsRow base e size v n xs := by
  refine ⟨h.1, ?_⟩
  rcases h.2 with h1 | ⟨g', cap, cur, rfl, hb, hh, r⟩
  · exact .inl h1
  · exact .inr ⟨g', cap, cur, rfl, hb, (k.block g' (Array.getElem?_eq_some_iff.1 hh).1 (hn g' rfl)).trans hh, r⟩
/-- a log's own blocks, and whatever is new -/
def Foot (lg : Nat) (fp : List Nat) (rv : Value) (w : World) (k : Nat) : Prop := k = lg ∨ k ∈ fp ∨ rv.ownBlock = some k ∨ w.heap.size ≤ k
theorem LG.rebase {S : Nat → Prop} {w0 w : World} {dg : Nat} {d : Vd.VD} {lg : Nat} {L : Wa.WL} {fp : List Nat} {rv : Value} (h : LG S w0 w dg d lg L fp rv) : LG (Foot lg fp rv w) w w dg d lg L fp rv :=
  ⟨KeepS.refl _ _, fun _ h => .inr (.inr (.inr h)), h.disk, fun _ hb => .inr (.inl hb), .inl rfl, h.blk, h.out, h.row, fun _ hq => .inr (.inr (.inl hq)), h.sep⟩
/-- all of it -/
structure LMx (w wr : World) (dg : Nat) (d : Vd.VD) (lg : Nat) (L : Wa.WL) (nl al : List (List UInt8)) (nv av : Value) (fp : List Nat) (rv : Value) : Prop where
  log : LG (Up w.heap.size) w wr dg d lg L fp rv
  rn : wr.ownsRow w.heap.size 9 1 nv nl.length (strs nl)
  ra : wr.ownsRow w.heap.size 9 1 av al.length (strs al)
  sn : ∀ q, nv.ownBlock = some q → q ≠ lg ∧ q ∉ fp ∧ rv.ownBlock ≠ some q
  sa : ∀ q, av.ownBlock = some q → q ≠ lg ∧ q ∉ fp ∧ rv.ownBlock ≠ some q
  na : ∀ q, nv.ownBlock = some q → av.ownBlock ≠ some q
section
variable {w wr w' : World} {dg : Nat} {d d' : Vd.VD} {lg : Nat} {L L' : Wa.WL} {nl al : List (List UInt8)} {nv av : Value} {fp fp' : List Nat} {rv rv' : Value}
theorem LMx.foot (h : LMx w wr dg d lg L nl al nv av fp rv) : ∀ k, Foot lg fp rv wr k → Up w.heap.size k := by
  rintro k (rfl | h1 | h1 | h1)
  · exact h.log.lb
  · exact h.log.low k h1
  · exact h.log.rs k h1
  · exact Nat.le_trans h.log.bel.size h1
theorem LMx.nfoot (h : LMx w wr dg d lg L nl al nv av fp rv) : ∀ q, nv.ownBlock = some q → ¬ Foot lg fp rv wr q := by
  rintro q hq (h1 | h1 | h1 | h1)
  · exact (h.sn q hq).1 h1
  · exact (h.sn q hq).2.1 h1
  · exact (h.sn q hq).2.2 h1
  · have := (h.rn.lt q hq).2; omega
theorem LMx.afoot (h : LMx w wr dg d lg L nl al nv av fp rv) : ∀ q, av.ownBlock = some q → ¬ Foot lg fp rv wr q := by
  rintro q hq (h1 | h1 | h1 | h1)
  · exact (h.sa q hq).1 h1
  · exact (h.sa q hq).2.1 h1
  · exact (h.sa q hq).2.2 h1
  · have := (h.ra.lt q hq).2; omega
/-- a call of the log -/
theorem LMx.use (h : LMx w wr dg d lg L nl al nv av fp rv) (k : LG (Foot lg fp rv wr) wr w' dg d' lg L' fp' rv') : LMx w w' dg d' lg L' nl al nv av fp' rv' := by
  have hf := h.foot
  have hn := h.nfoot
  have ha := h.afoot
  exact ⟨⟨h.log.bel.trans k.bel hf, fun _ h => h, k.disk, fun b hb => hf b (k.low b hb), hf _ k.lb, k.blk, k.out, k.row, fun q hq => hf q (k.rs q hq), k.sep⟩,
    ownsRow_keep h.rn k.bel hn, ownsRow_keep h.ra k.bel ha,
    fun q hq => ⟨(h.sn q hq).1, fun hm => hn q hq (k.low q hm), fun he => hn q hq (k.rs q he)⟩,
    fun q hq => ⟨(h.sa q hq).1, fun hm => ha q hq (k.low q hm), fun he => ha q hq (k.rs q he)⟩, h.na⟩
theorem LMx.later (h : LMx w wr dg d lg L nl al nv av fp rv) (hb : Below wr.heap.size wr w') : LMx w w' dg d lg L nl al nv av fp rv :=
  h.use (h.log.rebase.later hb)
/-- a record more in the law's own list -/
theorem LMx.push (h : LMx w wr dg d lg L nl al nv av fp rv) (s : ByteArray) {w6 : World} {nv' : Value} (hown : w6.ownsRow w.heap.size 9 1 nv' (nl.length + 1) (strs nl ++ [.string s])) (hgrow : (wr.alloc (.cells #[.string s] 9)).grownBy w6 nv.ownBlock)
    (hat : nv'.ownBlock = nv.ownBlock ∨ nv'.ownBlock = some (wr.alloc (.cells #[.string s] 9)).heap.size) : LMx w w6 dg d lg L (nl ++ [s.data.toList]) al nv' av fp rv := by
  have ha := h.later ((Below.refl _ _).alloc (Nat.le_refl _) (.cells #[.string s] 9))
  have ho6 : Only (nv.ownBlock.toList) (wr.alloc (.cells #[.string s] 9)) w6 := (Only.refl _ _).grown hgrow (fun q hq => .inl (by simp [hq]))
  have hns : ∀ b, b ∈ nv.ownBlock.toList → nv.ownBlock = some b := fun b hb => by rwa [Option.mem_toList] at hb
  have hn : ∀ q, nv'.ownBlock = some q → q ≠ lg ∧ q ∉ fp ∧ rv.ownBlock ≠ some q ∧ av.ownBlock ≠ some q := fun q hq => by
    rcases hat with h1 | h1
    · rw [h1] at hq
      exact ⟨(ha.sn q hq).1, (ha.sn q hq).2.1, (ha.sn q hq).2.2, ha.na q hq⟩
    · rw [h1] at hq
      injection hq with hq
      subst hq
      refine ⟨fun e => ?_, fun hm => ?_, fun he => ?_, fun he => ?_⟩
      · have := ha.log.blk.lt; omega
      · have := ha.log.disk.lt _ hm; omega
      · have := ownBlock_lt ha.log.row he; omega
      · have := (ha.ra.lt _ he).2; omega
  refine ⟨⟨ha.log.bel.only ho6 (fun b hb => (ha.rn.lt b (hns b hb)).1), fun _ h => h, ha.log.disk.only ho6 (fun b hb hm => (ha.sn b (hns b hm)).2.1 hb), ha.log.low, ha.log.lb, ha.log.blk.only ho6 (fun hm => (ha.sn lg (hns lg hm)).1 rfl), ha.log.out, ownsRow_only ha.log.row ho6 (fun q hq hm => (ha.sn q (hns q hm)).2.2 hq), ha.log.rs, ha.log.sep⟩, ?_, ownsRow_only ha.ra ho6 (fun q hq hm => ha.na q (hns q hm) hq), fun q hq => ⟨(hn q hq).1, (hn q hq).2.1, (hn q hq).2.2.1⟩, ha.sa, fun q hq => (hn q hq).2.2.2⟩
  have e : strs (nl ++ [s.data.toList]) = strs nl ++ [.string s] := by rw [strs_append]; rfl
  rw [e, List.length_append]
  exact hown
/-- the list is handed on, and a new one begun -/
theorem LMx.shift (h : LMx w wr dg d lg L nl al nv av fp rv) : LMx w wr dg d lg L [] nl (.slice none 0 0) nv fp rv :=
  ⟨h.log, World.ownsRow_nil _ _ _ _, h.rn, by simp [Value.ownBlock], h.sn, by simp [Value.ownBlock]⟩
theorem LMx.drop (h : LMx w wr dg d lg L nl al nv av fp rv) : LMx w wr dg d lg L [] al (.slice none 0 0) av fp rv :=
  ⟨h.log, World.ownsRow_nil _ _ _ _, h.ra, by simp [Value.ownBlock], h.sa, by simp [Value.ownBlock]⟩
theorem LMx.start (h : LG (Up w.heap.size) w wr dg d lg L fp rv) : LMx w wr dg d lg L [] [] (.slice none 0 0) (.slice none 0 0) fp rv :=
  ⟨h, World.ownsRow_nil _ _ _ _, World.ownsRow_nil _ _ _ _, by simp [Value.ownBlock], by simp [Value.ownBlock], by simp [Value.ownBlock]⟩
theorem own_p {B : Nat} {v : Value} {l : List (List UInt8)} (h : wr.ownsRow B 9 1 v l.length (strs l)) : ∃ p cap, v = .slice p l.length cap := by
  rcases h.2 with ⟨rfl, h0⟩ | ⟨g, cap, cur, rfl, _⟩
  · exact ⟨none, 0, by rw [h0]⟩
  · exact ⟨_, cap, rfl⟩
end
/-- what is found behind the crash -/
def Found (S : Nat → Prop) (wr : World) (dg : Nat) (d : Vd.VD) (now ahead : List (List UInt8)) (sure : Nat) (fp : List Nat) (e : Ending) (w' : World) : Prop :=
  ∃ lg L rv, e = .returned (.tuple #[.pointer (some ⟨lg, 0, none⟩), .int .i64 0]) ∧ Wok L ∧ LG S wr w' dg d lg L fp rv ∧
    ((now ≠ [] ∧ ∃ r, sure ≤ r ∧ r ≤ now.length ∧ L.recs = now.take r) ∨ ((now = [] ∨ sure = 0) ∧ L.recs = ahead))
theorem oL_ok (gen : Nat) (rs : List (List UInt8)) (r : Nat) (hg : gen < 256) (h : (Wa.allP rs).length ≤ 30) (hl : rs.length ≤ 30) : Wok (oL gen rs r) := by
  refine ⟨by simp [oL], by simp [oL], ?_, by simp only [oL]; omega, by simp [oL]; omega⟩
  show (Wa.allP (rs.take r)).length ≤ 30
  rcases Nat.lt_or_ge r rs.length with h1 | h1
  · have := Wa.allP_mono rs r rs.length (by omega)
    rw [List.take_length] at this
    omega
  · rw [List.take_of_length_le h1]; exact h
theorem allP_ge (rs : List (List UInt8)) : rs.length ≤ (Wa.allP rs).length := by
  induction rs with
  | nil => simp
  | cons r l ih =>
    have e : Wa.allP (r :: l) = Wa.kinded (Wa.pieces r) ++ Wa.allP l := by simp [Wa.allP]
    rw [e, List.length_append, Wa.kinded_length, List.length_cons]
    have := Wa.pieces_pos r
    omega
theorem open_after {S : Nat → Prop} {wr : World} {dg g : Nat} {d0 d : Vd.VD} {fp : List Nat} {now ahead : List (List UInt8)} {sure : Nat} (hG : Wa.GS g now ahead sure d0) (hg0 : 0 < g) (hg : g < 256) (keep torn : Int) (hd : d = { Vd.crash d0 keep torn with on := true }) (hup : ∀ k, wr.heap.size ≤ k → S k) (hD : DF wr dg d fp) (hlow : ∀ b ∈ fp, S b) :
    Calls Try.prog 8 #[.pointer (some ⟨dg, 0, none⟩), .int .i64 3, .int .i64 30] wr fun e w' => Found S wr dg d now ahead sure fp e w' := by
  obtain ⟨hq, hlen, hc⟩ := hG.crash hg0 hg keep torn
  have hon : d.on = true := by rw [hd]
  have hqd : d.q = [] := by rw [hd]; exact hq
  have hld : d.secs.length = 40 := by rw [hd]; exact hlen
  have hsd : d.secs = (Vd.crash d0 keep torn).secs := by rw [hd]
  rw [← hsd] at hc
  rcases hc with ⟨hn, T, hT, hA⟩ | ⟨hn, ⟨ha, hz⟩ | ⟨ga, h1, h2, hA⟩⟩
  · have hl := allP_ge now
    have hf := hG.few
    refine (open_found (S := S) (KeepS.refl _ _) hup hD hlow g T now hon hqd hld hg0 hg hA (by omega)).mono ?_
    rintro e w' ⟨lg, r, j, rv, rfl, hsc, hlg⟩
    exact ⟨lg, _, rv, rfl, oL_ok g now r hg hf (by omega), hlg, .inl ⟨hn, r, hsc.sure hG.le hT, hsc.le, rfl⟩⟩
  · have hlk : Vd.look d 3 = List.replicate 64 0 := by
      unfold Vd.look
      rw [hqd]
      exact hz
    refine (open_zero (S := S) (KeepS.refl _ _) hup hD hlow 3 30 hon (by omega) (by omega) (by omega) hlk).mono ?_
    rintro e w' ⟨lg, rfl, hlg⟩
    exact ⟨lg, _, _, rfl, ⟨by simp [freshL], by simp [freshL], by simp [freshL], by simp [freshL], by simp [freshL]⟩, hlg, .inr ⟨hn, ha.symm⟩⟩
  · have hl := allP_ge ahead
    have hf := hA.tn
    refine (open_found (S := S) (KeepS.refl _ _) hup hD hlow ga _ ahead hon hqd hld h1 h2 hA (by omega)).mono ?_
    rintro e w' ⟨lg, r, j, rv, rfl, hsc, hlg⟩
    have hr := hsc.all
    exact ⟨lg, _, rv, rfl, oL_ok ga ahead r h2 hf (by omega), hlg, .inr ⟨hn, by show ahead.take r = ahead; rw [hr, List.take_length]⟩⟩
end Go.Proofs.Ytokkifiakmplgaa
