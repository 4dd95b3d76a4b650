/- The contracts of the reference's SetFuse and lay. -/
import Derived.Test.YtmkcmahfededeaaReA
import Derived.IntWalk
import Derived.Deep.RegionHeld3
import Derived.Deep.DrawnRows
namespace Go.Proofs.Ytmkcmahfededeaa
open Go.RowKit Go.Maps
attribute [local go_sem ↓] Go.wp_at_zero Go.wp_at_succ
theorem bytes_size' (l : List UInt8) : (⟨l.toArray⟩ : ByteArray).size = l.length := by simp [ByteArray.size]
theorem cell_far {w : World} {g b j i : Nat} {u v : Value} (h : g ≠ b) (k : w.cell? ⟨b, i, none⟩ = some u) : (w.setCell ⟨g, j, none⟩ v).drew.cell? ⟨b, i, none⟩ = some u := (World.cell?_setCell_far _ _ _ _ h).trans k
section
variable {w w' : World} {r : Nat} {bv qv : Value} {kp tn : Int} {d : Vd.VD} {fp : List Nat}
set_option maxHeartbeats 400000 in
theorem refFuse (h : RF w r d fp) (n keep torn : Int) (h0 : n ≤ 9223372036854775807) : Calls Try.prog 40 #[.pointer (some ⟨r, 0, none⟩), .int .i64 n, .int .i64 keep, .int .i64 torn] w (RPost (.tuple #[]) r (setFuse d n keep torn) fp w) := by
  obtain ⟨bv, qv, kp, tn, rfl, h⟩ := h
  have c3 : w.cell? ⟨r, 3, none⟩ = some (.int .i64 (rfn d.fuse)) := h.self.cell 3
  have c4 : w.cell? ⟨r, 4, none⟩ = some (.int .i64 kp) := h.self.cell 4
  have c5 : w.cell? ⟨r, 5, none⟩ = some (.int .i64 tn) := h.self.cell 5
  have f3 := h.self.frozen 3
  have f4 := h.self.frozen 4
  have f5 := h.self.frozen 5
  have HD := Lib.hid h
  have HOK := Lib.hid (setFuse_ok h.ok n keep torn h0)
  clear h
  by_cases hn : n < 0
  · go_enter Try.func40, Try.ntmps40
    go_wp2_with fail
    go_end0
    have ho : Only [r] w ((((w.setCell ⟨r, 3, none⟩ (.int .i64 n)).setCell ⟨r, 4, none⟩ (.int .i64 keep)).setCell ⟨r, 5, none⟩ (.int .i64 torn)).setCell ⟨r, 3, none⟩ (.int .i64 (-1))) := ((((Only.refl _ _).own 3 _).own 4 _).own 5 _).own 3 _
    have e : setFuse d n keep torn = { d with fuse := none } := by unfold setFuse; rw [if_neg (by omega)]
    have hok := HOK.out
    rw [e] at hok ⊢
    refine ⟨rfl, _, ⟨bv, qv, keep, torn, rfl, HD.out.self' keep torn _ hok rfl rfl (fun _ _ _ e => by cases e) ho (((((HD.out.self.set_ 3 _).set_ 4 _).set_ 5 _).set_ 3 _).eq_ ?_)⟩, ho.mono (by simp [rfoot]), fun _ h => .inl h⟩
    simp [rcells, rfn]
  · go_enter Try.func40, Try.ntmps40
    go_wp2_with fail
    go_end0
    have ho : Only [r] w (((w.setCell ⟨r, 3, none⟩ (.int .i64 n)).setCell ⟨r, 4, none⟩ (.int .i64 keep)).setCell ⟨r, 5, none⟩ (.int .i64 torn)) := (((Only.refl _ _).own 3 _).own 4 _).own 5 _
    have e : setFuse d n keep torn = { d with fuse := some (n, keep, torn) } := by unfold setFuse; rw [if_pos (by omega)]
    have hok := HOK.out
    rw [e] at hok ⊢
    refine ⟨rfl, _, ⟨bv, qv, keep, torn, rfl, HD.out.self' keep torn _ hok rfl rfl (fun _ _ _ e => by simp at e; exact ⟨e.2.1.symm, e.2.2.symm⟩) ho ((((HD.out.self.set_ 3 _).set_ 4 _).set_ 5 _).eq_ ?_)⟩, ho.mono (by simp [rfoot]), fun _ h => .inl h⟩
    simp [rcells, rfn]
/-- the first t bytes of a write reach the sectors -/
def layT (secs : List (List UInt8)) (x : Nat × List UInt8) (t : Nat) : List (List UInt8) := secs.set x.1 (x.2.take t ++ (secs.getD x.1 []).drop t)
theorem layT_length (secs : List (List UInt8)) (x : Nat × List UInt8) (t : Nat) : (layT secs x t).length = secs.length := by simp [layT]
theorem layT_64 (secs : List (List UInt8)) (x : Nat × List UInt8) (t : Nat) (hs : ∀ s ∈ secs, s.length = 64) (hx : x.1 < secs.length) (h2 : x.2.length = 64) (ht : t ≤ 64) : ∀ s ∈ layT secs x t, s.length = 64 := torn_64 _ _ _ _ hs hx ht h2
theorem layT_zero (secs : List (List UInt8)) (x : Nat × List UInt8) (hx : x.1 < secs.length) : layT secs x 0 = secs := by
  unfold layT
  rw [List.take_zero, List.drop_zero, List.nil_append, List.getD_eq_getElem?_getD, List.getElem?_eq_getElem hx]
  simp
theorem layT_full (secs : List (List UInt8)) (x : Nat × List UInt8) (hs : ∀ s ∈ secs, s.length = 64) (hx : x.1 < secs.length) (h2 : x.2.length = 64) : layT secs x 64 = secs.set x.1 x.2 := by
  have hg : (secs.getD x.1 []).length = 64 := by
    rw [List.getD_eq_getElem?_getD, List.getElem?_eq_getElem hx]
    exact hs _ (List.getElem_mem hx)
  unfold layT
  rw [List.take_of_length_le (by omega), List.drop_eq_nil_of_le (by omega), List.append_nil]
theorem flat_set1 : ∀ (l : List (List UInt8)) (a k : Nat) (v : UInt8), (∀ s ∈ l, s.length = 64) → a < l.length → k < 64 → l.flatten.set (a * 64 + k) v = (l.set a ((l.getD a []).set k v)).flatten
  | [], a, _, _, _, ha, _ => by simp at ha
  | x :: l, 0, k, v, hl, _, hk => by
    have hx : x.length = 64 := hl x (by simp)
    simp only [List.flatten_cons, Nat.zero_mul, Nat.zero_add, List.getD_cons_zero, List.set_cons_zero]
    rw [List.set_append_left _ _ (by omega)]
  | x :: l, a + 1, k, v, hl, ha, hk => by
    have hx : x.length = 64 := hl x (by simp)
    have ih := flat_set1 l a k v (fun y hy => hl y (by simp [hy])) (by simpa using ha) hk
    simp only [List.flatten_cons, List.getD_cons_succ, List.set_cons_succ]
    rw [List.set_append_right _ _ (by omega), hx, show (a + 1) * 64 + k - 64 = a * 64 + k from by omega, ih]
theorem layT_step (secs : List (List UInt8)) (x : Nat × List UInt8) (k : Nat) (hs : ∀ s ∈ secs, s.length = 64) (hx : x.1 < secs.length) (h2 : x.2.length = 64) (hk : k < 64) :
    (layT secs x k).flatten.set (x.1 * 64 + k) (x.2[k]'(by omega)) = (layT secs x (k + 1)).flatten := by
  rw [flat_set1 _ _ _ _ (layT_64 _ _ _ hs hx h2 (by omega)) (by rw [layT_length]; exact hx) hk]
  congr 1
  unfold layT
  have hg : (secs.getD x.1 []).length = 64 := by
    rw [List.getD_eq_getElem?_getD, List.getElem?_eq_getElem hx]
    exact hs _ (List.getElem_mem hx)
  have e : (secs.set x.1 (x.2.take k ++ (secs.getD x.1 []).drop k)).getD x.1 [] = x.2.take k ++ (secs.getD x.1 []).drop k := by
    rw [List.getD_eq_getElem?_getD, List.getElem?_set_self hx]; rfl
  rw [e, List.set_set, List.set_append_right _ _ (by rw [List.length_take]; omega), List.length_take, show k - min k x.2.length = 0 from by omega]
  congr 1
  rw [List.drop_eq_getElem_cons (by omega), List.set_cons_zero, List.take_succ_eq_append_getElem (by omega), List.append_assoc, List.singleton_append]
/-- what holds at the head of lay's loop -/
def LayRel (w : World) (r gb cap : Nat) (d : Vd.VD) (x : Nat × List UInt8) (t : Nat) (i : Value) (wr : World) : Prop :=
  ∃ k : Nat, k ≤ t ∧ i = .int .i64 k ∧ wr.ownsRow 0 5 1 (.slice (some ⟨gb, 0, none⟩) (d.secs.length * 64) cap) (d.secs.length * 64) (bl (layT d.secs x k).flatten) ∧
    Blk wr w.heap.size 77 #[.int .i64 (x.1 : Int), .string ⟨x.2.toArray⟩] ∧ Only [gb] w wr
set_option maxHeartbeats 1000000 in
theorem refLay (h : RefAt w r bv qv kp tn d) (x : Nat × List UInt8) (hx : x.1 < d.secs.length) (h2 : x.2.length = 64) (n : Int) :
    Calls Try.prog 43 #[.pointer (some ⟨r, 0, none⟩), .agg #[.int .i64 (x.1 : Int), .string ⟨x.2.toArray⟩], .int .i64 n] w fun e w' => e = .returned (.tuple #[]) ∧ RefAt w' r bv qv kp tn { d with secs := layT d.secs x (Vd.clamp n 0 64).toNat } ∧ Only bv.ownBlock.toList w w' := by
  obtain ⟨gb, cap, rfl, hcap, hgb⟩ := h.bform
  obtain ⟨t, ht⟩ : ∃ t : Nat, (t : Int) = Vd.clamp n 0 64 := ⟨(Vd.clamp n 0 64).toNat, by unfold Vd.clamp; omega⟩
  have htt : (Vd.clamp n 0 64).toNat = t := by omega
  rw [htt]
  clear htt
  have ht64 : t ≤ 64 := by unfold Vd.clamp at ht; omega
  have htn : ∀ k : Nat, k < t ↔ (k : Int) < n ∧ k < 64 := fun k => by unfold Vd.clamp at ht; omega
  have HTN := Lib.hid htn
  clear htn ht
  have c0 : w.cell? ⟨r, 0, none⟩ = some (.slice (some ⟨gb, 0, none⟩) (d.secs.length * 64) cap) := h.self.cell 0
  have hrl := h.self.lt
  have hrg : r ≠ gb := fun e => h.bR (by simp [Value.ownBlock, e])
  have hs1 := h.secs1
  have HD := Lib.hid h
  clear h
  obtain ⟨xa, xd⟩ := x
  simp only at hx h2 ⊢
  go_enter Try.func43, Try.ntmps43
  go_wp2_with fail
  go_loopw [6] (fun i wr => LayRel w r gb cap d (xa, xd) t i wr) (fun i _ => t - (intOf i).toNat)
  case atStart => exact ⟨0, Nat.zero_le _, rfl, by rw [layT_zero _ _ hx]; exact HD.out.bytes.alloc _, Blk.new _ _ _, (Only.refl _ _).alloc _⟩
  case round =>
    obtain ⟨k, hk, rfl, hown, hblk, hO⟩ := hrel
    by_cases hlt : k < t
    · have hc := (HTN.out k).1 hlt
      have q1 : decide ((k : Int) < n) = true := decide_eq_true hc.1
      have q2 : decide ((k : Int) < 64) = true := decide_eq_true (by omega)
      have q3 : (k : Int) < n := hc.1
      have q4 : (k : Int) < 64 := by omega
      have q0 : (0 : Int) ≤ (k : Int) := by omega
      clear hc
      have hk64 : k < 64 := by omega
      obtain ⟨s, hs⟩ : ∃ s : ByteArray, (⟨xd.toArray⟩ : ByteArray) = s := ⟨_, rfl⟩
      have hss : s.size = 64 := by rw [← hs, bytes_size', h2]
      have hsk : ∃ h : k < s.size, s[k] = xd[k]'(by omega) := by subst hs; exact ⟨by omega, rfl⟩
      rw [hs] at hblk
      have HS := Lib.hid hs
      have n0 : wr.cell? ⟨r, 0, none⟩ = some (.slice (some ⟨gb, 0, none⟩) (d.secs.length * 64) cap) := (hO.cell (p := ⟨r, 0, none⟩) hrl (by simpa using hrg)).trans c0
      have n1 : wr.cell? ⟨w.heap.size, 0, none⟩ = some (.int .i64 (xa : Int)) := hblk.cell 0
      have n2 : wr.cell? ⟨w.heap.size, 1, none⟩ = some (.string s) := hblk.cell 1
      have hidx : xa * 64 + k < d.secs.length * 64 := by omega
      have i0 : (0 : Int) ≤ (xa : Int) * 64 + (k : Int) := by omega
      have i1 : (xa : Int) * 64 + (k : Int) < ((d.secs.length * 64 : Nat) : Int) := by omega
      have i1' : (xa : Int) * 64 + (k : Int) < (d.secs.length : Int) * 64 := by omega
      have i2 : ((xa : Int) * 64 + (k : Int)).toNat = xa * 64 + k := by omega
      have w1 : IntKind.i64.wrap ((xa : Int) * 64 + (k : Int)) = (xa : Int) * 64 + (k : Int) := IntWalk.i64_in _ (by omega)
      have w2 : IntKind.i64.wrap ((xa : Int) * 64) = (xa : Int) * 64 := IntWalk.i64_in _ (by omega)
      have n3 := hown.cellAt (xa * 64 + k) (by omega)
      have n4 : ∃ u, wr.cell? ⟨gb, xa * 64 + k, none⟩ = some u := by
        rw [n3]
        refine ⟨_, List.getElem?_eq_getElem ?_⟩
        rw [bl_length, flat_length _ (layT_64 _ _ _ HD.out.ok.secs hx h2 (by omega)), layT_length]
        exact hidx
      obtain ⟨u, n4⟩ := n4
      have n5 : wr.frozen? ⟨gb, xa * 64 + k, none⟩ = false := by
        rcases hown.2 with ⟨e, _⟩ | ⟨g', cap', cur, e, _, hg, _⟩
        · cases e
        · have e' : gb = g' := by injection e with e _ _; injection e with e; injection e
          subst e'
          exact Blk.frozen (t := 5) hg _
      have hHg : w.heap.size ≠ gb := by omega
      have HOwn := Lib.hid hown
      have HBlk := Lib.hid hblk
      have HO := Lib.hid hO
      clear hown hblk hO n3 hs
      have HSK := Lib.hid hsk
      have hks : k < s.size := by omega
      clear hsk
      go_wp2_with fail
      go_region_held3 (fun w' => w'.cell? ⟨r, 0, none⟩ = some (.slice (some ⟨gb, 0, none⟩) (d.secs.length * 64) cap) ∧ w'.cell? ⟨w.heap.size, 0, none⟩ = some (.int .i64 (xa : Int)) ∧ w'.cell? ⟨w.heap.size, 1, none⟩ = some (.string s)) (first | exact ⟨cell_far hrg.symm n0, cell_far hHg.symm n1, cell_far hHg.symm n2⟩ | go_keep) (fail)
      have hrel : LayRel w r gb cap d (xa, xd) t (.int .i64 ((k : Int) + 1)) ((wr.setCell ⟨gb, xa * 64 + k, none⟩ (.int .u8 (s[k].toNat : Int))).drew) := by
        obtain ⟨hk', hsk⟩ := HSK.out
        refine ⟨k + 1, hlt, by go_num, ?_, ?_, ((HO.out).setCell (p := ⟨gb, xa * 64 + k, none⟩) (.inl (by simp)) _).drew⟩
        · have h1 := (HOwn.out.stored (xa * 64 + k) (.int .u8 (s[k].toNat : Int))).1
          rw [hsk] at h1 ⊢
          have e : (bl (layT d.secs (xa, xd) k).flatten).set (xa * 64 + k) (.int .u8 ((xd[k]'(by omega)).toNat : Int)) = bl (layT d.secs (xa, xd) (k + 1)).flatten := by
            rw [← layT_step d.secs (xa, xd) k HD.out.ok.secs hx h2 hk64]
            simp [bl, List.map_set]
          rw [e] at h1
          exact h1.drew
        · rw [HS.out]
          exact (HBlk.out.far (p := ⟨gb, xa * 64 + k, none⟩) hHg _).drew
      have HRel := Lib.hid hrel
      clear hrel w1 w2 i2
      go_wp2_with fail
      go_roundw
      case rel => exact HRel.out
      case measure => simp [intOf]; omega
    · obtain rfl : k = t := by omega
      have hc := fun h => hlt ((HTN.out k).2 h)
      have HC := Lib.hid hc
      have HOwn := Lib.hid hown
      have HO := Lib.hid hO
      clear hc hown hblk hO
      have hend : Only [gb] w wr ∧ RefAt wr r (.slice (some ⟨gb, 0, none⟩) (d.secs.length * 64) cap) qv kp tn { d with secs := layT d.secs (xa, xd) k } := by
        refine ⟨HO.out, ⟨layT_64 _ _ _ HD.out.ok.secs hx h2 ht64, by rw [layT_length]; exact HD.out.ok.secs0, by rw [layT_length]; exact HD.out.ok.q, HD.out.ok.room, HD.out.ok.fuse, HD.out.ok.writes⟩, by rw [layT_length]; exact hs1, (HD.out.self.only HO.out (by simpa using hrg)).eq_ rfl, ?_, ?_, HD.out.fz⟩
        · have := HOwn.out
          simp only [layT_length]
          exact this
        · exact ownsRow_only HD.out.queue HO.out (fun j hj => by
            simp only [List.mem_singleton]
            rintro rfl
            exact HD.out.bq j rfl hj)
      have HEnd := Lib.hid hend
      clear hend
      by_cases q : (k : Int) < n
      · have q1 : decide ((k : Int) < n) = true := decide_eq_true q
        have q2 : ¬ (k : Int) < 64 := fun h => HC.out ⟨q, by omega⟩
        have q3 : decide ((k : Int) < 64) = false := decide_eq_false q2
        go_wp2_with fail
        go_end0
        exact ⟨rfl, HEnd.out.2, HEnd.out.1.mono (by simp [Value.ownBlock])⟩
      · have q1 : decide ((k : Int) < n) = false := decide_eq_false q
        go_wp2_with fail
        go_end0
        exact ⟨rfl, HEnd.out.2, HEnd.out.1.mono (by simp [Value.ownBlock])⟩
end
end Go.Proofs.Ytmkcmahfededeaa
