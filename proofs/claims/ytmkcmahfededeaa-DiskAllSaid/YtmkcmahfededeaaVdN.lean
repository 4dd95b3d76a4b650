/- The contracts of the disk's Image and of the law's own row. -/
import Derived.Test.YtmkcmahfededeaaVdL
import Derived.OwnWalk
import Derived.Laws.AppendOwn
namespace Go.Proofs.Ytmkcmahfededeaa
open Go.RowKit Go.Maps
theorem u8_info : (Try.prog.info? 5).map (fun i => (i.zero, i.size, i.bytes)) = some (some (.int .u8 0), 1, 1) := by kernel_rfl
section
variable {w : World} {g : Nat} {d : Vd.VD} {fp : List Nat}
theorem image_step {w1 : World} {B k : Nat} {t : TypeId} {v : Value} {l : List (List UInt8)} (hk : k < l.length) (h : w1.ownsRow B t 1 v (k * 64 + 64) (bl (l.take k).flatten ++ bl (l.getD k []))) : w1.ownsRow B t 1 v ((k + 1) * 64) (bl (l.take (k + 1)).flatten) := by
  rw [List.take_succ_eq_append_getElem hk, List.flatten_append, bl_append, show (k + 1) * 64 = k * 64 + 64 from by omega]
  rw [List.getD_eq_getElem?_getD, List.getElem?_eq_getElem hk] at h
  simpa using h
set_option maxHeartbeats 1000000 in
theorem image_any (h : DF w g d fp) :
    Calls Try.prog 24 #[.pointer (some ⟨g, 0, none⟩)] w fun e w' => e = .returned (.string ⟨d.secs.flatten.toArray⟩) ∧ Below w.heap.size w w' := by
  obtain ⟨S, M, qv, rfl, h⟩ := h
  obtain ⟨i0, hi0, hz0, hz1, hz2⟩ := info_parts u8_info
  have c0 := h.cells.c0
  have hs1 := h.secs1
  have HD := Lib.hid h
  have Hi0 := Lib.hid hi0
  have Hz0 := Lib.hid hz0
  have Hz1 := Lib.hid hz1
  have Hz2 := Lib.hid hz2
  clear h hi0 hz0 hz1 hz2
  go_enter Try.func24, Try.ntmps24
  go_wp2_with fail
  go_loopw [3, 13, 5] (fun v i _ wr => ∃ k : Nat, k ≤ d.secs.length ∧ i = .int .i64 k ∧ wr.ownsRow w.heap.size 5 1 v (k * 64) (bl (d.secs.take k).flatten) ∧ Below w.heap.size w wr) (fun _ i _ _ => d.secs.length - (intOf i).toNat)
  case atStart => exact ⟨0, Nat.zero_le _, rfl, ⟨rfl, .inl ⟨rfl, rfl⟩⟩, Below.refl _ _⟩
  case round =>
    obtain ⟨k, hk, rfl, hown, hbel⟩ := hrel
    by_cases hlt : k < d.secs.length
    · have hr := (HD.out.secs.below hbel HD.out.secs.lt).sec_range HD.out.ok.secs hlt
      have hg64 : (d.secs.getD k []).length = 64 := by
        rw [List.getD_eq_getElem?_getD, List.getElem?_eq_getElem hlt]
        exact HD.out.ok.secs _ (List.getElem_mem hlt)
      have Hst : Hid (∀ (w1 : World) (v : Value), w1.ownsRow w.heap.size 5 1 v (k * 64 + 64) (bl (d.secs.take k).flatten ++ bl (d.secs.getD k [])) → w1.ownsRow w.heap.size 5 1 v ((k + 1) * 64) (bl (d.secs.take (k + 1)).flatten)) := Lib.hid (fun w1 v h => image_step hlt h)
      obtain ⟨s, hs⟩ : ∃ s, d.secs.getD k [] = s := ⟨_, rfl⟩
      rw [hs] at hr hg64 Hst
      clear hs
      have hbl : (bl s).length = 64 := by rw [bl_length, hg64]
      have hbs : (bl s).toArray.size = 64 := by simpa using hbl
      have hone : (bl s).toArray.all (·.oneCell') = true := all_oneCell_toArray (bl_one s)
      have hB := Blk.new wr 57 (bl s).toArray
      have hnews := World.news_of_block hB
      have hsz := hbel.size
      have HBL := Lib.hid hbl
      have HBS := Lib.hid hbs
      have HONE := Lib.hid hone
      have HR := Lib.hid hr
      have HNews := Lib.hid hnews
      have HOwn := Lib.hid hown
      have HBel := Lib.hid hbel
      clear hbl hbs hone hr hB hnews hg64 hown hbel
      go_wp2_with (first
        | (refine wpList_load_mid rfl 57 (.tmp 15) rfl S (k * 64) rfl (bl s) _ HR.out (Try.underlying57) rfl (by rw [HBL.out]; exact sec_size) ?_)
        | (refine wpList_alloc_store rfl rfl 57 (.tmp 5) (.tmp 16) rfl rfl _ (bl s).toArray (run_alloc_sec _) rfl rfl (by rw [HBS.out]; rfl) (by rw [HBS.out]; exact sec_size) HONE.out ?_)
        | (at_builtin; refine wpList_append_own _ rfl (.tmp 17) (.tmp 18) 54 rfl w.heap.size 5 i0 _ 1 1 Try.underlying54 Hi0.out Hz0.out Hz1.out Hz2.out rfl (by omega) _ (k * 64) (bl (d.secs.take k).flatten) rfl (HOwn.out.alloc _) ⟨wr.heap.size, 0, none⟩ 64 64 (bl s) rfl (by rw [HBL.out]) HNews.out (bl_one s) (by unfold maxLen; omega) (by omega) (by simp; omega) ?_; intro v' w1 hown1 hgrow _))
      go_roundw
      case rel => exact ⟨k + 1, by omega, by go_num, Hst.out _ _ hown1, ((HBel.out.alloc HBel.out.size _)).grown hgrow (by have := HBel.out.size; simp; omega) (fun j hj => (HOwn.out.lt j hj).1)⟩
      case measure => simp [intOf]; omega
    · have hcv := string_of_own (P := Try.prog) hown 54 9 Try.underlying54 Try.underlying5 Try.underlying9
      rw [List.take_of_length_le (by omega)] at hcv
      clear hown
      go_wp2_with fail
      go_ret
      exact ⟨rfl, hbel⟩
end
/-- 64 bytes alike -/
def rowL (v : Int) : List UInt8 := List.replicate 64 (UInt8.ofNat (v % 256).toNat)
theorem rowL_length (v : Int) : (rowL v).length = 64 := by simp [rowL]
/-- the row half made -/
def rowK (v : Int) (k : Nat) : List UInt8 := List.replicate k (UInt8.ofNat (v % 256).toNat) ++ List.replicate (64 - k) 0
theorem rowK_length (v : Int) (k : Nat) (h : k ≤ 64) : (rowK v k).length = 64 := by simp [rowK]; omega
theorem rowK_step (v : Int) (k : Nat) (h : k < 64) : (rowK v k).set k (UInt8.ofNat (v % 256).toNat) = rowK v (k + 1) := by
  unfold rowK
  rw [List.set_append_right _ _ (by simp), List.length_replicate, Nat.sub_self, show 64 - k = (64 - (k + 1)) + 1 from by omega, List.replicate_succ, List.set_cons_zero, List.replicate_succ', List.append_assoc, List.singleton_append]
theorem row_byte (v : Int) : v % 256 = ((UInt8.ofNat (v % 256).toNat).toNat : Int) := by
  rw [UInt8.toNat_ofNat']; omega
theorem row_step {wr : World} {B k : Nat} {t : TypeId} {v : Int} (h : Blk wr B t (bvs (rowK v k))) (hk : k < 64) : Blk (wr.setCell ⟨B, k, none⟩ (.int .u8 (v % 256))) B t (bvs (rowK v (k + 1))) := by
  refine (h.set_ k _).eq_ ?_
  rw [← rowK_step v k hk, ← bvs_set, ← row_byte]
set_option maxHeartbeats 400000 in
theorem row_any (v : Int) (w : World) : Calls Try.prog 11 #[.int .i64 v] w fun e w' => e = .returned (.string ⟨(rowL v).toArray⟩) ∧ Below w.heap.size w w' := by
  obtain ⟨i0, hi0, hz0, hz1, hz2⟩ := info_parts u8_info
  have hmk := fun W => make_bytes' (P := Try.prog) 54 5 i0 Try.underlying54 hi0 hz0 hz1 hz2 .i64 .i64 64 64 64 64 rfl rfl (by omega) (by omega) W
  clear hi0 hz0 hz1 hz2
  go_enter Try.func11, Try.ntmps11
  go_wp2_with fail
  clear hmk
  go_loopw [4] (fun i wr => ∃ k : Nat, k ≤ 64 ∧ i = .int .i64 k ∧ Blk wr w.heap.size 5 (bvs (rowK v k)) ∧ Below w.heap.size w wr) (fun i _ => 64 - (intOf i).toNat)
  case atStart => exact ⟨0, Nat.zero_le _, rfl, Blk.new w _ _, (Below.refl _ _).alloc (Nat.le_refl _) _⟩
  case round =>
    obtain ⟨k, hk, rfl, hblk, hbel⟩ := hrel
    by_cases hlt : k < 64
    · obtain ⟨c0, hc⟩ := hblk.some_ (i := k) (by rw [bvs_size, rowK_length v k hk]; omega)
      have hf := hblk.frozen k
      have HB := Lib.hid hblk
      clear hblk
      go_wp2_with fail
      go_roundw
      case rel => exact ⟨k + 1, by omega, by go_num, row_step HB.out hlt, hbel.setCell (Nat.le_refl _) _⟩
      case measure => simp [intOf]; omega
    · obtain rfl : k = 64 := by omega
      have hcv := string_of_blk (P := Try.prog) hblk 54 9 5 64 64 (rowK_length v 64 (Nat.le_refl _)).symm Try.underlying54 Try.underlying5 Try.underlying9
      have e : rowK v 64 = rowL v := by simp [rowK, rowL]
      rw [e] at hcv
      clear hblk e
      go_wp2_with fail
      go_ret
      exact ⟨rfl, hbel⟩
end Go.Proofs.Ytmkcmahfededeaa
