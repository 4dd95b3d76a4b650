/- The contracts of the reference's burn and Sync. -/
import Derived.Test.YtmkcmahfededeaaReC
namespace Go.Proofs.Ytmkcmahfededeaa
open Go.RowKit Go.Maps
attribute [local go_sem ↓] Go.wp_at_zero Go.wp_at_succ
section
variable {w w' : World} {r : Nat} {bv qv : Value} {kp tn : Int} {d : Vd.VD} {fp : List Nat}
theorem RefAt.drew (h : RefAt w r bv qv kp tn d) : RefAt w.drew r bv qv kp tn d := h.only ((Only.refl [] _).drew) (by simp)
set_option maxHeartbeats 1000000 in
theorem refBurn (h : RF w r d fp) (ho : d.on = true) : Calls Try.prog 42 #[.pointer (some ⟨r, 0, none⟩)] w (RPost (.bool (Vd.burns d).1) r (Vd.burns d).2 fp w) := by
  have HRF := Lib.hid h
  obtain ⟨bv, qv, kp, tn, rfl, h⟩ := h
  have c3 : w.cell? ⟨r, 3, none⟩ = some (.int .i64 (rfn d.fuse)) := h.self.cell 3
  have f3 := h.self.frozen 3
  have hok := h.ok
  cases hf : d.fuse with
  | none =>
    have hv : Vd.burns d = (false, d) := by unfold Vd.burns; rw [hf]
    rw [hv]
    rw [hf] at c3
    have c3' : w.cell? ⟨r, 3, none⟩ = some (.int .i64 (-1)) := c3
    clear c3 hf hv h hok ho
    go_enter Try.func42, Try.ntmps42
    go_wp2_with fail
    go_ret
    exact ⟨rfl, _, HRF.out, Fr.refl _ _⟩
  | some x =>
    obtain ⟨n, keep, torn⟩ := x
    have hn := hok.fuse n keep torn hf
    obtain ⟨e1, e2⟩ := h.fz n keep torn hf
    subst e1 e2
    rw [hf] at c3
    have c3' : w.cell? ⟨r, 3, none⟩ = some (.int .i64 n) := c3
    clear c3
    by_cases h0 : 0 < n
    · have hv : Vd.burns d = (false, { d with fuse := some (n - 1, keep, torn) }) := by unfold Vd.burns; rw [hf]; simp only [if_pos h0]
      rw [hv]
      have q1 : ¬ n < 0 := by omega
      have q2 : (n == 0) = false := by simpa using (by omega : ¬ n = 0)
      have HF := Lib.hid hf
      have HD := Lib.hid h
      have HOK := Lib.hid hok
      obtain ⟨hn1, hn2⟩ := hn
      clear hf hv h hok ho
      go_enter Try.func42, Try.ntmps42
      go_wp2_with fail
      go_ret
      have hO : Only [r] w (w.setCell ⟨r, 3, none⟩ (.int .i64 (n - 1))) := (Only.refl _ _).own 3 _
      have hok := HOK.out
      refine ⟨rfl, _, ⟨bv, qv, keep, torn, rfl, HD.out.self' keep torn { d with fuse := some (n - 1, keep, torn) } ⟨hok.secs, hok.secs0, hok.q, hok.room, ?_, hok.writes⟩ rfl rfl ?_ hO ((HD.out.self.set_ 3 _).eq_ ?_)⟩, hO.mono (by simp [rfoot]), fun _ h => .inl h⟩
      · intro a b c e
        simp only [Option.some.injEq, Prod.mk.injEq] at e
        omega
      · intro a b c e
        simp only [Option.some.injEq, Prod.mk.injEq] at e
        exact ⟨e.2.1.symm, e.2.2.symm⟩
      · simp [rcells, rfn]
    · obtain rfl : n = 0 := by omega
      have hv : Vd.burns d = (true, Vd.crash { d with fuse := none } keep torn) := by unfold Vd.burns; rw [hf]; rfl
      rw [hv]
      have hO : Only [r] w (w.setCell ⟨r, 3, none⟩ (.int .i64 (-1))) := (Only.refl _ _).own 3 _
      have hR1 : RefAt (w.setCell ⟨r, 3, none⟩ (.int .i64 (-1))) r bv qv keep torn { d with fuse := none } := h.self' keep torn _ ⟨hok.secs, hok.secs0, hok.q, hok.room, (fun _ _ _ e => by cases e), hok.writes⟩ rfl rfl (fun _ _ _ e => by cases e) hO ((h.self.set_ 3 _).eq_ (by simp [rcells, rfn]))
      have hcr := refCrash_on hR1.drew keep torn ho
      have n4 : (w.setCell ⟨r, 3, none⟩ (.int .i64 (-1))).cell? ⟨r, 4, none⟩ = some (.int .i64 keep) := hR1.self.cell 4
      have n5 : (w.setCell ⟨r, 3, none⟩ (.int .i64 (-1))).cell? ⟨r, 5, none⟩ = some (.int .i64 torn) := hR1.self.cell 5
      have HC := Lib.hid hcr
      have HO := Lib.hid hO
      clear hf hv h hok hR1 hcr hO hn h0 ho
      go_enter Try.func42, Try.ntmps42
      go_wp2_with fail
      clear c3'
      go_region_held3 (fun w' => w'.cell? ⟨r, 4, none⟩ = some (.int .i64 keep) ∧ w'.cell? ⟨r, 5, none⟩ = some (.int .i64 torn)) (first | exact ⟨n4, n5⟩ | exact ⟨hR5.self.cell 4, hR5.self.cell 5⟩ | go_keep) (((with_reducible refine HC.out.mono ?_); rintro e w5 ⟨rfl, hR5, hO5⟩))
      all_goals
        have HR5 := Lib.hid hR5
        have HO5 := Lib.hid hO5
        clear hR5 hO5
        go_wp2_with fail
        go_ret
        refine ⟨rfl, _, ⟨bv, _, keep, torn, rfl, HR5.out⟩, rframe_of ?_ (.inr rfl)⟩
        exact ((HO.out.mono (fun b hb => by simp at hb ⊢; simp [hb])).drew).trans HO5.out (fun b hb => .inl hb)
theorem burns_no' (d : Vd.VD) (h : (Vd.burns d).1 = false) : (Vd.burns d).2.on = d.on := (burns_no d h).2.2.1
/-- what holds at the head of the sync's loop -/
def SyRel (w : World) (r : Nat) (bv qv : Value) (kp tn : Int) (d : Vd.VD) (i : Value) (wr : World) : Prop :=
  ∃ k : Nat, k ≤ d.q.length ∧ i = .int .i64 k ∧ RefAt wr r bv qv kp tn { d with secs := Vd.lay d.secs (d.q.take k) } ∧ Only (r :: bv.ownBlock.toList) w wr
set_option maxHeartbeats 1000000 in
theorem refSync_off (h : RF w r d fp) (ho : d.on = false) : Calls Try.prog 37 #[.pointer (some ⟨r, 0, none⟩)] w (RPost (.int .i64 80) r d fp w) := by
  have HD := Lib.hid h
  obtain ⟨bv, qv, kp, tn, rfl, h⟩ := h
  have c2 : w.cell? ⟨r, 2, none⟩ = some (.bool (!d.on)) := h.self.cell 2
  rw [ho] at c2
  clear h ho
  go_enter Try.func37, Try.ntmps37
  go_wp2_with fail
  go_ret
  exact ⟨rfl, _, HD.out, Fr.refl _ _⟩
set_option maxHeartbeats 1000000 in
theorem refSync_burn (h : RF w r d fp) (ho : d.on = true) (hb : (Vd.burns d).1 = true) : Calls Try.prog 37 #[.pointer (some ⟨r, 0, none⟩)] w (RPost (.int .i64 80) r (Vd.burns d).2 fp w) := by
  have hbu := refBurn h ho
  rw [hb] at hbu
  obtain ⟨bv, qv, kp, tn, rfl, h⟩ := h
  have c2 : w.cell? ⟨r, 2, none⟩ = some (.bool (!d.on)) := h.self.cell 2
  rw [ho] at c2
  clear h ho hb
  go_enter Try.func37, Try.ntmps37
  go_wp2_with fail
  with_reducible refine hbu.mono ?_
  rintro e w1 ⟨rfl, hF⟩
  go_wp2_with fail
  go_ret
  exact ⟨rfl, hF⟩
set_option maxHeartbeats 1000000 in
theorem refSync_on (h : RF w r d fp) (ho : d.on = true) (hb : (Vd.burns d).1 = false) : Calls Try.prog 37 #[.pointer (some ⟨r, 0, none⟩)] w (RPost (.int .i64 0) r { (Vd.burns d).2 with secs := Vd.lay (Vd.burns d).2.secs (Vd.burns d).2.q, q := [] } fp w) := by
  have hbu := refBurn h ho
  rw [hb] at hbu
  obtain ⟨bv, qv, kp, tn, rfl, h⟩ := h
  have c2 : w.cell? ⟨r, 2, none⟩ = some (.bool (!d.on)) := h.self.cell 2
  rw [ho] at c2
  clear h ho hb
  obtain ⟨d1, hd1⟩ : ∃ d1, (Vd.burns d).2 = d1 := ⟨_, rfl⟩
  rw [hd1] at hbu ⊢
  clear hd1
  go_enter Try.func37, Try.ntmps37
  go_wp2_with fail
  with_reducible refine hbu.mono ?_
  rintro e w1 ⟨rfl, fp1, hF1, hFr1⟩
  clear hbu c2
  obtain ⟨bv, qv, kp, tn, rfl, hR1⟩ := hF1
  have hmax := hR1.qmax
  unfold maxLen at hmax
  have HQ := Lib.hid hR1.ok.q
  obtain ⟨p, cap, rfl, hcap⟩ := hR1.qform
  have HR1 := Lib.hid hR1
  have HFr1 := Lib.hid hFr1
  clear hR1 hFr1
  go_wp2_with fail
  go_loopw [3] (fun i wr => SyRel w1 r bv (.slice p d1.q.length cap) kp tn d1 i wr) (fun i _ => d1.q.length - (intOf i).toNat)
  case atStart => exact ⟨0, Nat.zero_le _, rfl, by rw [List.take_zero]; exact HR1.out, Only.refl _ _⟩
  case round =>
    obtain ⟨k, hk, rfl, hR, hO⟩ := hrel
    have c1 : wr.cell? ⟨r, 1, none⟩ = some (.slice p d1.q.length cap) := hR.self.cell 1
    by_cases hlt : k < d1.q.length
    · obtain ⟨qb, cap', hv, hrg⟩ := hR.at_ k hlt
      obtain ⟨rfl, rfl⟩ : p = some ⟨qb, 0, none⟩ ∧ cap = cap' := by injection hv with e1 _ e2; exact ⟨e1, e2⟩
      clear hv
      have hx := HQ.out d1.q[k] (List.getElem_mem hlt)
      have hrl := refLay' hR d1.q[k] (by simp only [Vd.lay_length]; exact hx.1) hx.2 64
      have st1 : ({ d1 with secs := layT (Vd.lay d1.secs (d1.q.take k)) d1.q[k] (Vd.clamp 64 0 64).toNat } : Vd.VD) = { d1 with secs := Vd.lay d1.secs (d1.q.take (k + 1)) } := by
        have e : (Vd.clamp 64 0 64).toNat = 64 := by decide
        rw [e, layT_full _ _ hR.ok.secs (by simp only [Vd.lay_length]; exact hx.1) hx.2, lay_take _ _ _ hlt]
      simp only [st1] at hrl
      have hrg' : wr.rangeAt qb (k * 2) (rwc d1.q[k]) := hrg
      obtain ⟨x, hxx⟩ : ∃ x, d1.q[k] = x := ⟨_, rfl⟩
      rw [hxx] at hrl hrg'
      have HRL := Lib.hid hrl
      have HRG := Lib.hid hrg'
      have HO := Lib.hid hO
      have i0 : (0 : Int) ≤ (k : Int) := by omega
      have i1 : (k : Int) < (d1.q.length : Int) := by omega
      clear hx hrl st1 hrg hrg' hR hO hxx
      go_wp2_with (first
          | (refine wpList_load_mid rfl 77 (.tmp 27) rfl qb (k * 2) rfl (rwc x) _ HRG.out (Try.underlying77) rfl rw_size ?_))
      with_reducible refine HRL.out.mono ?_
      rintro e w5 ⟨rfl, hR5, hO5⟩
      have HRel := Lib.hid (show SyRel w1 r bv (.slice (some ⟨qb, 0, none⟩) d1.q.length cap) kp tn d1 (.int .i64 ((k : Int) + 1)) w5 from ⟨k + 1, hlt, by go_num, hR5, rlay_only HO.out hO5⟩)
      clear hR5 hO5 c1
      go_wp2_with fail
      go_roundw
      case rel => exact HRel.out
      case measure => simp [intOf]; omega
    · obtain rfl : k = d1.q.length := by omega
      have f1 := hR.self.frozen 1
      have HR := Lib.hid hR
      have HO := Lib.hid hO
      clear hR hO
      go_wp2_with fail
      go_ret
      have hO1 : Only [r] wr (wr.setCell ⟨r, 1, none⟩ (.slice none 0 0)) := (Only.refl _ _).own 1 _
      have hR := HR.out
      rw [List.take_length] at hR
      have hok := hR.ok
      refine ⟨rfl, _, ⟨bv, .slice none 0 0, kp, tn, rfl, ⟨hok.secs, hok.secs0, (fun x hx => by cases hx), hok.room, hok.fuse, by have := hok.writes; simp only [List.length_nil]; simp only at this; omega⟩, hR.secs1, (hR.self.set_ 1 _).eq_ (by simp [rcells]), ownsRow_only hR.bytes hO1 (fun j hj => by
        simp only [List.mem_singleton]
        rintro rfl
        exact hR.bR hj), ⟨rfl, .inl ⟨rfl, rfl⟩⟩, hR.fz⟩, HFr1.out.trans (rframe_of (HO.out.setCell (p := ⟨r, 1, none⟩) (.inl (by simp)) _) (.inr rfl))⟩
theorem refSync (h : RF w r d fp) : Calls Try.prog 37 #[.pointer (some ⟨r, 0, none⟩)] w (RPost (.int .i64 (Vd.sync d).1) r (Vd.sync d).2 fp w) := by
  by_cases ho : d.on = true
  · by_cases hb : (Vd.burns d).1 = true
    · have e : Vd.sync d = (80, (Vd.burns d).2) := by unfold Vd.sync; rw [if_pos ho, if_pos hb]
      rw [e]; exact refSync_burn h ho hb
    · have e : Vd.sync d = (0, { (Vd.burns d).2 with secs := Vd.lay (Vd.burns d).2.secs (Vd.burns d).2.q, q := [] }) := by unfold Vd.sync; rw [if_pos ho, if_neg hb]
      rw [e]; exact refSync_on h ho (by simpa using hb)
  · have e : Vd.sync d = (80, d) := by unfold Vd.sync; rw [if_neg ho]
    rw [e]; exact refSync_off h (by simpa using ho)
end
end Go.Proofs.Ytmkcmahfededeaa
