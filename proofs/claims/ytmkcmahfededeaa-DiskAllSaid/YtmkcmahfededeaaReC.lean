/- The contract of the reference's Crash. -/
import Derived.Test.YtmkcmahfededeaaReB
import Derived.Test.YtmkcmahfededeaaVdS0
namespace Go.Proofs.Ytmkcmahfededeaa
open Go.RowKit Go.Maps
theorem rw_size : (Try.prog.info? 77).map (·.size) = some 2 := by kernel_rfl
def rwc (x : Nat × List UInt8) : List Value := [.int .i64 (x.1 : Int), .string ⟨x.2.toArray⟩]
theorem rqcells_at (q : List (Nat × List UInt8)) : ∀ (k : Nat) (h : k < q.length) (j : Nat) (v : Value), (rwc q[k])[j]? = some v → (rqcells q)[k * 2 + j]? = some v := by
  induction q with
  | nil => intro k h; simp at h
  | cons x q ih =>
    intro k h j v hv
    have e : rqcells (x :: q) = rwc x ++ rqcells q := by simp [rqcells, rwc]
    have hx : (rwc x).length = 2 := rfl
    rw [e]
    match k with
    | 0 =>
      have hj : j < (rwc x).length := by
        rcases Nat.lt_or_ge j (rwc x).length with h1 | h1
        · exact h1
        · rw [List.getElem?_eq_none (by simpa using h1)] at hv; cases hv
      rw [List.getElem?_append_left (by omega)]
      simpa using hv
    | k + 1 =>
      rw [List.getElem?_append_right (by omega), hx]
      have := ih k (by simpa using h) j v (by simpa using hv)
      rw [show (k + 1) * 2 + j - 2 = k * 2 + j from by omega]
      exact this
section
variable {w w' : World} {r : Nat} {bv qv : Value} {kp tn : Int} {d : Vd.VD} {fp : List Nat}
/-- a write of the queue in memory -/
theorem RefAt.at_ (h : RefAt w r bv qv kp tn d) (k : Nat) (hk : k < d.q.length) : ∃ qb cap, qv = .slice (some ⟨qb, 0, none⟩) d.q.length cap ∧ w.rangeAt qb (k * 2) (rwc d.q[k]) := by
  obtain ⟨qb, cap, hv, _, _⟩ := h.queue.form (by omega)
  refine ⟨qb, cap, hv, fun j v hj => ?_⟩
  have := h.queue.cells (g := qb) (by rw [hv]; rfl) (k * 2 + j) v (rqcells_at d.q k hk j v hj)
  rwa [Addr.add_mid, Nat.zero_add] at this
theorem refLay' (h : RefAt w r bv qv kp tn d) (x : Nat × List UInt8) (hx : x.1 < d.secs.length) (h2 : x.2.length = 64) (n : Int) :
    Calls Try.prog 43 #[.pointer (some ⟨r, 0, none⟩), .agg (rwc x).toArray, .int .i64 n] w fun e w' => e = .returned (.tuple #[]) ∧ RefAt w' r bv qv kp tn { d with secs := layT d.secs x (Vd.clamp n 0 64).toNat } ∧ Only bv.ownBlock.toList w w' := refLay h x hx h2 n
/-- the disk in the midst of a crash -/
def crVD (d : Vd.VD) (keep torn : Int) (k : Nat) : Vd.VD := { d with on := false, secs := cr d.secs (d.q.take k) keep torn }
theorem crVD_step1 (d : Vd.VD) (keep torn : Int) (k : Nat) (h : k < d.q.length) (hk : (k : Int) < keep) (hs : ∀ s ∈ cr d.secs (d.q.take k) keep torn, s.length = 64) (h1 : d.q[k].1 < (cr d.secs (d.q.take k) keep torn).length) (h2 : d.q[k].2.length = 64) :
    ({ crVD d keep torn k with secs := layT (crVD d keep torn k).secs d.q[k] (Vd.clamp 64 0 64).toNat } : Vd.VD) = crVD d keep torn (k + 1) := by
  have e : (Vd.clamp 64 0 64).toNat = 64 := by decide
  unfold crVD
  simp only
  rw [e, layT_full _ _ hs h1 h2, List.take_succ_eq_append_getElem h, cr_snoc1 _ _ _ _ _ (by rw [List.length_take]; omega)]
theorem crVD_step2 (d : Vd.VD) (keep torn : Int) (k : Nat) (h : k < d.q.length) (hk : (k : Int) = max keep 0) :
    ({ crVD d keep torn k with secs := layT (crVD d keep torn k).secs d.q[k] (Vd.clamp torn 0 64).toNat } : Vd.VD) = crVD d keep torn (k + 1) := by
  unfold crVD layT
  simp only
  rw [List.take_succ_eq_append_getElem h, cr_snoc2 _ _ _ _ _ (by rw [List.length_take]; omega)]
theorem crVD_step3 (d : Vd.VD) (keep torn : Int) (k : Nat) (h : k < d.q.length) (hk : max keep 0 < (k : Int)) : crVD d keep torn k = crVD d keep torn (k + 1) := by
  unfold crVD
  rw [List.take_succ_eq_append_getElem h, cr_snoc3 _ _ _ _ _ (by rw [List.length_take]; omega)]
theorem cr_length (secs : List (List UInt8)) (q : List (Nat × List UInt8)) (keep torn : Int) : (cr secs q keep torn).length = secs.length := by
  unfold cr
  simp only
  split
  · rw [Vd.lay_length]
  · rw [List.length_set, Vd.lay_length]
theorem crash_crVD (d : Vd.VD) (keep torn : Int) (h : d.on = true) : Vd.crash d keep torn = { crVD d keep torn d.q.length with q := [] } := by
  rw [crash_cr d keep torn h]
  unfold crVD
  rw [List.take_length]
/-- what holds at the head of the crash's loop -/
def CrRel (w : World) (r : Nat) (bv qv : Value) (kp tn : Int) (d : Vd.VD) (keep torn : Int) (i : Value) (wr : World) : Prop :=
  ∃ k : Nat, k ≤ d.q.length ∧ i = .int .i64 k ∧ RefAt wr r bv qv kp tn (crVD d keep torn k) ∧ Only (r :: bv.ownBlock.toList) w wr
set_option maxHeartbeats 400000 in
theorem refCrash_off (h : RF w r d fp) (keep torn : Int) (ho : d.on = false) : Calls Try.prog 38 #[.pointer (some ⟨r, 0, none⟩), .int .i64 keep, .int .i64 torn] w (RPost (.tuple #[]) r d fp w) := by
  have HD := Lib.hid h
  obtain ⟨bv, qv, kp, tn, rfl, h⟩ := h
  have c2 : w.cell? ⟨r, 2, none⟩ = some (.bool (!d.on)) := h.self.cell 2
  rw [ho] at c2
  clear h ho
  go_enter Try.func38, Try.ntmps38
  go_wp2_with fail
  refine bodyPost_ret (results_none rfl _ _ _) rfl ?_
  exact ⟨rfl, _, HD.out, Fr.refl _ _⟩
theorem cr_start (h : RefAt w r bv qv kp tn d) (keep torn : Int) : RefAt (w.setCell ⟨r, 2, none⟩ (.bool true)) r bv qv kp tn (crVD d keep torn 0) := by
  have e : crVD d keep torn 0 = { d with on := false } := by unfold crVD; rw [List.take_zero, cr_nil]
  rw [e]
  exact h.self' kp tn _ ⟨h.ok.secs, h.ok.secs0, h.ok.q, h.ok.room, h.ok.fuse, h.ok.writes⟩ rfl rfl h.fz ((Only.refl _ _).own 2 _) ((h.self.set_ 2 _).eq_ (by simp [rcells]))
theorem rlay_only {w wr w5 : World} (ho : Only (r :: bv.ownBlock.toList) w wr) (hl : Only bv.ownBlock.toList wr w5) : Only (r :: bv.ownBlock.toList) w w5 := ho.trans hl (fun b hb => .inl (by simp at hb ⊢; simp [hb]))
set_option maxHeartbeats 1000000 in
theorem refCrash_on (h : RefAt w r bv qv kp tn d) (keep torn : Int) (ho : d.on = true) : Calls Try.prog 38 #[.pointer (some ⟨r, 0, none⟩), .int .i64 keep, .int .i64 torn] w fun e w' => e = .returned (.tuple #[]) ∧ RefAt w' r bv (.slice none 0 0) kp tn (Vd.crash d keep torn) ∧ Only (r :: bv.ownBlock.toList) w w' := by
  have c2 : w.cell? ⟨r, 2, none⟩ = some (.bool (!d.on)) := h.self.cell 2
  rw [ho] at c2
  have f2 := h.self.frozen 2
  have hst := cr_start h keep torn
  have hmax := h.qmax
  unfold maxLen at hmax
  have HQ := Lib.hid h.ok.q
  obtain ⟨p, cap, rfl, hcap⟩ := h.qform
  have HSt := Lib.hid hst
  have HD := Lib.hid h
  have HOn := Lib.hid ho
  clear h hst ho
  go_enter Try.func38, Try.ntmps38
  go_wp2_with fail
  go_loopw [6] (fun i wr => CrRel w r bv (.slice p d.q.length cap) kp tn d keep torn i wr) (fun i _ => d.q.length - (intOf i).toNat)
  case atStart => exact ⟨0, Nat.zero_le _, rfl, HSt.out, (Only.refl _ _).setCell (p := ⟨r, 2, none⟩) (.inl (by simp)) _⟩
  case round =>
    clear HSt c2 f2
    obtain ⟨k, hk, rfl, hR, hO⟩ := hrel
    have c1 : wr.cell? ⟨r, 1, none⟩ = some (.slice p d.q.length cap) := hR.self.cell 1
    by_cases hlt : k < d.q.length
    · obtain ⟨qb, cap', hv, hrg⟩ := hR.at_ k hlt
      obtain ⟨rfl, rfl⟩ : p = some ⟨qb, 0, none⟩ ∧ cap = cap' := by injection hv with e1 _ e2; exact ⟨e1, e2⟩
      clear hv
      have hx := HQ.out d.q[k] (List.getElem_mem hlt)
      have hrl := fun n => refLay' hR d.q[k] (by simp only [crVD, cr_length]; exact hx.1) hx.2 n
      have h64 := hR.ok.secs
      have st1 := fun hk => crVD_step1 d keep torn k hlt hk h64 (by rw [cr_length]; exact hx.1) hx.2
      have st2 := crVD_step2 d keep torn k hlt
      have st3 := crVD_step3 d keep torn k hlt
      have hrg' : wr.rangeAt qb (k * 2) (rwc d.q[k]) := hrg
      obtain ⟨x, hxx⟩ : ∃ x, d.q[k] = x := ⟨_, rfl⟩
      rw [hxx] at hrl st1 st2 hrg'
      have HRL := Lib.hid hrl
      have HS1 := Lib.hid st1
      have HS2 := Lib.hid st2
      have HS3 := Lib.hid st3
      have HRG := Lib.hid hrg'
      have HR := Lib.hid hR
      have HO := Lib.hid hO
      have i0 : (0 : Int) ≤ (k : Int) := by omega
      have i1 : (k : Int) < (d.q.length : Int) := by omega
      clear hx hrl h64 st1 st2 st3 hrg hrg' hR hO hxx
      by_cases q1 : (k : Int) < keep
      · have q1' : decide ((k : Int) < keep) = true := decide_eq_true q1
        go_wp2_with (first
          | (refine wpList_load_mid rfl 77 (.tmp 32) rfl qb (k * 2) rfl (rwc x) _ HRG.out (Try.underlying77) rfl rw_size ?_))
        with_reducible refine (HRL.out 64).mono ?_
        rintro e w5 ⟨rfl, hR5, hO5⟩
        rw [HS1.out q1] at hR5
        have HRel := Lib.hid (show CrRel w r bv (.slice (some ⟨qb, 0, none⟩) d.q.length cap) kp tn d keep torn (.int .i64 ((k : Int) + 1)) w5 from ⟨k + 1, hlt, by go_num, hR5, rlay_only HO.out hO5⟩)
        clear hR5 hO5 c1
        go_wp2_with fail
        go_roundw
        case rel => exact HRel.out
        case measure => simp [intOf]; omega
      · have q1' : decide ((k : Int) < keep) = false := decide_eq_false q1
        by_cases q2 : (k : Int) = max keep 0
        · have Q2 := Lib.hid q2
          by_cases q3 : keep < 0
          · have q3' : decide (keep < 0) = true := decide_eq_true q3
            have q4 : ((k : Int) == keep) = false := by simpa using (by omega : ¬ (k : Int) = keep)
            have q5 : ((k : Int) == 0) = true := by simpa using (by omega : k = 0)
            have q6 : (k == 0) = true := by simpa using (by omega : k = 0)
            clear q2
            go_wp2_with (first
              | (refine wpList_load_mid rfl 77 (.tmp 52) rfl qb (k * 2) rfl (rwc x) _ HRG.out (Try.underlying77) rfl rw_size ?_))
            with_reducible refine (HRL.out torn).mono ?_
            rintro e w5 ⟨rfl, hR5, hO5⟩
            rw [HS2.out Q2.out] at hR5
            have HRel := Lib.hid (show CrRel w r bv (.slice (some ⟨qb, 0, none⟩) d.q.length cap) kp tn d keep torn (.int .i64 ((k : Int) + 1)) w5 from ⟨k + 1, hlt, by go_num, hR5, rlay_only HO.out hO5⟩)
            clear hR5 hO5 c1
            go_wp2_with fail
            go_roundw
            case rel => exact HRel.out
            case measure => simp [intOf]; omega
          · have q3' : decide (keep < 0) = false := decide_eq_false q3
            have q4 : ((k : Int) == keep) = true := by
              have : (k : Int) = keep := by omega
              rw [this]; simp
            clear q2
            go_wp2_with (first
              | (refine wpList_load_mid rfl 77 (.tmp 52) rfl qb (k * 2) rfl (rwc x) _ HRG.out (Try.underlying77) rfl rw_size ?_))
            with_reducible refine (HRL.out torn).mono ?_
            rintro e w5 ⟨rfl, hR5, hO5⟩
            rw [HS2.out Q2.out] at hR5
            have HRel := Lib.hid (show CrRel w r bv (.slice (some ⟨qb, 0, none⟩) d.q.length cap) kp tn d keep torn (.int .i64 ((k : Int) + 1)) w5 from ⟨k + 1, hlt, by go_num, hR5, rlay_only HO.out hO5⟩)
            clear hR5 hO5 c1
            go_wp2_with fail
            go_roundw
            case rel => exact HRel.out
            case measure => simp [intOf]; omega
        · have hRel : CrRel w r bv (.slice (some ⟨qb, 0, none⟩) d.q.length cap) kp tn d keep torn (.int .i64 ((k : Int) + 1)) wr := by
            refine ⟨k + 1, hlt, by go_num, ?_, HO.out⟩
            rw [← HS3.out (by omega)]
            exact HR.out
          have HRel := Lib.hid hRel
          clear hRel
          have q4 : ((k : Int) == keep) = false := by simpa using (by omega : ¬ (k : Int) = keep)
          by_cases q3 : keep < 0
          · have q3' : decide (keep < 0) = true := decide_eq_true q3
            have q5 : ((k : Int) == 0) = false := by simpa using (by omega : ¬ k = 0)
            have q6 : (k == 0) = false := by simpa using (by omega : ¬ k = 0)
            go_wp2_with fail
            go_roundw
            case rel => exact HRel.out
            case measure => simp [intOf]; omega
          · have q3' : decide (keep < 0) = false := decide_eq_false q3
            go_wp2_with fail
            go_roundw
            case rel => exact HRel.out
            case measure => simp [intOf]; omega
    · obtain rfl : k = d.q.length := by omega
      have f1 := hR.self.frozen 1
      have HR := Lib.hid hR
      have HO := Lib.hid hO
      clear hR hO
      go_wp2_with fail
      go_end0
      refine ⟨rfl, ?_, HO.out.setCell (p := ⟨r, 1, none⟩) (.inl (by simp)) _⟩
      rw [crash_crVD d keep torn HOn.out]
      have hO1 : Only [r] wr (wr.setCell ⟨r, 1, none⟩ (.slice none 0 0)) := (Only.refl _ _).own 1 _
      have hok := HR.out.ok
      exact ⟨⟨hok.secs, hok.secs0, (fun x hx => by cases hx), hok.room, hok.fuse, by have := hok.writes; simp only [List.length_nil]; omega⟩, HR.out.secs1, (HR.out.self.set_ 1 _).eq_ (by simp [rcells]), ownsRow_only HR.out.bytes hO1 (fun j hj => by
        simp only [List.mem_singleton]
        rintro rfl
        exact HR.out.bR hj), ⟨rfl, .inl ⟨rfl, rfl⟩⟩, HR.out.fz⟩
theorem rframe_of {w w' : World} {r : Nat} {bv qv qv' : Value} (ho : Only (r :: bv.ownBlock.toList) w w') (hq : qv' = qv ∨ qv'.ownBlock = none) : Fr (rfoot r bv qv) w w' (rfoot r bv qv') := by
  refine ⟨ho.mono (fun b hb => by simp [rfoot] at hb ⊢; rcases hb with h | h <;> simp [h]), ?_⟩
  intro b hb
  left
  simp only [rfoot, List.mem_cons, List.mem_append, Option.mem_toList] at hb ⊢
  rcases hb with h | h | h
  · exact .inl h
  · exact .inr (.inl h)
  · rcases hq with rfl | hq
    · exact .inr (.inr h)
    · rw [hq] at h; cases h
theorem refCrash (h : RF w r d fp) (keep torn : Int) : Calls Try.prog 38 #[.pointer (some ⟨r, 0, none⟩), .int .i64 keep, .int .i64 torn] w (RPost (.tuple #[]) r (Vd.crash d keep torn) fp w) := by
  by_cases ho : d.on = true
  · obtain ⟨bv, qv, kp, tn, rfl, h⟩ := h
    refine (refCrash_on h keep torn ho).mono ?_
    rintro e w' ⟨rfl, hR, hO⟩
    exact ⟨rfl, _, ⟨bv, _, kp, tn, rfl, hR⟩, rframe_of hO (.inr rfl)⟩
  · have e : Vd.crash d keep torn = d := by unfold Vd.crash; rw [if_neg ho]
    rw [e]
    exact refCrash_off h keep torn (by simpa using ho)
end
end Go.Proofs.Ytmkcmahfededeaa
