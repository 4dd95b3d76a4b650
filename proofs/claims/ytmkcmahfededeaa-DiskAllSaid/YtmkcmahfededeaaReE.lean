/- The contract of the reference's Write. -/
import Derived.Test.YtmkcmahfededeaaReD
import Derived.Deep.AppendLies
import Derived.OwnWalk
namespace Go.Proofs.Ytmkcmahfededeaa
open Go.RowKit Go.Maps
theorem rw_info : (Try.prog.info? 77).map (fun i => (i.zero, i.size, i.bytes)) = some (some (.agg #[.int .i64 0, .string ⟨#[]⟩]), 2, 24) := by kernel_rfl
theorem bytes_back (s : ByteArray) : (⟨s.data.toList.toArray⟩ : ByteArray) = s := by cases s; simp
section
variable {w w' : World} {r : Nat} {bv qv : Value} {kp tn : Int} {d : Vd.VD} {fp : List Nat}
theorem RefAt.c2 (h : RefAt w r bv qv kp tn d) : w.cell? ⟨r, 2, none⟩ = some (.bool (!d.on)) := h.self.cell 2
/-- the end of a write -/
theorem rwrite_end {V w3 : World} (h : RefAt V r bv qv kp tn d) (a : Nat) (x : List UInt8) (ha : a < d.secs.length) (hx : x.length = 64) (o : Obj) (gq capq : Nat) (hG : (V.alloc o).grownBy w3 qv.ownBlock)
    (hown : w3.ownsRow 0 77 2 (.slice (some ⟨gq, 0, none⟩) (d.q.length + 1) capq) (d.q.length + 1) (rqcells d.q ++ rwc (a, x))) (hat : qv.ownBlock = some gq ∨ gq = V.heap.size + 1) (rm : Int) (hrm : -1 ≤ rm ∧ rm ≤ 9223372036854775807) (w4 : World)
    (hO4 : Only [r] w3 w4) (hb4 : Blk w4 r 75 (rcells bv (.slice (some ⟨gq, 0, none⟩) (d.q.length + 1) capq) kp tn { d with q := d.q ++ [(a, x)], room := rm, writes := d.writes + 1 })) :
    RF w4 r { d with q := d.q ++ [(a, x)], room := rm, writes := d.writes + 1 } (rfoot r bv (.slice (some ⟨gq, 0, none⟩) (d.q.length + 1) capq)) ∧ Fr (rfoot r bv qv) V w4 (rfoot r bv (.slice (some ⟨gq, 0, none⟩) (d.q.length + 1) capq)) := by
  have o1 : Only qv.ownBlock.toList V w3 := ((Only.refl _ _).alloc o).grown hG (fun b e => .inl (by simp [e]))
  have hok := h.ok
  have hrl := h.self.lt
  have hgr : gq ≠ r := by
    rintro rfl
    rcases hat with h1 | h1
    · exact h.qR h1
    · omega
  refine ⟨⟨bv, _, kp, tn, rfl, ⟨hok.secs, hok.secs0, ?_, hrm, hok.fuse, ?_⟩, h.secs1, hb4, ?_, ?_, h.fz⟩, ?_, ?_⟩
  · intro y hy
    rcases List.mem_append.1 hy with hy | hy
    · exact hok.q y hy
    · rw [List.mem_singleton.1 hy]; exact ⟨ha, hx⟩
  · have := hok.writes
    simp only [List.length_append, List.length_singleton]
    omega
  · exact ownsRow_only (ownsRow_only h.bytes o1 (fun k hk => by simpa using h.bq k hk)) hO4 (fun k hk => by
      simp only [List.mem_singleton]
      rintro rfl
      exact h.bR hk)
  · have e : rqcells (d.q ++ [(a, x)]) = rqcells d.q ++ rwc (a, x) := by simp [rqcells, rwc]
    rw [List.length_append, List.length_singleton, e]
    exact ownsRow_only hown hO4 (fun k hk => by
      have : gq = k := by simpa [Value.ownBlock] using hk
      subst this
      simpa using hgr)
  · exact (o1.mono (fun b hb => by simp [rfoot] at hb ⊢; simp [hb])).trans hO4 (fun b hb => .inl (by simp [rfoot] at hb ⊢; simp [hb]))
  · intro b hb
    simp only [rfoot, List.mem_cons, List.mem_append, Option.mem_toList, Value.ownBlock] at hb ⊢
    rcases hb with hb | hb | hb
    · exact .inl (.inl hb)
    · exact .inl (.inr (.inl hb))
    · injection hb with hb
      subst hb
      rcases hat with h1 | h1
      · exact .inl (.inr (.inr h1))
      · right; omega
set_option maxHeartbeats 1000000 in
theorem refWrite_no (h : RF w r d fp) (a : Int) (s : ByteArray) (h0 : Vd.asked d a ≠ 0) : Calls Try.prog 35 #[.pointer (some ⟨r, 0, none⟩), .int .i64 a, .string s] w (RPost (.int .i64 (Vd.asked d a)) r d fp w) := by
  have hs := refSectors h
  have HD := Lib.hid h
  obtain ⟨bv, qv, kp, tn, rfl, h⟩ := h
  have c2 := h.c2
  clear h
  by_cases ho : d.on = true
  · rw [ho] at c2
    have h1 : a < 0 ∨ (d.secs.length : Int) ≤ a := by
      unfold Vd.asked at h0
      rw [if_pos ho] at h0
      by_cases h1 : a < 0 ∨ (d.secs.length : Int) ≤ a
      · exact h1
      · rw [if_neg h1] at h0; exact absurd rfl h0
    have e : Vd.asked d a = 81 := by unfold Vd.asked; rw [if_pos ho, if_pos h1]
    rw [e]
    clear e h0 ho
    by_cases h2 : a < 0
    · clear h1
      go_enter Try.func35, Try.ntmps35
      go_wp2_with fail
      go_ret
      exact ⟨rfl, _, HD.out, Fr.refl _ _⟩
    · have h3 : (d.secs.length : Int) ≤ a := by omega
      have h3' : decide ((d.secs.length : Int) ≤ a) = true := decide_eq_true h3
      clear h1
      go_enter Try.func35, Try.ntmps35
      go_wp2_with fail
      with_reducible refine hs.mono ?_
      rintro e w1 ⟨rfl, rfl⟩
      go_wp2_with fail
      go_ret
      exact ⟨rfl, _, HD.out, Fr.refl _ _⟩
  · have e : Vd.asked d a = 80 := by unfold Vd.asked; rw [if_neg ho]
    have ho' : d.on = false := by simpa using ho
    rw [ho'] at c2
    rw [e]
    clear e h0 ho ho'
    go_enter Try.func35, Try.ntmps35
    go_wp2_with fail
    go_ret
    exact ⟨rfl, _, HD.out, Fr.refl _ _⟩
set_option maxHeartbeats 1000000 in
theorem refWrite_size (h : RF w r d fp) (a : Int) (s : ByteArray) (h0 : Vd.asked d a = 0) (hz : s.size ≠ 64) (hm : s.size ≤ 9223372036854775807) : Calls Try.prog 35 #[.pointer (some ⟨r, 0, none⟩), .int .i64 a, .string s] w (RPost (.int .i64 82) r d fp w) := by
  have hs := refSectors h
  have HD := Lib.hid h
  obtain ⟨bv, qv, kp, tn, rfl, h⟩ := h
  have c2 := h.c2
  obtain ⟨ho, h1, h2⟩ := asked_zero h0
  rw [ho] at c2
  have g1 : ¬ a < 0 := by omega
  have g2 : decide ((d.secs.length : Int) ≤ a) = false := decide_eq_false (by omega)
  have q2 : ((s.size : Int) != 64) = true := by simpa using (by omega : ¬ (s.size : Int) = 64)
  clear h h0 ho hz
  go_enter Try.func35, Try.ntmps35
  go_wp2_with fail
  with_reducible refine hs.mono ?_
  rintro e w1 ⟨rfl, rfl⟩
  go_wp2_with fail
  go_ret
  exact ⟨rfl, _, HD.out, Fr.refl _ _⟩
set_option maxHeartbeats 1000000 in
theorem refWrite_full (h : RF w r d fp) (a : Int) (s : ByteArray) (h0 : Vd.asked d a = 0) (hz : s.size = 64) (hr : d.room = 0) : Calls Try.prog 35 #[.pointer (some ⟨r, 0, none⟩), .int .i64 a, .string s] w (RPost (.int .i64 83) r d fp w) := by
  have hs := refSectors h
  have HD := Lib.hid h
  obtain ⟨bv, qv, kp, tn, rfl, h⟩ := h
  have c2 := h.c2
  have c6 : w.cell? ⟨r, 6, none⟩ = some (.int .i64 d.room) := h.self.cell 6
  rw [hr] at c6
  obtain ⟨ho, h1, h2⟩ := asked_zero h0
  rw [ho] at c2
  have g1 : ¬ a < 0 := by omega
  have g2 : decide ((d.secs.length : Int) ≤ a) = false := decide_eq_false (by omega)
  clear h h0 ho hr
  go_enter Try.func35, Try.ntmps35
  go_wp2_with fail
  with_reducible refine hs.mono ?_
  rintro e w1 ⟨rfl, rfl⟩
  go_wp2_with fail
  go_ret
  exact ⟨rfl, _, HD.out, Fr.refl _ _⟩
set_option maxHeartbeats 1000000 in
theorem refWrite_burn (h : RF w r d fp) (a : Int) (s : ByteArray) (h0 : Vd.asked d a = 0) (hz : s.size = 64) (hr : d.room ≠ 0) (hb : (Vd.burns d).1 = true) : Calls Try.prog 35 #[.pointer (some ⟨r, 0, none⟩), .int .i64 a, .string s] w (RPost (.int .i64 80) r (Vd.burns d).2 fp w) := by
  have hs := refSectors h
  obtain ⟨ho, h1, h2⟩ := asked_zero h0
  have hbu := refBurn h ho
  rw [hb] at hbu
  obtain ⟨bv, qv, kp, tn, rfl, h⟩ := h
  have c2 := h.c2
  have c6 : w.cell? ⟨r, 6, none⟩ = some (.int .i64 d.room) := h.self.cell 6
  rw [ho] at c2
  have g1 : ¬ a < 0 := by omega
  have g2 : decide ((d.secs.length : Int) ≤ a) = false := decide_eq_false (by omega)
  have r1 : (d.room == 0) = false := by simpa using hr
  clear h h0 ho hr hb
  go_enter Try.func35, Try.ntmps35
  go_wp2_with fail
  with_reducible refine hs.mono ?_
  rintro e w1 ⟨rfl, rfl⟩
  go_wp2_with fail
  with_reducible refine hbu.mono ?_
  rintro e w1 ⟨rfl, hF⟩
  go_wp2_with fail
  go_ret
  exact ⟨rfl, hF⟩
set_option maxHeartbeats 1000000 in
theorem refWrite_ok (h : RF w r d fp) (a : Nat) (s : ByteArray) (h0 : Vd.asked d a = 0) (hz : s.size = 64) (hr : d.room ≠ 0) (hb : (Vd.burns d).1 = false) (hw : d.writes < 1000000000) :
    Calls Try.prog 35 #[.pointer (some ⟨r, 0, none⟩), .int .i64 a, .string s] w (RPost (.int .i64 0) r (Vd.write d a s.data.toList).2 fp w) := by
  have hs := refSectors h
  obtain ⟨ho, h1, h2⟩ := asked_zero h0
  have hbu := refBurn h ho
  have hno := burns_no d hb
  have hv : (Vd.write d a s.data.toList).2 = { (Vd.burns d).2 with room := if 0 < (Vd.burns d).2.room then (Vd.burns d).2.room - 1 else (Vd.burns d).2.room, q := (Vd.burns d).2.q ++ [(a, s.data.toList)], writes := (Vd.burns d).2.writes + 1 } := by
    unfold Vd.write
    rw [if_neg (by rw [h0]; simp), if_neg (by simpa using hz), if_neg hr, if_neg (by simp [hb])]
    simp
  rw [hb] at hbu
  rw [hv]
  clear hv
  obtain ⟨bv0, qv0, kp0, tn0, rfl, h⟩ := h
  have c2 := h.c2
  have c6 : w.cell? ⟨r, 6, none⟩ = some (.int .i64 d.room) := h.self.cell 6
  rw [ho] at c2
  have g1 : ¬ (a : Int) < 0 := by omega
  have g2 : decide ((d.secs.length : Int) ≤ (a : Int)) = false := decide_eq_false (by omega)
  have g2' : decide (d.secs.length ≤ a) = false := decide_eq_false (by omega)
  have r1 : (d.room == 0) = false := by simpa using hr
  have hal : a < (Vd.burns d).2.secs.length := by rw [hno.1]; omega
  have hwl : (Vd.burns d).2.writes < 1000000000 := by rw [hno.2.2.2.2]; exact hw
  obtain ⟨d1, hd1⟩ : ∃ d1, (Vd.burns d).2 = d1 := ⟨_, rfl⟩
  rw [hd1] at hbu hal hwl ⊢
  obtain ⟨dz, hdz⟩ : ∃ dz, ({ d1 with room := if 0 < d1.room then d1.room - 1 else d1.room, q := d1.q ++ [(a, s.data.toList)], writes := d1.writes + 1 } : Vd.VD) = dz := ⟨_, rfl⟩
  rw [hdz]
  have HDZ := Lib.hid hdz
  clear h h0 ho hr hb hno hd1 hdz
  have HZ := Lib.hid hz
  go_enter Try.func35, Try.ntmps35
  go_wp2_with fail
  with_reducible refine hs.mono ?_
  rintro e w1 ⟨rfl, rfl⟩
  go_wp2_with fail
  with_reducible refine hbu.mono ?_
  rintro e w1 ⟨rfl, fp1, hF1, hFr1⟩
  obtain ⟨bv, qv, kp, tn, rfl, hR1⟩ := hF1
  clear hbu hs c2 c6
  have hql : d1.q.length < 1000000000 := by have := hR1.ok.writes; omega
  have hw0 : 0 ≤ d1.writes := by have := hR1.ok.writes; omega
  have hrm := hR1.ok.room
  obtain ⟨p, cap, rfl, _⟩ := hR1.qform
  have n1 : w1.cell? ⟨r, 1, none⟩ = some (.slice p d1.q.length cap) := hR1.self.cell 1
  obtain ⟨i0, hi0, hz0, hz1, hz2⟩ := info_parts rw_info
  have hqr : some r ≠ (Value.slice p d1.q.length cap).ownBlock := fun e => hR1.qR e.symm
  have hrl := hR1.self.lt
  have Hi0 := Lib.hid hi0
  have Hz0 := Lib.hid hz0
  have Hz1 := Lib.hid hz1
  have Hz2 := Lib.hid hz2
  have HR1 := Lib.hid hR1
  have HFr1 := Lib.hid hFr1
  clear hi0 hz0 hz1 hz2 hR1 hFr1
  obtain ⟨rm, hrmE⟩ : ∃ rm, d1.room = rm := ⟨_, rfl⟩
  obtain ⟨wn, hwnE⟩ : ∃ wn, d1.writes = wn := ⟨_, rfl⟩
  rw [hrmE] at hrm
  rw [hwnE] at hwl hw0
  obtain ⟨hrm1, hrm2⟩ := hrm
  have HRm := Lib.hid hrmE
  have HWn := Lib.hid hwnE
  clear hrmE hwnE
  have hnews := World.news_of_block (heap_alloc_new w1 (.cells #[.int .i64 (a : Int), .string s] 77))
  have HNews := Lib.hid hnews
  have HOwn := Lib.hid (HR1.out.queue.alloc (.cells #[.int .i64 (a : Int), .string s] 77))
  clear hnews
  go_wp2_with (at_builtin; refine wpList_append_lies _ rfl (.tmp 38) (.tmp 42) 73 rfl 0 77 i0 _ 2 24 Try.underlying73 Hi0.out Hz0.out Hz1.out Hz2.out rfl (by omega) (.slice p d1.q.length cap) d1.q.length (rqcells d1.q) rfl HOwn.out ⟨w1.heap.size, 0, none⟩ 1 1 [.int .i64 (a : Int), .string s] rfl rfl HNews.out (by simp [Value.oneCell']) (by omega) (by unfold maxLen; omega) (by omega) (Nat.zero_le _) (w1.heap.size + 1) (by simp) ?_; intro gq capq w3 hown hgrow hat hltq; have hS3 : Blk w3 r 75 (rcells bv (.slice p d1.q.length cap) kp tn d1) := ((HR1.out.self.alloc _).grown hgrow hqr); have k1 : w3.cell? ⟨r, 1, none⟩ = some (.slice p d1.q.length cap) := hS3.cell 1; have k6 : w3.cell? ⟨r, 6, none⟩ = some (.int .i64 rm) := HRm.out ▸ hS3.cell 6; have k7 : w3.cell? ⟨r, 7, none⟩ = some (.int .i64 wn) := HWn.out ▸ hS3.cell 7; have f1 := hS3.frozen 1; have f6 := hS3.frozen 6; have f7 := hS3.frozen 7; have HS3 := Lib.hid hS3; have HOwn3 := Lib.hid hown; have HGrow := Lib.hid hgrow; have HAt := Lib.hid hat; clear hS3 hown hgrow hat hltq HOwn HNews n1)
  all_goals
    go_ret
    have hl : s.data.toList.length = 64 := by simpa using HZ.out
    have hown' : w3.ownsRow 0 77 2 (.slice (some ⟨gq, 0, none⟩) (d1.q.length + 1) capq) (d1.q.length + 1) (rqcells d1.q ++ rwc (a, s.data.toList)) := by
      have := HOwn3.out
      unfold rwc
      rw [bytes_back]
      exact this
    have hrm' := HRm.out
    have hwn' := HWn.out
    first
      | (have hp : 0 < rm := by assumption
         have hO4 : Only [r] w3 (((w3.setCell ⟨r, 1, none⟩ (.slice (some ⟨gq, 0, none⟩) (d1.q.length + 1) capq)).setCell ⟨r, 6, none⟩ (.int .i64 (rm - 1))).setCell ⟨r, 7, none⟩ (.int .i64 (wn + 1))) := (((Only.refl _ _).own 1 _).own 6 _).own 7 _
         have hend := rwrite_end HR1.out a s.data.toList hal hl _ gq capq HGrow.out hown' HAt.out (rm - 1) (by omega) _ hO4 ((((HS3.out.set_ 1 _).set_ 6 _).set_ 7 _).eq_ (by simp [rcells, hwn']))
         have e : dz = { d1 with q := d1.q ++ [(a, s.data.toList)], room := rm - 1, writes := d1.writes + 1 } := by
           rw [← HDZ.out, hrm', if_pos hp]
         rw [e]
         exact ⟨rfl, _, hend.1, HFr1.out.trans hend.2⟩)
      | (have hO4 : Only [r] w3 ((w3.setCell ⟨r, 1, none⟩ (.slice (some ⟨gq, 0, none⟩) (d1.q.length + 1) capq)).setCell ⟨r, 7, none⟩ (.int .i64 (wn + 1))) := ((Only.refl _ _).own 1 _).own 7 _
         have hend := rwrite_end HR1.out a s.data.toList hal hl _ gq capq HGrow.out hown' HAt.out rm (by omega) _ hO4 (((HS3.out.set_ 1 _).set_ 7 _).eq_ (by simp [rcells, hwn', hrm']))
         have e : dz = { d1 with q := d1.q ++ [(a, s.data.toList)], room := rm, writes := d1.writes + 1 } := by
           rw [← HDZ.out, hrm', if_neg (by omega)]
         rw [e]
         exact ⟨rfl, _, hend.1, HFr1.out.trans hend.2⟩)
theorem refWrite (h : RF w r d fp) (a : Int) (s : ByteArray) (hm : s.size ≤ 9223372036854775807) (hw : d.writes < 1000000000) :
    Calls Try.prog 35 #[.pointer (some ⟨r, 0, none⟩), .int .i64 a, .string s] w (RPost (.int .i64 (Vd.write d a s.data.toList).1) r (Vd.write d a s.data.toList).2 fp w) := by
  by_cases h0 : Vd.asked d a = 0
  · by_cases hs : s.size = 64
    · have hl : ¬ s.data.toList.length ≠ 64 := by simpa using hs
      by_cases hr : d.room = 0
      · have e : Vd.write d a s.data.toList = (83, d) := by unfold Vd.write; rw [if_neg (by simpa using h0), if_neg hl, if_pos hr]
        rw [e]; exact refWrite_full h a s h0 hs hr
      · by_cases hb : (Vd.burns d).1 = true
        · have e : Vd.write d a s.data.toList = (80, (Vd.burns d).2) := by unfold Vd.write; rw [if_neg (by simpa using h0), if_neg hl, if_neg hr, if_pos hb]
          rw [e]; exact refWrite_burn h a s h0 hs hr hb
        · have hz := asked_zero h0
          obtain ⟨k, rfl⟩ : ∃ k : Nat, a = k := ⟨a.toNat, by omega⟩
          have e : (Vd.write d k s.data.toList).1 = 0 := by unfold Vd.write; rw [if_neg (by simpa using h0), if_neg hl, if_neg hr, if_neg hb]
          rw [e]; exact refWrite_ok h k s h0 hs hr (by simpa using hb) hw
    · have hl : s.data.toList.length ≠ 64 := by simpa using hs
      have e : Vd.write d a s.data.toList = (82, d) := by unfold Vd.write; rw [if_neg (by simpa using h0), if_pos hl]
      rw [e]; exact refWrite_size h a s h0 hs hm
  · have e : Vd.write d a s.data.toList = (Vd.asked d a, d) := by unfold Vd.write; rw [if_pos h0]
    rw [e]; exact refWrite_no h a s h0
end
end Go.Proofs.Ytmkcmahfededeaa
