/- Put into an empty tree, and the law's first call. -/
import Derived.Test.YtoleojljpaglhaaGreatTrD
import Derived.Test.YtoleojljpaglhaaGreatTrE
import Derived.Test.YtoleojljpaglhaaGreatPdA
set_option maxRecDepth 20000
namespace Go.Proofs.YtoleojljpaglhaaGreat
open Go.RowKit
set_option maxRecDepth 20000
section
variable {S : Nat → Prop} {w0 w w' wr : World} {T g cap q p dg m n : Nat} {H : TKept} {G G' : PH} {d d' : Vd.VD} {L L' : Wa.WL} {P P' : PP} {t : PT} {kb vb : ByteArray} {x : Obj} {v : Value}
theorem topen_nil (r : Int) (w : World) : Calls Tryz.prog 9 #[.pointer none, .int .i64 r] w fun e w' => e = .returned (.tuple #[.pointer none, .int .i64 1]) ∧ w = w' := by
  go_enter Tryz.func9, Tryz.ntmps9
  go_wp2_with fail
  go_ret2
  exact ⟨rfl, rfl⟩
theorem topen_out (r : Int) (w : World) (h : r < 0 ∨ 7 < r) : Calls Tryz.prog 9 #[.pointer (some ⟨p, 0, none⟩), .int .i64 r] w fun e w' => e = .returned (.tuple #[.pointer none, .int .i64 1]) ∧ w = w' := by
  by_cases h0 : r < 0
  · clear h
    go_enter Tryz.func9, Tryz.ntmps9
    go_wp2_with fail
    go_ret2
    exact ⟨rfl, rfl⟩
  · have h1 : (7 : Int) < r := by omega
    clear h
    go_enter Tryz.func9, Tryz.ntmps9
    go_wp2_with fail
    go_ret2
    exact ⟨rfl, rfl⟩
theorem topen_in (r : Int) (w : World) (h0 : 0 ≤ r) (h7 : r ≤ 7) : Calls Tryz.prog 9 #[.pointer (some ⟨p, 0, none⟩), .int .i64 r] w fun e w' => e = .returned (.tuple #[.pointer (some ⟨w.heap.size, 0, none⟩), .int .i64 0]) ∧ w' = w.alloc (.cells #[.pointer (some ⟨p, 0, none⟩), .int .i64 r] 36) := by
  have h1 : ¬ r < 0 := by omega
  have h2 : ¬ (7 : Int) < r := by omega
  clear h0 h7
  go_enter Tryz.func9, Tryz.ntmps9
  go_wp2_with fail
  go_ret2
  exact ⟨rfl, rfl⟩
theorem asked_ok {b : Nat} (hc : w.cell? ⟨b, 0, none⟩ = some (.pointer (some ⟨p, 0, none⟩))) (hk : kb.size = 1) (hv : vb.size = 1) : Calls Tryz.prog 27 #[.pointer (some ⟨b, 0, none⟩), .string kb, .string vb] w fun e w' => e = .returned (.int .i64 0) ∧ w = w' := by
  have H := Lib.hid (tnone_yes hc)
  have hne : kb.toList.isEmpty = false := by
    rw [ByteArray.toList_eq, List.isEmpty_eq_false_iff]
    intro e
    have : kb.data.toList.length = 1 := by rw [Array.length_toList]; exact hk
    rw [e] at this
    cases this
  have hki : (kb.size : Int) = 1 := by omega
  have hvi : (vb.size : Int) = 1 := by omega
  clear hc
  go_enter Tryz.func27, Tryz.ntmps27
  go_wp2_with fail
  (with_reducible refine H.out.mono ?_)
  rintro e w1 ⟨rfl, rfl⟩
  go_wp2_with fail
  go_ret
  exact ⟨rfl, rfl⟩
/-- Put's first half: what it makes, and the root -/
structure PutS (w0 : World) (H : TKept) (G : PH) (d : Vd.VD) (L : Wa.WL) (P : PP) (T : Nat) (kb vb : ByteArray) (wr : World) : Prop where
  rt : Calls Tryz.prog 28 #[.pointer (some ⟨G.pg, 0, none⟩), .int .i64 0] (wr.alloc (.cells #[.string kb, .string vb, .int .i64 0] 94)).drew fun e w' => e = .returned (.tuple #[.int .i64 0, .int .i64 0]) ∧ (wr.alloc (.cells #[.string kb, .string vb, .int .i64 0] 94)).drew = w'
theorem put_s (h : Tk w0 H G d L P wr) (hr : P.seenRoots.getD 0 0 = 0) : PutS w0 H G d L P T kb vb wr := by
  have h1 := (h.later (below_new wr (.cells #[.string kb, .string vb, .int .i64 0] 94))).later (Below.refl _ _).drew
  have hp := proot_any h1.pg 0
  have e1 : prootV P 0 = .tuple #[.int .i64 0, .int .i64 0] := by
    unfold prootV
    rw [if_pos (by omega)]
    show Value.tuple #[.int .i64 (P.seenRoots.getD 0 0), .int .i64 0] = _
    rw [hr]
  rw [e1] at hp
  exact ⟨hp⟩
set_option maxHeartbeats 1000000 in
theorem put_with {K : World → Prop} {r : Int} (h : Tk w0 H G d L P wr) (hT : H T = some (treeO G.pg)) (hk : kb.size = 1) (hv : vb.size = 1) (hr : P.seenRoots.getD 0 0 = 0)
    (hgr : ∀ g W, Tk w0 (addH H g (itemO kb vb)) G d L P W → H g = none → Calls Tryz.prog 41 #[.pointer (some ⟨T, 0, none⟩), .agg (nodeC g 1)] W fun e w' => e = .returned (.int .i64 r) ∧ K w') :
    Calls Tryz.prog 16 #[.pointer (some ⟨T, 0, none⟩), .string kb, .string vb] wr fun e w' => e = .returned (.int .i64 r) ∧ K w' := by
  have HAS := Lib.hid (asked_ok (h.tree hT).1 hk hv)
  have HRT := Lib.hid (put_s (T := T) (kb := kb) (vb := vb) h hr).rt
  have h1 := h.later (below_new wr (.cells #[.string kb, .string vb, .int .i64 0] 94))
  have hb1 := Blk.new wr 94 #[.string kb, .string vb, .int .i64 0]
  have c0 : (wr.alloc (.cells #[.string kb, .string vb, .int .i64 0] 94)).cell? ⟨wr.heap.size, 0, none⟩ = some (.string kb) := hb1.cell 0
  have c1 : (wr.alloc (.cells #[.string kb, .string vb, .int .i64 0] 94)).cell? ⟨wr.heap.size, 1, none⟩ = some (.string vb) := hb1.cell 1
  have c2 : (wr.alloc (.cells #[.string kb, .string vb, .int .i64 0] 94)).cell? ⟨wr.heap.size, 2, none⟩ = some (.int .i64 0) := hb1.cell 2
  obtain ⟨t0, t1⟩ := h1.tree hT
  have hcl := hgr _ _ ((h1.push (itemO kb vb)).later (Below.refl _ _).drew) (h1.nil_ (Nat.le_refl _))
  have HGR : Hid (Calls Tryz.prog 41 #[.pointer (some ⟨T, 0, none⟩), .agg #[.bool false, .int .i64 0, .slice (some ⟨wr.heap.size + 1, 0, none⟩) 1 1]] ((wr.alloc (.cells #[.string kb, .string vb, .int .i64 0] 94)).alloc (.cells #[.string kb, .string vb, .int .i64 0] 94)).drew fun e w' => e = .returned (.int .i64 r) ∧ K w') := Lib.hid (by
    rw [World.size_alloc] at hcl
    exact hcl)
  clear h hT hk hv hr hgr h1 hb1 hcl
  go_enter Tryz.func16, Tryz.ntmps16
  go_wp2_with fail
  (with_reducible refine HAS.out.mono ?_)
  rintro e w1 ⟨rfl, rfl⟩
  go_wp2_with fail
  go_region_held3 (fun W => W.cell? ⟨T, 0, none⟩ = some (.pointer (some ⟨G.pg, 0, none⟩)) ∧ W.cell? ⟨T, 1, none⟩ = some (.int .i64 0)) (first | exact ⟨t0, t1⟩ | go_keep)
    (((with_reducible refine HRT.out.mono ?_); rintro e w4 ⟨rfl, rfl⟩))
  all_goals
    go_wp2_with fail
    (with_reducible refine HGR.out.mono ?_)
    rintro e w5 ⟨rfl, hkk⟩
    have HF := Lib.hid hkk
    clear hkk
    go_wp2_with fail
    go_ret
    exact ⟨rfl, HF.out⟩
theorem put_closed (h : Tk w0 H G d L P wr) (ht : P.tx = none) (hT : H T = some (treeO G.pg)) (hk : kb.size = 1) (hv : vb.size = 1) (hr : P.seenRoots.getD 0 0 = 0) :
    Calls Tryz.prog 16 #[.pointer (some ⟨T, 0, none⟩), .string kb, .string vb] wr fun e w' => e = .returned (.int .i64 90) ∧ Tk w0 H G d L P w' :=
  put_with h hT hk hv hr (fun g W hW hg => by
    have hTg : T ≠ g := fun e => by rw [e, hg] at hT; cases hT
    refine (grow_closed hW ht ((addH_ne hTg).trans hT) false 0 (some ⟨g, 0, none⟩) 1 1).mono ?_
    rintro e w' ⟨he, hk⟩
    exact ⟨he, hk.forget hg⟩)
theorem put_open (h : Tk w0 H G d L (P.with_ t) wr) (hT : H T = some (treeO G.pg)) (hk : kb.size = 1) (hv : vb.size = 1) (hr : t.roots.getD 0 0 = 0) (hf : freeAt t.pages (P.n - 8) 1 = 1) (hn : 8 ≤ P.n) (hn2 : P.n ≤ 5000) (hz : t.sz ≤ 5000 ∧ t.dz ≤ 5000) :
    Calls Tryz.prog 16 #[.pointer (some ⟨T, 0, none⟩), .string kb, .string vb] wr fun e w' => e = .returned (.int .i64 0) ∧ Tk w0 H G d L (P.with_ (rootT (writeT (writeT t 1 zeros) 1 (pageB kb vb)) 0 1)) w' :=
  put_with h hT hk hv hr (fun g W hW hg => by
    have hTg : T ≠ g := fun e => by rw [e, hg] at hT; cases hT
    refine (grow_b hW ((addH_ne hTg).trans hT) (addH_self _ _ _) hk hv hf hn hn2 hz).mono ?_
    rintro e w' ⟨he, hk⟩
    exact ⟨he, hk.forget hg⟩)
/-- a new disk is opened -/
theorem hopen_gen {m n : Nat} (hn : 8 ≤ n) (hn2 : n ≤ 5000) (hm : 12 * n ≤ m) (hm2 : m ≤ 65536) (h : DK (Up w0.heap.size) w0 dg (newVD m) w) :
    Calls Tryz.prog 8 #[.pointer (some ⟨dg, 0, none⟩), .int .i64 (n : Int)] w fun e w' => ∃ G d' L', e = .returned (.tuple #[.pointer (some ⟨G.pg, 0, none⟩), .int .i64 0]) ∧ PG (Up w0.heap.size) w0 w' G d' L' (openedP n noPg 0 zroots) ∧ Pb.Inv d' L' (openedP n noPg 0 zroots) [] ∧ d'.writes ≤ 0 := by
  obtain ⟨fp, hD, hl⟩ := h.ex
  have hC := cold_new m n hn hn2 hm
  refine (popen_cold h.bel h.up hD hl hC (by simp [newVD])).mono ?_
  rintro e w' (⟨G', L', d', he, hg, _, hL, hP, hrel, hh⟩ | ⟨_, _, _, _, _, _, _, _, hf⟩ | hrm)
  · have hi := inv_opened hh (wf_none n) hL (stamps_new m n hm) hn hn2 (by rw [hrel.len]; simp [newVD]; omega)
    exact ⟨G', d', L', he, hP, hi, by have := hrel.wr; simpa [newVD] using this⟩
  · exact absurd rfl hf
  · exact absurd rfl hrm
theorem tbegin (h : Tk w0 H G d L (openedP n noPg 0 zroots) wr) (hI : Pb.Inv d L (openedP n noPg 0 zroots) []) (hw : d.writes ≤ 0) :
    Calls Tryz.prog 40 #[.pointer (some ⟨G.pg, 0, none⟩)] wr fun e w' => e = .returned (.int .i64 0) ∧ ∃ G', G'.pg = G.pg ∧ Tk w0 H G' d L ((openedP n noPg 0 zroots).with_ (freshT (openedP n noPg 0 zroots))) w' := by
  refine (pbegin_any h.pg.rebase rfl rfl [] rfl (by simp) hI.on (by simp only [List.length_nil]; omega) (by simp)).mono ?_
  rintro e w' ⟨he, G', h1, h2, h3⟩
  exact ⟨he, G', h1, h.viaPg h3⟩
end
end Go.Proofs.YtoleojljpaglhaaGreat
/- The law TreeNone: its first call, the calls of a nil and of a zero tree, and the walk. -/
set_option maxRecDepth 20000
namespace Go.Proofs.YtoleojljpaglhaaGreat
open Go.RowKit
section
variable {S : Nat → Prop} {w0 w w' wr : World} {T : Nat} {H : TKept} {G G' : PH} {d d' : Vd.VD} {L L' : Wa.WL} {P P' : PP} {t : PT} {kb vb : ByteArray} {v : Value}
theorem fz_of (h : Tk w0 H G d L (P.with_ t) wr) (hT : H T = some (treeO G.pg)) (hup : P.up = true) (h1 : t.pages 1 = some (pageB kb vb)) (h2 : t.roots.getD 0 0 = 1) : Fz wr T G.pg kb vb := fun W hW => by
  have hh := h.later hW
  obtain ⟨t0, t1⟩ := hh.tree hT
  refine ⟨t0, t1, ?_, ?_⟩
  · have hr := pread_any hh.pg hup 1 (by decide)
    have e1 : prd (P.with_ t) 1 = .tuple #[.string (pageB kb vb), .int .i64 0] := by
      unfold prd
      have e2 : (P.with_ t).seen 1 = some (pageB kb vb) := h1
      rw [e2]
      rfl
    rw [e1] at hr
    exact hr
  · have hr := proot_any hh.pg 0
    have e1 : prootV (P.with_ t) 0 = .tuple #[.int .i64 1, .int .i64 0] := by
      unfold prootV
      rw [if_pos (by omega)]
      show Value.tuple #[.int .i64 (t.roots.getD 0 0), .int .i64 0] = _
      rw [h2]
    rw [e1] at hr
    exact hr
theorem put_self (f : Int → Option ByteArray) (k : Int) (s : ByteArray) : putF f k s k = some s := by
  unfold putF
  rw [if_pos rfl]
set_option maxHeartbeats 2000000 in
theorem talive_any (w : World) : Calls Tryz.prog 15 #[] w fun e w' => e = .returned (.bool true) ∧ Below w.heap.size w w' := by
  have hN : Calls Tryz.prog 7 #[.int .i64 3600] w fun e w' => e = .returned (.tuple #[.pointer (some ⟨w.heap.size + 2, 0, none⟩), .int .i64 0]) ∧ DiskAt w' (w.heap.size + 2) w.heap.size (w.heap.size + 1) (.slice none 0 0) (newVD 3600) ∧ Below w.heap.size w w' := new_in 3600 w (by omega) (by omega)
  have HN := Lib.hid hN
  clear hN
  go_enter Tryz.func15, Tryz.ntmps15
  go_wp2_with fail
  (with_reducible refine HN.out.mono ?_)
  rintro e w1 ⟨rfl, hD, hb1⟩
  have hdk : DK (Up w.heap.size) w (w.heap.size + 2) (newVD 3600) w1 := ⟨⟨_, wnew_df hD, by simp [Up]⟩, KeepS.ofBelow hb1, fun _ h => h⟩
  have HO : Hid (Calls Tryz.prog 8 #[.pointer (some ⟨w.heap.size + 2, 0, none⟩), .int .i64 300] w1 fun e w' => ∃ G d' L', e = .returned (.tuple #[.pointer (some ⟨G.pg, 0, none⟩), .int .i64 0]) ∧ PG (Up w.heap.size) w w' G d' L' (openedP 300 noPg 0 zroots) ∧ Pb.Inv d' L' (openedP 300 noPg 0 zroots) [] ∧ d'.writes ≤ 0) := Lib.hid (hopen_gen (n := 300) (by omega) (by omega) (by omega) (by omega) hdk)
  clear hD hb1 hdk
  go_wp2_with fail
  (with_reducible refine HO.out.mono ?_)
  rintro e w2 ⟨G, d, L, rfl, hP, hI, hw⟩
  have HPG := Lib.hid hP
  have HI := Lib.hid hI
  have HW := Lib.hid hw
  have HTO := Lib.hid (topen_in (p := G.pg) 0 w2 (by omega) (by omega))
  clear hP hI hw
  go_wp2_with fail
  (with_reducible refine HTO.out.mono ?_)
  rintro e w3 ⟨rfl, rfl⟩
  have hk0 : Tk w (fun _ => Option.none) G d L (openedP 300 noPg 0 zroots) w2 := ⟨HPG.out, fun q x hx => by cases hx⟩
  have hk1 := hk0.push (treeO G.pg)
  obtain ⟨T, hT0⟩ : ∃ T, w2.heap.size = T := ⟨_, rfl⟩
  rw [hT0] at hk1
  obtain ⟨H, hH⟩ : ∃ H, addH (fun _ => Option.none) T (treeO G.pg) = H := ⟨_, rfl⟩
  have hT : H T = some (treeO G.pg) := by rw [← hH]; exact addH_self _ _ _
  rw [hH] at hk1
  have HT := Lib.hid hT
  obtain ⟨w3, hw3⟩ : ∃ w3, w2.alloc (.cells #[.pointer (some ⟨G.pg, 0, none⟩), .int .i64 0] 36) = w3 := ⟨_, rfl⟩
  have hk1 : Tk w H G d L (openedP 300 noPg 0 zroots) w3 := by rw [← hw3]; exact hk1
  rw [hw3]
  (try rw [hT0])
  have HPU := Lib.hid (put_closed (kb := ⟨#[97]⟩) (vb := ⟨#[49]⟩) hk1 rfl hT rfl rfl rfl)
  clear hk0 hk1 hH hT hw3
  go_wp2_with fail
  (try rw [hT0])
  (with_reducible refine HPU.out.mono ?_)
  rintro e w4 ⟨rfl, hk4⟩
  have HBG := Lib.hid (tbegin hk4 HI.out HW.out)
  clear hk4 hT0
  go_wp2_with fail
  (with_reducible refine HBG.out.mono ?_)
  rintro e w5 ⟨rfl, G', hpg, hk5⟩
  have hT' : H T = some (treeO G'.pg) := by rw [hpg]; exact HT.out
  have HPO := Lib.hid (put_open (kb := ⟨#[98]⟩) (vb := ⟨#[50]⟩) hk5 hT' rfl rfl rfl rfl (by show 8 ≤ 300; omega) (by show 300 ≤ 5000; omega) ⟨by show 0 ≤ 5000; omega, by show 0 ≤ 5000; omega⟩)
  have HT' := Lib.hid hT'
  clear hk5 hT' hpg
  go_wp2_with fail
  (with_reducible refine HPO.out.mono ?_)
  rintro e w6 ⟨rfl, hk6⟩
  have HNX := Lib.hid (next_b (fz_of (kb := ⟨#[98]⟩) (vb := ⟨#[50]⟩) hk6 HT'.out rfl (put_self (writeT (freshT (openedP 300 noPg 0 zroots)) 1 zeros).pages 1 (pageB ⟨#[98]⟩ ⟨#[50]⟩)) rfl) rfl rfl)
  have HB6 : Hid (Below w.heap.size w w6) := Lib.hid (hk6.pg.log.bel.toBelow (Nat.le_refl _))
  clear hk6
  go_wp2_with fail
  (with_reducible refine HNX.out.mono ?_)
  rintro e w7 ⟨rfl, hb7⟩
  have HB7 : Hid (Below w.heap.size w w7) := Lib.hid (HB6.out.trans (hb7.mono HB6.out.size))
  clear hb7
  go_wp2_with fail
  go_ret
  exact ⟨rfl, HB7.out⟩
theorem tnext_no (h : NoTr w v) (k : ByteArray) : Calls Tryz.prog 12 #[v, .string k] w fun e w' => e = .returned (.tuple #[.string ⟨#[]⟩, .string ⟨#[]⟩, .bool false, .int .i64 1]) ∧ Below w.heap.size w w' := by
  have hb3 : Below w.heap.size w (((w.alloc (.cells #[.string k] 9)).alloc (.cells #[.string ⟨#[]⟩, .string ⟨#[]⟩, .int .i64 0] 94)).alloc (.cells #[.bool false] 4)) := ((below_new w _).alloc (by simp) _).alloc (by simp; omega) _
  have HB3 := Lib.hid hb3
  have HNO := Lib.hid (tnone_no (h.later (below_new w (.cells #[.string k] 9))))
  have HAL := Lib.hid (fun m y => all_no (h.later hb3) k m y)
  have c0 : (w.alloc (.cells #[.string k] 9)).cell? ⟨w.heap.size, 0, none⟩ = some (.string k) := (Blk.new w _ #[.string k]).cell 0
  have c1 : (((w.alloc (.cells #[.string k] 9)).alloc (.cells #[.string ⟨#[]⟩, .string ⟨#[]⟩, .int .i64 0] 94)).alloc (.cells #[.bool false] 4)).cell? ⟨w.heap.size, 0, none⟩ = some (.string k) := (((Blk.new w _ #[.string k]).alloc _).alloc _).cell 0
  clear h hb3
  by_cases hl : 100 < k.size
  · have i1 : (100 : Int) < (k.size : Int) := by omega
    clear hl
    go_enter Tryz.func12, Tryz.ntmps12
    go_wp2_with fail
    (with_reducible refine HNO.out.mono ?_)
    rintro e w1 ⟨rfl, rfl⟩
    go_wp2_with fail
    (with_reducible refine (HAL.out _ _).mono ?_)
    rintro e w1 ⟨rfl, rfl⟩
    go_wp2_with fail
    refine bodyPost_ret (v := .tuple #[.string ⟨#[]⟩, .string ⟨#[]⟩, .bool false, .int .i64 1]) (by simp [results, Tryz.results12, go_sem]) rfl ?_
    exact ⟨rfl, HB3.out⟩
  · have i1 : ¬ ((100 : Int) < (k.size : Int)) := by omega
    clear hl
    go_enter Tryz.func12, Tryz.ntmps12
    go_wp2_with fail
    (with_reducible refine (HAL.out _ _).mono ?_)
    rintro e w1 ⟨rfl, rfl⟩
    go_wp2_with fail
    refine bodyPost_ret (v := .tuple #[.string ⟨#[]⟩, .string ⟨#[]⟩, .bool false, .int .i64 1]) (by simp [results, Tryz.results12, go_sem]) rfl ?_
    exact ⟨rfl, HB3.out⟩
theorem tfrom_no (h : NoTr w v) (k : ByteArray) (m : Int) : Calls Tryz.prog 13 #[v, .string k, .int .i64 m] w fun e w' => e = .returned (.tuple #[.slice none 0 0, .int .i64 1]) ∧ Below w.heap.size w w' := by
  have hb3 : Below w.heap.size w ((w.alloc (.cells #[.int .i64 m] 3)).alloc (.cells #[.slice none 0 0] 43)) := (below_new w _).alloc (by simp) _
  have HB3 := Lib.hid hb3
  have HNO := Lib.hid (tnone_no (h.later (below_new w (.cells #[.int .i64 m] 3))))
  have HAL := Lib.hid (fun m y => all_no (h.later hb3) k m y)
  clear h hb3
  by_cases hl : 100 < k.size
  · have i1 : (100 : Int) < (k.size : Int) := by omega
    clear hl
    go_enter Tryz.func13, Tryz.ntmps13
    go_wp2_with fail
    (with_reducible refine HNO.out.mono ?_)
    rintro e w1 ⟨rfl, rfl⟩
    go_wp2_with fail
    (with_reducible refine (HAL.out _ _).mono ?_)
    rintro e w1 ⟨rfl, rfl⟩
    go_wp2_with fail
    go_ret2
    exact ⟨rfl, HB3.out⟩
  · have i1 : ¬ ((100 : Int) < (k.size : Int)) := by omega
    clear hl
    go_enter Tryz.func13, Tryz.ntmps13
    go_wp2_with fail
    (with_reducible refine (HAL.out _ _).mono ?_)
    rintro e w1 ⟨rfl, rfl⟩
    go_wp2_with fail
    go_ret2
    exact ⟨rfl, HB3.out⟩
set_option maxHeartbeats 2000000 in
theorem treeNone_walk (root : Int) (key value : ByteArray) (w : World) : Calls Tryz.prog 5 #[.int .i64 root, .string key, .string value] w fun e w' => e = .returned (.bool true) ∧ Below w.heap.size w w' := by
  have hN : Calls Tryz.prog 7 #[.int .i64 96] w fun e w' => e = .returned (.tuple #[.pointer (some ⟨w.heap.size + 2, 0, none⟩), .int .i64 0]) ∧ DiskAt w' (w.heap.size + 2) w.heap.size (w.heap.size + 1) (.slice none 0 0) (newVD 96) ∧ Below w.heap.size w w' := new_in 96 w (by omega) (by omega)
  have HN := Lib.hid hN
  clear hN
  go_enter Tryz.func5, Tryz.ntmps5
  go_wp2_with fail
  (with_reducible refine HN.out.mono ?_)
  rintro e w1 ⟨rfl, hD, hb1⟩
  have hdk : DK (Up w.heap.size) w (w.heap.size + 2) (newVD 96) w1 := ⟨⟨_, wnew_df hD, by simp [Up]⟩, KeepS.ofBelow hb1, fun _ h => h⟩
  have HO : Hid (Calls Tryz.prog 8 #[.pointer (some ⟨w.heap.size + 2, 0, none⟩), .int .i64 8] w1 fun e w' => ∃ G d' L', e = .returned (.tuple #[.pointer (some ⟨G.pg, 0, none⟩), .int .i64 0]) ∧ PG (Up w.heap.size) w w' G d' L' (openedP 8 noPg 0 zroots) ∧ Pb.Inv d' L' (openedP 8 noPg 0 zroots) [] ∧ d'.writes ≤ 0) := Lib.hid (hopen_gen (n := 8) (by omega) (by omega) (by omega) (by omega) hdk)
  clear hD hb1 hdk
  go_wp2_with fail
  (with_reducible refine HO.out.mono ?_)
  rintro e w2 ⟨G, d, L, rfl, hP, _, _⟩
  have HB2 : Hid (Below w.heap.size w w2) := Lib.hid (hP.log.bel.toBelow (Nat.le_refl _))
  clear hP
  obtain ⟨tv, c, hop, hcase⟩ : ∃ (tv : Value) (c : Int), (Calls Tryz.prog 9 #[.pointer (some ⟨G.pg, 0, none⟩), .int .i64 root] w2 fun e w' => e = .returned (.tuple #[tv, .int .i64 c]) ∧ Below w2.heap.size w2 w') ∧ ((root < 0 ∧ tv = .pointer none ∧ c = 1) ∨ (¬ root < 0 ∧ (7 : Int) < root ∧ tv = .pointer none ∧ c = 1) ∨ (¬ root < 0 ∧ ¬ (7 : Int) < root ∧ tv = .pointer (some ⟨w2.heap.size, 0, none⟩) ∧ c = 0)) := by
    by_cases h0 : root < 0
    · refine ⟨_, _, (topen_out root w2 (.inl h0)).mono ?_, .inl ⟨h0, rfl, rfl⟩⟩
      rintro e w' ⟨he, rfl⟩
      exact ⟨he, Below.refl _ _⟩
    · by_cases h7 : (7 : Int) < root
      · refine ⟨_, _, (topen_out root w2 (.inr h7)).mono ?_, .inr (.inl ⟨h0, h7, rfl, rfl⟩)⟩
        rintro e w' ⟨he, rfl⟩
        exact ⟨he, Below.refl _ _⟩
      · refine ⟨_, _, (topen_in root w2 (by omega) (by omega)).mono ?_, .inr (.inr ⟨h0, h7, rfl, rfl⟩)⟩
        rintro e w' ⟨he, rfl⟩
        exact ⟨he, below_new _ _⟩
  have HOP := Lib.hid hop
  clear hop
  rcases hcase with ⟨h0, rfl, rfl⟩ | ⟨h0, h7, rfl, rfl⟩ | ⟨h0, h7, rfl, rfl⟩
  all_goals
    go_wp2_with fail
    (with_reducible refine HOP.out.mono ?_)
    rintro e w3 ⟨rfl, hb3⟩
    have HB3 : Hid (Below w.heap.size w w3) := Lib.hid (HB2.out.trans (hb3.mono HB2.out.size))
    clear hb3
    go_wp2_with fail
    (with_reducible refine (topen_nil _ _).mono ?_)
    rintro e w4 ⟨rfl, rfl⟩
    have hz : NoTr (w3.alloc (.cells #[.pointer none, .int .i64 0] 36)) (.pointer (some ⟨w3.heap.size, 0, none⟩)) := ⟨.inr ⟨_, rfl, (Blk.new w3 _ #[.pointer none, .int .i64 0]).cell 0⟩⟩
    have HZ := Lib.hid hz
    have HB4 : Hid (Below w.heap.size w (w3.alloc (.cells #[.pointer none, .int .i64 0] 36))) := Lib.hid (HB3.out.alloc HB3.out.size _)
    have HX : Hid (∀ W, NoTr W (.pointer none)) := Lib.hid (fun W => ⟨.inl rfl⟩)
    clear hz
    go_wp2_with fail
    (with_reducible refine (tget_no (HX.out _) _).mono ?_)
    rintro e w5 ⟨rfl, rfl⟩
    go_wp2_with fail
    (with_reducible refine (tcount_no HZ.out).mono ?_)
    rintro e w6 ⟨rfl, hb6⟩
    have HB6 : Hid (Below w.heap.size w w6) := Lib.hid (HB4.out.trans (hb6.mono HB4.out.size))
    have HZ6 := Lib.hid (HZ.out.later hb6)
    clear hb6
    go_wp2_with fail
    (with_reducible refine (tnext_no (HX.out _) _).mono ?_)
    rintro e w7 ⟨rfl, hb7⟩
    have HB7 : Hid (Below w.heap.size w w7) := Lib.hid (HB6.out.trans (hb7.mono HB6.out.size))
    have HZ7 := Lib.hid (HZ6.out.later hb7)
    clear hb7
    go_wp2_with fail
    (with_reducible refine (tfrom_no HZ7.out _ _).mono ?_)
    rintro e w8 ⟨rfl, hb8⟩
    have HB8 : Hid (Below w.heap.size w w8) := Lib.hid (HB7.out.trans (hb8.mono HB7.out.size))
    have HZ8 := Lib.hid (HZ7.out.later hb8)
    clear hb8
    go_wp2_with fail
    (with_reducible refine (tpages_no (HX.out _)).mono ?_)
    rintro e w9 ⟨rfl, hb9⟩
    have HB9 : Hid (Below w.heap.size w w9) := Lib.hid (HB8.out.trans (hb9.mono HB8.out.size))
    have HZ9 := Lib.hid (HZ8.out.later hb9)
    clear hb9
    go_wp2_with fail
    (with_reducible refine (talive_any _).mono ?_)
    rintro e w10 ⟨rfl, hb10⟩
    have HB10 : Hid (Below w.heap.size w w10) := Lib.hid (HB9.out.trans (hb10.mono HB9.out.size))
    have HZ10 := Lib.hid (HZ9.out.later hb10)
    clear hb10
    go_wp2_with fail
    (with_reducible refine (tput_no (HX.out _) _ _).mono ?_)
    rintro e w11 ⟨rfl, rfl⟩
    go_wp2_with fail
    (with_reducible refine (tdelete_no HZ10.out _).mono ?_)
    rintro e w12 ⟨rfl, rfl⟩
    go_wp2_with fail
    go_ret
    exact ⟨rfl, HB10.out⟩
end
end Go.Proofs.YtoleojljpaglhaaGreat
