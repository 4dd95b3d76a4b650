/- The contract of Book.Elements: one more list is kept, or none. -/
import Derived.Test.YtlkdbopdmieojaaGreatBkB
import Derived.Deep.RegionLaw
import Derived.Deep.AppendLies
import Derived.WalkLawsBesides
import Derived.RegionTactic
import Derived.BigRegion
import Derived.StillTailTactics
import Derived.Deep.RegionHeld3
import Derived.Deep.DeepCutAuto
set_option maxRecDepth 20000
namespace Go.Proofs.YtlkdbopdmieojaaGreat
open Go.RowKit Ber
set_option maxRecDepth 20000
theorem ls_info : (Tryz.prog.info? 45).map (fun i => (i.zero, i.size, i.bytes)) = some (some (.slice none 0 0), 1, 24) := by kernel_rfl
/-- a row's shape -/
theorem row_form {w : World} {b : Nat} {e : TypeId} {n : Nat} {v : Value} {xs : List Value} (h : w.ownsRow b e 1 v n xs) :
    xs.length = n ∧ ∃ A cap, v = .slice A n cap ∧ ∀ j u, xs[j]? = some u → ∃ q, A = some ⟨q, 0, none⟩ ∧ w.cell? ⟨q, j, none⟩ = some u := by
  refine ⟨by have := h.1; omega, ?_⟩
  rcases h.2 with ⟨rfl, h0⟩ | ⟨q, cap, cur, rfl, _⟩
  · refine ⟨none, 0, by rw [h0], fun j u hu => ?_⟩
    have := (List.getElem?_eq_some_iff.1 hu).1
    have := h.1
    omega
  · refine ⟨_, cap, rfl, fun j u hu => ⟨q, rfl, ?_⟩⟩
    have hj := (List.getElem?_eq_some_iff.1 hu).1
    have := h.1
    rw [h.cellAt j (by omega)]
    exact hu
theorem one_new (w : World) (e : TypeId) (v : Value) : ∀ j u, [v][j]? = some u → (w.alloc (.cells #[v] e)).cell? ((⟨w.heap.size, 0, none⟩ : Addr).add j) = some u := new_row w _ rfl e _ _ rfl
theorem one_slice (a : Option Addr) (n cap : Nat) : ∀ u ∈ [Value.slice a n cap], u.oneCell' = true := by
  intro u hu
  rw [List.mem_singleton] at hu
  subst hu
  rfl
/-- what Elements leaves -/
def EsPost (w0 w : World) (b : Nat) (RL : List Rc) (v : Value) (e : Ending) (w' : World) : Prop :=
  e = .returned (.tuple #[]) ∧ Below w0.heap.size w w' ∧ EK w w' ∧ ∃ NL, Bk w0 w' b (RL ++ NL) ∧ ∀ r ∈ NL, r.v = v
theorem Bk.add {w0 w w9 : World} {b : Nat} {RL : List Rc} {S T : Nat → Prop} {ks : List El} {v was : Value} (h : Bk w0 w b RL) (hlt : RL.length < 250) (hk : KsQ w S ks v) (hd : ∀ r ∈ RL, ∀ g, r.v.ownBlock = some g → v.ownBlock ≠ some g) (hn : ∀ g, v.ownBlock = some g → w0.heap.size ≤ g)
    {ev wv : Value} (hr : BkR w0 w9 b ev wv (RL.map (·.v) ++ [v]) (RL.map (·.was) ++ [was])) (k9 : EK w w9) (hw : KsQ w9 T ks was) : Bk w0 w9 b (RL ++ [⟨ks, v, was⟩]) := by
  refine ⟨⟨ev, wv, by simpa using hr⟩, ?_, ?_, by simp; omega, Nat.le_trans h.low k9.size, fun r hr => by
    rw [List.mem_append, List.mem_singleton] at hr
    rcases hr with hr | rfl
    · exact h.new r hr
    · exact hn⟩
  · intro r hr
    rw [List.mem_append, List.mem_singleton] at hr
    rcases hr with hr | rfl
    · exact ⟨(h.ks r hr).1.imp (fun _ x => x.ek k9), (h.ks r hr).2.imp (fun _ x => x.ek k9)⟩
    · exact ⟨⟨_, hk.ek k9⟩, ⟨_, hw⟩⟩
  · intro i j ri rj g hi hj hgi hgj
    have key : ∀ (i : Nat) (ri : Rc), (RL ++ [(⟨ks, v, was⟩ : Rc)])[i]? = some ri → RL[i]? = some ri ∨ (i = RL.length ∧ ri = ⟨ks, v, was⟩) := by
      intro i ri hi
      by_cases hl : i < RL.length
      · rw [List.getElem?_append_left hl] at hi; exact .inl hi
      · have := (List.getElem?_eq_some_iff.1 hi).1
        rw [List.length_append, List.length_singleton] at this
        obtain rfl : i = RL.length := by omega
        simp at hi
        exact .inr ⟨rfl, hi.symm⟩
    rcases key i ri hi with h1 | ⟨rfl, rfl⟩ <;> rcases key j rj hj with h2 | ⟨rfl, rfl⟩
    · exact h.apart i j ri rj g h1 h2 hgi hgj
    · exact absurd hgj (hd ri (List.mem_of_getElem? h1) g hgi)
    · exact absurd hgi (hd rj (List.mem_of_getElem? h2) g hgj)
    · rfl
set_option maxHeartbeats 2000000 in
theorem elements_any {w0 w : World} {b : Nat} {RL : List Rc} {S : Nat → Prop} {ks : List El} {v : Value} (h : Bk w0 w b RL) (hk : KsQ w S ks v) (hd : ∀ r ∈ RL, ∀ g, r.v.ownBlock = some g → v.ownBlock ≠ some g) (hn : ∀ g, v.ownBlock = some g → w0.heap.size ≤ g) :
    Calls Tryz.prog 10 #[.pointer (some ⟨b, 0, none⟩), v] w fun e w' => EsPost w0 w b RL v e w' := by
  obtain ⟨ev, wv, hr⟩ := h.ex
  obtain ⟨ea, ec, hev, _⟩ := (row_form hr.e).2
  obtain ⟨wa, wc, hwv, _⟩ := (row_form hr.v).2
  obtain ⟨va, vc, hvv, _, _⟩ := hk.at.len
  have hlen := h.len
  have hlow := h.low
  have hbl := hr.blk.lt
  have c14 := hr.blk.cell 14
  rw [show (bkc ev wv).toArray[14]? = some ev from rfl] at c14
  have H := Lib.hid h
  have HK := Lib.hid hk
  have HD := Lib.hid hd
  have HN := Lib.hid hn
  have HR := Lib.hid hr
  rw [List.length_map] at hev hwv
  clear h hk hd hr hn
  by_cases hlt : RL.length < 250
  · have hlt' : (RL.length : Int) < 250 := by omega
    obtain ⟨i1, hi1, hz0, hz1, hz2⟩ := info_parts ls_info
    have Hi1 := Lib.hid hi1
    have Hz0 := Lib.hid hz0
    have Hz1 := Lib.hid hz1
    have Hz2 := Lib.hid hz2
    clear hi1 hz0 hz1 hz2
    subst hev hwv hvv
    go_enter Tryz.func10, Tryz.ntmps10
    go_wp2_with (at_builtin; refine wpList_append_own_at _ rfl _ _ 32 rfl w0.heap.size 45 i1 _ 1 24 Tryz.underlying32 Hi1.out Hz0.out Hz1.out Hz2.out rfl (by decide) _ RL.length (RL.map (·.v)) rfl (by have := HR.out.e; rw [List.length_map] at this; exact this.alloc _) ⟨w.heap.size, 0, none⟩ 1 1 [_] rfl rfl (one_new _ _ _) (one_slice _ _ _) ?c3 ?c4 ?c5 ?_)
    case c3 => unfold maxLen; omega
    case c4 => omega
    case c5 => first | omega | (simp; omega)
    intro ev1 w1 hown1 hgrow1 hnil1 hat1
    obtain ⟨_, a1, cp1, rfl, _⟩ := row_form hown1
    obtain ⟨d14, f14, hR1, hK1, hB1⟩ := HR.out.pushE hlow hgrow1 (by rw [List.length_map]; exact hown1) (by simpa using hat1)
    have hlow1 := Nat.le_trans hlow hK1.size
    have c15 : (w1.setCell ⟨b, 14, none⟩ (.slice a1 (RL.length + 1) cp1)).cell? ⟨b, 15, none⟩ = some (.slice wa RL.length wc) := (hR1.blk.cell 15).trans rfl
    have HR1 := Lib.hid hR1
    have HK1 := Lib.hid hK1
    have HB1 := Lib.hid hB1
    have hbl1 := hR1.blk.lt
    clear hown1 hgrow1 hnil1 hat1 hR1 hK1 hB1
    go_upto_region 2 with fail
    obtain ⟨V, hV⟩ : ∃ V, w1.setCell ⟨b, 14, none⟩ (.slice a1 (RL.length + 1) cp1) = V := ⟨_, rfl⟩
    rw [hV] at c15 HR1 HK1 HB1 hlow1 hbl1 ⊢
    clear hV d14 f14 c14
    have HOWN : Hid (∀ w5, Below V.heap.size V w5 → ∀ o, (w5.alloc o).ownsRow w0.heap.size 45 1 (.slice wa RL.length wc) RL.length (RL.map (·.was)) ∧ w0.heap.size ≤ (w5.alloc o).heap.size) := Lib.hid (fun w5 hb5 o => by
      have h5 := (HR1.out.later hb5).v
      rw [List.length_map] at h5
      exact ⟨h5.alloc o, by have := hb5.size; simp; omega⟩)
    have HCP : Hid (∀ w5, Below V.heap.size V w5 → Calls Tryz.prog 22 #[.slice va ks.length vc] w5 fun e w' => CopPost w5 ks e w') := Lib.hid (fun w5 hb5 => by
      have hk5 := (HK.out.ek (HK1.out.trans (EK.of_below hb5))).at
      exact copyEls_any hk5 w5 (Below.refl _ _))
    have HAP : Hid (∀ w5 was T, Below V.heap.size V w5 → KsQ w5 T ks was → ∀ w6 g' cap', w6.ownsRow w0.heap.size 45 1 (.slice (some ⟨g', 0, none⟩) (RL.length + 1) cap') (RL.length + 1) (RL.map (·.was) ++ [was]) → (w5.alloc (.cells #[was] 45)).grownBy w6 (Value.slice wa RL.length wc).ownBlock → ((Value.slice wa RL.length wc).ownBlock = some g' ∨ g' = w5.heap.size + 1) → w6.cell? ⟨b, 15, none⟩ = some (.slice wa RL.length wc) ∧ w6.frozen? ⟨b, 15, none⟩ = false ∧ EsPost w0 w b RL (.slice va ks.length vc) (.returned (.tuple #[])) (w6.setCell ⟨b, 15, none⟩ (.slice (some ⟨g', 0, none⟩) (RL.length + 1) cap'))) := Lib.hid (fun w5 was T hb5 hkw w6 g' cap' hown hgrow hat => by
      have h5 := HR1.out.later hb5
      obtain ⟨x1, x2, x3, x4, x5⟩ := h5.pushV (Nat.le_trans hlow1 hb5.size) hgrow (by rw [List.length_map]; exact hown) (by
        rcases hat with e | e
        · exact .inl (by rw [e]; rfl)
        · exact .inr (by rw [e]; rfl))
      have k9 := (HK1.out.trans (EK.of_below hb5)).trans x4
      exact ⟨x1, x2, rfl, (HB1.out.trans (hb5.mono hlow1)).trans x5, k9, [⟨ks, .slice va ks.length vc, was⟩], H.out.add hlt HK.out HD.out HN.out x3 k9 (hkw.ek x4), fun r hr => by rw [List.mem_singleton] at hr; subst hr; rfl⟩)
    have hA2 : RL.length + 1 ≤ maxLen := by unfold maxLen; omega
    have hA3 : (RL.length + 1) * 24 ≤ 140737488355328 := by omega
    have HA2 := Lib.hid hA2
    have HA3 := Lib.hid hA3
    clear hA2 hA3
    go_region_law (first
      | (refine step_append_lies _ (by rfl) _ _ 32 (by rfl) w0.heap.size 45 i1 _ 1 24 Tryz.underlying32 Hi1.out Hz0.out Hz1.out Hz2.out rfl Nat.one_pos (.slice wa RL.length wc) RL.length (RL.map (·.was)) (by rfl) (HOWN.out w5 ((below_drewN (Below.refl _ _) 1).trans hb5) _).1 ⟨w5.heap.size, 0, none⟩ 1 1 [.slice a5 ks.length cap5] (by rfl) (by rfl) (one_new _ _ _) (one_slice _ _ _) Nat.one_pos HA2.out HA3.out (HOWN.out w5 ((below_drewN (Below.refl _ _) 1).trans hb5) _).2 (w5.heap.size + 1) (World.size_alloc _ _) ?_; intro g' cap' w6 hown6 hgrow6 hat6 _; obtain ⟨n6, f6, hL6⟩ := HAP.out w5 _ _ ((below_drewN (Below.refl _ _) 1).trans hb5) HK5.out w6 g' cap' hown6 hgrow6 hat6; have HL6 := Lib.hid hL6; clear hL6 hown6 hgrow6 hat6)
      | (go_simp; go_at_call 22; ((with_reducible refine (HCP.out _ (by exact below_drew1 (Below.refl _ _))).mono ?_)); rintro e w5 ⟨v5, rfl, hk5, hb5⟩; obtain ⟨a5, cap5, rfl, _, _⟩ := hk5.at.len; have HK5 := Lib.hid hk5; clear hk5; have k6 := (hb5.cell (p := ⟨b, 15, none⟩) hbl1).trans c15; have k6a := (World.cell?_alloc_some w5 ⟨b, 15, none⟩ (.cells #[.slice a5 ks.length cap5] 45) (by rw [k6]; rfl)).trans k6))
    all_goals
      clear k6 k6a n6 f6 c15
      go_wp2_with fail
      (try simp only [Exit.inBlock, Exit.then])
      first
        | exact ⟨rfl, _, results_none rfl _ _ _, HL6.out⟩
        | (refine bodyPost_end (results_none rfl _ _ _) rfl ?_; exact HL6.out)
  · have hlt' : ¬ (RL.length : Int) < 250 := by omega
    subst hev hwv hvv
    go_enter Tryz.func10, Tryz.ntmps10
    go_wp2_with fail
    have HP : EsPost w0 w b RL (.slice va ks.length vc) (.returned (.tuple #[])) w := ⟨rfl, (Below.refl _ _).mono hlow, EK.refl _, [], by rw [List.append_nil]; exact H.out, fun r hr => by cases hr⟩
    (try simp only [Exit.inBlock, Exit.then])
    first
      | exact ⟨rfl, _, results_none rfl _ _ _, HP⟩
      | (refine bodyPost_end (results_none rfl _ _ _) rfl ?_; exact HP)
end Go.Proofs.YtlkdbopdmieojaaGreat
