/- The contracts of ber.hasTag, ber.hasForm and ber.each. -/
import Derived.Test.YtlkdbopdmieojaaGreatBerA
import Derived.BigQuiet
import Derived.Deep.QuietTactic
namespace Go.Proofs.YtlkdbopdmieojaaGreat
open Go.RowKit Ber
set_option maxRecDepth 20000
theorem ret_bool {a b : Bool} (h : a = b) : Ending.returned (.bool a) = .returned (.bool b) := by rw [h]
theorem isEmpty_ba (b : ByteArray) : b.toList.isEmpty = decide (b.size = 0) := by
  rw [ByteArray.toList_eq]
  obtain ⟨⟨l⟩⟩ := b
  cases l <;> simp [ByteArray.size]
theorem tagOk_eq (c t : Int) (k : Bool) (b : ByteArray) (ks : List El) : tagOk (.mk c t k b ks) = decide (0 ≤ c ∧ c ≤ 3 ∧ 0 ≤ t ∧ t ≤ 30) := rfl
set_option maxHeartbeats 400000 in
theorem hasTag_any (c t : Int) (k : Bool) (b : ByteArray) (a : Option Addr) (n cap : Nat) (ks : List El) (_ : Hid (n = ks.length)) (w : World) :
    Calls Tryz.prog 96 #[.agg #[.int .i64 c, .int .i64 t, .bool k, .string b, .slice a n cap]] w fun e w' => e = .returned (.bool (tagOk (.mk c t k b ks))) ∧ Below w.heap.size w w' := by
  rw [tagOk_eq]
  by_cases h0 : 0 ≤ c
  · by_cases h1 : c ≤ 3
    · by_cases h2 : 0 ≤ t
      · by_cases h3 : t ≤ 30
        all_goals
          go_enter Tryz.func96, Tryz.ntmps96
          go_wp2_with fail
          go_ret
          exact ⟨ret_bool (by simp; omega), (Below.refl _ _).alloc (Nat.le_refl _) _⟩
      · go_enter Tryz.func96, Tryz.ntmps96
        go_wp2_with fail
        go_ret
        exact ⟨ret_bool (by simp; omega), (Below.refl _ _).alloc (Nat.le_refl _) _⟩
    · go_enter Tryz.func96, Tryz.ntmps96
      go_wp2_with fail
      go_ret
      exact ⟨ret_bool (by simp; omega), (Below.refl _ _).alloc (Nat.le_refl _) _⟩
  · go_enter Tryz.func96, Tryz.ntmps96
    go_wp2_with fail
    go_ret
    exact ⟨ret_bool (by simp; omega), (Below.refl _ _).alloc (Nat.le_refl _) _⟩
set_option maxHeartbeats 400000 in
theorem hasForm_any (c t : Int) (k : Bool) (b : ByteArray) (a : Option Addr) (n cap : Nat) (ks : List El) (hn : Hid (n = ks.length)) (w : World) :
    Calls Tryz.prog 97 #[.agg #[.int .i64 c, .int .i64 t, .bool k, .string b, .slice a n cap]] w fun e w' => e = .returned (.bool (formOk (.mk c t k b ks))) ∧ Below w.heap.size w w' := by
  cases k with
  | true =>
    go_enter Tryz.func97, Tryz.ntmps97
    go_wp2_with fail
    go_ret
    exact ⟨ret_bool (isEmpty_ba b), (Below.refl _ _).alloc (Nat.le_refl _) _⟩
  | false =>
    go_enter Tryz.func97, Tryz.ntmps97
    go_wp2_with fail
    go_ret
    refine ⟨ret_bool ?_, (Below.refl _ _).alloc (Nat.le_refl _) _⟩
    show ((n : Int) == 0) = decide (ks.length = 0)
    rw [hn.out, Bool.eq_iff_iff]
    simp
theorem allIn_succ (p : El → Bool) (m : Nat) (c t : Int) (k : Bool) (b : ByteArray) (ks : List El) : allIn p (m + 1) (.mk c t k b ks) = (p (.mk c t k b ks) && ks.all (allIn p m)) := rfl
theorem all_no {p : El → Bool} {m j : Nat} {ks : List El} (h : j < ks.length) (hd : allIn p m ks[j] = false) : ks.all (allIn p m) = false := List.all_eq_false.2 ⟨_, List.getElem_mem h, by simp [hd]⟩
theorem all_yes {p : El → Bool} {m : Nat} {ks : List El} (h : ∀ i (h : i < ks.length), allIn p m ks[i] = true) : ks.all (allIn p m) = true := by
  rw [List.all_eq_true]
  intro x hx
  obtain ⟨i, hi, rfl⟩ := List.getElem_of_mem hx
  exact h i hi
theorem callFunc_enter {P : Program} {f : FuncId} {fn : Func} {c : Code} (hf : P.funcs[f]? = some fn) (hname : (fn.name == "runtime.NumGoroutine") = false) (hb : fn.body = some c) (args : Array Value) (w : World) :
    (callFunc f args).run P w = .ok (.enter f args) w := by
  have h1 : fn.name ≠ "runtime.NumGoroutine" := by simpa using hname
  simp [callFunc, hf, h1, hb]
set_option maxHeartbeats 400000 in
theorem each_of (F : FuncId) (hcf : ∀ args w, (callFunc F args).run Tryz.prog w = .ok (.enter F args) w) (p : El → Bool) (hF : Hid (∀ (c t : Int) (k : Bool) (b : ByteArray) (a : Option Addr) (n cap : Nat) (ks : List El) (_ : Hid (n = ks.length)) (w : World),
      Calls Tryz.prog F #[.agg #[.int .i64 c, .int .i64 t, .bool k, .string b, .slice a n cap]] w fun e w' => e = .returned (.bool (p (.mk c t k b ks))) ∧ Below w.heap.size w w'))
    {w : World} {ks : List El} {kv : Value} (h : KsAt w ks kv) : ∀ (m : Nat) (z : Int) (c t : Int) (k : Bool) (b : ByteArray) (wr : World), Hid (z + m = 20) → 0 ≤ z → Below w.heap.size w wr →
    Calls Tryz.prog 95 #[.agg #[.int .i64 c, .int .i64 t, .bool k, .string b, kv], .int .i64 z, .func (.func F) #[] #[]] wr fun e w' => e = .returned (.bool (allIn p m (.mk c t k b ks))) ∧ Below wr.heap.size wr w' := by
  induction h with
  | mk ks a cap g o f h1 h2 h3 h4 ih =>
  intro m z c t k b wr hz hz0 hb
  cases m with
  | zero =>
    have h20 : 20 ≤ z := by have := hz.out; omega
    go_enter Tryz.func95, Tryz.ntmps95
    go_wp2_with fail
    go_ret
    exact ⟨rfl, (Below.refl _ _).alloc (Nat.le_refl _) _⟩
  | succ m =>
    have h20 : z < 20 := by have := hz.out; omega
    have hk := h2.le
    have HI := Lib.hid ih
    have HK := Lib.hid (kid_at h3 h4)
    have HB := Lib.hid hb
    obtain ⟨r0, hr0⟩ : ∃ r, p (.mk c t k b ks) = r := ⟨_, rfl⟩
    have hF1 := hF.out c t k b a ks.length cap ks (Lib.hid rfl)
    rw [hr0] at hF1
    have HF1 := Lib.hid hF1
    rw [allIn_succ, hr0]
    clear ih h3 h4 h2 hb hr0 hF1
    cases r0 with
    | false =>
      go_enter Tryz.func95, Tryz.ntmps95
      go_wp2_with fail
      (with_reducible refine (HF1.out _).mono ?_)
      rintro e w1 ⟨rfl, hb1⟩
      have hb1 : Below wr.heap.size wr w1 := ((Below.refl _ _).alloc (Nat.le_refl _) _).trans (hb1.mono (by simp))
      go_wp2_with fail
      go_ret
      exact ⟨rfl, hb1⟩
    | true =>
      rw [Bool.true_and]
      go_enter Tryz.func95, Tryz.ntmps95
      go_wp2_with fail
      (with_reducible refine (HF1.out _).mono ?_)
      rintro e w1 ⟨rfl, hb0⟩
      have hc4 : w1.cell? ⟨wr.heap.size, 4, none⟩ = some (.slice a ks.length cap) := ((Blk.new wr 47 #[.int .i64 c, .int .i64 t, .bool k, .string b, .slice a ks.length cap]).below hb0 (by simp)).cell 4
      have hb1 : Below wr.heap.size wr w1 := ((Below.refl _ _).alloc (Nat.le_refl _) _).trans (hb0.mono (by simp))
      clear hb0 HF1
      go_wp2_with fail
      clear hc4
      go_loopw [18] (fun i w2 => ∃ j : Nat, j ≤ ks.length ∧ i = .int .i64 j ∧ Hid (∀ i (h : i < ks.length), i < j → allIn p m ks[i] = true) ∧ Below wr.heap.size wr w2) (fun i _ => ks.length - (intOf i).toNat)
      case atStart => exact ⟨0, Nat.zero_le _, rfl, Lib.hid (fun i h h0 => absurd h0 (by omega)), hb1⟩
      case round w2 =>
        obtain ⟨j, hj, rfl, HJ, hbel⟩ := hrel
        by_cases hlt : j < ks.length
        · obtain ⟨kc, kt, kk, kb, a2, n2, cap2, rfl, hg, hf, he, hfj, hn2, hc⟩ := HK.out j hlt
          have hI := HI.out j hlt m (z + 1) kc kt kk kb
          rw [hfj, ← he] at hI
          obtain ⟨c0, c1, c2, c3, c4⟩ := hc.later (HB.out.trans (hbel.mono HB.out.size)) hg
          obtain ⟨r, hr⟩ : ∃ r, allIn p m ks[j] = r := ⟨_, rfl⟩
          rw [hr] at hI
          have HR := Lib.hid hr
          have Hc := Lib.hid hc
          have HII := Lib.hid hI
          have HBB := Lib.hid hbel
          have hs := hbel.size
          clear hr hc he hfj hn2 hI hbel
          cases r with
          | false =>
            go_wp2_with fail
            (with_reducible refine (HII.out _ (Lib.hid (by have := hz.out; omega)) (by omega) ((HB.out.trans (HBB.out.mono HB.out.size)).trans ((Below.refl _ _).alloc (by have := HB.out.size; omega) _))).mono ?_)
            rintro e w3 ⟨rfl, hb3⟩
            go_wp2_with fail
            go_ret
            exact ⟨by rw [all_no hlt HR.out]; rfl, HBB.out.trans (((Below.refl _ _).alloc hs _).trans (hb3.mono (by simp; omega)))⟩
          | true =>
            go_wp2_with fail
            (with_reducible refine (HII.out _ (Lib.hid (by have := hz.out; omega)) (by omega) ((HB.out.trans (HBB.out.mono HB.out.size)).trans ((Below.refl _ _).alloc (by have := HB.out.size; omega) _))).mono ?_)
            rintro e w3 ⟨rfl, hb3⟩
            go_wp2_with fail
            go_roundw
            case rel => exact ⟨j + 1, by omega, by go_num, Lib.hid (fun i h h0 => by
              rcases Nat.lt_succ_iff_lt_or_eq.1 h0 with h1 | h1
              · exact HJ.out i h h1
              · subst h1; exact HR.out), HBB.out.trans (((Below.refl _ _).alloc hs _).trans (hb3.mono (by simp; omega)))⟩
            case measure => simp [intOf]; omega
        · go_wp2_with fail
          go_ret
          exact ⟨by rw [all_yes (fun i h => HJ.out i h (by omega))]; rfl, hbel⟩
theorem eachTag_any {w : World} {ks : List El} {kv : Value} (h : KsAt w ks kv) (m : Nat) (z : Int) (c t : Int) (k : Bool) (b : ByteArray) (wr : World) (hz : Hid (z + m = 20)) (h0 : 0 ≤ z) (hb : Below w.heap.size w wr) :
    Calls Tryz.prog 95 #[.agg #[.int .i64 c, .int .i64 t, .bool k, .string b, kv], .int .i64 z, .func (.func 96) #[] #[]] wr fun e w' => e = .returned (.bool (allIn tagOk m (.mk c t k b ks))) ∧ Below wr.heap.size wr w' :=
  each_of 96 (callFunc_enter Tryz.func96 (by kernel_rfl) (by rfl)) tagOk (Lib.hid hasTag_any) h m z c t k b wr hz h0 hb
theorem eachForm_any {w : World} {ks : List El} {kv : Value} (h : KsAt w ks kv) (m : Nat) (z : Int) (c t : Int) (k : Bool) (b : ByteArray) (wr : World) (hz : Hid (z + m = 20)) (h0 : 0 ≤ z) (hb : Below w.heap.size w wr) :
    Calls Tryz.prog 95 #[.agg #[.int .i64 c, .int .i64 t, .bool k, .string b, kv], .int .i64 z, .func (.func 97) #[] #[]] wr fun e w' => e = .returned (.bool (allIn formOk m (.mk c t k b ks))) ∧ Below wr.heap.size wr w' :=
  each_of 97 (callFunc_enter Tryz.func97 (by kernel_rfl) (by rfl)) formOk (Lib.hid hasForm_any) h m z c t k b wr hz h0 hb
end Go.Proofs.YtlkdbopdmieojaaGreat
