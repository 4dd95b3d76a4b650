/- Plain mathematics: elements one within the other. No program, no conditions. -/
import Derived.Test.YtejnfnpcabldeaaBerP
namespace Go.Proofs.Ytejnfnpcabldeaa.Ber
open Go.Proofs.Ytejnfnpcabldeaa.Oct
/-- so many elements round one that holds a letter -/
def nest : Nat → El
  | 0 => .mk 0 4 false ⟨#[120]⟩ []
  | n + 1 => .mk 0 16 true ⟨#[]⟩ [nest n]
def nestL : Nat → List UInt8
  | 0 => [4, 1, 120]
  | n + 1 => 48 :: UInt8.ofNat (nestL n).length :: nestL n
theorem nestL_length (n : Nat) : (nestL n).length = 2 * n + 3 := by
  induction n with
  | zero => rfl
  | succ n ih => simp only [nestL, List.length_cons, ih]; omega
theorem nest_deep : ∀ (d n : Nat), deepIn d (nest n) = decide (d ≤ n) := by
  intro d
  induction d with
  | zero => intro n; simp [deepIn]
  | succ d ih =>
    intro n
    cases n with
    | zero => simp [deepIn, nest, El.ks]
    | succ n =>
      have := ih n
      simp only [deepIn, nest, El.ks, List.any_cons, List.any_nil, Bool.or_false, this]
      rw [decide_eq_decide]
      omega
theorem nest_tags : ∀ (d n : Nat), allIn tagOk d (nest n) = true := by
  intro d
  induction d with
  | zero => intro n; rfl
  | succ d ih =>
    intro n
    cases n with
    | zero => simp [allIn, nest, El.ks, tagOk, El.c, El.t]
    | succ n => simp [allIn, nest, El.ks, tagOk, El.c, El.t, ih n]
theorem nest_forms : ∀ (d n : Nat), allIn formOk d (nest n) = true := by
  intro d
  induction d with
  | zero => intro n; rfl
  | succ d ih =>
    intro n
    cases n with
    | zero => simp [allIn, nest, El.ks, formOk, El.k]
    | succ n =>
      have h : formOk (nest (n + 1)) = true := rfl
      rw [allIn, h, Bool.true_and]
      simp only [nest, El.ks, List.all_cons, List.all_nil, Bool.and_true]
      exact ih n
theorem nest_esz : ∀ (d n : Nat), n < d → n ≤ 58 → esz d (nest n) = 2 * n + 3 := by
  intro d
  induction d with
  | zero => intro n h; omega
  | succ d ih =>
    intro n h h58
    cases n with
    | zero => rfl
    | succ n =>
      have hc : csz d (nest (n + 1)) = 2 * n + 3 := by
        show (⟨#[]⟩ : ByteArray).size + ([nest n].map (esz d)).sum = _
        rw [show (⟨#[]⟩ : ByteArray).size = 0 from rfl]
        simp only [List.map_cons, List.map_nil, List.sum_cons, List.sum_nil]
        rw [ih n (by omega) (by omega)]
        omega
      rw [esz_succ, hc]
      have : lenN (2 * n + 3) = 1 := by unfold lenN; rw [if_pos (by omega)]
      omega
theorem nest_enc : ∀ (d n : Nat), n < d → n ≤ 58 → enc d (nest n) = nestL n := by
  intro d
  induction d with
  | zero => intro n h; omega
  | succ d ih =>
    intro n h h58
    cases n with
    | zero => rfl
    | succ n =>
      have he := nest_esz d n (by omega) (by omega)
      have hc : csz d (nest (n + 1)) = 2 * n + 3 := by
        show (⟨#[]⟩ : ByteArray).size + ([nest n].map (esz d)).sum = _
        rw [show (⟨#[]⟩ : ByteArray).size = 0 from rfl]
        simp only [List.map_cons, List.map_nil, List.sum_cons, List.sum_nil]
        rw [he]
        omega
      rw [enc_succ, hc]
      have hl : lenL (2 * n + 3) = [UInt8.ofNat (2 * n + 3)] := by unfold lenL; rw [if_pos (by omega)]
      have hf : fb (nest (n + 1)) = 48 := rfl
      have hb : (nest (n + 1)).b.data.toList = [] := rfl
      have hk : ((nest (n + 1)).ks.map (enc d)).flatten = nestL n := by
        show ([nest n].map (enc d)).flatten = _
        simp only [List.map_cons, List.map_nil, List.flatten_cons, List.flatten_nil, List.append_nil]
        exact ih n (by omega) (by omega)
      rw [hl, hf, hb, hk, nestL, nestL_length]
      rfl
theorem nest_good {n : Nat} (h : n < 20) : Good 20 (nest n) :=
  ⟨nest_tags 20 n, nest_forms 20 n, by rw [nest_deep]; exact decide_eq_false (by omega), by rw [nest_esz 20 n h (by omega)]; omega⟩
theorem nest_wr {n : Nat} (h : n < 20) : wr (nest n) = (nestL n, 0) := by rw [wr_good (nest_good h), nest_enc 20 n h (by omega)]
theorem nest_wr_deep {n : Nat} (h : 20 ≤ n) : wr (nest n) = ([], 23) := by
  unfold wr
  rw [if_neg (by rw [nest_tags]; simp), if_neg (by rw [nest_forms]; simp), if_pos (by rw [nest_deep]; exact decide_eq_true h)]
theorem nest_rd {n : Nat} (h : n < 20) : rdTop (nestL n) = (nest n, 0) := by
  rw [← nest_enc 20 n h (by omega)]
  exact rdTop_enc (nest_good h)
theorem nest_hd {n : Nat} (h : n ≤ 58) : hd (nestL n) = (2, 2 * n + 1, 0) := by
  cases n with
  | zero => rfl
  | succ n =>
    have : (UInt8.ofNat (nestL n).length).toNat = 2 * n + 3 := by rw [nestL_length, u8_nat _ (by omega)]
    rw [nestL, hd_cons, if_neg (by decide)]
    unfold hd1
    simp only [this]
    rw [if_pos (by omega)]
    rfl
theorem nest_rd_err : ∀ (d n : Nat), d ≤ n → n ≤ 58 → rd d (nestL n) = .error 23 := by
  intro d
  induction d with
  | zero =>
    intro n _ h
    rw [rd, nest_hd h]
    rfl
  | succ d ih =>
    intro n hd' h
    obtain ⟨k, rfl⟩ : ∃ k, n = k + 1 := ⟨n - 1, by omega⟩
    have hl := nestL_length (k + 1)
    have hh : ((nestL (k + 1)).headD 0).toNat = 48 := rfl
    have hdr : ((nestL (k + 1)).drop 2).take (2 * (k + 1) + 1) = nestL k := by
      show ((48 :: UInt8.ofNat (nestL k).length :: nestL k).drop 2).take _ = _
      simp only [List.drop_succ_cons, List.drop_zero]
      exact List.take_of_length_le (by rw [nestL_length]; omega)
    have hr : rdAll (rd d) (nestL k).length (nestL k) = .error 23 := by
      have hi := ih k (by omega) (by omega)
      cases hq : nestL k with
      | nil => have := nestL_length k; rw [hq] at this; simp at this
      | cons a l =>
        rw [hq] at hi
        rw [List.length_cons, rdAll, hi]
    rw [rd, nest_hd h]
    simp only [if_true]
    rw [if_neg (by omega), hh, if_pos (by decide), hdr, hr]
theorem nest_rdTop {n : Nat} (h : 20 ≤ n) (h2 : n ≤ 58) : rdTop (nestL n) = (zeroE, 23) := by
  unfold rdTop
  rw [nest_rd_err 20 n h h2]
end Go.Proofs.Ytejnfnpcabldeaa.Ber
