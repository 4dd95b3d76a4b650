/- Plain mathematics of chapter 2: elements, their bytes, reading them. No program, no conditions. -/
import Derived.Test.YtlkdbopdmieojaaGreatPlainC
namespace Go.Proofs.YtlkdbopdmieojaaGreat.Ber
open Go.Proofs.YtlkdbopdmieojaaGreat.Oct
/-- an element -/
inductive El where
  | mk (c t : Int) (k : Bool) (b : ByteArray) (ks : List El)
def El.c : El → Int
  | .mk c _ _ _ _ => c
def El.t : El → Int
  | .mk _ t _ _ _ => t
def El.k : El → Bool
  | .mk _ _ k _ _ => k
def El.b : El → ByteArray
  | .mk _ _ _ b _ => b
def El.ks : El → List El
  | .mk _ _ _ _ ks => ks
theorem El.eta (e : El) : e = .mk e.c e.t e.k e.b e.ks := by cases e; rfl
def tagOk (e : El) : Bool := decide (0 ≤ e.c ∧ e.c ≤ 3 ∧ 0 ≤ e.t ∧ e.t ≤ 30)
theorem tagOk_mk {c t : Int} {k : Bool} {b : ByteArray} {ks : List El} (h : 0 ≤ c ∧ c ≤ 3 ∧ 0 ≤ t ∧ t ≤ 30) : tagOk (.mk c t k b ks) = true := decide_eq_true h
def formOk (e : El) : Bool := if e.k then decide (e.b.size = 0) else decide (e.ks.length = 0)
/-- all elements that do not stand too deep -/
def allIn (p : El → Bool) : Nat → El → Bool
  | 0, _ => true
  | d + 1, e => p e && e.ks.all (allIn p d)
/-- one stands too deep -/
def deepIn : Nat → El → Bool
  | 0, _ => true
  | d + 1, e => e.ks.any (deepIn d)
/-- how many bytes a length has -/
def lenN (n : Nat) : Nat := if n < 128 then 1 else if n < 256 then 2 else if n < 65536 then 3 else 4
/-- a length -/
def lenL (n : Nat) : List UInt8 := if n < 128 then [UInt8.ofNat n] else UInt8.ofNat (127 + lenN n) :: beB (lenN n - 1) (n : Int)
theorem lenN_bd (n : Nat) : 1 ≤ lenN n ∧ lenN n ≤ 4 := by unfold lenN; (repeat' split) <;> omega
theorem lenL_length (n : Nat) : (lenL n).length = lenN n := by
  unfold lenL
  split
  · simp [lenN, *]
  · have := lenN_bd n; simp [beB_length]; omega
theorem lenN_mono {a b : Nat} (h : a ≤ b) : lenN a ≤ lenN b := by unfold lenN; (repeat' split) <;> omega
/-- how many bytes an element has -/
def esz : Nat → El → Nat
  | 0, _ => 0
  | d + 1, e => 1 + lenN (e.b.size + (e.ks.map (esz d)).sum) + (e.b.size + (e.ks.map (esz d)).sum)
/-- how many bytes its content has -/
def csz (d : Nat) (e : El) : Nat := e.b.size + (e.ks.map (esz d)).sum
theorem esz_succ (d : Nat) (e : El) : esz (d + 1) e = 1 + lenN (csz d e) + csz d e := rfl
/-- the first byte -/
def fb (e : El) : UInt8 := UInt8.ofNat (64 * e.c + (if e.k then 32 else 0) + e.t).toNat
/-- an element's bytes -/
def enc : Nat → El → List UInt8
  | 0, _ => []
  | d + 1, e => fb e :: (lenL (e.b.size + (e.ks.map (esz d)).sum) ++ (e.b.data.toList ++ (e.ks.map (enc d)).flatten))
theorem enc_succ (d : Nat) (e : El) : enc (d + 1) e = fb e :: (lenL (csz d e) ++ (e.b.data.toList ++ (e.ks.map (enc d)).flatten)) := rfl
theorem flat_length {α : Type} (f : α → List UInt8) (g : α → Nat) (h : ∀ x, (f x).length = g x) (l : List α) : ((l.map f).flatten).length = (l.map g).sum := by
  induction l with
  | nil => rfl
  | cons a l ih => simp [h, ih]
theorem enc_length (d : Nat) : ∀ e, (enc d e).length = esz d e := by
  induction d with
  | zero => intro e; rfl
  | succ d ih =>
    intro e
    rw [enc_succ, esz_succ]
    simp only [List.length_cons, List.length_append, lenL_length, flat_length _ _ ih]
    unfold csz
    have : e.b.data.toList.length = e.b.size := by simp
    omega
theorem esz_pos (d : Nat) (e : El) : 2 ≤ esz (d + 1) e := by rw [esz_succ]; have := lenN_bd (csz d e); omega
/-- behind the first byte -/
def hd1 : List UInt8 → Nat × Nat × Int
  | [] => (0, 0, 20)
  | c :: l2 => if c.toNat < 128 then (2, c.toNat, 0) else
      if c.toNat - 128 < 1 ∨ 4 < c.toNat - 128 then (0, 0, 22) else
      if l2.length < c.toNat - 128 then (0, 0, 20) else
      if 65536 < 2 + (c.toNat - 128) + (getFrom 0 (l2.take (c.toNat - 128))).toNat then (0, 0, 2) else (2 + (c.toNat - 128), (getFrom 0 (l2.take (c.toNat - 128))).toNat, 0)
/-- how many bytes an element has ahead of its content, how many in it, the error -/
def hd : List UInt8 → Nat × Nat × Int
  | [] => (0, 0, 20)
  | a :: l1 => if a.toNat % 32 = 31 then (0, 0, 21) else hd1 l1
theorem hd_cons (a : UInt8) (l : List UInt8) : hd (a :: l) = if a.toNat % 32 = 31 then (0, 0, 21) else hd1 l := rfl
theorem u8_nat (n : Nat) (h : n < 256) : (UInt8.ofNat n).toNat = n := by simp [UInt8.toNat_ofNat']; omega
theorem getFrom_beN (k n : Nat) (h : (n : Int) < 256 ^ k) : (getFrom 0 (beB k (n : Int))).toNat = n := by
  rw [get_put k n (by omega) h]; omega
/-- a whole head -/
theorem hd_form (a : UInt8) (n : Nat) (t : List UInt8) (ha : a.toNat % 32 ≠ 31) (hn : 1 + lenN n + n ≤ 65536) : hd (a :: (lenL n ++ t)) = (1 + lenN n, n, 0) := by
  rw [hd_cons, if_neg ha]
  unfold lenL
  by_cases h : n < 128
  · have h1 : lenN n = 1 := by unfold lenN; rw [if_pos h]
    simp only [h, if_true, List.cons_append, List.nil_append, h1, hd1]
    rw [u8_nat n (by omega), if_pos h]
  · have hl : lenN n = 2 ∨ lenN n = 3 ∨ lenN n = 4 := by unfold lenN; (repeat' split) <;> omega
    have h2 : (n : Int) < 256 ^ (lenN n - 1) := by
      unfold lenN
      (repeat' split) <;> simp <;> omega
    have hb := beB_length (lenN n - 1) (n : Int)
    have hg := getFrom_beN _ _ h2
    rw [if_neg h]
    simp only [List.cons_append, hd1]
    rw [u8_nat _ (by omega), if_neg (by omega), if_neg (by omega), show 127 + lenN n - 128 = lenN n - 1 from by omega, if_neg (by rw [List.length_append, hb]; omega),
      List.take_append_of_le_length (by omega), List.take_of_length_le (by omega), hg, if_neg (by omega)]
    rw [show 2 + (lenN n - 1) = 1 + lenN n from by omega]
/-- a head cut short -/
theorem hd_cut (a : UInt8) (n j : Nat) (ha : a.toNat % 32 ≠ 31) (hj : j ≤ lenN n) : hd ((a :: lenL n).take j) = (0, 0, 20) := by
  match j, hj with
  | 0, _ => rfl
  | 1, _ => rw [List.take_succ_cons, hd_cons, if_neg ha]; rfl
  | i + 2, hj =>
    unfold lenL
    have h : ¬ n < 128 := by intro h; unfold lenN at hj; rw [if_pos h] at hj; omega
    have hl : lenN n = 2 ∨ lenN n = 3 ∨ lenN n = 4 := by unfold lenN; (repeat' split) <;> omega
    have hb := beB_length (lenN n - 1) (n : Int)
    rw [if_neg h]
    simp only [List.take_succ_cons, hd_cons, hd1]
    rw [if_neg ha, u8_nat _ (by omega), if_neg (by omega), if_neg (by omega), if_pos (by rw [List.length_take, hb]; omega)]
theorem hd1_err (l : List UInt8) : (hd1 l).2.2 = 0 ∨ (hd1 l).2.2 = 20 ∨ (hd1 l).2.2 = 21 ∨ (hd1 l).2.2 = 22 ∨ (hd1 l).2.2 = 2 := by
  unfold hd1
  (repeat' split) <;> simp
theorem hd_err (l : List UInt8) : (hd l).2.2 = 0 ∨ (hd l).2.2 = 20 ∨ (hd l).2.2 = 21 ∨ (hd l).2.2 = 22 ∨ (hd l).2.2 = 2 := by
  cases l with
  | nil => simp [hd]
  | cons a l =>
    rw [hd_cons]
    split
    · simp
    · exact hd1_err l
theorem hd1_ok {l : List UInt8} {n m : Nat} (h : hd1 l = (n, m, 0)) : 2 ≤ n ∧ n ≤ l.length + 1 ∧ n + m ≤ 65536 ∧ 1 + lenN m ≤ n ∧ n ≤ 6 := by
  cases l with
  | nil => simp [hd1] at h
  | cons c l2 =>
    simp only [hd1] at h
    split at h
    · rename_i hc
      simp only [Prod.mk.injEq, and_true] at h
      obtain ⟨rfl, rfl⟩ := h
      refine ⟨by omega, by simp, by omega, ?_, by omega⟩
      unfold lenN
      rw [if_pos hc]
      omega
    · rename_i hc
      split at h
      · simp at h
      · split at h
        · simp at h
        · split at h
          · simp at h
          · simp only [Prod.mk.injEq, and_true] at h
            obtain ⟨rfl, hm⟩ := h
            refine ⟨by omega, by simp; omega, by omega, ?_, by omega⟩
            generalize hk : c.toNat - 128 = k at *
            have hb := getFrom_bd (l2.take k) 0 0 1 (by omega) (by omega)
            rw [List.length_take, Nat.min_eq_left (by omega)] at hb
            have hk4 : k = 1 ∨ k = 2 ∨ k = 3 ∨ k = 4 := by omega
            unfold lenN
            rcases hk4 with rfl | rfl | rfl | rfl
            · have : m < 256 := by simp at hb; omega
              (repeat' split) <;> omega
            · have : m < 65536 := by simp at hb; omega
              (repeat' split) <;> omega
            · (repeat' split) <;> omega
            · (repeat' split) <;> omega
/-- what a good head says -/
theorem hd_ok {l : List UInt8} {n m : Nat} (h : hd l = (n, m, 0)) : 2 ≤ n ∧ n ≤ l.length ∧ n + m ≤ 65536 ∧ 1 + lenN m ≤ n ∧ n ≤ 6 ∧ (l.headD 0).toNat % 32 ≠ 31 := by
  cases l with
  | nil => simp [hd] at h
  | cons a l =>
    rw [hd_cons] at h
    split at h
    · simp at h
    · rename_i ha
      have := hd1_ok h
      exact ⟨this.1, by simpa using this.2.1, this.2.2.1, this.2.2.2.1, this.2.2.2.2, ha⟩
/-- reading one behind the other -/
def rdAll (f : List UInt8 → Except Int (El × List UInt8)) : Nat → List UInt8 → Except Int (List El)
  | _, [] => .ok []
  | 0, _ :: _ => .error 0
  | k + 1, a :: l => match f (a :: l) with
    | .error e => .error e
    | .ok (x, r) => match rdAll f k r with
      | .error e => .error e
      | .ok xs => .ok (x :: xs)
/-- an element read, and what stands behind it -/
def rd : Nat → List UInt8 → Except Int (El × List UInt8)
  | 0, l => if (hd l).2.2 = 0 then .error 23 else .error (hd l).2.2
  | d + 1, l => if (hd l).2.2 = 0 then
      (if l.length < (hd l).1 + (hd l).2.1 then .error 20 else
        if (l.headD 0).toNat / 32 % 2 = 1 then
          match rdAll (rd d) ((l.drop (hd l).1).take (hd l).2.1).length ((l.drop (hd l).1).take (hd l).2.1) with
          | .error e => .error e
          | .ok ks => .ok (.mk ((l.headD 0).toNat / 64 : Nat) ((l.headD 0).toNat % 32 : Nat) true ⟨#[]⟩ ks, l.drop ((hd l).1 + (hd l).2.1))
        else .ok (.mk ((l.headD 0).toNat / 64 : Nat) ((l.headD 0).toNat % 32 : Nat) false ⟨((l.drop (hd l).1).take (hd l).2.1).toArray⟩ [], l.drop ((hd l).1 + (hd l).2.1)))
    else .error (hd l).2.2
/-- what Write answers -/
def wr (e : El) : List UInt8 × Int :=
  if allIn tagOk 20 e = false then ([], 21) else if allIn formOk 20 e = false then ([], 24) else if deepIn 20 e = true then ([], 23) else if 65536 < esz 20 e then ([], 2) else (enc 20 e, 0)
/-- what Frame answers -/
def frame (l : List UInt8) : Nat × Int := ((hd l).1 + (hd l).2.1, (hd l).2.2)
/-- what Read answers; none: no element -/
def zeroE : El := .mk 0 0 false ⟨#[]⟩ []
def rdTop (l : List UInt8) : El × Int :=
  match rd 20 l with
  | .error e => (zeroE, e)
  | .ok (x, r) => if r = [] then (x, 0) else (zeroE, 25)
/-- an element that may be written -/
structure Good (d : Nat) (e : El) : Prop where
  tags : allIn tagOk d e = true
  forms : allIn formOk d e = true
  flat : deepIn d e = false
  fits : esz d e ≤ 65536
theorem wr_good {e : El} (h : Good 20 e) : wr e = (enc 20 e, 0) := by
  unfold wr
  rw [if_neg (by simp [h.tags]), if_neg (by simp [h.forms]), if_neg (by simp [h.flat]), if_neg (by have := h.fits; omega)]
theorem good_of_wr {e : El} {l : List UInt8} (h : wr e = (l, 0)) : Good 20 e ∧ l = enc 20 e := by
  unfold wr at h
  split at h
  · simp at h
  · split at h
    · simp at h
    · split at h
      · simp at h
      · split at h
        · simp at h
        · rename_i h1 h2 h3 h4
          simp at h
          exact ⟨⟨by simpa using h1, by simpa using h2, by simpa using h3, by omega⟩, h.symm⟩
theorem wr_bad {e : El} {l : List UInt8} {n : Int} (h : wr e = (l, n)) (hn : n ≠ 0) : l = [] := by
  unfold wr at h
  split at h
  · simp at h; exact h.1
  · split at h
    · simp at h; exact h.1
    · split at h
      · simp at h; exact h.1
      · split at h
        · simp at h; exact h.1
        · simp at h
          exact absurd h.2.symm hn
theorem Good.pos {d : Nat} {e : El} (h : Good d e) : ∃ d', d = d' + 1 := by
  cases d with
  | zero => exact absurd h.flat (by simp [deepIn])
  | succ d => exact ⟨d, rfl⟩
theorem Good.tag {d : Nat} {e : El} (h : Good (d + 1) e) : tagOk e = true := by
  have := h.tags; simp only [allIn, Bool.and_eq_true] at this; exact this.1
theorem Good.form {d : Nat} {e : El} (h : Good (d + 1) e) : formOk e = true := by
  have := h.forms; simp only [allIn, Bool.and_eq_true] at this; exact this.1
theorem mem_le_sum {α : Type} (f : α → Nat) (l : List α) (x : α) (h : x ∈ l) : f x ≤ (l.map f).sum := by
  induction l with
  | nil => cases h
  | cons a l ih =>
    rcases List.mem_cons.1 h with rfl | h
    · simp
    · have := ih h; simp; omega
theorem Good.kid {d : Nat} {e x : El} (h : Good (d + 1) e) (hx : x ∈ e.ks) : Good d x := by
  refine ⟨?_, ?_, ?_, ?_⟩
  · have := h.tags; simp only [allIn, Bool.and_eq_true, List.all_eq_true] at this; exact this.2 x hx
  · have := h.forms; simp only [allIn, Bool.and_eq_true, List.all_eq_true] at this; exact this.2 x hx
  · have := h.flat
    simp only [deepIn] at this
    rw [List.any_eq_false] at this
    simpa using this x hx
  · have := h.fits
    rw [esz_succ] at this
    have h2 := mem_le_sum (esz d) e.ks x hx
    unfold csz at this
    omega
theorem tagOk_bd {e : El} (h : tagOk e = true) : 0 ≤ e.c ∧ e.c ≤ 3 ∧ 0 ≤ e.t ∧ e.t ≤ 30 := by simpa [tagOk] using h
theorem fb_nat {e : El} (h : tagOk e = true) : ((fb e).toNat : Int) = 64 * e.c + (if e.k then 32 else 0) + e.t := by
  have := tagOk_bd h
  unfold fb
  rw [u8_nat _ (by split <;> omega)]
  split <;> omega
theorem fb_tag {e : El} (h : tagOk e = true) : (((fb e).toNat % 32 : Nat) : Int) = e.t := by
  have := tagOk_bd h
  have h2 := fb_nat h
  split at h2 <;> omega
theorem fb_cls {e : El} (h : tagOk e = true) : (((fb e).toNat / 64 : Nat) : Int) = e.c := by
  have := tagOk_bd h
  have h2 := fb_nat h
  split at h2 <;> omega
theorem fb_cons {e : El} (h : tagOk e = true) : ((fb e).toNat / 32 % 2 = 1) = (e.k = true) := by
  have := tagOk_bd h
  have h2 := fb_nat h
  split at h2 <;> simp_all <;> omega
theorem fb_ne {e : El} (h : tagOk e = true) : (fb e).toNat % 32 ≠ 31 := by
  have := tagOk_bd h
  have h2 := fb_tag h
  omega
theorem hd_enc {d : Nat} {e : El} (h : Good (d + 1) e) (r : List UInt8) : hd (enc (d + 1) e ++ r) = (1 + lenN (csz d e), csz d e, 0) := by
  have hf := h.fits
  rw [esz_succ] at hf
  rw [enc_succ, List.cons_append, List.append_assoc]
  exact hd_form _ _ _ (fb_ne h.tag) hf
theorem rdAll_enc {d : Nat} (f : List UInt8 → Except Int (El × List UInt8)) (ks : List El) (h : ∀ x ∈ ks, ∀ r, f (enc (d + 1) x ++ r) = .ok (x, r)) :
    ∀ n, ks.length ≤ n → rdAll f n (ks.map (enc (d + 1))).flatten = .ok ks := by
  induction ks with
  | nil => intro n _; cases n <;> rfl
  | cons x ks ih =>
    intro n hn
    obtain ⟨m, rfl⟩ : ∃ m, n = m + 1 := ⟨n - 1, by simp at hn; omega⟩
    rw [List.map_cons, List.flatten_cons]
    have hx := h x (by simp) (ks.map (enc (d + 1))).flatten
    have h2 := ih (fun y hy => h y (by simp [hy])) m (by simp at hn; omega)
    rw [enc_succ] at hx ⊢
    simp only [List.cons_append] at hx ⊢
    rw [rdAll, hx]
    simp only
    rw [h2]
theorem ba_eta (b : ByteArray) : (⟨b.data.toList.toArray⟩ : ByteArray) = b := by simp
theorem nil_of_size {b : ByteArray} (h : b.size = 0) : b = ⟨#[]⟩ := by
  obtain ⟨⟨l⟩⟩ := b
  have : l = [] := List.eq_nil_of_length_eq_zero h
  rw [this]
theorem rdAll_enc' {d : Nat} (f : List UInt8 → Except Int (El × List UInt8)) (ks : List El) (h : ∀ x ∈ ks, ∀ r, f (enc d x ++ r) = .ok (x, r)) (hd' : ks ≠ [] → ∃ d', d = d' + 1)
    (n : Nat) (hn : ks.length ≤ n) : rdAll f n (ks.map (enc d)).flatten = .ok ks := by
  by_cases hk : ks = []
  · subst hk; cases n <;> rfl
  · obtain ⟨d', rfl⟩ := hd' hk
    exact rdAll_enc f ks h n hn
theorem sum_le_of {d : Nat} (ks : List El) (hd' : ks ≠ [] → ∃ d', d = d' + 1) : ks.length ≤ (ks.map (esz d)).sum := by
  by_cases hk : ks = []
  · subst hk; simp
  · obtain ⟨d', rfl⟩ := hd' hk
    clear hk hd'
    induction ks with
    | nil => simp
    | cons a l ih => have := esz_pos d' a; simp; omega
/-- what is written is read -/
theorem rd_enc : ∀ (d : Nat) (e : El), Good d e → ∀ r, rd d (enc d e ++ r) = .ok (e, r) := by
  intro d
  induction d with
  | zero => intro e h; obtain ⟨_, h⟩ := h.pos; omega
  | succ d ih =>
    intro e h r
    have hh := hd_enc h r
    have hl : (enc (d + 1) e ++ r).length = 1 + lenN (csz d e) + csz d e + r.length := by rw [List.length_append, enc_length, esz_succ]
    have hks : e.ks ≠ [] → ∃ d', d = d' + 1 := by
      intro hk
      obtain ⟨x, hx⟩ := List.exists_mem_of_ne_nil _ hk
      exact (h.kid hx).pos
    have h0 : ((enc (d + 1) e ++ r).headD 0) = fb e := rfl
    have hdrop : (enc (d + 1) e ++ r).drop (1 + lenN (csz d e)) = e.b.data.toList ++ (e.ks.map (enc d)).flatten ++ r := by
      rw [enc_succ, List.cons_append, Nat.add_comm, List.drop_succ_cons, List.append_assoc, List.drop_append_of_le_length (by rw [lenL_length]; omega), List.drop_of_length_le (by rw [lenL_length]; omega), List.nil_append]
    have hlen : (e.b.data.toList ++ (e.ks.map (enc d)).flatten).length = csz d e := by
      rw [List.length_append, flat_length _ _ (enc_length d)]
      unfold csz
      simp
    have htake : ((enc (d + 1) e ++ r).drop (1 + lenN (csz d e))).take (csz d e) = e.b.data.toList ++ (e.ks.map (enc d)).flatten := by
      rw [hdrop, List.take_append_of_le_length (by omega), List.take_of_length_le (by omega)]
    have hrest : (enc (d + 1) e ++ r).drop (1 + lenN (csz d e) + csz d e) = r := by
      rw [← List.drop_drop, hdrop, List.drop_append_of_le_length (by omega), List.drop_of_length_le (by omega), List.nil_append]
    have hc := fb_cons h.tag
    rw [rd, hh]
    simp only [if_true]
    rw [if_neg (by omega), h0, htake, hrest, fb_cls h.tag, fb_tag h.tag]
    have hf := h.form
    unfold formOk at hf
    by_cases hk : e.k = true
    · rw [if_pos (by rw [hc]; exact hk)]
      rw [if_pos hk] at hf
      have hb : e.b = ⟨#[]⟩ := nil_of_size (by simpa using hf)
      have hb0 : e.b.data.toList = [] := by rw [hb]
      rw [hb0, List.nil_append, rdAll_enc' (rd d) e.ks (fun x hx => ih x (h.kid hx)) hks _ (by rw [flat_length _ _ (enc_length d)]; exact sum_le_of e.ks hks)]
      simp only
      rw [← hb, ← hk, ← El.eta]
    · rw [if_neg (by rw [hc]; exact hk)]
      rw [if_neg hk] at hf
      have hk0 : e.ks = [] := List.eq_nil_of_length_eq_zero (by simpa using hf)
      have hkf : e.k = false := by simpa using hk
      rw [hk0, List.map_nil, List.flatten_nil, List.append_nil, ba_eta, ← hk0, ← hkf, ← El.eta]
theorem rdTop_enc {e : El} (h : Good 20 e) : rdTop (enc 20 e) = (e, 0) := by
  have := rd_enc 20 e h []
  rw [List.append_nil] at this
  unfold rdTop
  rw [this]
  simp
theorem rdTop_more {e : El} (h : Good 20 e) (r : List UInt8) (hr : r ≠ []) : (rdTop (enc 20 e ++ r)).2 = 25 := by
  unfold rdTop
  rw [rd_enc 20 e h r]
  simp [hr]
/-- a head of what is cut -/
theorem hd_take {d : Nat} {e : El} (h : Good (d + 1) e) (j : Nat) : hd ((enc (d + 1) e).take j) = if j ≤ lenN (csz d e) then (0, 0, 20) else (1 + lenN (csz d e), csz d e, 0) := by
  have hf := h.fits
  rw [esz_succ] at hf
  rw [enc_succ]
  split
  · rename_i hj
    rw [show fb e :: (lenL (csz d e) ++ (e.b.data.toList ++ (e.ks.map (enc d)).flatten)) = (fb e :: lenL (csz d e)) ++ (e.b.data.toList ++ (e.ks.map (enc d)).flatten) from rfl,
      List.take_append_of_le_length (by simp [lenL_length]; omega)]
    exact hd_cut _ _ _ (fb_ne h.tag) hj
  · rename_i hj
    obtain ⟨i, rfl⟩ : ∃ i, j = 1 + lenN (csz d e) + i := ⟨j - (1 + lenN (csz d e)), by omega⟩
    rw [show 1 + lenN (csz d e) + i = (lenN (csz d e) + i) + 1 from by omega, List.take_succ_cons, List.take_append, lenL_length,
      List.take_of_length_le (by rw [lenL_length]; omega)]
    exact hd_form _ _ _ (fb_ne h.tag) hf
/-- what is cut short is too short -/
theorem rdTop_cut {e : El} (h : Good 20 e) (j : Nat) (hj : j < esz 20 e) : (rdTop ((enc 20 e).take j)).2 = 20 := by
  have hh := hd_take (d := 19) h j
  have he : esz 20 e = 1 + lenN (csz 19 e) + csz 19 e := esz_succ 19 e
  have hl : ((enc 20 e).take j).length = j := by rw [List.length_take, enc_length]; omega
  have : rd 20 ((enc 20 e).take j) = .error 20 := by
    rw [rd, hh]
    split
    · simp
    · simp only [if_true]
      rw [if_pos (by rw [hl]; omega)]
  unfold rdTop
  rw [this]
/-- the frame of what is cut -/
theorem frame_take {e : El} (h : Good 20 e) (j : Nat) : frame ((enc 20 e).take j) = if j ≤ lenN (csz 19 e) then (0, 20) else (esz 20 e, 0) := by
  have hh := hd_take (d := 19) h j
  unfold frame
  rw [hh]
  split
  · rfl
  · rw [esz_succ]
theorem frame_enc {e : El} (h : Good 20 e) : frame (enc 20 e) = (esz 20 e, 0) := by
  have := frame_take h (esz 20 e)
  rw [List.take_of_length_le (by rw [enc_length]; omega), if_neg (by rw [esz_succ]; omega)] at this
  exact this
/-- what is read may be written, in no more bytes -/
theorem rdAll_good {d : Nat} (f : List UInt8 → Except Int (El × List UInt8)) (hf : ∀ l x r, f l = .ok (x, r) → allIn tagOk d x = true ∧ allIn formOk d x = true ∧ deepIn d x = false ∧ esz d x + r.length ≤ l.length) :
    ∀ n l xs, rdAll f n l = .ok xs → (∀ x ∈ xs, allIn tagOk d x = true ∧ allIn formOk d x = true ∧ deepIn d x = false) ∧ (xs.map (esz d)).sum ≤ l.length := by
  intro n
  induction n with
  | zero =>
    intro l xs h
    cases l with
    | nil => simp [rdAll] at h; subst h; simp
    | cons a l => simp [rdAll] at h
  | succ n ih =>
    intro l xs h
    cases l with
    | nil => simp [rdAll] at h; subst h; simp
    | cons a l =>
      rw [rdAll] at h
      split at h
      · simp at h
      · rename_i x r hx
        split at h
        · simp at h
        · rename_i ys hy
          simp at h
          subst h
          have h1 := hf _ _ _ hx
          have h2 := ih _ _ hy
          refine ⟨fun y hy => ?_, ?_⟩
          · rcases List.mem_cons.1 hy with rfl | hy
            · exact ⟨h1.1, h1.2.1, h1.2.2.1⟩
            · exact h2.1 y hy
          · simp only [List.map_cons, List.sum_cons]
            omega
theorem rd_good : ∀ (d : Nat) (l : List UInt8) (x : El) (r : List UInt8), rd d l = .ok (x, r) →
    allIn tagOk d x = true ∧ allIn formOk d x = true ∧ deepIn d x = false ∧ esz d x + r.length ≤ l.length ∧ esz d x ≤ 65536 := by
  intro d
  induction d with
  | zero => intro l x r h; rw [rd] at h; split at h <;> simp at h
  | succ d ih =>
    intro l x r h
    rw [rd] at h
    split at h
    · rename_i h0
      split at h
      · simp at h
      · rename_i hlen
        obtain ⟨⟨n, m, z⟩, hh⟩ : ∃ q, hd l = q := ⟨_, rfl⟩
        rw [hh] at h h0 hlen
        simp only at h h0 hlen
        subst h0
        obtain ⟨o1, o2, o3, o4, o5, o6⟩ := hd_ok hh
        have hu : (l.headD 0).toNat < 256 := (l.headD 0).toNat_lt
        generalize hu2 : (l.headD 0).toNat = u at *
        split at h
        · rename_i hc
          split at h
          · simp at h
          · rename_i ks hk
            simp only [Except.ok.injEq, Prod.mk.injEq] at h
            obtain ⟨rfl, rfl⟩ := h
            have h2 := rdAll_good (rd d) (fun l x r h => have := ih l x r h; ⟨this.1, this.2.1, this.2.2.1, this.2.2.2.1⟩) _ _ _ hk
            have hcl : ((l.drop n).take m).length = m := by rw [List.length_take, List.length_drop]; omega
            rw [hcl] at h2
            have hs : esz (d + 1) (.mk ((u / 64 : Nat) : Int) ((u % 32 : Nat) : Int) true ⟨#[]⟩ ks) ≤ n + m := by
              rw [esz_succ]
              have e : csz d (.mk ((u / 64 : Nat) : Int) ((u % 32 : Nat) : Int) true ⟨#[]⟩ ks) = (ks.map (esz d)).sum := by
                show (⟨#[]⟩ : ByteArray).size + _ = _
                rw [show (⟨#[]⟩ : ByteArray).size = 0 from rfl, Nat.zero_add]
                rfl
              rw [e]
              have := lenN_mono h2.2
              omega
            refine ⟨?_, ?_, ?_, by rw [List.length_drop]; omega, by omega⟩
            · simp only [allIn, Bool.and_eq_true, List.all_eq_true]
              refine ⟨?_, fun y hy => (h2.1 y hy).1⟩
              exact tagOk_mk (by omega)
            · simp only [allIn, Bool.and_eq_true, List.all_eq_true]
              exact ⟨rfl, fun y hy => (h2.1 y hy).2.1⟩
            · simp only [deepIn]
              rw [List.any_eq_false]
              intro y hy
              simpa using (h2.1 y hy).2.2
        · rename_i hc
          simp only [Except.ok.injEq, Prod.mk.injEq] at h
          obtain ⟨rfl, rfl⟩ := h
          have hcl : ((l.drop n).take m).length = m := by rw [List.length_take, List.length_drop]; omega
          have hs : esz (d + 1) (.mk ((u / 64 : Nat) : Int) ((u % 32 : Nat) : Int) false ⟨((l.drop n).take m).toArray⟩ []) ≤ n + m := by
            rw [esz_succ]
            have e : csz d (.mk ((u / 64 : Nat) : Int) ((u % 32 : Nat) : Int) false ⟨((l.drop n).take m).toArray⟩ []) = m := by
              show (⟨((l.drop n).take m).toArray⟩ : ByteArray).size + 0 = _
              rw [show (⟨((l.drop n).take m).toArray⟩ : ByteArray).size = ((l.drop n).take m).length from rfl, hcl]
              omega
            rw [e]
            omega
          refine ⟨?_, ?_, rfl, by rw [List.length_drop]; omega, by omega⟩
          · simp only [allIn, Bool.and_eq_true, El.ks, List.all_nil, and_true]
            exact tagOk_mk (by omega)
          · simp [allIn, formOk, El.k, El.ks]
    · simp at h
/-- no reading ends with the error 0 -/
theorem rdAll_ne0 (f : List UInt8 → Except Int (El × List UInt8)) (hf : ∀ l, (f l ≠ .error 0) ∧ ∀ x r, f l = .ok (x, r) → r.length < l.length) :
    ∀ n l, l.length ≤ n → rdAll f n l ≠ .error 0 := by
  intro n
  induction n with
  | zero => intro l hl; rw [List.eq_nil_of_length_eq_zero (by omega : l.length = 0)]; simp [rdAll]
  | succ n ih =>
    intro l hl
    cases l with
    | nil => simp [rdAll]
    | cons a l =>
      rw [rdAll]
      split
      · rename_i e he
        intro h
        simp at h
        subst h
        exact (hf _).1 he
      · rename_i x r hx
        have := (hf _).2 x r hx
        have h2 := ih r (by simp at hl this; omega)
        split
        · rename_i e he
          intro h
          simp at h
          subst h
          exact h2 he
        · simp
theorem rd_ne0 : ∀ (d : Nat) (l : List UInt8), (rd d l ≠ .error 0) ∧ ∀ x r, rd d l = .ok (x, r) → r.length < l.length := by
  intro d
  induction d with
  | zero =>
    intro l
    constructor
    · rw [rd]
      split
      · simp
      · rename_i h
        simpa using h
    · intro x r h
      rw [rd] at h
      split at h <;> simp at h
  | succ d ih =>
    intro l
    constructor
    · rw [rd]
      split
      · split
        · simp
        · split
          · split
            · rename_i e he
              intro h
              simp at h
              subst h
              exact rdAll_ne0 _ ih _ _ (Nat.le_refl _) he
            · simp
          · simp
      · rename_i h
        simpa using h
    · intro x r h
      have h1 := rd_good (d + 1) l x r h
      have := esz_pos d x
      omega
theorem rdTop_good {l : List UInt8} {x : El} (h : rdTop l = (x, 0)) : Good 20 x ∧ esz 20 x ≤ l.length := by
  unfold rdTop at h
  split at h
  · rename_i e he
    simp at h
    obtain ⟨_, rfl⟩ := h
    exfalso
    have h2 := hd_err l
    rw [rd] at he
    split at he
    · split at he
      · simp at he
      · split at he
        · split at he
          · rename_i e' hk
            simp at he
            subst he
            exact rdAll_ne0 _ (fun l => rd_ne0 19 l) _ _ (Nat.le_refl _) hk
          · simp at he
        · simp at he
    · rename_i h3
      simp at he
      exact h3 he
  · rename_i y r he
    split at h
    · rename_i hr
      simp at h
      subst h hr
      have := rd_good 20 l y [] he
      exact ⟨⟨this.1, this.2.1, this.2.2.1, this.2.2.2.2⟩, by have := this.2.2.2.1; simpa using this⟩
    · simp at h
end Go.Proofs.YtlkdbopdmieojaaGreat.Ber
