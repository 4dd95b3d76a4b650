/- An element that came in, opened, whatever its depth. -/
import Derived.Test.YtejnfnpcabldeaaBerM
import Derived.Test.YtejnfnpcabldeaaPostB
import Derived.Deep.Slices
import Derived.Deep.Fields
import Derived.ChangeSame
import Derived.SizedLaws
namespace Go.Proofs.Ytejnfnpcabldeaa
open Go.ChangeShapes Go.WideShapes Go.Deep Go.RowKit Ber
/-- a datum whose lists and texts are within the reach -/
def Wt {H : Type} (t : TypeId) (d : DataW H) : Prop := (d.weights Try.prog t).all (· ≤ reachBytes) = true
theorem el_cells : Try.prog.cellsOf 24 = 5 := by kernel_rfl
theorem el_bytes : Try.prog.bytesOf 24 = 64 := by kernel_rfl
theorem el_struct : ∃ fs : Array Field, Try.prog.underlying 24 = some (.struct fs) ∧ fs.toList.map (fun f => (f.type, f.offset)) = [(3, 0), (3, 1), (4, 2), (9, 3), (22, 4)] :=
  ⟨_, Try.underlying24, by kernel_rfl⟩
theorem list5 {α : Type} {l : List α} (h : l.length = 5) : ∃ a b c d e, l = [a, b, c, d, e] := by
  match l, h with
  | [a, b, c, d, e], _ => exact ⟨a, b, c, d, e, rfl⟩
theorem cells_int : Try.prog.cellsOf 3 = 1 := by kernel_rfl
theorem cells_bool : Try.prog.cellsOf 4 = 1 := by kernel_rfl
theorem cells_string : Try.prog.cellsOf 9 = 1 := by kernel_rfl
theorem cells_kids : Try.prog.cellsOf 22 = 1 := by kernel_rfl
section
variable {H : Type} {enc : TypeId × Value → H} {W : World}
/-- the five values of an element -/
theorem open_elem {fuel : Nat} {cs : List Value} {x : DataW H × List MemPlace} (h : DataW.trod enc Try.prog W 0 (fun _ => true) true fuel 24 cs = some x) (hw : Wt 24 x.1) :
    ∃ (c t : Int) (k : Bool) (b : ByteArray) (kv : Value) (n : Nat) (y : DataW H × List MemPlace), fuel = n + 1 ∧ cs = [.int .i64 c, .int .i64 t, .bool k, .string b, kv] ∧ Few b.size ∧
      DataW.trod enc Try.prog W 0 (fun _ => true) true n 22 [kv] = some y ∧ Wt 22 y.1 := by
  obtain ⟨fs, hst, hfs⟩ := el_struct
  obtain ⟨xs, n, hn, hx, hlen, hxl, hf⟩ := DataW.trod_struct hst h
  rw [el_cells] at hlen
  have fld : ∀ (j : Nat) (ty : TypeId), (fs.toList.map (fun f => (f.type, f.offset)))[j]? = some (ty, j) → Try.prog.cellsOf ty = 1 → DataW.trod enc Try.prog W 0 (fun _ => true) true n ty ((cs.drop j).take 1) = xs[j]? := by
    intro j ty hj hc
    rw [List.getElem?_map] at hj
    obtain ⟨f, hf1, hf2⟩ := Option.map_eq_some_iff.1 hj
    simp only [Prod.mk.injEq] at hf2
    have := hf j f (by simpa using hf1)
    rw [hf2.1, hf2.2, hc] at this
    exact this
  have hx5 : xs.length = 5 := by
    have := congrArg List.length hfs
    simp only [List.length_map, Array.length_toList, List.length_cons, List.length_nil] at this
    omega
  have hty : fs.toList.map (·.type) = [3, 3, 4, 9, 22] := by
    have := congrArg (List.map Prod.fst) hfs
    rw [List.map_map] at this
    exact this
  rw [hfs] at fld
  obtain ⟨v0, v1, v2, v3, v4, rfl⟩ := list5 hlen
  obtain ⟨y0, y1, y2, y3, y4, rfl⟩ := list5 hx5
  · have t0 := fld 0 _ rfl cells_int
    have t1 := fld 1 _ rfl cells_int
    have t2 := fld 2 _ rfl cells_bool
    have t3 := fld 3 _ rfl cells_string
    have t4 := fld 4 _ rfl cells_kids
    simp only [List.drop_zero, List.drop_succ_cons, List.take_succ_cons, List.take_zero, List.getElem?_cons_zero, List.getElem?_cons_succ] at t0 t1 t2 t3 t4
    obtain ⟨x0, e0, _, _⟩ := DataW.trod_int Try.underlying3 t0
    obtain ⟨x1, e1, _, _⟩ := DataW.trod_int Try.underlying3 t1
    obtain ⟨x2, e2, _⟩ := DataW.trod_bool Try.underlying4 t2
    obtain ⟨x3, e3, g3, _⟩ := DataW.trod_string Try.underlying9 t3
    injection e0 with e0 _
    injection e1 with e1 _
    injection e2 with e2 _
    injection e3 with e3 _
    subst e0 e1 e2 e3
    subst hx
    unfold Wt at hw
    simp only [DataW.weights, hst] at hw
    rw [hty] at hw
    have hw3 := List.all_eq_true.1 hw
    refine ⟨x0, x1, x2, x3, v4, n, y4, hn, rfl, ?_, t4, ?_⟩
    · have := hw3 x3.size (DataW.weights_mem_each (j := 3) (t := 9) (d := y3.1) rfl rfl _ (by rw [g3]; simp [DataW.weights]))
      have h2 : x3.size ≤ reachBytes := by simpa using this
      unfold reachBytes at h2
      exact h2
    · unfold Wt
      rw [List.all_eq_true]
      intro q hq
      exact hw3 q (DataW.weights_mem_each (j := 4) (t := 22) (d := y4.1) rfl rfl _ hq)
theorem mem_weightsAll {P : Program} {e : TypeId} : ∀ (l : List (DataW H)) (d : DataW H), d ∈ l → ∀ n ∈ d.weights P e, n ∈ DataW.weightsAll P e l
  | a :: l, d, hd, n, hn => by
    simp only [DataW.weightsAll, List.mem_append]
    rcases List.mem_cons.1 hd with rfl | hd
    · exact .inl hn
    · exact .inr (mem_weightsAll l d hd n hn)
theorem choose_kids {n : Nat} {p : Nat → El → Value → Prop} (h : ∀ i, i < n → ∃ e v, p i e v) : ∃ (E : Nat → El) (F : Nat → Value), ∀ i, i < n → p i (E i) (F i) := by
  classical
  refine ⟨fun i => if hi : i < n then Classical.choose (h i hi) else zeroE, fun i => if hi : i < n then Classical.choose (Classical.choose_spec (h i hi)) else .slice none 0 0, fun i hi => ?_⟩
  simp only [dif_pos hi]
  exact Classical.choose_spec (Classical.choose_spec (h i hi))
theorem open_kids : ∀ (N fuel : Nat) (v : Value) (x : DataW H × List MemPlace), fuel ≤ N → DataW.trod enc Try.prog W 0 (fun _ => true) true fuel 22 [v] = some x → Wt 22 x.1 → ∃ ks, KsAt W ks v := by
  intro N
  induction N with
  | zero =>
    intro fuel v x hN h _
    obtain rfl : fuel = 0 := by omega
    simp [DataW.trod] at h
  | succ N ih =>
    intro fuel v x hN h hw
    rcases DataW.trod_slice Try.underlying22 h with ⟨hcs, _⟩ | ⟨a, len, cap, elems, rest, n, hn, hcs, hx, _, hl, hm, hel, hi, hsp, _⟩
    · injection hcs with hcs _
      subst hcs
      exact ⟨[], KsAt.nil W⟩
    · injection hcs with hcs _
      subst hcs hx
      unfold Wt at hw
      simp only [DataW.weights, Try.underlying22] at hw
      rw [List.all_cons, Bool.and_eq_true, el_bytes] at hw
      have hfew : FewK len := by
        have := hw.1
        simp only [List.length_map, decide_eq_true_eq, hel] at this
        unfold reachBytes at this
        unfold FewK
        omega
      have hone : ∀ i, i < len → ∃ (e : El) (kv : Value), a = ⟨a.block, a.off, none⟩ ∧ a.block < W.heap.size ∧ C5 W a.block (a.off + i * 5) e.c e.t e.k e.b kv ∧ Few e.b.size ∧ KsAt W e.ks kv := by
        intro i hil
        obtain ⟨ab, ao, asp⟩ := a
        have h1 := hi i hil
        rw [List.getElem?_eq_getElem (by omega)] at h1
        obtain ⟨cs', hc, ht⟩ := Option.bind_eq_some_iff.1 h1
        rw [el_cells] at hc
        have hwi : Wt 24 (elems[i]'(by omega)).1 := by
          unfold Wt
          rw [List.all_eq_true]
          intro q hq
          exact List.all_eq_true.1 hw.2 q (List.mem_append_left _ (mem_weightsAll _ _ (List.mem_map_of_mem (List.getElem_mem (by omega))) q hq))
        obtain ⟨c, t, k, b, kv, n', y, hn', rfl, hb, hy, hwy⟩ := open_elem ht hwi
        obtain ⟨ks, hks⟩ := ih n' kv y (by omega) hy hwy
        obtain ⟨_, _, hat⟩ := World.cells?_some hc
        have hz := hat 0 (by omega)
        have hspot : asp = none := by
          have hi0 := hi 0 (by omega)
          rw [List.getElem?_eq_getElem (by omega)] at hi0
          obtain ⟨cs0, hc0, ht0⟩ := Option.bind_eq_some_iff.1 hi0
          rw [el_cells] at hc0
          obtain ⟨_, hl0, hat0⟩ := World.cells?_some hc0
          have hz0 := hat0 0 (by omega)
          have hx0 : cs0[0]? = some (cs0[0]'(by omega)) := List.getElem?_eq_getElem (by omega)
          rw [hx0] at hz0
          have e0 : (((⟨ab, ao, asp⟩ : Addr).add (0 * 5)).add 0) = ⟨ab, ao, asp⟩ := by simp [Addr.add]
          rw [e0] at hz0
          exact World.cell?_spot hz0
        subst hspot
        have hadd : ∀ j, (((⟨ab, ao, none⟩ : Addr).add (i * 5)).add j) = ⟨ab, ao + i * 5 + j, none⟩ := by
          intro j
          unfold Addr.add
          (repeat' split) <;> simp_all
        have hcell : ∀ j (hj : j < 5), W.cell? ⟨ab, ao + i * 5 + j, none⟩ = [.int .i64 c, .int .i64 t, .bool k, .string b, kv][j]? := by
          intro j hj
          rw [← hadd j]
          exact hat j hj
        refine ⟨.mk c t k b ks, kv, rfl, ?_, ⟨hcell 0 (by omega), hcell 1 (by omega), hcell 2 (by omega), hcell 3 (by omega), hcell 4 (by omega)⟩, hb, hks⟩
        have h9 : W.cell? ⟨ab, ao + i * 5 + 0, none⟩ = some (.int .i64 c) := hcell 0 (by omega)
        have h8 := World.block_lt_of_cell? W (⟨ab, ao + i * 5 + 0, none⟩ : Addr) h9
        exact h8
      obtain ⟨E, F, hEF⟩ := choose_kids hone
      have hlen : ((List.range len).map E).length = len := by simp
      refine ⟨(List.range len).map E, ?_⟩
      have := KsAt.mk (w := W) ((List.range len).map E) (some a) cap a.block a.off F ⟨by omega, hm⟩ (by rw [hlen]; exact hfew) (fun i hi' => by
        have hil : i < len := by rw [hlen] at hi'; exact hi'
        have := hEF i hil
        simp only [List.getElem_map, List.getElem_range]
        exact ⟨congrArg some this.1, this.2.1, this.2.2.1, this.2.2.2.1⟩) (fun i hi' => by
        have hil : i < len := by rw [hlen] at hi'; exact hi'
        simp only [List.getElem_map, List.getElem_range]
        exact (hEF i hil).2.2.2.2)
      rw [hlen] at this
      exact this
/-- an argument -/
theorem open_elemAt {b0 : Nat} {v : Value} {d : DataW H} {ps : List MemPlace} (hv : Value.okWide Try.prog W .any b0 24 v) (h : DataW.Trod enc Try.prog W 0 (fun _ => true) true 24 v d ps) (hw : Wt 24 d) :
    ∃ (c t : Int) (k : Bool) (b : ByteArray) (ks : List El) (kv : Value), v = .agg #[.int .i64 c, .int .i64 t, .bool k, .string b, kv] ∧ Few b.size ∧ KsAt W ks kv := by
  obtain ⟨fs, hst, _⟩ := el_struct
  obtain ⟨cs, rfl, hsz⟩ := okWide_struct hst hv
  obtain ⟨fuel, hf⟩ := h
  obtain ⟨c, t, k, b, kv, n, y, _, hcs, hb, hy, hwy⟩ := open_elem hf hw
  obtain ⟨ks, hks⟩ := open_kids n n kv y (Nat.le_refl _) hy hwy
  refine ⟨c, t, k, b, ks, kv, ?_, hb, hks⟩
  simp only [Value.cells] at hcs
  obtain ⟨l⟩ := cs
  simp only at hcs
  rw [hcs]
end
theorem int_hi {n : Int} (h : (Lit.int .i64 n).wf = true) : n ≤ 9223372036854775807 := by
  have h2 : n ≤ IntKind.i64.max := by simp [Lit.wf] at h; exact h.2
  have e : IntKind.i64.max = 9223372036854775807 := by decide
  omega
theorem int_lo {n : Int} (h : (Lit.int .i64 n).wf = true) : -9223372036854775808 ≤ n := by
  have h2 : IntKind.i64.min ≤ n := by simp [Lit.wf] at h; exact h.1
  have e : IntKind.i64.min = -9223372036854775808 := by decide
  omega
/-- an element as a witness -/
def elemW : Value := .agg #[.int .i64 0, .int .i64 0, .bool false, .string ⟨#[]⟩, .slice none 0 0]
end Go.Proofs.Ytejnfnpcabldeaa
