/- Words for the pager's maps: a map of texts as a function, a set of integers as a function. No conditions. -/
import Derived.Test.YtoleojljpaglhaaGreatVdM
import Derived.Maps.StringElems
import Derived.Shelf.SlMaps.Clone
import Derived.Lib.Hide
import Derived.WalkKit
import Derived.ProofKit
import Derived.Outline
namespace Go.Proofs.YtoleojljpaglhaaGreat
open Go.RowKit Go.Maps
set_option maxRecDepth 20000
theorem own_exact {H : Type} {P : Program} {k : TypeId} {R : Value → Option (DataW H × List MemPlace)} {w : World} {b n : Nat} {D : DataW H} (h : w.ownsMap P k R b n D) : w.ownsMap P k R b (Maps.size D) D := by
  obtain ⟨es, clock, hb, F, hs, rfl⟩ := h
  exact ⟨es, clock, hb, F, by simp [Maps.size, length_sorted], rfl⟩
/-- block M is a map of texts that holds just f, sz of them -/
def PMap (w : World) (M : Nat) (f : Int → Option ByteArray) (sz : Nat) : Prop :=
  ∃ D : DataW Unit, w.ownsMap Tryz.prog 3 (plainElem Tryz.prog 9) M sz D ∧ (∀ k z, D.atKey (.int .i64 k) z = match f k with | some v => .lit (.string v.data.toList) | none => z) ∧ (∀ k, Maps.has D (.int .i64 k) = (f k).isSome) ∧ Maps.size D = sz
/-- block M is a set of integers that holds just f -/
def SMap (w : World) (M : Nat) (f : Int → Bool) (sz : Nat) : Prop :=
  ∃ D : DataW Unit, w.ownsMap Tryz.prog 3 unitElem M sz D ∧ (∀ k, Maps.has D (.int .i64 k) = f k) ∧ Maps.size D = sz
theorem zeroStr (w : World) : (zeroValue 9).run Tryz.prog w = .ok (.string ⟨#[]⟩) w := by kernel_rfl
theorem zeroUnit (w : World) : (zeroValue 145).run Tryz.prog w = .ok (.agg #[]) w := by kernel_rfl
section
variable {w w' : World} {M sz : Nat} {f : Int → Option ByteArray} {g : Int → Bool}
theorem PMap.made (w : World) : PMap (w.alloc (.map #[] 0)) w.heap.size (fun _ => none) 0 :=
  ⟨.map [], World.ownsMap_made w _ _ _, fun _ _ => rfl, fun _ => rfl, rfl⟩
theorem SMap.made (w : World) : SMap (w.alloc (.map #[] 0)) w.heap.size (fun _ => false) 0 :=
  ⟨.map [], World.ownsMap_made w _ _ _, fun _ => rfl, rfl⟩
theorem PMap.lt (h : PMap w M f sz) : M < w.heap.size := let ⟨_, ho, _⟩ := h; ho.lt
theorem SMap.lt (h : SMap w M g sz) : M < w.heap.size := let ⟨_, ho, _⟩ := h; ho.lt
theorem PMap.isMap (h : PMap w M f sz) : ∃ es clock, w.heap[M]? = some (.map es clock) := let ⟨_, ⟨es, clock, hb, _⟩, _⟩ := h; ⟨es, clock, hb⟩
theorem SMap.isMap (h : SMap w M g sz) : ∃ es clock, w.heap[M]? = some (.map es clock) := let ⟨_, ⟨es, clock, hb, _⟩, _⟩ := h; ⟨es, clock, hb⟩
theorem PMap.at (h : PMap w M f sz) (e : w'.heap[M]? = w.heap[M]?) : PMap w' M f sz := by
  obtain ⟨D, ⟨es, clock, hb, r⟩, r2⟩ := h
  exact ⟨D, ⟨es, clock, e.trans hb, r⟩, r2⟩
theorem SMap.at (h : SMap w M g sz) (e : w'.heap[M]? = w.heap[M]?) : SMap w' M g sz := by
  obtain ⟨D, ⟨es, clock, hb, r⟩, r2⟩ := h
  exact ⟨D, ⟨es, clock, e.trans hb, r⟩, r2⟩
theorem PMap.only {fp : List Nat} (h : PMap w M f sz) (ho : Only fp w w') (hn : M ∉ fp) : PMap w' M f sz := h.at (ho.block M h.lt hn)
theorem SMap.only {fp : List Nat} (h : SMap w M g sz) (ho : Only fp w w') (hn : M ∉ fp) : SMap w' M g sz := h.at (ho.block M h.lt hn)
theorem PMap.below (h : PMap w M f sz) (hb : Below w.heap.size w w') : PMap w' M f sz := h.at (hb.block M h.lt)
theorem SMap.below (h : SMap w M g sz) (hb : Below w.heap.size w w') : SMap w' M g sz := h.at (hb.block M h.lt)
theorem int_kl (k : Int) : WideAt.IsKeyLit (.int .i64 k) := by trivial
/-- how many there are when one is put -/
def putSz (f : Int → Option ByteArray) (sz : Nat) (k : Int) : Nat := if (f k).isSome = true then sz else sz + 1
def putF (f : Int → Option ByteArray) (k : Int) (s : ByteArray) (x : Int) : Option ByteArray := if x = k then some s else f x
def delSz (f : Int → Option ByteArray) (sz : Nat) (k : Int) : Nat := if (f k).isSome = true then sz - 1 else sz
def delF (f : Int → Option ByteArray) (k : Int) (x : Int) : Option ByteArray := if x = k then none else f x
theorem PMap.store (h : PMap w M f sz) (hn : sz < maxLen) (k : Int) (s : ByteArray) (hk : (Lit.int .i64 k).wf = true) (hs : s.size ≤ maxLen) :
    ∃ w', (Instr.mapUpdate 74 (.map (some M)) (.int .i64 k) (.string s)).run Tryz.prog w = .ok () w' ∧ PMap w' M (putF f k s) (putSz f sz k) ∧ w.mapTurned w' M := by
  obtain ⟨D, ho, ha, hh, hz⟩ := h
  obtain ⟨w', hrun, ho', hg⟩ := ho.store intKey Tryz.underlying74 hn (keyOf_int_mk Tryz.underlying3 hk) (plainElem_string Tryz.underlying9 hs)
  have hm := ho.isMap
  have e : Maps.size (D.put (.int .i64 k) (.lit (.string s.data.toList))) = putSz f sz k := by
    rw [size_put (ho.tidy intKey), hh k, hz]; rfl
  refine ⟨w', hrun, ⟨_, e ▸ own_exact ho', fun x z => ?_, fun x => ?_, e⟩, hg⟩
  · unfold putF
    by_cases hx : x = k
    · subst hx
      rw [if_pos rfl, atKey_put_same hm (int_kl _)]
    · rw [if_neg hx, atKey_put_other (by intro e; exact hx (by injection e))]
      exact ha x z
  · unfold putF
    by_cases hx : x = k
    · subst hx
      rw [if_pos rfl, has_put_same hm (int_kl _)]
      rfl
    · rw [if_neg hx, has_put_other (by intro e; exact hx (by injection e))]
      exact hh x
theorem PMap.drop (h : PMap w M f sz) (k : Int) (hk : (Lit.int .i64 k).wf = true) (ty : TypeId) :
    ∃ w', (Builtin.delete_ #[74, 3] ty #[.map (some M), .int .i64 k]).run Tryz.prog w = .ok (.tuple #[]) w' ∧ PMap w' M (delF f k) (delSz f sz k) ∧ w.mapTurned w' M := by
  obtain ⟨D, ho, ha, hh, hz⟩ := h
  obtain ⟨w', hrun, ho', hg⟩ := ho.drop intKey Tryz.underlying74 (keyOf_int_mk Tryz.underlying3 hk) ty
  have e : Maps.size (D.del (.int .i64 k)) = delSz f sz k := by
    have := size_del (k := .int .i64 k) (ho.tidy intKey)
    rw [hh k, hz] at this
    unfold delSz
    split at this <;> rename_i h1
    · rw [if_pos h1]; omega
    · rw [if_neg h1]; omega
  refine ⟨w', hrun, ⟨_, e ▸ own_exact ho', fun x z => ?_, fun x => ?_, e⟩, hg⟩
  · unfold delF
    by_cases hx : x = k
    · subst hx
      rw [if_pos rfl, atKey_del_same]
    · rw [if_neg hx, atKey_del_other (by intro e; exact hx (by injection e))]
      exact ha x z
  · unfold delF
    by_cases hx : x = k
    · subst hx
      rw [if_pos rfl, has_del_same]
      rfl
    · rw [if_neg hx, has_del_other (by intro e; exact hx (by injection e))]
      exact hh x
theorem PMap.look (h : PMap w M f sz) (k : Int) (hk : (Lit.int .i64 k).wf = true) :
    (Instr.lookup 74 (.map (some M)) (.int .i64 k) true).run Tryz.prog w = .ok (.tuple #[.string ((f k).getD ⟨#[]⟩), .bool (f k).isSome]) w := by
  obtain ⟨D, ho, ha, hh, hz⟩ := h
  obtain ⟨v, ps, hrun, hv⟩ := ho.look_ok intKey Tryz.underlying74 (zeroStr w) (plainElem_string Tryz.underlying9 (by decide)) (keyOf_int_mk Tryz.underlying3 hk)
  obtain ⟨c, rfl, hc, _⟩ := plainElem_string_inv Tryz.underlying9 hv
  rw [hrun, hh k]
  have e := congrArg Prod.fst hc
  simp only at e
  rw [ha k] at e
  cases hf : f k with
  | none =>
    rw [hf] at e
    injection e with e
    injection e with e
    have : c = ⟨#[]⟩ := by
      cases c; congr 1; exact Array.toList_inj.1 e.symm
    rw [this]
    rfl
  | some v =>
    rw [hf] at e
    injection e with e
    injection e with e
    have : c = v := by
      cases c; cases v; congr 1; exact Array.toList_inj.1 e.symm
    rw [this]
    rfl
theorem PMap.len (h : PMap w M f sz) (ty : TypeId) : (Builtin.len_ #[74] ty #[.map (some M)]).run Tryz.prog w = .ok (.int .i64 sz) w := by
  obtain ⟨D, ho, ha, hh, hz⟩ := h
  rw [ho.len Tryz.underlying74, hz]
theorem SMap.store (h : SMap w M g sz) (hn : sz < maxLen) (k : Int) (hk : (Lit.int .i64 k).wf = true) :
    ∃ w', (Instr.mapUpdate 78 (.map (some M)) (.int .i64 k) (.agg #[])).run Tryz.prog w = .ok () w' ∧ (SMap w' M (fun x => x == k || g x) (if g k = true then sz else sz + 1)) ∧ w.mapTurned w' M := by
  obtain ⟨D, ho, hh, hz⟩ := h
  obtain ⟨w', hrun, ho', hg⟩ := ho.store intKey Tryz.underlying78 hn (keyOf_int_mk Tryz.underlying3 hk) (unitElem_mk (H := Unit))
  have hm := ho.isMap
  have e : Maps.size (D.put (.int .i64 k) (.agg [])) = (if g k = true then sz else sz + 1) := by
    rw [size_put (ho.tidy intKey), hh k, hz]
  refine ⟨w', hrun, ⟨_, e ▸ own_exact ho', fun x => ?_, e⟩, hg⟩
  by_cases hx : x = k
  · subst hx
    rw [has_put_same hm (int_kl _)]
    simp
  · rw [has_put_other (by intro e; exact hx (by injection e)), hh x]
    simp [hx]
theorem PMap.copy (h : PMap w M f sz) : Calls Tryz.prog 110 #[.map (some M)] w fun e w' => e = .returned (.map (some w.heap.size)) ∧ PMap w' w.heap.size f sz ∧ PMap w' M f sz ∧ Below w.heap.size w w' := by
  obtain ⟨es, clock, hb⟩ := h.isMap
  have hB : Below w.heap.size w (w.alloc (.map es clock)) := (Below.refl _ w).alloc (Nat.le_refl _) _
  have hM := h.below hB
  have hN : PMap (w.alloc (.map es clock)) w.heap.size f sz := by
    obtain ⟨D, ⟨es', clock', hb', r⟩, r2⟩ := h
    rw [hb] at hb'
    injection hb' with hb'
    injection hb' with e1 e2
    subst e1 e2
    exact ⟨D, ⟨es, clock, (MapKept.heap_alloc w _).1, r⟩, r2⟩
  have HQ := Lib.hid (And.intro hN (And.intro hM hB))
  clear hN hM hB h
  have hq := fun w => run_eql_map_nil_sl (P := Tryz.prog) w 74 _ _ (some M) Tryz.underlying74
  go_enter Tryz.func110, Tryz.ntmps110
  go_wp2
  rw [run_callFunc_extern Tryz.func127 (by kernel_rfl) (by kernel_rfl) (by kernel_rfl) (e := Extern.MapsClone.clone) (by kernel_rfl), run_maps_clone_sl w 74 hb]
  simp only [Result.andThen]
  rw [Oper.upon_value]
  go_wp2
  rw [run_typeAssert_map_sl _ 74 20 _ _ _ Tryz.underlying74]
  simp only [Result.andThen]
  rw [Oper.upon_value]
  go_wp2
  go_ret
  exact ⟨rfl, HQ.out⟩
end
end Go.Proofs.YtoleojljpaglhaaGreat
