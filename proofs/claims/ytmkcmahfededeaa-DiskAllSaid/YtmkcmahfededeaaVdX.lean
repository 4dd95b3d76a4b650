/- append of a whole row onto an empty one, whatever the row is: nil, empty or not. -/
import Derived.Test.YtmkcmahfededeaaVdO
import Derived.Maps.AppendAt
import Derived.Laws.OwnMore
import Derived.OwnWalk
namespace Go.Proofs.Ytmkcmahfededeaa
open Go.RowKit Go.Maps
theorem own_slice {w : World} {base : Nat} {e : TypeId} {size : Nat} {v : Value} {n : Nat} {xs : List Value} (h : w.ownsRow base e size v n xs) : ∃ p c, v = .slice p n c := by
  rcases h.2 with ⟨rfl, rfl⟩ | ⟨g, cap, cur, rfl, _⟩
  · exact ⟨none, 0, rfl⟩
  · exact ⟨some ⟨g, 0, none⟩, cap, rfl⟩
theorem run_append_copy {P : Program} (w : World) (base : Nat) (t ty e : TypeId) (i : TypeInfo) (z : Value) (size bytes : Nat) (ht : P.underlying t = some (.slice e)) (hi : P.info? e = some i) (hz : i.zero = some z)
    (hsize : i.size = size) (hby : i.bytes = bytes) (hzs : z.cells.size = size) (hsz : 0 < size) (v : Value) (hown : w.ownsRow base e size v 0 []) (b0 : Nat) (sv : Value) (m : Nat) (xs : List Value) (hsrc : w.ownsRow b0 e size sv m xs) (h1 : ∀ u ∈ xs, u.oneCell' = true)
    (h63 : m ≤ maxLen) (hbytes : m * bytes ≤ 140737488355328) (hbase : base ≤ w.heap.size) :
    ∃ p c w', (Builtin.append_ #[t, t] ty #[v, sv]).run P w = .ok (.slice p m c) w' ∧ w'.ownsRow base e size (.slice p m c) m xs ∧ w.grownBy w' v.ownBlock ∧ ((Value.slice p m c).ownBlock = v.ownBlock ∨ (Value.slice p m c).ownBlock = some w.heap.size) := by
  rcases hsrc.2 with ⟨rfl, rfl⟩ | ⟨g, cap, cur, rfl, _⟩
  · have hx : xs = [] := List.eq_nil_of_length_eq_zero (by have := hsrc.1; simpa using this)
    subst hx
    obtain ⟨p, c, rfl⟩ := own_slice hown
    exact ⟨p, c, w, run_append_owned_none (P := P) w base t ty e i size ht hi _ 0 [] hown, hown, World.grownBy.refl w _, .inl rfl⟩
  · obtain ⟨v', w', hrun, h2, h3, _, h5⟩ := run_append_own_at (P := P) w base t ty e i z size bytes ht hi hz hsize hby hzs hsz v 0 [] hown ⟨g, 0, none⟩ m cap xs hsrc.1 (hsrc.cells (g := g) rfl) h1 (by simpa using h63) (by simpa using hbytes) hbase
    simp only [Nat.zero_add, List.nil_append] at h2
    obtain ⟨p, c, rfl⟩ := own_slice h2
    exact ⟨p, c, w', hrun, h2, h3, h5⟩
theorem wpList_append_copy {P : Program} {w : World} {ops : Array Oper} {rest : List Oper} {o : Oper} {a : Act} {Q : Exit → Act → World → Prop} (hgd : o.guard = none) (s x : Operand) (t : TypeId)
    (ho : o.op = .call { callee := .builtin .append, args := #[s, x], argTypes := #[t, t] })
    (base : Nat) (e : TypeId) (i : TypeInfo) (z : Value) (size bytes : Nat) (ht : P.underlying t = some (.slice e)) (hi : P.info? e = some i) (hz : i.zero = some z)
    (hsize : i.size = size) (hby : i.bytes = bytes) (hzs : z.cells.size = size) (hsz : 0 < size)
    (v : Value) (hs : a.eval s = v) (hown : w.ownsRow base e size v 0 []) (b0 : Nat) (sv : Value) (m : Nat) (xs : List Value) (hx : a.eval x = sv) (hsrc : w.ownsRow b0 e size sv m xs) (h1 : ∀ u ∈ xs, u.oneCell' = true)
    (h63 : m ≤ maxLen) (hbytes : m * bytes ≤ 140737488355328) (hbase : base ≤ w.heap.size)
    (h : ∀ p c w', w'.ownsRow base e size (.slice p m c) m xs → w.grownBy w' v.ownBlock → ((Value.slice p m c).ownBlock = v.ownBlock ∨ (Value.slice p m c).ownBlock = some w.heap.size) → wpList P ops Q rest (a.put o.dst (.slice p m c)) w') : wpList P ops Q (o :: rest) a w := by
  obtain ⟨p, c, w', hrun, h2, h3, h4⟩ := run_append_copy (P := P) w base t o.type e i z size bytes ht hi hz hsize hby hzs hsz v hown b0 sv m xs hsrc h1 h63 hbytes hbase
  refine wpList_plain hgd fun K hK => ?_
  unfold Oper.wp execOp
  simp only [ho, resolve, invoke, builtin, Sem.run_bind, Sem.run_pure, Result.andThen_ok, List.map_toArray, List.map_cons, List.map_nil, hs, hx, hrun]
  exact hK _ _ (h p c w' h2 h3 h4)
end Go.Proofs.Ytmkcmahfededeaa
