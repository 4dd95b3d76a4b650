/- The contract of octet.Hex for every text within the form's own reach: append within the capacity that make has given. -/
import Derived.Test.YteajgkjiappkiaaDoorOctC
namespace Go.Proofs.YteajgkjiappkiaaDoor
open Go.RowKit
theorem step_append_fits {P : Program} (w : World) {ops : Array Oper} {o : Oper} {a : Act} {K : Act → World → Prop} {Q : Exit → Act → World → Prop} {E : Prop} (hgd : o.guard = none) (s x : Operand) (t : TypeId)
    (ho : o.op = .call { callee := .builtin .append, args := #[s, x], argTypes := #[t, t] })
    (base : Nat) (e : TypeId) (i : TypeInfo) (size : Nat) (ht : P.underlying t = some (.slice e)) (hi : P.info? e = some i) (hsize : i.size = size)
    (g n cap : Nat) (xs : List Value) (hs : a.eval s = .slice (some ⟨g, 0, none⟩) n cap) (hown : w.ownsRow base e size (.slice (some ⟨g, 0, none⟩) n cap) n xs)
    (ad : Addr) (m c : Nat) (news : List Value) (hx : a.eval x = .slice (some ad) m c) (hl : news.length = m * size) (hnews : ∀ j u, news[j]? = some u → w.cell? (ad.add j) = some u) (h1 : ∀ u ∈ news, u.oneCell' = true)
    (hroom : n + m ≤ cap)
    (h : ∀ w', w'.ownsRow base e size (.slice (some ⟨g, 0, none⟩) (n + m) cap) (n + m) (xs ++ news) → w.grownBy w' (some g) → K (a.put o.dst (.slice (some ⟨g, 0, none⟩) (n + m) cap)) w') :
    if Region.wanted o (yielded ops a.tmps) = true then Oper.wp P o a w K Q else E := by
  have hw : Region.wanted o (yielded ops a.tmps) = true := by simp [Region.wanted, hgd]
  rw [if_pos hw]
  obtain ⟨w', hrun, h2, h3⟩ := run_append_fits (P := P) w base t o.type e i size ht hi hsize g n cap xs hown ad m c news hl hnews h1 hroom
  unfold Oper.wp execOp
  simp only [ho, resolve, invoke, builtin, Sem.run_bind, Sem.run_pure, Result.andThen_ok, List.map_toArray, List.map_cons, List.map_nil, hs, hx, hrun]
  exact h w' h2 h3
attribute [local go_sem ↓] run_index_hex
attribute [local go_sem] and15 tdiv16 tmod16 wrap16 wrap16'
set_option maxHeartbeats 1000000 in
theorem hex_big (s : ByteArray) (w : World) (hs : s.size ≤ 140737488351232) :
    Calls Tryd.prog 23 #[.string s] w fun e w' => e = .returned (.string ⟨(Oct.hexL s.data.toList).toArray⟩) ∧ Below w.heap.size w w' := by
  obtain ⟨i0, hi0, hz0, hz1, hz2⟩ := info_parts u8_info
  have hmk := fun W => make_bytes' (P := Tryd.prog) 26 5 i0 Tryd.underlying26 hi0 hz0 hz1 hz2 .i64 .i64 0 (2 * (s.size : Int)) 0 (2 * s.size) rfl (by omega) (by omega) (by omega) W
  go_enter Tryd.func23, Tryd.ntmps23
  go_wp2
  clear hmk
  go_loopw [3, 11] (fun v i wr => ∃ k : Nat, k ≤ s.size ∧ i = .int .i64 k ∧ v = .slice (some ⟨w.heap.size, 0, none⟩) (2 * k) (2 * s.size) ∧ wr.ownsRow w.heap.size 5 1 (.slice (some ⟨w.heap.size, 0, none⟩) (2 * k) (2 * s.size)) (2 * k) (bl (Oct.hexL (s.data.toList.take k))) ∧ Below w.heap.size w wr) (fun _ i _ => s.size - (intOf i).toNat)
  case atStart => exact ⟨0, Nat.zero_le _, rfl, rfl, own_new w _ _ (by unfold maxLen; omega), (Below.refl _ _).alloc (Nat.le_refl _) _⟩
  case round =>
    obtain ⟨k, hk, rfl, rfl, hown, hbel⟩ := hrel
    by_cases hlt : k < s.size
    · have hc : s[k].toNat < 256 := s[k].toNat_lt
      have d1 : (0 : Int) ≤ (s[k].toNat : Int) / 16 := by omega
      have d2 : (s[k].toNat : Int) / 16 ≤ 15 := by omega
      have d3 : (0 : Int) ≤ (s[k].toNat : Int) % 16 := by omega
      have d4 : (s[k].toNat : Int) % 16 ≤ 15 := by omega
      have hk0 : (0 : Int) ≤ (k : Int) := by omega
      have hk1 : (k : Int) < (s.size : Int) := by omega
      go_wp2
      go_region_held3 (fun _ => True) (trivial)
       ((refine step_append_fits _ (by rfl) _ _ _ (by rfl) w.heap.size 5 i0 1 Tryd.underlying26 hi0 hz1 w.heap.size (2 * k) (2 * s.size) (bl (Oct.hexL (s.data.toList.take k))) (by rfl) ((hown.alloc _).drew)
            ⟨wr.heap.size, 0, none⟩ 2 2 [_, _] (by rfl) (by rfl) (World.news_of_block (cs := #[_, _]) (t := 5) (fr := (0, 0)) (heap_alloc_new wr _)) (by simp [Value.oneCell'])
            (by omega) ?_; intro w1 hown1 hgrow))
      all_goals
        go_wp2
        go_roundw
        case rel => exact ⟨k + 1, by omega, by go_num, by rw [show 2 * (k + 1) = 2 * k + 2 from by omega], (show 2 * (k + 1) = 2 * k + 2 from by omega) ▸ hex_step hlt hown1, (((hbel.alloc (hbel.size) _).drew).grown hgrow (by have := hbel.size; simp; omega) (fun j hj => by simp at hj; omega))⟩
        case measure => simp [intOf]; omega
    · have hcv := string_of_own (P := Tryd.prog) hown 26 9 Tryd.underlying26 Tryd.underlying5 Tryd.underlying9
      rw [Oct.take_all s k hlt] at hcv
      clear hown
      go_wp2
      go_ret
      exact ⟨rfl, hbel⟩
end Go.Proofs.YteajgkjiappkiaaDoor
