/- What Write leaves: the disk with one more write in its queue. -/
import Derived.Test.YtoleojljpaglhaaGreatVdH
namespace Go.Proofs.YtoleojljpaglhaaGreat
open Go.RowKit Go.Maps
set_option maxRecDepth 20000
theorem find_congr {α : Type} {p r : α → Bool} : ∀ (l : List α), (∀ x ∈ l, p x = r x) → l.find? p = l.find? r
  | [], _ => rfl
  | x :: l, h => by
    rw [List.find?_cons, List.find?_cons, h x (by simp), find_congr l (fun y hy => h y (by simp [hy]))]
theorem lastAt_snoc (q : List (Nat × List UInt8)) (x : Nat × List UInt8) (k : Nat) : Vd.lastAt (q ++ [x]) k = if x.1 = k then some q.length else Vd.lastAt q k := by
  unfold Vd.lastAt
  rw [List.length_append, List.length_singleton, List.range_succ, List.reverse_append, List.reverse_singleton, List.singleton_append, List.find?_cons]
  have e : (q ++ [x]).getD q.length (0, []) = x := by simp [List.getD_eq_getElem?_getD]
  rw [e]
  by_cases h : x.1 = k
  · simp [h]
  · rw [if_neg h, show (x.1 == k) = false from by simpa using h]
    refine find_congr _ fun i hi => ?_
    have hi' : i < q.length := by simpa using hi
    rw [List.getD_eq_getElem?_getD, List.getD_eq_getElem?_getD, List.getElem?_append_left hi']
theorem lastI_snoc (q : List (Nat × List UInt8)) (a : Nat) (x : List UInt8) : lastI (q ++ [(a, x)]) = fun k => if k = (a : Int) then some (q.length : Int) else lastI q k := by
  funext k
  unfold lastI
  by_cases h : 0 ≤ k
  · rw [if_pos h, if_pos h, lastAt_snoc]
    by_cases e : k = (a : Int)
    · subst e; simp
    · rw [if_neg e, if_neg (by simp only; omega)]
  · rw [if_neg h, if_neg h, if_neg (by omega)]
section
variable {V w2 w3 : World} {g S M : Nat} {qv : Value} {d : Vd.VD}
theorem write_end (hD : DiskAt V g S M qv d) (a : Nat) (x : List UInt8) (ha : a < d.secs.length) (hx : x.length = 64) (hG2 : V.drew.grownBy w2 (some M))
    (hM2 : MapIs w2 M (d.q.length + 1) fun k => if k = (a : Int) then some (d.q.length : Int) else lastI d.q k) (o : Obj) (gq capq : Nat) (hG3 : (w2.drew.alloc o).grownBy w3 qv.ownBlock)
    (hown : w3.ownsRow 0 157 65 (.slice (some ⟨gq, 0, none⟩) (d.q.length + 1) capq) (d.q.length + 1) (qcells d.q ++ wcells (a, x))) (hat : qv.ownBlock = some gq ∨ gq = (w2.drew.alloc o).heap.size) (B : Nat) (hB : B ≤ V.heap.size) :
    DF ((w3.setCell ⟨g, 1, none⟩ (.slice (some ⟨gq, 0, none⟩) (d.q.length + 1) capq)).setCell ⟨g, 9, none⟩ (.int .i64 (d.writes + 1))) g { d with q := d.q ++ [(a, x)], writes := d.writes + 1 } (foot g S M (.slice (some ⟨gq, 0, none⟩) (d.q.length + 1) capq)) ∧
    Only (foot g S M qv) V ((w3.setCell ⟨g, 1, none⟩ (.slice (some ⟨gq, 0, none⟩) (d.q.length + 1) capq)).setCell ⟨g, 9, none⟩ (.int .i64 (d.writes + 1))) ∧
    ∀ b ∈ foot g S M (.slice (some ⟨gq, 0, none⟩) (d.q.length + 1) capq), b ∈ foot g S M qv ∨ B ≤ b := by
  have o1 : Only [M] V w2 := (Only.refl [M] V).drew.grown hG2 (fun b e => .inl (by injection e with e; simp [e]))
  have o2 : Only [M] V (w2.drew.alloc o) := o1.drew.alloc _
  have o3 : Only qv.ownBlock.toList (w2.drew.alloc o) w3 := (Only.refl _ _).grown hG3 (fun b e => .inl (by simp [e]))
  obtain ⟨qv', hqv'⟩ : ∃ v : Value, v = .slice (some ⟨gq, 0, none⟩) (d.q.length + 1) capq := ⟨_, rfl⟩
  have hob : qv'.ownBlock = some gq := by rw [hqv']; rfl
  rw [← hqv'] at hown ⊢
  have o4 : Only [g] w3 ((w3.setCell ⟨g, 1, none⟩ qv').setCell ⟨g, 9, none⟩ (.int .i64 (d.writes + 1))) := ((Only.refl _ _).own 1 _).own 9 _
  have hMg := hD.Mg
  have hMS := hD.MS
  have hgS := hD.gS
  have hgl := hD.self.lt
  have hSl := hD.secs.lt
  have hs3 : V.heap.size ≤ (w2.drew.alloc o).heap.size := o2.size
  have nq : ∀ b, b < V.heap.size → qv.ownBlock ≠ some b → b ≠ gq := by
    rintro b hb hn rfl
    rcases hat with h | h
    · exact hn h
    · omega
  have hself : Blk w3 g 69 (dcells S M qv d) := (hD.self.only o2 (by simpa using hMg.symm)).only o3 (by simpa using hD.qg)
  have hok := hD.ok
  have hown' : w3.ownsRow 0 157 65 qv' (d.q ++ [(a, x)]).length (qcells (d.q ++ [(a, x)])) := by
    have e : qcells (d.q ++ [(a, x)]) = qcells d.q ++ wcells (a, x) := by simp [qcells, wcells]
    rw [e, List.length_append, List.length_singleton]
    exact hown
  refine ⟨⟨S, M, qv', rfl, ⟨hok.secs, hok.secs0, ?_, hok.room, hok.fuse, ?_⟩, hD.secs1, ?_, ?_, ?_, ?_⟩, ?_, ?_⟩
  · intro y hy
    rcases List.mem_append.1 hy with hy | hy
    · exact hok.q y hy
    · rw [List.mem_singleton.1 hy]; exact ⟨ha, hx⟩
  · have := hok.writes
    simp only [List.length_append, List.length_singleton]
    omega
  · refine ((hself.set_ 1 _).set_ 9 _).eq_ ?_
    unfold dcells
    simp
  · exact ⟨((hD.secs.only o2 (by simpa using hMS.symm)).only o3 (by simpa using hD.qS)).only o4 (by simpa using hgS.symm), hD.secsG.2⟩
  · exact ownsRow_only hown' o4 (fun k hk => by
      rw [hob] at hk
      injection hk with hk
      subst hk
      simpa using (nq g hgl hD.qg).symm)
  · have h1 : MapIs w3 M (d.q.length + 1) fun k => if k = (a : Int) then some (d.q.length : Int) else lastI d.q k := (hM2.only ((Only.refl [] w2).drew.alloc o) (by simp)).only o3 (by simpa using hD.qM)
    have h2 := h1.only o4 (by simpa using hMg)
    show MapIs _ M (d.q ++ [(a, x)]).length (lastI (d.q ++ [(a, x)]))
    rw [lastI_snoc, List.length_append, List.length_singleton]
    exact h2
  · refine ((o2.mono (by simp [foot])).trans o3 (fun b hb => .inl (by simp [foot] at hb ⊢; simp [hb]))).trans o4 (fun b hb => .inl (by simp [foot] at hb ⊢; simp [hb]))
  · intro b hb
    simp only [foot, List.mem_cons, Option.mem_toList, hob] at hb ⊢
    rcases hb with rfl | rfl | rfl | hb
    · exact .inl (.inl rfl)
    · exact .inl (.inr (.inl rfl))
    · exact .inl (.inr (.inr (.inl rfl)))
    · injection hb with hb
      subst hb
      rcases hat with h | h
      · exact .inl (.inr (.inr (.inr h)))
      · right; omega
end
end Go.Proofs.YtoleojljpaglhaaGreat
