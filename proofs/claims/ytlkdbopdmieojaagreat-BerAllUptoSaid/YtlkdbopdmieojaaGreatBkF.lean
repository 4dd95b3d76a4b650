/- Marks: the contract of chancerybook.markElements, rows that read as marks, append onto an own row, the contract of stillElements. -/
import Derived.Test.YtlkdbopdmieojaaGreatBkD
import Derived.Test.YtlkdbopdmieojaaGreatBerBB
set_option maxRecDepth 20000
namespace Go.Proofs.YtlkdbopdmieojaaGreat
open Go.RowKit Ber
set_option maxRecDepth 20000
/-- the k-th mark of the i-th list -/
def mk1 (i k : Nat) : El × Value := (.mk (-1 - (i : Int)) (k : Int) false ⟨#[]⟩ [], .slice none 0 0)
def mkL (i f n : Nat) : List (El × Value) := (List.range n).map fun k => mk1 i (f + k)
theorem mkL_length (i f n : Nat) : (mkL i f n).length = n := by simp [mkL]
theorem mkL_succ (i f n : Nat) : mkL i f (n + 1) = mkL i f n ++ [mk1 i (f + n)] := by simp [mkL, List.range_succ]
theorem mkL_add (i f n m : Nat) : mkL i f n ++ mkL i (f + n) m = mkL i f (n + m) := by
  induction m with
  | zero => simp [mkL]
  | succ m ih => rw [mkL_succ, ← List.append_assoc, ih, ← Nat.add_assoc, mkL_succ, Nat.add_assoc]
theorem mkL_at (i f n j : Nat) (h : j < n) : (mkL i f n)[j]'(by rw [mkL_length]; exact h) = mk1 i (f + j) := by simp [mkL]
theorem mkL_take (i n j : Nat) (h : j ≤ n) : (mkL i 0 n).take j = mkL i 0 j := by
  have := mkL_add i 0 j (n - j)
  rw [show j + (n - j) = n from by omega] at this
  rw [← this, List.take_left' (mkL_length i 0 j)]
/-- the elements that the marks are -/
def mks (i n : Nat) : List El := (mkL i 0 n).map (·.1)
theorem mks_length (i n : Nat) : (mks i n).length = n := by simp [mks, mkL_length]
/-- a list that reads as marks -/
def Rd (w : World) (v : Value) (i n : Nat) : Prop := ∃ a cap, v = .slice a n cap ∧ (n ≤ cap ∧ cap ≤ maxLen) ∧ ∀ j, j < n → ∃ g, a = some ⟨g, 0, none⟩ ∧ g < w.heap.size ∧ C5 w g (j * 5) (-1 - (i : Int)) (j : Int) false ⟨#[]⟩ (.slice none 0 0)
theorem Rd.ks {w : World} {v : Value} {i n : Nat} (h : Rd w v i n) (hf : FewK n) : KsAt w (mks i n) v := by
  obtain ⟨a, cap, rfl, hc, hj⟩ := h
  have hm : ∀ j (hj : j < (mks i n).length), (mks i n)[j] = .mk (-1 - (i : Int)) (j : Int) false ⟨#[]⟩ [] := fun j hj => by
    rw [mks_length] at hj
    simp only [mks, List.getElem_map, mkL_at i 0 n j hj, mk1, Nat.zero_add]
  have key : KsAt w (mks i n) (.slice a (mks i n).length cap) := by
    by_cases h0 : 0 < n
    · obtain ⟨g, rfl, _, _⟩ := hj 0 h0
      refine .mk _ (some ⟨g, 0, none⟩) cap g 0 (fun _ => .slice none 0 0) (by rw [mks_length]; exact hc) (by rw [mks_length]; exact hf) (fun j hjl => ?_) (fun j hjl => ?_)
      · have hjn := hjl
        rw [mks_length] at hjn
        obtain ⟨g', e, hg, c⟩ := hj j hjn
        injection e with e
        injection e with e
        subst e
        rw [hm j hjl]
        exact ⟨rfl, hg, by rw [Nat.zero_add]; exact c, Nat.zero_le _⟩
      · rw [hm j hjl]
        exact KsAt.nil w
    · have h1 : (mks i n).length = 0 := by rw [mks_length]; omega
      exact .mk _ a cap 0 0 (fun _ => .slice none 0 0) (by rw [h1]; omega) (by rw [h1]; unfold FewK; omega) (fun j hjl => by omega) (fun j hjl => by omega)
  rw [mks_length] at key
  exact key
theorem Rd.of_row {w : World} {B m n i : Nat} {v l : Value} (h : w.ownsRow B 47 5 l m (rowE (mkL i 0 m))) (hn : n ≤ m) {a : Option Addr} {cap : Nat} (hv : v = .slice a n cap) (hc : n ≤ cap ∧ cap ≤ maxLen) (ho : 0 < n → ∃ g, a = some ⟨g, 0, none⟩ ∧ l.ownBlock = some g) : Rd w v i n := by
  refine ⟨a, cap, hv, hc, fun j hj => ?_⟩
  obtain ⟨g, rfl, hg⟩ := ho (by omega)
  obtain ⟨a2, n2, cap2, rfl⟩ : ∃ a2 n2 cap2, l = .slice a2 n2 cap2 := by
    rcases h.2 with ⟨rfl, _⟩ | ⟨g', cap', cur, rfl, _⟩ <;> exact ⟨_, _, _, rfl⟩
  have hl := mkL_length i 0 m
  have h2 := h
  rw [← hl] at h2
  rw [hl] at h2
  obtain ⟨g', rfl, hgl, c⟩ := row_at (L := mkL i 0 m) (by rw [hl]; exact h) j (by rw [hl]; omega)
  injection hg with hg
  subst hg
  rw [mkL_at i 0 m j (by omega)] at c
  simp only [mk1, El.c, El.t, El.k, El.b, Nat.zero_add] at c
  exact ⟨_, rfl, hgl, c⟩
theorem Rd.row {w : World} {B n i : Nat} {v : Value} (h : w.ownsRow B 47 5 v n (rowE (mkL i 0 n))) : Rd w v i n := by
  rcases h.2 with ⟨rfl, rfl⟩ | ⟨g, cap, cur, rfl, _, _, hc1, hc2, _⟩
  · exact ⟨none, 0, rfl, ⟨Nat.le_refl _, Nat.zero_le _⟩, fun j hj => absurd hj (by omega)⟩
  · exact Rd.of_row h (Nat.le_refl _) rfl ⟨hc1, hc2⟩ (fun _ => ⟨g, rfl, rfl⟩)
theorem Rd.keep {w w' : World} {v : Value} {i n : Nat} (h : Rd w v i n) (hs : w.heap.size ≤ w'.heap.size) (hk : ∀ q, q < w.heap.size → v.ownBlock = some q → w'.heap[q]? = w.heap[q]?) : Rd w' v i n := by
  obtain ⟨a, cap, rfl, hc, hj⟩ := h
  refine ⟨a, cap, rfl, hc, fun j hjn => ?_⟩
  obtain ⟨g, rfl, hg, c⟩ := hj j hjn
  exact ⟨g, rfl, by omega, c.block (hk g hg rfl)⟩
/-- append onto an own row: in the old block, or in a new one and the old one stays -/
theorem run_append_two {P : Program} (w : World) (base : Nat) (t ty e : TypeId) (i : TypeInfo) (z : Value) (size bytes : Nat) (ht : P.underlying t = some (.slice e)) (hi : P.info? e = some i) (hz : i.zero = some z)
    (hsize : i.size = size) (hby : i.bytes = bytes) (hzs : z.cells.size = size) (hsz : 0 < size)
    (v : Value) (n : Nat) (xs : List Value) (hown : w.ownsRow base e size v n xs)
    (a : Addr) (m c : Nat) (news : List Value) (hl : news.length = m * size) (hnews : ∀ j u, news[j]? = some u → w.cell? (a.add j) = some u) (h1 : ∀ u ∈ news, u.oneCell' = true)
    (h63 : n + m ≤ maxLen) (hbytes : (n + m) * bytes ≤ 140737488355328) (hbase : base ≤ w.heap.size) :
    ∃ v' w', (Builtin.append_ #[t, t] ty #[v, .slice (some a) m c]).run P w = .ok v' w' ∧ w'.ownsRow base e size v' (n + m) (xs ++ news) ∧ w.grownBy w' v.ownBlock ∧ (v'.ownBlock = v.ownBlock ∨ (v'.ownBlock = some w.heap.size ∧ w.grownBy w' none)) := by
  obtain ⟨v', w', hr, h2, h3, _, h5⟩ := run_append_own_at (P := P) w base t ty e i z size bytes ht hi hz hsize hby hzs hsz v n xs hown a m c news hl hnews h1 h63 hbytes hbase
  refine ⟨v', w', hr, h2, h3, ?_⟩
  rcases h5 with h5 | h5
  · exact .inl h5
  · rcases hown.2 with ⟨rfl, rfl⟩ | ⟨g, cap, cur, rfl, hbg, hg, hnc, hcm, hcs, htake⟩
    · exact .inr ⟨h5, h3⟩
    · subst hsize
      subst hby
      have hsmall : n + m ≤ 9223372036854775807 := by simp only [maxLen] at h63; omega
      by_cases hroom : n + m ≤ cap
      · have hfit : n * i.size + news.length ≤ cur.size := by rw [hl, hcs, ← Nat.add_mul]; exact Nat.mul_le_mul_right _ hroom
        have hr2 := run_append_room (P := P) w t ty e i ht hi g n cap cur hg a m c news hl hnews h1 hroom hfit
        rw [hr] at hr2
        injection hr2 with e1 e2
        exact .inl (by rw [e1]; rfl)
      · have holds : ∀ j u, xs[j]? = some u → w.cell? ((⟨g, 0, none⟩ : Addr).add j) = some u := hown.cells (g := g) rfl
        have hr2 := run_append_grow (P := P) w t ty e i z ht hi hz ⟨g, 0, none⟩ n cap xs hown.1 holds a m c news hl hnews (by omega) (by omega) (growslice_fits (by omega) hbytes)
        rw [hr] at hr2
        injection hr2 with e1 e2
        refine .inr ⟨h5, ?_⟩
        rw [e2]
        exact ⟨rfl, rfl, rfl, by simp, fun k hk _ => Below.heap_alloc w.drew _ k hk⟩
theorem wpList_append_two {P : Program} {w : World} {ops : Array Oper} {rest : List Oper} {o : Oper} {a : Act} {Q : Exit → Act → World → Prop} (hgd : o.guard = none) (s x : Operand) (t : TypeId)
    (ho : o.op = .call { callee := .builtin .append, args := #[s, x], argTypes := #[t, t] })
    (base : Nat) (e : TypeId) (i : TypeInfo) (z : Value) (size bytes : Nat) (ht : P.underlying t = some (.slice e)) (hi : P.info? e = some i) (hz : i.zero = some z)
    (hsize : i.size = size) (hby : i.bytes = bytes) (hzs : z.cells.size = size) (hsz : 0 < size)
    (v : Value) (n : Nat) (xs : List Value) (hs : a.eval s = v) (hown : w.ownsRow base e size v n xs)
    (ad : Addr) (m c : Nat) (news : List Value) (hx : a.eval x = .slice (some ad) m c) (hl : news.length = m * size) (hnews : ∀ j u, news[j]? = some u → w.cell? (ad.add j) = some u) (h1 : ∀ u ∈ news, u.oneCell' = true)
    (h63 : n + m ≤ maxLen) (hbytes : (n + m) * bytes ≤ 140737488355328) (hbase : base ≤ w.heap.size)
    (h : ∀ v' w', w'.ownsRow base e size v' (n + m) (xs ++ news) → w.grownBy w' v.ownBlock → (v'.ownBlock = v.ownBlock ∨ (v'.ownBlock = some w.heap.size ∧ w.grownBy w' none)) → wpList P ops Q rest (a.put o.dst v') w') :
    wpList P ops Q (o :: rest) a w := by
  refine wpList_plain hgd fun K hK => ?_
  obtain ⟨v', w', hr, h2, h3, h5⟩ := run_append_two (P := P) w base t o.type e i z size bytes ht hi hz hsize hby hzs hsz v n xs hown ad m c news hl hnews h1 h63 hbytes hbase
  unfold Oper.wp execOp
  simp only [ho, resolve, invoke, builtin, Sem.run_bind, Sem.run_pure, Result.andThen_ok, List.map_toArray, List.map_cons, List.map_nil, hs, hx, hr]
  exact hK _ _ (h v' w' h2 h3 h5)
theorem rowE_one1 (p : El × Value) : rowE [p] = cells1 p := by simp [rowE]
/-- what markElements leaves -/
def MkEls (w : World) (i f n : Nat) (e : Ending) (w' : World) : Prop := ∃ v, e = .returned v ∧ w'.ownsRow w.heap.size 47 5 v n (rowE (mkL i f n)) ∧ Below w.heap.size w w'
set_option maxHeartbeats 1000000 in
theorem markEls_any (i f n : Nat) (I F N : Int) (hI : I = (i : Int)) (hF : F = (f : Int)) (hN : N = (n : Int)) (w : World) (hi : i ≤ 1000) (hb : (f + n) * 64 ≤ 140737488355328) :
    Calls Tryz.prog 133 #[.int .i64 I, .int .i64 F, .int .i64 N] w fun e w' => MkEls w i f n e w' := by
  subst hI hF hN
  obtain ⟨i0, hi0, hz0, hz1, hz2⟩ := info_parts el_info
  have Hi0 := Lib.hid hi0
  have Hz0 := Lib.hid hz0
  have Hz1 := Lib.hid hz1
  have Hz2 := Lib.hid hz2
  clear hi0 hz0 hz1 hz2
  have w1 : IntKind.i64.wrap (-1 - (i : Int)) = -1 - (i : Int) := by rw [IntKind.wrap_i64]; omega
  have w2 : IntKind.i64.wrap ((f : Int) + (n : Int)) = (f : Int) + (n : Int) := by rw [IntKind.wrap_i64]; omega
  go_enter Tryz.func133, Tryz.ntmps133
  go_wp2_with fail
  go_loopw [7, 8] (fun v k wr => ∃ j : Nat, j ≤ n ∧ k = .int .i64 ((f : Int) + (j : Int)) ∧ Hid (wr.ownsRow w.heap.size 47 5 v j (rowE (mkL i f j))) ∧ Below w.heap.size w wr) (fun _ k _ => (f + n) - (intOf k).toNat)
  case atStart => exact ⟨0, Nat.zero_le _, by simp, Lib.hid (by simpa [mkL, rowE] using World.ownsRow_nil _ _ _ _), Below.refl _ _⟩
  case round =>
    obtain ⟨j, hj, rfl, HO, hbel⟩ := hrel
    have hs := hbel.size
    by_cases hlt : j < n
    · have hlt' : (f : Int) + (j : Int) < (f : Int) + (n : Int) := by omega
      go_wp2_with (at_builtin; refine wpList_append_own_at _ rfl _ _ 45 rfl w.heap.size 47 i0 _ 5 64 Tryz.underlying45 Hi0.out Hz0.out Hz1.out Hz2.out rfl (by decide) _ j (rowE (mkL i f j)) rfl (HO.out.alloc _) ⟨wr.heap.size, 0, none⟩ 1 1 (cells1 (mk1 i (f + j))) rfl rfl ?c1 ?c2 ?c3 ?c4 ?c5 ?_)
      case c1 => exact new_row _ _ rfl _ _ _ (by simp [cells1, mk1, El.c, El.t, El.k, El.b])
      case c2 => exact cells1_one _ none 0 0 rfl
      case c3 => unfold maxLen; omega
      case c4 => omega
      case c5 => simp; omega
      intro v4 w4 hown4 hgrow4 hnil hblock
      rw [← rowE_one1, ← rowE_append, ← mkL_succ] at hown4
      have HO4 := Lib.hid hown4
      have HB4 : Hid (Below w.heap.size w w4) := Lib.hid ((hbel.alloc (by omega) _).grown hgrow4 (by simp; omega) (fun q hq => (HO.out.lt q hq).1))
      clear hown4 hgrow4 hnil hblock
      go_wp2_with fail
      go_roundw
      case rel => exact ⟨j + 1, by omega, by go_num, HO4, HB4.out⟩
      case measure => simp [intOf]; omega
    · obtain rfl : j = n := by omega
      go_wp2_with fail
      go_ret
      exact ⟨_, rfl, HO.out, hbel⟩
/-- the book's lists one by one -/
theorem Bk.at {w0 w : World} {b : Nat} {RL : List Rc} (h : Bk w0 w b RL) : ∃ ea ec wa wc, w.cell? ⟨b, 14, none⟩ = some (.slice ea RL.length ec) ∧ w.cell? ⟨b, 15, none⟩ = some (.slice wa RL.length wc) ∧
    ∀ j, j < RL.length → ∃ (qe qw : Nat) (ks : List El) (a1 a2 : Option Addr) (c1 c2 : Nat), ea = some ⟨qe, 0, none⟩ ∧ wa = some ⟨qw, 0, none⟩ ∧ w.cell? ⟨qe, j, none⟩ = some (.slice a1 ks.length c1) ∧ w.cell? ⟨qw, j, none⟩ = some (.slice a2 ks.length c2) ∧ KsAt w ks (.slice a1 ks.length c1) ∧ KsAt w ks (.slice a2 ks.length c2) := by
  obtain ⟨ev, wv, hr⟩ := h.ex
  obtain ⟨ea, ec, rfl, he⟩ := (row_form hr.e).2
  obtain ⟨wa, wc, rfl, hw⟩ := (row_form hr.v).2
  have c14 := hr.blk.cell 14
  have c15 := hr.blk.cell 15
  refine ⟨ea, ec, wa, wc, c14.trans (by simp only [List.length_map]; rfl), c15.trans (by simp only [List.length_map]; rfl), fun j hj => ?_⟩
  obtain ⟨⟨S, h1⟩, T, h2⟩ := h.ks RL[j] (List.getElem_mem hj)
  obtain ⟨qe, e1, e2⟩ := he j RL[j].v (by simp [hj])
  obtain ⟨qw, f1, f2⟩ := hw j RL[j].was (by simp [hj])
  obtain ⟨a1, c1, x1, _, _⟩ := h1.at.len
  obtain ⟨a2, c2, x2, _, _⟩ := h2.at.len
  have k1 := h1.at
  have k2 := h2.at
  rw [x1] at e2 k1
  rw [x2] at f2 k2
  exact ⟨qe, qw, _, a1, a2, c1, c2, e1, f1, e2, f2, k1, k2⟩
set_option maxHeartbeats 1000000 in
theorem stillElements_any {w0 w : World} {b : Nat} {RL : List Rc} (h : Bk w0 w b RL) : Calls Tryz.prog 30 #[.pointer (some ⟨b, 0, none⟩)] w fun e w' => e = .returned (.bool true) ∧ Below w.heap.size w w' := by
  obtain ⟨ea, ec, wa, wc, c14, c15, hat⟩ := h.at
  have hlen := h.len
  have C14 := Lib.hid c14
  have C15 := Lib.hid c15
  have HAT := Lib.hid hat
  clear h hat c14 c15
  go_enter Tryz.func30, Tryz.ntmps30
  go_wp2_with fail
  go_loopw [3] (fun i wr => ∃ j : Nat, j ≤ RL.length ∧ i = .int .i64 j ∧ Below w.heap.size w wr) (fun i _ => RL.length - (intOf i).toNat)
  case atStart => exact ⟨0, Nat.zero_le _, rfl, Below.refl _ _⟩
  case round =>
    obtain ⟨j, hj, rfl, hbel⟩ := hrel
    have hcell : ∀ {p : Addr} {v : Value}, w.cell? p = some v → wr.cell? p = some v := fun {p v} hc => (hbel.cell (p := p) (World.block_lt_of_cell? _ _ hc)).trans hc
    have c14 := hcell C14.out
    have c15 := hcell C15.out
    by_cases hlt : j < RL.length
    · obtain ⟨qe, qw, ks, a1, a2, n1, n2, rfl, rfl, d1, d2, k1, k2⟩ := HAT.out j hlt
      have d1 := hcell d1
      have d2 := hcell d2
      have HS : Hid (∀ W, Below wr.heap.size wr W → Calls Tryz.prog 114 #[.slice a1 ks.length n1, .slice a2 ks.length n2] W fun e w' => e = .returned (.bool true) ∧ Below W.heap.size W w') := Lib.hid (fun W hW => sameEls_any k1 k2 W (hbel.trans (hW.mono hbel.size)))
      have q0 : (0 : Int) ≤ (j : Int) := by omega
      have q1 : (j : Int) < (RL.length : Int) := by omega
      have HBB := Lib.hid hbel
      have hs := hbel.size
      clear k1 k2 hcell hbel
      go_wp2_with fail
      go_region_held3 (fun w' => w'.cell? ⟨b, 14, none⟩ = some (.slice (some ⟨qe, 0, none⟩) RL.length ec) ∧ w'.cell? ⟨b, 15, none⟩ = some (.slice (some ⟨qw, 0, none⟩) RL.length wc) ∧ w'.cell? ⟨qe, j, none⟩ = some (.slice a1 ks.length n1) ∧ w'.cell? ⟨qw, j, none⟩ = some (.slice a2 ks.length n2))
        (first | exact ⟨c14, c15, d1, d2⟩ | exact ⟨keep_c hb3 c14, keep_c hb3 c15, keep_c hb3 d1, keep_c hb3 d2⟩ | go_keep) (((with_reducible refine (HS.out _ (by exact below_drew1 (Below.refl _ _))).mono ?_); rintro e w3 ⟨rfl, hb3⟩))
      have hb9 : Below w.heap.size w w3 := HBB.out.trans ((below_drew1 (Below.refl wr.heap.size wr)).trans hb3 |>.mono hs)
      go_wp2_with fail
      go_roundw
      case rel => exact ⟨j + 1, by omega, by go_num, hb9⟩
      case measure => simp [intOf]; omega
    · go_wp2_with fail
      go_ret
      exact ⟨rfl, hbel⟩
end Go.Proofs.YtlkdbopdmieojaaGreat
