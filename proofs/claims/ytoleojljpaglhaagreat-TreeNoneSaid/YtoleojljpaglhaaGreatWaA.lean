/- The contract of wal.form: a piece's sector. -/
import Derived.Test.YtoleojljpaglhaaGreatShelf
import Derived.Test.YtoleojljpaglhaaGreatWaP
import Derived.Test.YtoleojljpaglhaaGreatOctB
import Derived.Test.YtoleojljpaglhaaGreatOctE
import Derived.Deep.RegionHeld
import Derived.BigQuiet
import Derived.Laws.Concat
import Derived.Lib.Hide
import Derived.Maps.AppendAt
import Derived.LoopTactic
import Derived.Outline
namespace Go.Proofs.YtoleojljpaglhaaGreat
open Go.RowKit
set_option maxRecDepth 20000
/-- a text that may be joined -/
def Small (a : ByteArray) : Prop := a.size ≤ 4194304
theorem run_cat {P : Program} {w : World} (a b : ByteArray) (h : Small a) (k : Small b) : (Op.stringOp .add a b).run P w = .ok (.string (a ++ b)) w :=
  run_string_add_sum (P := P) w a b (by unfold Small at h k; omega)
theorem ba_app (l m : List UInt8) : (⟨l.toArray⟩ : ByteArray) ++ ⟨m.toArray⟩ = ⟨(l ++ m).toArray⟩ := by
  apply ByteArray.ext
  simp
theorem ba_len (l : List UInt8) : (⟨l.toArray⟩ : ByteArray).size = l.length := by simp [ByteArray.size]
theorem ba_back (s : ByteArray) : (⟨s.data.toList.toArray⟩ : ByteArray) = s := by
  apply ByteArray.ext
  simp
theorem rep_one (c : Nat) : Lib.repeatL [0] c = List.replicate c 0 := by
  induction c with
  | zero => rfl
  | succ c ih => simp [Lib.repeatL, ih, List.replicate_succ]
/-- two bytes of a block as a text -/
theorem two_back {W : World} {b : Nat} {t : TypeId} {x : UInt8} (h : Blk W b t #[.int .u8 (x.toNat : Int), .int .u8 0]) : (convert 121 9 (.slice (some ⟨b, 0, none⟩) 2 2)).run Tryz.prog W = .ok (.string ⟨#[x, 0]⟩) W :=
  run_convert_bytes_back W 121 9 5 ⟨b, 0, none⟩ 2 [x, 0] Tryz.underlying121 Tryz.underlying5 Tryz.underlying9 (fun j hj => by
    match j, hj with
    | 0, _ => exact h.cell 0
    | 1, _ => exact h.cell 1)
attribute [local go_sem ↓] run_cat
set_option maxRecDepth 20000 in
set_option maxHeartbeats 1000000 in
theorem form_any (s : ByteArray) (kind gen place : Nat) (w : World) (hs : s.size ≤ 48) (hg : gen < 4294967296) (hp : place < 4294967296) :
    Calls Tryz.prog 104 #[.string s, .int .i64 kind, .int .i64 gen, .int .i64 place] w fun e w' => e = .returned (.string ⟨(Wa.formL s.data.toList kind gen place).toArray⟩) ∧ Below w.heap.size w w' := by
  have P1 : (∀ W, Calls Tryz.prog 121 #[.int .i64 (gen : Int), .int .i64 4] W fun e w' => e = .returned (.tuple #[.string ⟨(Oct.beB 4 (gen : Int)).toArray⟩, .int .i64 0]) ∧ Below W.heap.size W w') := fun W => put_yes (gen : Int) 4 W (by omega) (by omega) (by omega) (by simp; omega)
  have P2 : (∀ W, Calls Tryz.prog 121 #[.int .i64 (s.size : Int), .int .i64 2] W fun e w' => e = .returned (.tuple #[.string ⟨(Oct.beB 2 (s.size : Int)).toArray⟩, .int .i64 0]) ∧ Below W.heap.size W w') := fun W => put_yes (s.size : Int) 2 W (by omega) (by omega) (by omega) (by simp; omega)
  have P3 : (∀ W, Calls Tryz.prog 121 #[.int .i64 (place : Int), .int .i64 4] W fun e w' => e = .returned (.tuple #[.string ⟨(Oct.beB 4 (place : Int)).toArray⟩, .int .i64 0]) ∧ Below W.heap.size W w') := fun W => put_yes (place : Int) 4 W (by omega) (by omega) (by omega) (by simp; omega)
  obtain ⟨G, hG⟩ : ∃ G : ByteArray, ⟨(Oct.beB 4 (gen : Int)).toArray⟩ = G := ⟨_, rfl⟩
  obtain ⟨Z, hZ⟩ : ∃ G : ByteArray, ⟨(Oct.beB 2 (s.size : Int)).toArray⟩ = G := ⟨_, rfl⟩
  obtain ⟨A, hA⟩ : ∃ G : ByteArray, ⟨(Oct.beB 4 (place : Int)).toArray⟩ = G := ⟨_, rfl⟩
  rw [hG] at P1
  rw [hZ] at P2
  rw [hA] at P3
  obtain ⟨x, hx⟩ : ∃ x : UInt8, UInt8.ofNat kind = x := ⟨_, rfl⟩
  have hkx : IntKind.u8.wrap (kind : Int) = (x.toNat : Int) := by rw [← hx, UInt8.toNat_ofNat']; simp [IntKind.wrap, IntKind.bits, IntKind.signed]
  obtain ⟨n, hn⟩ : ∃ n : Nat, 48 - s.size = n := ⟨_, rfl⟩
  have hni : (48 : Int) - (s.size : Int) = (n : Int) := by omega
  have hnw : IntKind.i64.wrap (n : Int) = (n : Int) := by rw [IntKind.wrap_i64]; omega
  have PR := fun W => strings_Repeat ⟨#[0]⟩ n W (by omega) (by show 1 * n ≤ _; omega)
  obtain ⟨R, hR⟩ : ∃ R : ByteArray, ⟨(Lib.repeatL (⟨#[0]⟩ : ByteArray).data.toList n).toArray⟩ = R := ⟨_, rfl⟩
  rw [hR] at PR
  have zG : G.size = 4 := by rw [← hG, ba_len, Oct.beB_length]
  have zZ : Z.size = 2 := by rw [← hZ, ba_len, Oct.beB_length]
  have zA : A.size = 4 := by rw [← hA, ba_len, Oct.beB_length]
  have zR : R.size = n := by rw [← hR, ba_len]; show (Lib.repeatL [0] n).length = n; rw [rep_one, List.length_replicate]
  have zX : (⟨#[x, 0]⟩ : ByteArray).size = 2 := rfl
  have m0 : Small s := by unfold Small; omega
  have m1 : Small G := by unfold Small; omega
  have m2 : Small Z := by unfold Small; omega
  have m3 : Small A := by unfold Small; omega
  have m4 : Small R := by unfold Small; omega
  have m5 : Small ⟨#[x, 0]⟩ := by unfold Small; omega
  have m6 : Small (G ++ Z) := by unfold Small; rw [ByteArray.size_append]; omega
  have m7 : Small (G ++ Z ++ ⟨#[x, 0]⟩) := by unfold Small; simp only [ByteArray.size_append]; omega
  have m8 : Small (G ++ Z ++ ⟨#[x, 0]⟩ ++ s) := by unfold Small; simp only [ByteArray.size_append]; omega
  have m9 : Small (G ++ Z ++ ⟨#[x, 0]⟩ ++ s ++ R) := by unfold Small; simp only [ByteArray.size_append]; omega
  have m10 : Small (G ++ Z ++ ⟨#[x, 0]⟩ ++ s ++ R ++ A) := by unfold Small; simp only [ByteArray.size_append]; omega
  have hall : G ++ Z ++ ⟨#[x, 0]⟩ ++ s ++ R ++ A ++ G = ⟨(Wa.formL s.data.toList kind gen place).toArray⟩ := by
    rw [← hG, ← hZ, ← hA, ← hR, ← ba_back s]
    have e : (⟨#[x, 0]⟩ : ByteArray) = ⟨[x, 0].toArray⟩ := rfl
    rw [e, ba_app, ba_app, ba_app, ba_app, ba_app, ba_app]
    unfold Wa.formL
    rw [hx, show Lib.repeatL (⟨#[0]⟩ : ByteArray).data.toList n = List.replicate n 0 from rep_one n]
    simp [← hn]
  have P1 := Lib.hid P1
  have P2 := Lib.hid P2
  have P3 := Lib.hid P3
  have PR := Lib.hid PR
  have HALL := Lib.hid hall
  have HS := Lib.hid hs
  clear hG hZ hA hx hn hR zG zZ zA zR zX hall hs hg hp
  go_enter Tryz.func104, Tryz.ntmps104
  go_wp2_with fail
  (with_reducible refine (P1.out _).mono ?_)
  rintro e w1 ⟨rfl, hb1⟩
  go_wp2_with fail
  (with_reducible refine (P2.out _).mono ?_)
  rintro e w2 ⟨rfl, hb2⟩
  go_wp2_with fail
  (with_reducible refine (P3.out _).mono ?_)
  rintro e w3 ⟨rfl, hb3⟩
  have hB3 := hb1.trans ((hb2.mono hb1.size).trans (hb3.mono (by have := hb1.size; have := hb2.size; omega)))
  clear hb1 hb2 hb3
  go_wp2_with fail
  have q1 := two_back (x := x) (Blk.new w3 5 #[.int .u8 (x.toNat : Int), .int .u8 0]).drew
  go_region_held (fun _ => True) (trivial)
    ((go_at_call 93; ((with_reducible refine (PR.out _).mono ?_)); rintro e w5 ⟨rfl, hb5⟩; (try have q5 := two_back (x := x) ((Blk.new w3 5 #[.int .u8 (x.toNat : Int), .int .u8 0]).drew.below hb5 (by simp))); have q6 := two_back (x := x) (Blk.new w5 5 #[.int .u8 (x.toNat : Int), .int .u8 0])))
  all_goals
    go_wp2_with fail
    go_ret
    refine ⟨by rw [HALL.out]; rfl, ?_⟩
    have hs3 := hB3.size
  · exact (hB3.alloc hs3 _).drew.trans (hb5.mono (by simp; omega))
  · exact (hB3.alloc hs3 _).drew.trans (hb5.mono (by simp; omega))
  · exact (hB3.drew.trans (hb5.mono (by simp; omega))).alloc (by have := hb5.size; simp at this; omega) _
end Go.Proofs.YtoleojljpaglhaaGreat
/- The contracts of wal.pieces and of the log's small calls. -/
namespace Go.Proofs.YtoleojljpaglhaaGreat
open Go.RowKit
theorem str_info : (Tryz.prog.info? 9).map (fun i => (i.zero, i.size, i.bytes)) = some (some (.string ⟨#[]⟩), 1, 16) := by kernel_rfl
/-- texts as cells -/
def strs (l : List (List UInt8)) : List Value := l.map fun p => .string ⟨p.toArray⟩
theorem strs_length (l : List (List UInt8)) : (strs l).length = l.length := by simp [strs]
theorem strs_append (a b : List (List UInt8)) : strs (a ++ b) = strs a ++ strs b := by simp [strs]
theorem str_one (s : ByteArray) : ∀ u ∈ [Value.string s], u.oneCell' = true := by
  intro u hu
  simp only [List.mem_singleton] at hu
  subst hu
  rfl
/-- a list of texts of the call's own -/
structure OwnS (B : Nat) (w0 w : World) (v : Value) (l : List (List UInt8)) : Prop where
  own : w.ownsRow B 9 1 v l.length (strs l)
  bel : Below B w0 w
theorem OwnS.nil (B : Nat) (w : World) : OwnS B w w (.slice none 0 0) [] := ⟨World.ownsRow_nil _ _ _ _, Below.refl _ _⟩
set_option maxRecDepth 20000 in
set_option maxHeartbeats 1000000 in
theorem pieces_any (s : ByteArray) (w : World) (hs : s.size ≤ 140737488351232) :
    Calls Tryz.prog 122 #[.string s] w fun e w' => ∃ v, e = .returned v ∧ OwnS w.heap.size w w' v (Wa.pieces s.data.toList) := by
  obtain ⟨i0, hi0, hz0, hz1, hz2⟩ := info_parts str_info
  have Hi0 := Lib.hid hi0
  have Hz0 := Lib.hid hz0
  have Hz1 := Lib.hid hz1
  have Hz2 := Lib.hid hz2
  clear hi0 hz0 hz1 hz2
  go_enter Tryz.func122, Tryz.ntmps122
  go_wp2_with fail
  go_loopw [0, 3] (fun r v wr => ∃ (t : ByteArray) (done : List (List UInt8)), r = .string t ∧ 48 * done.length + t.size = s.size ∧ Hid (done ++ Wa.pieces t.data.toList = Wa.pieces s.data.toList) ∧ Hid (OwnS w.heap.size w wr v done)) (fun r _ _ => (match r with | .string t => t.size | _ => 0))
  case atStart => exact ⟨s, [], rfl, by simp, Lib.hid rfl, Lib.hid (OwnS.nil _ _)⟩
  case round =>
    obtain ⟨t, done, rfl, hsz, HP, HO⟩ := hrel
    have hown := HO.out.own
    have hsw := HO.out.bel.size
    by_cases hlt : 48 < t.size
    · have hl : 48 < t.data.toList.length := by simpa using hlt
      have hpb := Wa.pieces_big t.data.toList hl
      have e1 : (t.extract 0 48).data.toList = t.data.toList.take 48 := by simp
      have e2 : (t.extract 48 t.size).data.toList = t.data.toList.drop 48 := by simp [List.take_of_length_le]
      have e3 : (t.extract 48 t.size).size = t.size - 48 := by simp
      have e4 : (⟨(t.data.toList.take 48).toArray⟩ : ByteArray) = t.extract 0 48 := by rw [← e1]
      have HPB := Lib.hid hpb
      have H2 := Lib.hid e2
      have H3 := Lib.hid e3
      have H4 := Lib.hid e4
      have hown2 : Hid (strs (done ++ [t.data.toList.take 48]) = strs done ++ [.string (t.extract 0 48)]) := Lib.hid (by rw [strs_append]; simp only [strs, List.map_cons, List.map_nil]; rw [e4])
      clear hpb e1 e2 e3 e4 hl
      go_wp2_with (at_builtin; refine wpList_append_own_at _ rfl _ _ 52 rfl w.heap.size 9 i0 _ 1 16 Tryz.underlying52 Hi0.out Hz0.out Hz1.out Hz2.out rfl (by decide) _ done.length (strs done) rfl (hown.alloc _) ⟨wr.heap.size, 0, none⟩ 1 1 [.string (t.extract 0 48)] rfl rfl (cell_one_new _ _ _) (str_one _) ?c3 ?c4 ?c5 ?_)
      case c3 => unfold maxLen; omega
      case c4 => omega
      case c5 => simp; omega
      intro v4 w4 hown4 hgrow hnil hblock
      have hb4 : Below w.heap.size w w4 := (HO.out.bel.alloc hsw _).grown hgrow (by simp; omega) (fun q hq => (hown.lt q hq).1)
      have HO4 : Hid (OwnS w.heap.size w w4 v4 (done ++ [t.data.toList.take 48])) := Lib.hid ⟨by rw [hown2.out]; simpa using hown4, hb4⟩
      clear hown hown4 hgrow hnil hblock hb4
      go_wp2_with fail
      go_roundw
      case rel => exact ⟨t.extract 48 t.size, done ++ [t.data.toList.take 48], rfl, by rw [H3.out]; simp; omega, Lib.hid (by rw [H2.out, ← HP.out, HPB.out]; simp), HO4⟩
      case measure => simp; omega
    · have hl : ¬ 48 < t.data.toList.length := by simpa using hlt
      have hpb := Wa.pieces_small t.data.toList hl
      have hown2 : Hid (strs (done ++ [t.data.toList]) = strs done ++ [.string t]) := Lib.hid (by rw [strs_append]; rfl)
      have HPB := Lib.hid hpb
      clear hpb hl
      go_wp2_with (at_builtin; refine wpList_append_own_at _ rfl _ _ 52 rfl w.heap.size 9 i0 _ 1 16 Tryz.underlying52 Hi0.out Hz0.out Hz1.out Hz2.out rfl (by decide) _ done.length (strs done) rfl (hown.alloc _) ⟨wr.heap.size, 0, none⟩ 1 1 [.string t] rfl rfl (cell_one_new _ _ _) (str_one _) ?c3 ?c4 ?c5 ?_)
      case c3 => unfold maxLen; omega
      case c4 => omega
      case c5 => simp; omega
      intro v4 w4 hown4 hgrow hnil hblock
      have hb4 : Below w.heap.size w w4 := (HO.out.bel.alloc hsw _).grown hgrow (by simp; omega) (fun q hq => (hown.lt q hq).1)
      have HO4 : Hid (OwnS w.heap.size w w4 v4 (done ++ [t.data.toList])) := Lib.hid ⟨by rw [hown2.out]; simpa using hown4, hb4⟩
      clear hown hown4 hgrow hnil hblock hb4
      go_wp2_with fail
      go_ret
      exact ⟨_, rfl, by rw [← HP.out, HPB.out]; exact HO4.out⟩
/-- a log in memory -/
def lcells (dp : Value) (L : Wa.WL) (rv : Value) : Array Value := #[dp, .int .i64 L.fr, .int .i64 L.n, .int .i64 L.gen, .bool L.op, .int .i64 L.used, rv]
theorem none_any {w : World} {g : Nat} {p : Addr} {L : Wa.WL} {rv : Value} (h : Blk w g 112 (lcells (.pointer (some p)) L rv)) :
    Calls Tryz.prog 68 #[.pointer (some ⟨g, 0, none⟩)] w fun e w' => e = .returned (.bool false) ∧ w = w' := by
  have c0 : w.cell? ⟨g, 0, none⟩ = some (.pointer (some p)) := h.cell 0
  clear h
  go_enter Tryz.func68, Tryz.ntmps68
  go_wp2_with fail
  go_ret
  exact ⟨rfl, rfl⟩
theorem none_nil (w : World) : Calls Tryz.prog 68 #[.pointer none] w fun e w' => e = .returned (.bool true) ∧ w = w' := by
  go_enter Tryz.func68, Tryz.ntmps68
  go_wp2_with fail
  go_ret
  exact ⟨rfl, rfl⟩
theorem none_zero {w : World} {g : Nat} (h : w.cell? ⟨g, 0, none⟩ = some (.pointer none)) :
    Calls Tryz.prog 68 #[.pointer (some ⟨g, 0, none⟩)] w fun e w' => e = .returned (.bool true) ∧ w = w' := by
  go_enter Tryz.func68, Tryz.ntmps68
  go_wp2_with fail
  go_ret
  exact ⟨rfl, rfl⟩
/-- whatever is no log -/
structure NoLog (w : World) (v : Value) : Prop where
  at_ : v = .pointer none ∨ ∃ g, v = .pointer (some ⟨g, 0, none⟩) ∧ w.cell? ⟨g, 0, none⟩ = some (.pointer none)
theorem none_no {w : World} {v : Value} (h : NoLog w v) : Calls Tryz.prog 68 #[v] w fun e w' => e = .returned (.bool true) ∧ w = w' := by
  rcases h.at_ with rfl | ⟨g, rfl, hc⟩
  · exact none_nil w
  · exact none_zero hc
theorem free_no {w : World} {v : Value} (h : NoLog w v) : Calls Tryz.prog 123 #[v] w fun e w' => e = .returned (.int .i64 0) ∧ w = w' := by
  have H := Lib.hid (none_no h)
  clear h
  go_enter Tryz.func123, Tryz.ntmps123
  go_wp2_with fail
  (with_reducible refine H.out.mono ?_)
  rintro e w1 ⟨rfl, rfl⟩
  go_wp2_with fail
  go_ret
  exact ⟨rfl, rfl⟩
theorem records_no {w : World} {v : Value} (h : NoLog w v) : Calls Tryz.prog 23 #[v] w fun e w' => e = .returned (.slice none 0 0) ∧ w = w' := by
  have H := Lib.hid (none_no h)
  clear h
  go_enter Tryz.func23, Tryz.ntmps23
  go_wp2_with fail
  (with_reducible refine H.out.mono ?_)
  rintro e w1 ⟨rfl, rfl⟩
  go_wp2_with fail
  go_ret
  exact ⟨rfl, rfl⟩
theorem reset_no {w : World} {v : Value} (h : NoLog w v) : Calls Tryz.prog 97 #[v] w fun e w' => e = .returned (.int .i64 1) ∧ w = w' := by
  have H := Lib.hid (none_no h)
  clear h
  go_enter Tryz.func97, Tryz.ntmps97
  go_wp2_with fail
  (with_reducible refine H.out.mono ?_)
  rintro e w1 ⟨rfl, rfl⟩
  go_wp2_with fail
  go_ret
  exact ⟨rfl, rfl⟩
theorem lsync_no {w : World} {v : Value} (h : NoLog w v) : Calls Tryz.prog 100 #[v] w fun e w' => e = .returned (.int .i64 1) ∧ w = w' := by
  have H := Lib.hid (none_no h)
  clear h
  go_enter Tryz.func100, Tryz.ntmps100
  go_wp2_with fail
  (with_reducible refine H.out.mono ?_)
  rintro e w1 ⟨rfl, rfl⟩
  go_wp2_with fail
  go_ret
  exact ⟨rfl, rfl⟩
theorem NoLog.later {w w' : World} {v : Value} (h : NoLog w v) (hb : Below w.heap.size w w') : NoLog w' v := by
  rcases h.at_ with rfl | ⟨g, rfl, hc⟩
  · exact ⟨.inl rfl⟩
  · exact ⟨.inr ⟨g, rfl, (hb.cell (p := ⟨g, 0, none⟩) (World.block_lt_of_cell? _ _ hc)).trans hc⟩⟩
set_option maxRecDepth 20000 in
theorem append_no {w : World} {v : Value} (h : NoLog w v) (s : ByteArray) (hs : s.size ≤ 140737488351232) : Calls Tryz.prog 99 #[v, .string s] w fun e w' => e = .returned (.int .i64 1) ∧ Below w.heap.size w w' := by
  have H := Lib.hid h
  clear h
  go_enter Tryz.func99, Tryz.ntmps99
  go_wp2_with fail
  (with_reducible refine (pieces_any s w hs).mono ?_)
  rintro e w1 ⟨pv, rfl, ho⟩
  have H1 := Lib.hid (none_no (H.out.later ho.bel))
  have hb := ho.bel
  clear ho
  go_wp2_with fail
  (with_reducible refine H1.out.mono ?_)
  rintro e w2 ⟨rfl, rfl⟩
  go_wp2_with fail
  go_ret
  exact ⟨rfl, hb⟩
set_option maxRecDepth 20000 in
theorem open_nil (a b : Int) (w : World) : Calls Tryz.prog 22 #[.pointer none, .int .i64 a, .int .i64 b] w fun e w' => e = .returned (.tuple #[.pointer none, .int .i64 1]) ∧ w = w' := by
  go_enter Tryz.func22, Tryz.ntmps22
  go_wp2_with fail
  go_ret2
  exact ⟨rfl, rfl⟩
end Go.Proofs.YtoleojljpaglhaaGreat
