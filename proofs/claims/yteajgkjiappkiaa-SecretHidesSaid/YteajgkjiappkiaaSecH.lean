/- The contracts of chanceryref17.Hide, small, Hidden and Check. -/
import Derived.Test.YteajgkjiappkiaaSecG
namespace Go.Proofs.Yteajgkjiappkiaa
open Go.RowKit
theorem refPutX (v n : Int) (r : Value) (w : World) (hm : v ≤ 9223372036854775807) (h : Hid (putV v n = r)) : Calls Try.prog 15 #[.int .i64 v, .int .i64 n] w fun e w' => e = .returned r ∧ Below w.heap.size w w' := h.out ▸ refPut_any v n w hm
theorem refHexX (s t : ByteArray) (w : World) (hs : s.size ≤ 70368744177664) (h : Hid (hexBA s.data.toList = t)) :
    Calls Try.prog 17 #[.string s] w fun e w' => e = .returned (.string t) ∧ Below w.heap.size w w' := h.out ▸ refHex_any s w hs
theorem refSumX (s : ByteArray) (w : World) (x : Int) (hs : s.size ≤ maxLen) (hx : Hid (((Oct.sumN s.data.toList : Nat) : Int) = x)) :
    Calls Try.prog 16 #[.string s] w fun e w' => e = .returned (.int .i64 x) ∧ w = w' := hx.out ▸ refSum_any s w hs
/-- the sums' bytes as they are joined -/
def dB (a p : List UInt8) : Nat → ByteArray
  | 0 => ⟨#[]⟩
  | k + 1 => dB a p k ++ (⟨(Oct.beB 4 (ssum k a p : Nat)).toArray⟩ : ByteArray)
theorem dB_size (a p : List UInt8) : ∀ k, (dB a p k).size = 4 * k
  | 0 => rfl
  | k + 1 => by
    unfold dB
    rw [ByteArray.size_append, dB_size a p k, be4_size]
    omega
theorem dB_list (a p : List UInt8) : (dB a p 4).data.toList = sums16 a p := by
  have e : (dB a p 4).data = (((((⟨#[]⟩ : ByteArray) ++ (⟨(Oct.beB 4 (ssum 0 a p : Nat)).toArray⟩ : ByteArray)) ++ (⟨(Oct.beB 4 (ssum 1 a p : Nat)).toArray⟩ : ByteArray)) ++ (⟨(Oct.beB 4 (ssum 2 a p : Nat)).toArray⟩ : ByteArray)) ++ (⟨(Oct.beB 4 (ssum 3 a p : Nat)).toArray⟩ : ByteArray)).data := rfl
  rw [e]
  simp only [ByteArray.data_append, Array.toList_append, sums16]
  simp only [List.append_assoc, List.nil_append]
theorem ref_hide (a p : List UInt8) : (((⟨#[123, 83, 125]⟩ : ByteArray) ++ hexBA a) ++ (⟨#[46]⟩ : ByteArray)) ++ hexBA (dB a p 4).data.toList = hideB a p 4 := by
  apply Go.WideShapes.bytes_inj
  rw [hide_list, dB_list]
  simp only [ByteArray.data_append, Array.toList_append, hexBA, List.append_assoc, List.cons_append, List.nil_append]
set_option maxHeartbeats 1000000 in
theorem refHide_any (salt : Int) (p : ByteArray) (w : World) (hm : salt ≤ 9223372036854775807) :
    Calls Try.prog 7 #[.int .i64 salt, .string p] w fun e w' => e = .returned (hideV salt p.data.toList) ∧ Below w.heap.size w w' := by
  by_cases hs : 0 ≤ salt ∧ salt < 4294967296
  · by_cases hp : p.size ≤ 1024
    · have HV := Lib.hid (hide_ok salt p hs.1 hs.2 hp)
      have H1 := Lib.hid (put4 salt hs.1 hs.2)
      have HR := Lib.hid (ref_hide (Oct.beB 4 salt) p.data.toList)
      obtain ⟨a, ha⟩ : ∃ a : ByteArray, (⟨(Oct.beB 4 salt).toArray⟩ : ByteArray) = a := ⟨_, rfl⟩
      have hal : Oct.beB 4 salt = a.data.toList := by rw [← ha]
      have haz : a.size = 4 := by rw [← ha, be4_size]
      rw [hal] at HV HR
      rw [ha] at H1
      have HAZ := Lib.hid haz
      have a1 : a.size ≤ 4 := by omega
      have a2 : a.size ≤ 4000 := by omega
      have p2 : p.size ≤ 4000 := by omega
      have HDZ := Lib.hid (dB_size a.data.toList p.data.toList)
      have HDS : Hid (∀ k, dB a.data.toList p.data.toList (k + 1) = dB a.data.toList p.data.toList k ++ (⟨(Oct.beB 4 (ssum k a.data.toList p.data.toList : Nat)).toArray⟩ : ByteArray)) := Lib.hid (fun _ => rfl)
      have HD0 : Hid ((⟨#[]⟩ : ByteArray) = dB a.data.toList p.data.toList 0) := Lib.hid rfl
      obtain ⟨d, hd⟩ : ∃ d : Nat → ByteArray, dB a.data.toList p.data.toList = d := ⟨_, rfl⟩
      rw [hd] at HR HDZ HDS HD0
      have HS := fun k => ssum_lt k a.data.toList p.data.toList
      have HSS := Lib.hid HS
      clear hs ha hal haz hd HS
      go_enter Try.func7, Try.ntmps7
      go_wp2_with fail
      refine (refPutX _ _ _ _ hm H1).mono ?_
      rintro e w1 ⟨rfl, c1⟩
      go_wp2_with fail
      go_loopw [8, 9] (fun v i wr => ∃ k : Nat, k ≤ 4 ∧ i = .int .i64 k ∧ v = .string (d k) ∧ Below w.heap.size w wr) (fun _ i _ => 4 - (intOf i).toNat)
      case atStart => exact ⟨0, by omega, rfl, by rw [← HD0.out], c1⟩
      case round =>
        obtain ⟨k, hk, rfl, rfl, hbel⟩ := hrel
        have dz : (d k).size ≤ 16 := by rw [HDZ.out]; omega
        by_cases hlt : k < 4
        · have hcv := conv1' wr (k : Int)
          have hkz : (strOfNums [(k : Int)]).size ≤ 1 := by rw [strOfNums_size]; simp
          obtain ⟨kb, hkb⟩ : ∃ kb, strOfNums [(k : Int)] = kb := ⟨_, rfl⟩
          have hso := ssum_of k a p
          have hs5 := size5 (k : Int) a p a2 p2
          rw [hkb] at hcv hkz hso hs5
          obtain ⟨x, hx⟩ : ∃ x : Int, ((ssum k a.data.toList p.data.toList : Nat) : Int) = x := ⟨_, rfl⟩
          have hds := HDS.out k
          rw [hx] at hds
          have x1 : 0 ≤ x := by omega
          have x2 : x < 4294967296 := by have := HSS.out k; omega
          have x3 : x ≤ 9223372036854775807 := by omega
          have yz := be4_size x
          obtain ⟨y, hy⟩ : ∃ y : ByteArray, (⟨(Oct.beB 4 x).toArray⟩ : ByteArray) = y := ⟨_, rfl⟩
          have hpx := put4 x x1 x2
          rw [hy] at hds yz hpx
          have y1 : y.size ≤ 4 := by omega
          have HX : Hid (((Oct.sumN ((((kb ++ a) ++ p) ++ a) ++ p).data.toList : Nat) : Int) = x) := Lib.hid (by rw [hso]; exact hx)
          have HZ := Lib.hid hs5
          have HPX := Lib.hid hpx
          have HDD := Lib.hid hds
          clear hkb hso hs5 hx hds yz hpx hy
          go_wp2_with fail
          refine (refSumX _ _ x HZ.out HX).mono ?_
          rintro e w' ⟨rfl, rfl⟩
          go_wp2_with fail
          refine (refPutX _ _ _ _ x3 HPX).mono ?_
          rintro e u1 ⟨rfl, m1⟩
          go_wp2_with fail
          go_roundw
          case rel => exact ⟨k + 1, by omega, by go_num, by rw [HDD.out], (hbel.alloc hbel.size _).trans (m1.mono (by have := hbel.size; simp; omega))⟩
          case measure => simp [intOf]; omega
        · obtain rfl : k = 4 := by omega
          obtain ⟨h1, hh1, z1⟩ : ∃ h1, Hid (hexBA a.data.toList = h1) ∧ h1.size ≤ 8 := ⟨_, Lib.hid rfl, by rw [hexBA_size, show a.data.toList.length = a.size from Array.length_toList]; omega⟩
          obtain ⟨h2, hh2, z2⟩ : ∃ h2, Hid (hexBA (d 4).data.toList = h2) ∧ h2.size ≤ 32 := ⟨_, Lib.hid rfl, by rw [hexBA_size, show (d 4).data.toList.length = (d 4).size from Array.length_toList]; omega⟩
          have hr := HR.out
          rw [hh1.out, hh2.out] at hr
          have HRR := Lib.hid hr
          clear hr
          go_wp2_with fail
          refine (refHexX a h1 _ (by omega) hh1).mono ?_
          rintro e u1 ⟨rfl, m1⟩
          have m2 := hbel.trans (m1.mono hbel.size)
          clear m1
          go_wp2_with fail
          refine (refHexX (d 4) h2 _ (by omega) hh2).mono ?_
          rintro e u2 ⟨rfl, m3⟩
          have m4 := m2.trans (m3.mono m2.size)
          clear m2 m3
          go_wp2_with fail
          go_ret2
          exact ⟨by rw [HV.out, ← HRR.out]; rfl, m4⟩
    · have HV := Lib.hid (hide_long salt p hs.1 hs.2 hp)
      have H1 := Lib.hid (put4 salt hs.1 hs.2)
      clear hs
      go_enter Try.func7, Try.ntmps7
      go_wp2_with fail
      refine (refPutX _ _ _ _ hm H1).mono ?_
      rintro e w1 ⟨rfl, c1⟩
      go_wp2_with fail
      go_ret2
      exact ⟨by rw [HV.out]; rfl, c1⟩
  · have HV := Lib.hid (hide_arg salt p hs)
    have H1 := Lib.hid (put4_no salt (by omega))
    clear hs
    go_enter Try.func7, Try.ntmps7
    go_wp2_with fail
    refine (refPutX _ _ _ _ hm H1).mono ?_
    rintro e w1 ⟨rfl, c1⟩
    go_wp2_with fail
    go_ret2
    exact ⟨by rw [HV.out]; rfl, c1⟩
end Go.Proofs.Yteajgkjiappkiaa
