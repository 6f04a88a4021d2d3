/- THE WALK of the reference's packing. -/
import Derived.Test.YtnhcabcpdlgdaaaDoorDigPack
import Derived.Test.YtnhcabcpdlgdaaaDoorDigUnp
import Derived.Test.YtnhcabcpdlgdaaaDoorLent
import Derived.Outline
import Derived.Test.YtnhcabcpdlgdaaaDoorRow2
namespace Go.Proofs.YtnhcabcpdlgdaaaDoor
open Go.RowKit
theorem str_eq (s : ByteArray) : s = ⟨s.data.toList.toArray⟩ := by cases s; simp

theorem pairs_snoc : ∀ (l : List UInt8) (a b : UInt8) (n : Nat), l.length = 2 * n → pairs (l ++ [a, b]) = pairs l ++ [UInt8.ofNat (dg a * 16 + dg b)]
  | [], a, b, _, _ => rfl
  | [x], a, b, n, h => by simp only [List.length_cons, List.length_nil] at h; omega
  | x :: y :: l, a, b, n, h => by
    simp only [List.length_cons] at h
    simp only [List.cons_append, pairs, pairs_snoc l a b (n - 1) (by omega)]
theorem pairs_step {l : List UInt8} {j : Nat} (hj : 2 * j + 1 < l.length) : pairs (l.take (2 * j + 2)) = pairs (l.take (2 * j)) ++ [UInt8.ofNat (dg l[2 * j] * 16 + dg l[2 * j + 1])] := by
  have e : l.take (2 * j + 2) = l.take (2 * j) ++ [l[2 * j], l[2 * j + 1]] := by
    rw [show 2 * j + 2 = (2 * j + 1) + 1 by omega, List.take_succ_eq_append_getElem hj, List.take_succ_eq_append_getElem (by omega), List.append_assoc]; rfl
  rw [e, pairs_snoc _ _ _ j (by rw [List.length_take]; omega)]
def rPackRel (w : World) (l : List UInt8) (m : Nat) (v i : Value) (wr : World) : Prop :=
  ∃ (j : Nat) (A' : Option Addr) (c' : Nat), j ≤ m ∧ i = .int .i64 (2 * (j : Int)) ∧ v = .slice A' j c' ∧ Row wr w.heap.size 1 A' j c' (bv (pairs (l.take (2 * j)))) ∧ Below w.heap.size w wr
theorem pair_byte {a b : UInt8} (ha : isDig a = true) (hb : isDig b = true) : [Value.int .u8 (((a.toNat : Int) - 48) * 16 + ((b.toNat : Int) - 48))] = bv [UInt8.ofNat (dg a * 16 + dg b)] := by
  have h1 := isDig_iff.1 ha
  have h2 := isDig_iff.1 hb
  simp only [bv, List.map_cons, List.map_nil, UInt8.toNat_ofNat']
  unfold dg
  congr 2
  omega

set_option maxRecDepth 100000 in
set_option maxHeartbeats 2000000 in
theorem rPack_ok (s : ByteArray) (w : World) (hs : s.size ≤ maxLen) (he : lookE s.data.toList = 0) :
    Calls Tryd.prog 56 #[.string s] w fun e w' => ∃ A n c, e = .returned (.tuple #[.slice A n c, .int .i64 0]) ∧ Row w' w.heap.size 1 A n c (bv (packB s.data.toList)) ∧ Below w.heap.size w w' := by
  obtain ⟨i0, hi, hz0, hz1, hz2⟩ := info_parts byte_info
  have HE := Lib.hid he
  obtain ⟨ha, hb⟩ := lookE_ok.1 he
  have HPB := Lib.hid (show packB s.data.toList = pairs (evened s.data.toList) from if_pos he)
  have hev := evened_dig ha
  have hel := length_evened s.data.toList
  rw [size_toList] at hb hel
  clear ha he
  obtain ⟨m, hm⟩ : ∃ m, m = (s.size + 1) / 2 := ⟨_, rfl⟩
  rw [← hm] at hel
  have hm5 : m ≤ 500 := by omega
  obtain ⟨s2, hs2⟩ : ∃ s2 : ByteArray, s2.data.toList = evened s.data.toList := ⟨⟨(evened s.data.toList).toArray⟩, rfl⟩
  have hsz2 : s2.size = 2 * m := by rw [← size_toList, hs2, hel]
  rw [← hs2] at hev
  have hm1 : s2.size ≤ 2 * m := by omega
  have hm2 : 2 * m ≤ s2.size := by omega
  have HEV := Lib.hid hev
  have HS2 := Lib.hid hs2
  have HSZ := Lib.hid hsz2
  clear hm hel hev hsz2
  have hres : ∀ A n c w', Row w' w.heap.size 1 A n c (bv (pairs (s2.data.toList.take (2 * m)))) → Row w' w.heap.size 1 A n c (bv (packB s.data.toList)) := by
    intro A n c w' h
    rw [HPB.out, ← HS2.out]
    rw [List.take_of_length_le (by rw [size_toList]; omega)] at h
    exact h
  have HRES := Lib.hid hres
  clear hres
  have hways : (((s.size : Int) % 2 == 1) = true ∧ (⟨#[48]⟩ ++ s : ByteArray) = s2) ∨ (((s.size : Int) % 2 == 1) = false ∧ s2 = s) := by
    by_cases hodd : (s.size : Int) % 2 = 1
    · refine .inl ⟨by rw [hodd]; rfl, ?_⟩
      rw [str_eq s2, hs2, str_eq (⟨#[48]⟩ ++ s : ByteArray), Go.Joins.data_append]
      unfold evened
      rw [if_pos (by rw [size_toList]; omega)]
      rfl
    · refine .inr ⟨by rw [beq_eq_false_iff_ne]; exact hodd, ?_⟩
      rw [str_eq s2, hs2]
      unfold evened
      rw [if_neg (by rw [size_toList]; omega), ← str_eq]
  clear hs2
  rcases hways with ⟨hb1, e2⟩ | ⟨hb1, e2⟩
  rotate_left
  subst e2
  rotate_left
  all_goals
    go_enter Tryd.func56, Tryd.ntmps56
    go_wp2_with fail
    refine (texts_any _ _ hs).mono ?_
    rintro e w' ⟨rfl, rfl⟩
    rw [HE.out]
    go_wp2_with fail
    try clear e2
    go_loopw [5, 6] (fun v i wr => rPackRel w s2.data.toList m v i wr) (fun _ i _ => 2 * m - (intOf i).toNat)
    case atStart => exact ⟨0, none, 0, by omega, rfl, rfl, Row.nil_ _ _ _, Below.refl _ _⟩
    case round =>
      obtain ⟨j, A', c', hj, rfl, rfl, hrow, hbel⟩ := hrel
      have HROW := Lib.hid hrow
      have hbw := hbel.size
      clear hrow
      by_cases hlt : j < m
      · have hj1 : 2 * j + 1 < s2.size := by omega
        have hst := pairs_step (l := s2.data.toList) (j := j) (by rw [size_toList]; exact hj1)
        rw [byte_at s2 (2 * j) (by omega), byte_at s2 (2 * j + 1) hj1] at hst
        have hd0 : isDig (s2[2 * j]'(by omega)) = true := by rw [← byte_at s2 (2 * j) (by omega)]; exact List.all_eq_true.1 HEV.out _ (List.getElem_mem _)
        have hd1 : isDig (s2[2 * j + 1]'hj1) = true := by rw [← byte_at s2 (2 * j + 1) hj1]; exact List.all_eq_true.1 HEV.out _ (List.getElem_mem _)
        have hp := pair_byte hd0 hd1
        have b0 := isDig_iff.1 hd0
        have b1 := isDig_iff.1 hd1
        have HST := Lib.hid hst
        have HP := Lib.hid hp
        clear hst hp hd0 hd1
        have f1 : (0 : Int) ≤ 2 * (j : Int) := by omega
        have f2 : (2 * (j : Int)) < s2.size := by omega
        have f3 : (0 : Int) ≤ 2 * (j : Int) + 1 := by omega
        have f4 : (2 * (j : Int) + 1) < s2.size := by omega
        have f5 : (2 * (j : Int)).toNat = 2 * j := by omega
        have f6 : (2 * (j : Int) + 1).toNat = 2 * j + 1 := by omega
        have f7 : IntKind.i64.wrap (2 * (j : Int) + 1) = 2 * (j : Int) + 1 := IntWalk.i64_in _ (by omega)
        have f8 : IntKind.u8.wrap (((s2[2 * j]'(by omega)).toNat : Int) - 48) = ((s2[2 * j]'(by omega)).toNat : Int) - 48 := by rw [IntKind.wrap_u8']; omega
        have f9 : IntKind.u8.wrap ((((s2[2 * j]'(by omega)).toNat : Int) - 48) * 16) = (((s2[2 * j]'(by omega)).toNat : Int) - 48) * 16 := by rw [IntKind.wrap_u8']; omega
        have f10 : IntKind.u8.wrap (((s2[2 * j + 1]'hj1).toNat : Int) - 48) = ((s2[2 * j + 1]'hj1).toNat : Int) - 48 := by rw [IntKind.wrap_u8']; omega
        have f11 : IntKind.u8.wrap ((((s2[2 * j]'(by omega)).toNat : Int) - 48) * 16 + (((s2[2 * j + 1]'hj1).toNat : Int) - 48)) = (((s2[2 * j]'(by omega)).toNat : Int) - 48) * 16 + (((s2[2 * j + 1]'hj1).toNat : Int) - 48) := by rw [IntKind.wrap_u8']; omega
        go_wp2_with fail
        go_region_law (refine step_append_row rfl (.tmp 24) (.tmp 36) rfl Tryd.underlying33 hi hz0 hz1 hz2 rfl (by decide) rfl (HROW.out.alloc _).drew rfl (Reads.lit _ _ _ (n := 1) rfl).drew (by intro v hv; simp at hv; rcases hv with rfl; rfl) (by unfold maxLen; omega) (by omega) (by simp; omega) ?_; intro A2 c2 w2 hrow2 hgr2 hat2)
        all_goals
          go_wp2_with fail
          go_roundw
          case rel => exact ⟨j + 1, A2, c2, by omega, by go_num, rfl, by rw [show 2 * (j + 1) = 2 * j + 2 by omega, HST.out, bv_append, ← HP.out]; exact hrow2, (hbel.alloc hbw _).drew.grown hgr2 (by simp; omega) HROW.out.blocks⟩
          case measure => simp [intOf]; omega
      · obtain rfl : j = m := by omega
        go_wp2_with fail
        go_ret2
        exact ⟨_, _, _, rfl, HRES.out _ _ _ _ HROW.out, hbel⟩

theorem rPack_no (s : ByteArray) (w : World) (hs : s.size ≤ maxLen) (he : lookE s.data.toList ≠ 0) :
    Calls Tryd.prog 56 #[.string s] w fun e w' => e = .returned (.tuple #[.slice none 0 0, .int .i64 (lookE s.data.toList)]) ∧ w = w' := by
  generalize hh : lookE s.data.toList = err at he
  have HE := Lib.hid hh; clear hh
  have hn : (err != 0) = true := by simpa using he
  clear he
  go_enter Tryd.func56, Tryd.ntmps56
  go_wp2_with fail
  refine (texts_any s _ hs).mono ?_
  rintro e w' ⟨rfl, rfl⟩
  rw [HE.out]
  go_wp2_with fail
  go_ret2
  exact ⟨rfl, rfl⟩

theorem rPack_any (s : ByteArray) (w : World) (hs : s.size ≤ maxLen) :
    Calls Tryd.prog 56 #[.string s] w fun e w' => ∃ A n c, e = .returned (.tuple #[.slice A n c, .int .i64 (lookE s.data.toList)]) ∧ Row w' w.heap.size 1 A n c (bv (packB s.data.toList)) ∧ Below w.heap.size w w' := by
  by_cases h : lookE s.data.toList = 0
  · refine (rPack_ok s w hs h).mono fun e w' ⟨A, n, c, h1, h2, h3⟩ => ⟨A, n, c, by rw [h]; exact h1, h2, h3⟩
  · refine (rPack_no s w hs h).mono fun e w' ⟨h1, h2⟩ => ?_
    subst h2
    exact ⟨none, 0, 0, h1, by unfold packB; rw [if_neg h]; exact Row.nil_ _ _ _, Below.refl _ _⟩
end Go.Proofs.YtnhcabcpdlgdaaaDoor
