/- THE WALKS of four laws of digits: check digits. -/
import Derived.Test.YtkmmmjbmooglfaaDigSmall
import Derived.Lib.Split
namespace Go.Proofs.Ytkmmmjbmooglfaa
open Go.RowKit
set_option maxRecDepth 100000 in
set_option maxHeartbeats 1000000 in
theorem DigitsChecks_walk (s : ByteArray) (w : World) (hs : s.size ≤ maxLen) :
    Calls Try.prog 3 #[.string s] w fun e w' => e = .returned (.bool true) ∧ Below w.heap.size w w' := by
  go_enter Try.func3, Try.ntmps3
  go_wp2_with fail
  refine (small01_any _).mono ?_
  rintro e w1 ⟨rfl, hb1⟩
  go_wp2_with fail
  refine (Luhn_any s _ hs).mono ?_
  rintro e w2 ⟨rfl, hb2⟩
  go_wp2_with fail
  refine (rLuhn_any s _ hs).mono ?_
  rintro e w3 ⟨rfl, hb3⟩
  go_wp2_with fail
  refine (Valid_any s _ hs).mono ?_
  rintro e w4 ⟨rfl, hb4⟩
  go_wp2_with fail
  refine (rValid_any s _ hs).mono ?_
  rintro e w5 ⟨rfl, rfl⟩
  go_wp2_with fail
  go_ret
  exact ⟨rfl, thenB hb1 (thenB hb2 (thenB hb3 hb4))⟩

theorem str_data (l : List UInt8) : (⟨l.toArray⟩ : ByteArray).data.toList = l := rfl
theorem str_size (l : List UInt8) : (⟨l.toArray⟩ : ByteArray).size = l.length := by rw [← size_toList]

set_option maxRecDepth 100000 in
set_option maxHeartbeats 1000000 in
theorem DigitsEnds_walk (s : ByteArray) (w : World) (hs : s.size ≤ maxLen) :
    Calls Try.prog 5 #[.string s] w fun e w' => e = .returned (.bool true) ∧ Below w.heap.size w w' := by
  have hcv := run_conv_one (P := Try.prog) Try.underlying27 Try.underlying5 Try.underlying9
  generalize he : lookE s.data.toList = err
  have HE := Lib.hid he
  by_cases h0 : err = 0
  · subst h0
    have HL := Lib.hid (luhnV_ok he)
    have hl9 := luhn_le s.data.toList
    clear he
    by_cases hlen : (999 : Int) ≤ s.size
    · go_enter Try.func5, Try.ntmps5
      go_wp2_with fail
      refine (small01_any _).mono ?_
      rintro e w1 ⟨rfl, hb1⟩
      go_wp2_with fail
      refine (Luhn_any s _ hs).mono ?_
      rw [HE.out]
      rintro e w2 ⟨rfl, hb2⟩
      go_wp2_with fail
      go_ret
      exact ⟨rfl, thenB hb1 hb2⟩
    · have hsz : s.size < 999 := by omega
      have hlen' : s.data.toList.length < 999 := by rw [size_toList]; exact hsz
      have HLEN := Lib.hid hlen'; clear hlen'
      go_enter Try.func5, Try.ntmps5
      go_wp2_with fail
      refine (small01_any _).mono ?_
      rintro e w1 ⟨rfl, hb1⟩
      go_wp2_with fail
      refine (Luhn_any s _ hs).mono ?_
      rw [HE.out, HL.out]
      rintro e w2 ⟨rfl, hb2⟩
      go_wp2_with fail
      go_loopw [6] (fun c wr => ∃ k : Nat, k ≤ 10 ∧ c = .int .i64 k ∧ Below w.heap.size w wr) (fun i _ => 10 - (intOf i).toNat)
      case atStart => exact ⟨0, by omega, rfl, thenB hb1 hb2⟩
      case round =>
        obtain ⟨k, hk, rfl, hbel⟩ := hrel
        by_cases hlt : k < 10
        · have ea : (s ++ ⟨#[b8 (48 + (k : Int))]⟩ : ByteArray).data.toList = s.data.toList ++ [sg k] := by rw [str_snoc, sg_b8 (by omega)]
          have hv := valid_snoc (l := s.data.toList) (d := k) (by omega) HE.out HLEN.out
          rw [← ea] at hv
          have hsz2 : (s ++ ⟨#[b8 (48 + (k : Int))]⟩ : ByteArray).size ≤ maxLen := by rw [← size_toList, ea]; simp; unfold maxLen; omega
          have HV := Lib.hid hv
          have HEA := Lib.hid ea
          have HZ := Lib.hid hsz2
          clear hv ea hsz2
          have hbw := hbel.size
          go_wp2_with fail
          refine (Valid_any _ _ HZ.out).mono ?_
          rw [HV.out]
          rintro e w3 ⟨rfl, hb3⟩
          have hbel3 : Below w.heap.size w w3 := (hbel.alloc hbw _).trans (hb3.mono (by simp; omega))
          by_cases hd : k = luhn s.data.toList
          · have hd1 : ((k : Int) == (luhn s.data.toList : Nat)) = true := by simp [hd]
            rw [decide_eq_true hd]
            have HD := Lib.hid hd; clear hd
            go_wp2
            go_roundw
            case rel => exact ⟨k + 1, by omega, by go_num, hbel3⟩
            case measure => simp [intOf]; omega
          · have hd1 : ((k : Int) == (luhn s.data.toList : Nat)) = false := by simp; omega
            rw [decide_eq_false hd]
            have HD := Lib.hid hd; clear hd
            go_wp2
            go_roundw
            case rel => exact ⟨k + 1, by omega, by go_num, hbel3⟩
            case measure => simp [intOf]; omega
        · go_wp2_with fail
          go_ret
          exact ⟨rfl, hbel⟩
  · have hne : (err != 0) = true := by simpa using h0
    clear he h0
    go_enter Try.func5, Try.ntmps5
    go_wp2_with fail
    refine (small01_any _).mono ?_
    rintro e w1 ⟨rfl, hb1⟩
    go_wp2_with fail
    refine (Luhn_any s _ hs).mono ?_
    rw [HE.out]
    rintro e w2 ⟨rfl, hb2⟩
    go_wp2_with fail
    go_ret
    exact ⟨rfl, thenB hb1 hb2⟩

theorem init_data (s : ByteArray) (a : Nat) : (s.extract 0 a).data.toList = s.data.toList.take a := Lib.extract_from_zero s a
theorem init_last (s : ByteArray) (h : 0 < s.size) : s.data.toList = s.data.toList.take (s.size - 1) ++ [s[s.size - 1]] := by
  have := take_snoc s (s.size - 1) (by omega)
  rw [show s.size - 1 + 1 = s.size by omega] at this
  rw [← this, List.take_of_length_le (by rw [size_toList]; omega)]

set_option maxRecDepth 100000 in
set_option maxHeartbeats 2000000 in
theorem DigitsLast_walk (s : ByteArray) (w : World) (hs : s.size ≤ maxLen) :
    Calls Try.prog 6 #[.string s] w fun e w' => e = .returned (.bool true) ∧ Below w.heap.size w w' := by
  have hs' := hs
  unfold maxLen at hs'
  by_cases hn : s.data.toList = []
  · have hn2 := isEmpty_yes hn
    have hz : ((s.size : Int) == 0) = true := by rw [← size_toList, hn]; rfl
    clear hn
    have hv : validB (⟨#[]⟩ : ByteArray).data.toList = false := rfl
    have HV := Lib.hid hv; clear hv
    go_enter Try.func6, Try.ntmps6
    go_wp2_with fail
    refine (small01_any _).mono ?_
    rintro e w1 ⟨rfl, hb1⟩
    go_wp2_with fail
    refine (Valid_any _ _ (by unfold maxLen; decide)).mono ?_
    rw [HV.out]
    rintro e w2 ⟨rfl, hb2⟩
    go_wp2_with fail
    go_ret
    exact ⟨rfl, thenB hb1 hb2⟩
  · have hn2 := isEmpty_no hn
    have hpos : 0 < s.size := by rw [← size_toList]; exact List.length_pos_iff.2 hn
    have hz : ((s.size : Int) == 0) = false := by rw [beq_eq_false_iff_ne]; omega
    clear hn
    by_cases hlen : (999 : Int) < s.size
    · have hv : validB (⟨#[]⟩ : ByteArray).data.toList = false := rfl
      have HV := Lib.hid hv; clear hv
      have hv2 : validB s.data.toList = false := by
        rw [Bool.eq_false_iff]; intro h
        have h9 := (lookE_ok.1 (validB_iff.1 h).2.1).2
        rw [size_toList] at h9; omega
      have HV2 := Lib.hid hv2; clear hv2
      go_enter Try.func6, Try.ntmps6
      go_wp2_with fail
      refine (small01_any _).mono ?_
      rintro e w1 ⟨rfl, hb1⟩
      go_wp2_with fail
      refine (Valid_any _ _ (by unfold maxLen; decide)).mono ?_
      rw [HV.out]
      rintro e w2 ⟨rfl, hb2⟩
      go_wp2_with fail
      refine (Valid_any s _ hs).mono ?_
      rw [HV2.out]
      rintro e w3 ⟨rfl, hb3⟩
      go_wp2_with fail
      go_ret
      exact ⟨rfl, thenB hb1 (thenB hb2 hb3)⟩
    · have hl := valid_last (s.data.toList.take (s.size - 1)) s[s.size - 1] (by rw [List.length_take, size_toList]; omega)
      rw [← init_last s hpos, ← init_data] at hl
      generalize hE : lookE (s.extract 0 (s.size - 1)).data.toList = err at hl
      generalize hD : luhnV (s.extract 0 (s.size - 1)).data.toList = dgt at hl
      generalize hV : validB s.data.toList = vb at hl
      have HE := Lib.hid hE
      have HD := Lib.hid hD
      have HV := Lib.hid hV
      clear hE hD hV
      have hex : (s.extract 0 (s.size - 1)).size ≤ maxLen := by rw [← size_toList, init_data, List.length_take, size_toList]; unfold maxLen; omega
      have HX := Lib.hid hex; clear hex
      generalize hc : s[s.size - 1] = c at hl
      have ways : (err ≠ 0 ∧ vb = false) ∨ (err = 0 ∧ ¬ (48 : Int) ≤ c.toNat ∧ vb = false) ∨ (err = 0 ∧ (48 : Int) ≤ c.toNat ∧ ¬ (c.toNat : Int) ≤ 57 ∧ vb = false) ∨
          (err = 0 ∧ (48 : Int) ≤ c.toNat ∧ (c.toNat : Int) ≤ 57 ∧ dgt ≠ (c.toNat : Int) - 48 ∧ vb = false) ∨ (err = 0 ∧ (48 : Int) ≤ c.toNat ∧ (c.toNat : Int) ≤ 57 ∧ dgt = (c.toNat : Int) - 48 ∧ vb = true) := by
        by_cases a : err = 0
        · by_cases b : (48 : Int) ≤ c.toNat
          · by_cases d : (c.toNat : Int) ≤ 57
            · by_cases e : dgt = (c.toNat : Int) - 48
              · exact .inr (.inr (.inr (.inr ⟨a, b, d, e, by rw [hl, decide_eq_true a, decide_eq_true (by omega : 48 ≤ c.toNat), decide_eq_true (by omega : c.toNat ≤ 57), decide_eq_true e]; rfl⟩)))
              · exact .inr (.inr (.inr (.inl ⟨a, b, d, e, by rw [hl, decide_eq_false e]; simp⟩)))
            · exact .inr (.inr (.inl ⟨a, b, d, by rw [hl, decide_eq_false (by omega : ¬ c.toNat ≤ 57)]; simp⟩))
          · exact .inr (.inl ⟨a, b, by rw [hl, decide_eq_false (by omega : ¬ 48 ≤ c.toNat)]; simp⟩)
        · exact .inl ⟨a, by rw [hl, decide_eq_false a]; rfl⟩
      clear hl
      rcases ways with ⟨a, rfl⟩ | ⟨rfl, a, rfl⟩ | ⟨rfl, a, b, rfl⟩ | ⟨rfl, a, b, d, rfl⟩ | ⟨rfl, a, b, rfl, rfl⟩
      all_goals
        first
          | (have a1 : (err == 0) = false := by simpa using a)
          | (have d1 : (dgt == (c.toNat : Int) - 48) = false := by simpa using d)
          | skip
        go_enter Try.func6, Try.ntmps6
        go_wp2_with fail
        refine (small01_any _).mono ?_
        rintro e w1 ⟨rfl, hb1⟩
        go_wp2_with fail
        refine (Luhn_any _ _ HX.out).mono ?_
        rw [HE.out, HD.out]
        rintro e w2 ⟨rfl, hb2⟩
        go_wp2_with fail
        refine (Valid_any s _ hs).mono ?_
        rw [HV.out]
        rintro e w3 ⟨rfl, hb3⟩
        go_wp2_with fail
        go_ret
        exact ⟨rfl, thenB hb1 (thenB hb2 hb3)⟩
end Go.Proofs.Ytkmmmjbmooglfaa
