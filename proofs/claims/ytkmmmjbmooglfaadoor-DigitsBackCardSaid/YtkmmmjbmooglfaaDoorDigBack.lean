/- THE WALK of the law DigitsBack. -/
import Derived.Test.YtkmmmjbmooglfaaDoorDigRNum
import Derived.Test.YtkmmmjbmooglfaaDoorDigBackP
import Derived.Test.YtkmmmjbmooglfaaDoorDigUnpack
import Derived.Test.YtkmmmjbmooglfaaDoorRow2
import Derived.Test.YtkmmmjbmooglfaaDoorFactsB
namespace Go.Proofs.YtkmmmjbmooglfaaDoor
open Go.RowKit

theorem ret_b {a b : Bool} (h : a = b) : Ending.returned (.bool a) = .returned (.bool b) := by rw [h]
theorem empty_of {l : List UInt8} (h : l = []) : (⟨l.toArray⟩ : ByteArray).toList.isEmpty = true := isEmpty_yes h

set_option maxRecDepth 100000 in
set_option maxHeartbeats 4000000 in
theorem DigitsBack_walk (s : ByteArray) (A : Option Addr) (n c : Nat) (l : List UInt8) (k wd : Int) (w : World) (hs : s.size ≤ maxLen) (hr : Reads w w.heap.size 1 A n (bv l)) (hc : n ≤ c ∧ c ≤ 140737488351232) (hk : (Lit.int .i64 k).wf = true) (_hw : (Lit.int .i64 wd).wf = true) :
    Calls Tryd.prog 5 #[.string s, .slice A n c, .int .i64 k, .int .i64 wd] w fun e w' => e = .returned (.bool true) ∧ Below w.heap.size w w' := by
  obtain ⟨hnc, hcc⟩ := hc
  have h63 : k ≤ 9223372036854775807 := by simp [Lit.wf] at hk; omega
  obtain ⟨i0, hi, hz0, hz1, hz2⟩ := info_parts byte_info
  go_enter Tryd.func5, Tryd.ntmps5
  go_wp2_with fail
  refine (small01_any _).mono ?_
  rintro e w1 ⟨rfl, hb1⟩
  have hr1 := hr.below hb1
  have hr0 := Lib.hid hr
  by_cases hlong : (1048576 : Int) < n
  · go_wp2_with fail
    go_ret
    exact ⟨rfl, hb1⟩
  go_wp2_with fail
  refine (Pack_any s _ hs).mono ?_
  rintro e w2 ⟨Ap, np, cp, rfl, hp2, hb2⟩
  have hb12 := thenB hb1 hb2
  have hr2 := hr1.below (hb2.mono hb1.size)
  by_cases hl : lookE s.data.toList = 0
  · obtain ⟨e1, e2, e3⟩ := back_unp (m := l) hl
    rw [size_toList] at e1 e2 e3
    rw [hl]
    have hnp : (packB s.data.toList).length = np := by have := hp2.reads.1; rw [length_bv] at this; omega
    have hnp5 : np ≤ 500 := by rw [← hnp, length_packB hl]; have := (lookE_ok.1 hl).2; omega
    have HP2 := Lib.hid hp2.reads
    have HB2 := Lib.hid hr2
    have HE1 := Lib.hid e1
    have HE2 := Lib.hid e2
    have HE3 := Lib.hid e3
    have HNP := Lib.hid hnp
    have HH := Lib.hid hb12.size
    have hnpi : (np : Int) ≤ 500 := by omega
    clear e1 e2 e3 hnp hl hr hr1 hp2
    go_wp2_with (at_builtin; first
      | (refine wpList_append_row rfl (.tmp 41) (.tmp 42) rfl Tryd.underlying30 hi hz0 hz1 hz2 rfl (by decide) rfl (Row.lit w2 #[] 5 (n := 0) (size := 1) (base := w2.heap.size) rfl (Nat.le_refl _) (by unfold maxLen; omega)) rfl (HP2.out.alloc (Nat.le_refl _) _) (bv_one _) (by unfold maxLen; omega) (by omega) (by simp) ?_; intro A3 c3 w3 hrow3 hgr3 hat3; have HROW3 := Lib.hid (show Row w3 w2.heap.size 1 A3 np c3 (bv (packB s.data.toList)) from by simpa using hrow3); have hs3 := hgr3.size; have HB3 := Lib.hid ((HB2.out.alloc HH.out _).grown hgr3 (by simp; exact Nat.le_succ_of_le HH.out) (fun g hg => by simp at hg; rw [← hg]; exact HH.out)); have HG3 := Lib.hid hgr3; clear hrow3 hgr3 hat3)
      | (refine wpList_append_row rfl (.tmp 43) (.tmp 44) rfl Tryd.underlying30 hi hz0 hz1 hz2 rfl (by decide) rfl HROW3.out rfl HB3.out (bv_one _) (by unfold maxLen; omega) (by omega) (by simp at hs3; omega) ?_; intro A4 c4 w4 hrow4 hgr4 hat4; have HROW4 := Lib.hid (show Row w4 w2.heap.size 1 A4 (np + n) c4 (bv (packB s.data.toList ++ l)) from by rw [bv_append]; exact hrow4); have HG4 := Lib.hid hgr4; clear hrow4 hgr4 hat4))
    have HBW4 := Lib.hid (((hb12.alloc HH.out _).grown HG3.out (Nat.le_trans HH.out (by simp)) (fun g hg => by simp at hg; rw [← hg]; exact HH.out)).grown HG4.out (by simp at hs3; have := HH.out; omega) (fun g hg => Nat.le_trans HH.out (HROW3.out.blocks g hg)))
    refine (Unpack_any A4 (np + n) c4 w4.heap.size (packB s.data.toList ++ l) s.size w4 HROW4.out.reads (Nat.le_refl _) HROW4.out.2.1 (by have := HROW4.out.2.2.1; unfold maxLen at this; omega)).mono ?_
    unfold unpackR
    rw [HE1.out, HE2.out, HE3.out, HNP.out, ← str_is s]
    rintro e wX ⟨rfl, hbX1⟩
    have hbX := thenB HBW4.out hbX1
    have hrX := hr0.out.below hbX
    have hBX := hbX.size
    clear HROW4 HROW3 HG3 HG4 HB3 HB2 HP2 HE1 HE2 HE3 hs3 hbX1 hr2 HBW4
    go_wp2_with fail
    refine (Unpack_any A n c w.heap.size l k _ hrX hBX hnc (by omega)).mono ?_
    unfold unpackR
    rintro e w5 ⟨rfl, hb5⟩
    have hb15 := thenB hbX hb5
    have hr5 := hrX.below (hb5.mono hBX)
    by_cases hu : unpackE l k = 0
    · obtain ⟨u1, u2, u3, u4, u5⟩ := back_pack hu
      obtain ⟨t, htt⟩ : ∃ t : ByteArray, t = ⟨(unpackS l k).toArray⟩ := ⟨_, rfl⟩
      have hd : t.data.toList = unpackS l k := by rw [htt]
      obtain ⟨m, hm⟩ : ∃ m : Nat, unpackK l k = m := ⟨(unpackK l k).toNat, by omega⟩
      have hts : (t.size : Int) = k := by rw [← size_toList, hd]; exact u2
      have htm : t.size ≤ maxLen := by have := (lookE_ok.1 u1).2; rw [← size_toList, hd]; unfold maxLen; omega
      rw [hm] at u3 u4 u5
      rw [← htt, hm, hu]
      rw [← hd] at u1 u5
      have hll : l.length = n := by have := hr5.1; rw [length_bv] at this; omega
      have hmn : m ≤ n := by omega
      have HD := Lib.hid u1
      have HP := Lib.hid u5
      clear htt hd hm u1 u2 u5 u4 u3 hu hll
      go_wp2_with fail
      refine (Pack_any t _ htm).mono ?_
      rintro e w6 ⟨Aq, nq, cq, rfl, hq6, hb6⟩
      have hbY := thenB hb15 hb6
      have hr6 := hr5.below (hb6.mono hb15.size)
      rw [HD.out]
      rw [HP.out] at hq6
      have hqq := hq6.reads
      have hrt := hr6.take (k := m) hmn
      rw [Nat.mul_one, show (bv l).take m = bv (l.take ((m : Int).toNat)) by rw [Int.toNat_natCast]; simp [bv, List.map_take]] at hrt
      generalize l.take ((m : Int).toNat) = lm at hq6 hqq hrt
      clear hrX hr5 hr6 hq6
      subst hts
      have hmi : (m : Int) ≤ n := by omega
      have hmc : m ≤ c := by omega
      have hmci : (m : Int) ≤ c := by omega
      have hm0 : (0 : Int) ≤ m := by omega
      have hd12 : decide ((n : Int) < (m : Int)) = false := decide_eq_false (by omega)
      have hd16 : decide ((m : Int) < 0) = false := decide_eq_false (by omega)
      have HC1 := Lib.hid hqq
      have HC2 := Lib.hid hrt
      have hg0 : Below w6.heap.size w6 w6.drew := (Below.refl _ _).drew
      clear hqq hrt
      go_wp2_with fail
      obtain ⟨F, hF⟩ : ∃ F, F = nthF [eqv (.int .i64 0), eqv (.bool false), eqv (.bool false), eqv (.string t), eqv (.int .i64 t.size), eqv (.int .i64 t.size), eqv (.bool false), eqv (.bool false), eqv (.bool false), eqv (.int .i64 m), eqv (.slice A n c), eqv (.int .i64 n), eqv (.bool false), eqv (.bool false), eqv (.bool false), eqv (.int .i64 m), eqv (.bool false), eqv (.bool false), eqv (.bool false), eqv (.slice Aq nq cq), eqv (.string ⟨lm.toArray⟩), eqv (.slice A n c), eqv (.int .i64 m), eqv (.slice A m c), eqv (.string ⟨lm.toArray⟩), eqv (.bool false), eqv (.bool false)] := ⟨_, rfl⟩
      have E0 := Lib.hid (show F 0 = eqv (.int .i64 0) by rw [hF]; rfl)
      have E1 := Lib.hid (show F 1 = eqv (.bool false) by rw [hF]; rfl)
      have E2 := Lib.hid (show F 2 = eqv (.bool false) by rw [hF]; rfl)
      have E3 := Lib.hid (show F 3 = eqv (.string t) by rw [hF]; rfl)
      have E4 := Lib.hid (show F 4 = eqv (.int .i64 t.size) by rw [hF]; rfl)
      have E5 := Lib.hid (show F 5 = eqv (.int .i64 t.size) by rw [hF]; rfl)
      have E6 := Lib.hid (show F 6 = eqv (.bool false) by rw [hF]; rfl)
      have E7 := Lib.hid (show F 7 = eqv (.bool false) by rw [hF]; rfl)
      have E8 := Lib.hid (show F 8 = eqv (.bool false) by rw [hF]; rfl)
      have E9 := Lib.hid (show F 9 = eqv (.int .i64 m) by rw [hF]; rfl)
      have E10 := Lib.hid (show F 10 = eqv (.slice A n c) by rw [hF]; rfl)
      have E11 := Lib.hid (show F 11 = eqv (.int .i64 n) by rw [hF]; rfl)
      have E12 := Lib.hid (show F 12 = eqv (.bool false) by rw [hF]; rfl)
      have E13 := Lib.hid (show F 13 = eqv (.bool false) by rw [hF]; rfl)
      have E14 := Lib.hid (show F 14 = eqv (.bool false) by rw [hF]; rfl)
      have E15 := Lib.hid (show F 15 = eqv (.int .i64 m) by rw [hF]; rfl)
      have E16 := Lib.hid (show F 16 = eqv (.bool false) by rw [hF]; rfl)
      have E17 := Lib.hid (show F 17 = eqv (.bool false) by rw [hF]; rfl)
      have E18 := Lib.hid (show F 18 = eqv (.bool false) by rw [hF]; rfl)
      have E19 := Lib.hid (show F 19 = eqv (.slice Aq nq cq) by rw [hF]; rfl)
      have E20 := Lib.hid (show F 20 = eqv (.string ⟨lm.toArray⟩) by rw [hF]; rfl)
      have E21 := Lib.hid (show F 21 = eqv (.slice A n c) by rw [hF]; rfl)
      have E22 := Lib.hid (show F 22 = eqv (.int .i64 m) by rw [hF]; rfl)
      have E23 := Lib.hid (show F 23 = eqv (.slice A m c) by rw [hF]; rfl)
      have E24 := Lib.hid (show F 24 = eqv (.string ⟨lm.toArray⟩) by rw [hF]; rfl)
      have E25 := Lib.hid (show F 25 = eqv (.bool false) by rw [hF]; rfl)
      have E26 := Lib.hid (show F 26 = eqv (.bool false) by rw [hF]; rfl)
      have hst : ∀ j v w w', F j v w → Grows w w' → F j v w' := by rw [hF]; exact nth_stable (by repeat (first | exact st_nil | exact st_eqv _ | exact st_any | exact st_bytes _ | exact st_list _ | exact st_strs _ | refine st_cons ?_ ?_))
      have HST0 := Lib.hid hst
      clear hF hst
      refine wp_region_facts F Grows (fun _ => True) (by kernel_rfl) (by kernel_rfl) grows_refl grows_trans HST0.out (trivial) ?_ ?_
      · intro V; refine ⟨?_, ?_, ?_, ?_, ?_, ?_, ?_, ?_, ?_, ?_, ?_, ?_, ?_, ?_, ?_, ?_, ?_, ?_, ?_, ?_, ?_, ?_, ?_, ?_, ?_, ?_, ?_, trivial⟩
        · intro wx hg hJ hdep
          clear hdep
          clear hg
          go_wp2_with fail
          exact ⟨rfl, grows_refl _, trivial, by rw [E0.out]; rfl⟩
        · intro wx hg hJ hdep
          have v0 : V 0 = (.int .i64 0) := by have h := hdep 0 rfl; rw [E0.out] at h; exact h
          clear hdep
          clear hg
          go_wp2_with fail
          exact ⟨rfl, grows_refl _, trivial, by rw [E1.out]; rfl⟩
        · intro wx hg hJ hdep
          have v1 : V 1 = (.bool false) := by have h := hdep 1 rfl; rw [E1.out] at h; exact h
          clear hdep
          clear hg
          go_wp2_with fail
          exact ⟨rfl, grows_refl _, trivial, by rw [E2.out]; rfl⟩
        · intro wx hg hJ hdep
          have v2 : V 2 = (.bool false) := by have h := hdep 2 rfl; rw [E2.out] at h; exact h
          clear hdep
          clear hg
          go_wp2_with fail
          exact ⟨rfl, grows_refl _, trivial, by rw [E3.out]; rfl⟩
        · intro wx hg hJ hdep
          have v3 : V 3 = (.string t) := by have h := hdep 3 rfl; rw [E3.out] at h; exact h
          have v2 : V 2 = (.bool false) := by have h := hdep 2 rfl; rw [E2.out] at h; exact h
          clear hdep
          clear hg
          go_wp2_with fail
          exact ⟨rfl, grows_refl _, trivial, by rw [E4.out]; rfl⟩
        · intro wx hg hJ hdep
          have v2 : V 2 = (.bool false) := by have h := hdep 2 rfl; rw [E2.out] at h; exact h
          clear hdep
          clear hg
          go_wp2_with fail
          exact ⟨rfl, grows_refl _, trivial, by rw [E5.out]; rfl⟩
        · intro wx hg hJ hdep
          have v4 : V 4 = (.int .i64 t.size) := by have h := hdep 4 rfl; rw [E4.out] at h; exact h
          have v5 : V 5 = (.int .i64 t.size) := by have h := hdep 5 rfl; rw [E5.out] at h; exact h
          have v2 : V 2 = (.bool false) := by have h := hdep 2 rfl; rw [E2.out] at h; exact h
          clear hdep
          clear hg
          go_wp2_with fail
          exact ⟨rfl, grows_refl _, trivial, by rw [E6.out]; rfl⟩
        · intro wx hg hJ hdep
          have v2 : V 2 = (.bool false) := by have h := hdep 2 rfl; rw [E2.out] at h; exact h
          have v6 : V 6 = (.bool false) := by have h := hdep 6 rfl; rw [E6.out] at h; exact h
          clear hdep
          clear hg
          go_wp2_with fail
          exact ⟨rfl, grows_refl _, trivial, by rw [E7.out]; rfl⟩
        · intro wx hg hJ hdep
          have v7 : V 7 = (.bool false) := by have h := hdep 7 rfl; rw [E7.out] at h; exact h
          have v2 : V 2 = (.bool false) := by have h := hdep 2 rfl; rw [E2.out] at h; exact h
          clear hdep
          clear hg
          go_wp2_with fail
          exact ⟨rfl, grows_refl _, trivial, by rw [E8.out]; rfl⟩
        · intro wx hg hJ hdep
          have v8 : V 8 = (.bool false) := by have h := hdep 8 rfl; rw [E8.out] at h; exact h
          clear hdep
          clear hg
          go_wp2_with fail
          exact ⟨rfl, grows_refl _, trivial, by rw [E9.out]; rfl⟩
        · intro wx hg hJ hdep
          have v8 : V 8 = (.bool false) := by have h := hdep 8 rfl; rw [E8.out] at h; exact h
          clear hdep
          clear hg
          go_wp2_with fail
          exact ⟨rfl, grows_refl _, trivial, by rw [E10.out]; rfl⟩
        · intro wx hg hJ hdep
          have v10 : V 10 = (.slice A n c) := by have h := hdep 10 rfl; rw [E10.out] at h; exact h
          have v8 : V 8 = (.bool false) := by have h := hdep 8 rfl; rw [E8.out] at h; exact h
          clear hdep
          clear hg
          go_wp2_with fail
          exact ⟨rfl, grows_refl _, trivial, by rw [E11.out]; rfl⟩
        · intro wx hg hJ hdep
          have v9 : V 9 = (.int .i64 m) := by have h := hdep 9 rfl; rw [E9.out] at h; exact h
          have v11 : V 11 = (.int .i64 n) := by have h := hdep 11 rfl; rw [E11.out] at h; exact h
          have v8 : V 8 = (.bool false) := by have h := hdep 8 rfl; rw [E8.out] at h; exact h
          clear hdep
          clear hg
          go_wp2_with fail
          exact ⟨rfl, grows_refl _, trivial, by rw [E12.out]; exact congrArg Value.bool (decide_eq_false (Nat.not_lt.2 hmn))⟩
        · intro wx hg hJ hdep
          have v8 : V 8 = (.bool false) := by have h := hdep 8 rfl; rw [E8.out] at h; exact h
          have v12 : V 12 = (.bool false) := by have h := hdep 12 rfl; rw [E12.out] at h; exact h
          clear hdep
          clear hg
          go_wp2_with fail
          exact ⟨rfl, grows_refl _, trivial, by rw [E13.out]; rfl⟩
        · intro wx hg hJ hdep
          have v13 : V 13 = (.bool false) := by have h := hdep 13 rfl; rw [E13.out] at h; exact h
          have v8 : V 8 = (.bool false) := by have h := hdep 8 rfl; rw [E8.out] at h; exact h
          clear hdep
          clear hg
          go_wp2_with fail
          exact ⟨rfl, grows_refl _, trivial, by rw [E14.out]; rfl⟩
        · intro wx hg hJ hdep
          have v14 : V 14 = (.bool false) := by have h := hdep 14 rfl; rw [E14.out] at h; exact h
          clear hdep
          clear hg
          go_wp2_with fail
          exact ⟨rfl, grows_refl _, trivial, by rw [E15.out]; rfl⟩
        · intro wx hg hJ hdep
          have v15 : V 15 = (.int .i64 m) := by have h := hdep 15 rfl; rw [E15.out] at h; exact h
          have v14 : V 14 = (.bool false) := by have h := hdep 14 rfl; rw [E14.out] at h; exact h
          clear hdep
          clear hg
          go_wp2_with fail
          exact ⟨rfl, grows_refl _, trivial, by rw [E16.out]; rfl⟩
        · intro wx hg hJ hdep
          have v14 : V 14 = (.bool false) := by have h := hdep 14 rfl; rw [E14.out] at h; exact h
          have v16 : V 16 = (.bool false) := by have h := hdep 16 rfl; rw [E16.out] at h; exact h
          clear hdep
          clear hg
          go_wp2_with fail
          exact ⟨rfl, grows_refl _, trivial, by rw [E17.out]; rfl⟩
        · intro wx hg hJ hdep
          have v17 : V 17 = (.bool false) := by have h := hdep 17 rfl; rw [E17.out] at h; exact h
          have v14 : V 14 = (.bool false) := by have h := hdep 14 rfl; rw [E14.out] at h; exact h
          clear hdep
          clear hg
          go_wp2_with fail
          exact ⟨rfl, grows_refl _, trivial, by rw [E18.out]; rfl⟩
        · intro wx hg hJ hdep
          have v18 : V 18 = (.bool false) := by have h := hdep 18 rfl; rw [E18.out] at h; exact h
          clear hdep
          clear hg
          go_wp2_with fail
          exact ⟨rfl, grows_refl _, trivial, by rw [E19.out]; rfl⟩
        · intro wx hg hJ hdep
          have v19 : V 19 = (.slice Aq nq cq) := by have h := hdep 19 rfl; rw [E19.out] at h; exact h
          have v18 : V 18 = (.bool false) := by have h := hdep 18 rfl; rw [E18.out] at h; exact h
          clear hdep
          have hcv := run_conv_bytes (P := Tryd.prog) Tryd.underlying30 Tryd.underlying5 Tryd.underlying9 (cap := cq) (HC1.out.below (hg0.trans hg))
          clear hg
          go_wp2_with fail
          exact ⟨rfl, grows_refl _, trivial, by rw [E20.out]; rfl⟩
        · intro wx hg hJ hdep
          have v18 : V 18 = (.bool false) := by have h := hdep 18 rfl; rw [E18.out] at h; exact h
          clear hdep
          clear hg
          go_wp2_with fail
          exact ⟨rfl, grows_refl _, trivial, by rw [E21.out]; rfl⟩
        · intro wx hg hJ hdep
          have v18 : V 18 = (.bool false) := by have h := hdep 18 rfl; rw [E18.out] at h; exact h
          clear hdep
          clear hg
          go_wp2_with fail
          exact ⟨rfl, grows_refl _, trivial, by rw [E22.out]; rfl⟩
        · intro wx hg hJ hdep
          have v21 : V 21 = (.slice A n c) := by have h := hdep 21 rfl; rw [E21.out] at h; exact h
          have v22 : V 22 = (.int .i64 m) := by have h := hdep 22 rfl; rw [E22.out] at h; exact h
          have v18 : V 18 = (.bool false) := by have h := hdep 18 rfl; rw [E18.out] at h; exact h
          clear hdep
          clear hg
          go_wp2_with fail
          exact ⟨rfl, grows_refl _, trivial, by rw [E23.out]; rfl⟩
        · intro wx hg hJ hdep
          have v23 : V 23 = (.slice A m c) := by have h := hdep 23 rfl; rw [E23.out] at h; exact h
          have v18 : V 18 = (.bool false) := by have h := hdep 18 rfl; rw [E18.out] at h; exact h
          clear hdep
          have hcv := run_conv_bytes (P := Tryd.prog) Tryd.underlying30 Tryd.underlying5 Tryd.underlying9 (cap := c) (HC2.out.below ((hg0.trans hg).mono hbY.size))
          clear hg
          go_wp2_with fail
          exact ⟨rfl, grows_refl _, trivial, by rw [E24.out]; rfl⟩
        · intro wx hg hJ hdep
          have v20 : V 20 = (.string ⟨lm.toArray⟩) := by have h := hdep 20 rfl; rw [E20.out] at h; exact h
          have v24 : V 24 = (.string ⟨lm.toArray⟩) := by have h := hdep 24 rfl; rw [E24.out] at h; exact h
          have v18 : V 18 = (.bool false) := by have h := hdep 18 rfl; rw [E18.out] at h; exact h
          clear hdep
          clear hg
          go_wp2_with fail
          exact ⟨rfl, grows_refl _, trivial, by rw [E25.out]; rfl⟩
        · intro wx hg hJ hdep
          have v18 : V 18 = (.bool false) := by have h := hdep 18 rfl; rw [E18.out] at h; exact h
          have v25 : V 25 = (.bool false) := by have h := hdep 25 rfl; rw [E25.out] at h; exact h
          clear hdep
          clear hg
          go_wp2_with fail
          exact ⟨rfl, grows_refl _, trivial, by rw [E26.out]; rfl⟩
      · intro V wx hg hJ hall
        have v0 : V 0 = (.int .i64 0) := by have h := hall 0 (by decide); rw [E0.out] at h; exact h
        have v1 : V 1 = (.bool false) := by have h := hall 1 (by decide); rw [E1.out] at h; exact h
        have v2 : V 2 = (.bool false) := by have h := hall 2 (by decide); rw [E2.out] at h; exact h
        have v3 : V 3 = (.string t) := by have h := hall 3 (by decide); rw [E3.out] at h; exact h
        have v4 : V 4 = (.int .i64 t.size) := by have h := hall 4 (by decide); rw [E4.out] at h; exact h
        have v5 : V 5 = (.int .i64 t.size) := by have h := hall 5 (by decide); rw [E5.out] at h; exact h
        have v6 : V 6 = (.bool false) := by have h := hall 6 (by decide); rw [E6.out] at h; exact h
        have v7 : V 7 = (.bool false) := by have h := hall 7 (by decide); rw [E7.out] at h; exact h
        have v8 : V 8 = (.bool false) := by have h := hall 8 (by decide); rw [E8.out] at h; exact h
        have v9 : V 9 = (.int .i64 m) := by have h := hall 9 (by decide); rw [E9.out] at h; exact h
        have v10 : V 10 = (.slice A n c) := by have h := hall 10 (by decide); rw [E10.out] at h; exact h
        have v11 : V 11 = (.int .i64 n) := by have h := hall 11 (by decide); rw [E11.out] at h; exact h
        have v12 : V 12 = (.bool false) := by have h := hall 12 (by decide); rw [E12.out] at h; exact h
        have v13 : V 13 = (.bool false) := by have h := hall 13 (by decide); rw [E13.out] at h; exact h
        have v14 : V 14 = (.bool false) := by have h := hall 14 (by decide); rw [E14.out] at h; exact h
        have v15 : V 15 = (.int .i64 m) := by have h := hall 15 (by decide); rw [E15.out] at h; exact h
        have v16 : V 16 = (.bool false) := by have h := hall 16 (by decide); rw [E16.out] at h; exact h
        have v17 : V 17 = (.bool false) := by have h := hall 17 (by decide); rw [E17.out] at h; exact h
        have v18 : V 18 = (.bool false) := by have h := hall 18 (by decide); rw [E18.out] at h; exact h
        have v19 : V 19 = (.slice Aq nq cq) := by have h := hall 19 (by decide); rw [E19.out] at h; exact h
        have v20 : V 20 = (.string ⟨lm.toArray⟩) := by have h := hall 20 (by decide); rw [E20.out] at h; exact h
        have v21 : V 21 = (.slice A n c) := by have h := hall 21 (by decide); rw [E21.out] at h; exact h
        have v22 : V 22 = (.int .i64 m) := by have h := hall 22 (by decide); rw [E22.out] at h; exact h
        have v23 : V 23 = (.slice A m c) := by have h := hall 23 (by decide); rw [E23.out] at h; exact h
        have v24 : V 24 = (.string ⟨lm.toArray⟩) := by have h := hall 24 (by decide); rw [E24.out] at h; exact h
        have v25 : V 25 = (.bool false) := by have h := hall 25 (by decide); rw [E25.out] at h; exact h
        have v26 : V 26 = (.bool false) := by have h := hall 26 (by decide); rw [E26.out] at h; exact h
        clear hall
        simp only [fillTo, Act.put, List.setIfInBounds_toArray, List.set_cons_succ, List.set_cons_zero, Nat.reduceAdd, Nat.zero_add, v0, v1, v2, v3, v4, v5, v6, v7, v8, v9, v10, v11, v12, v13, v14, v15, v16, v17, v18, v19, v20, v21, v22, v23, v24, v25, v26]
        clear v0 v1 v2 v3 v4 v5 v6 v7 v8 v9 v10 v11 v12 v13 v14 v15 v16 v17 v18 v19 v20 v21 v22 v23 v24 v25 v26
        have hbZ := hbY.trans ((hg0.trans hg).mono hbY.size)
        clear hg hg0 hbY
        have hbY := hbZ
        go_wp2_with fail
        refine (Text_any _ wd _ h63).mono ?_
        rintro e w8 ⟨rfl, hb8⟩
        have hb18 := thenB hbY hb8
        by_cases ht : textE (t.size : Int) wd = 0
        · obtain ⟨t1, t2, t3, t4⟩ := back_text h63 ht
          obtain ⟨tx, htt⟩ : ∃ tx : ByteArray, tx = ⟨(textV (t.size : Int) wd).toArray⟩ := ⟨_, rfl⟩
          have hd : tx.data.toList = textV (t.size : Int) wd := by rw [htt]
          have htsx : (tx.size : Int) = wd := by rw [← size_toList, hd]; exact t3
          have htmx : tx.size ≤ maxLen := by rw [← size_toList, hd]; unfold maxLen; omega
          rw [← htt, ht]
          rw [← hd] at t1 t2
          clear htt hd t3 t4 ht
          go_wp2_with fail
          refine (Number_any tx _ htmx).mono ?_
          rintro e w' ⟨rfl, rfl⟩
          unfold numR
          rw [t1, t2]
          go_wp2_with fail
          go_ret
          exact ⟨rfl, hb18⟩
        · have he : (textV (t.size : Int) wd).isEmpty = true := by rw [textV_no ht]; rfl
          have hn : (textE (t.size : Int) wd != 0) = true := by simpa using ht
          generalize textE (t.size : Int) wd = err at hn ht
          generalize textV (t.size : Int) wd = tv at he
          go_wp2_with fail
          go_ret
          first | exact ⟨rfl, hb18⟩ | exact ⟨ret_b he, hb18⟩
    · have hn : (unpackE l k == 0) = false := by simpa using hu
      have hbY := hb15
      generalize unpackE l k = err at hn
      generalize unpackS l k = us
      generalize unpackK l k = uk
      go_wp2_with fail
      refine (Text_any _ wd _ h63).mono ?_
      rintro e w8 ⟨rfl, hb8⟩
      have hb18 := thenB hbY hb8
      by_cases ht : textE k wd = 0
      · obtain ⟨t1, t2, t3, t4⟩ := back_text h63 ht
        obtain ⟨tx, htt⟩ : ∃ tx : ByteArray, tx = ⟨(textV k wd).toArray⟩ := ⟨_, rfl⟩
        have hd : tx.data.toList = textV k wd := by rw [htt]
        have htsx : (tx.size : Int) = wd := by rw [← size_toList, hd]; exact t3
        have htmx : tx.size ≤ maxLen := by rw [← size_toList, hd]; unfold maxLen; omega
        rw [← htt, ht]
        rw [← hd] at t1 t2
        clear htt hd t3 t4 ht
        go_wp2_with fail
        refine (Number_any tx _ htmx).mono ?_
        rintro e w' ⟨rfl, rfl⟩
        unfold numR
        rw [t1, t2]
        go_wp2_with fail
        go_ret
        exact ⟨rfl, hb18⟩
      · have he : (textV k wd).isEmpty = true := by rw [textV_no ht]; rfl
        have hn : (textE k wd != 0) = true := by simpa using ht
        generalize textE k wd = err at hn ht
        generalize textV k wd = tv at he
        go_wp2_with fail
        go_ret
        first | exact ⟨rfl, hb18⟩ | exact ⟨ret_b he, hb18⟩
  · have hn : (lookE s.data.toList == 0) = false := by simpa using hl
    have hbX := hb12
    have hrX := hr2
    have hBX := hbX.size
    generalize lookE s.data.toList = er at hn hl
    go_wp2_with fail
    refine (Unpack_any A n c w.heap.size l k _ hrX hBX hnc (by omega)).mono ?_
    unfold unpackR
    rintro e w5 ⟨rfl, hb5⟩
    have hb15 := thenB hbX hb5
    have hr5 := hrX.below (hb5.mono hBX)
    by_cases hu : unpackE l k = 0
    · obtain ⟨u1, u2, u3, u4, u5⟩ := back_pack hu
      obtain ⟨t, htt⟩ : ∃ t : ByteArray, t = ⟨(unpackS l k).toArray⟩ := ⟨_, rfl⟩
      have hd : t.data.toList = unpackS l k := by rw [htt]
      obtain ⟨m, hm⟩ : ∃ m : Nat, unpackK l k = m := ⟨(unpackK l k).toNat, by omega⟩
      have hts : (t.size : Int) = k := by rw [← size_toList, hd]; exact u2
      have htm : t.size ≤ maxLen := by have := (lookE_ok.1 u1).2; rw [← size_toList, hd]; unfold maxLen; omega
      rw [hm] at u3 u4 u5
      rw [← htt, hm, hu]
      rw [← hd] at u1 u5
      have hll : l.length = n := by have := hr5.1; rw [length_bv] at this; omega
      have hmn : m ≤ n := by omega
      have HD := Lib.hid u1
      have HP := Lib.hid u5
      clear htt hd hm u1 u2 u5 u4 u3 hu hll
      go_wp2_with fail
      refine (Pack_any t _ htm).mono ?_
      rintro e w6 ⟨Aq, nq, cq, rfl, hq6, hb6⟩
      have hbY := thenB hb15 hb6
      have hr6 := hr5.below (hb6.mono hb15.size)
      rw [HD.out]
      rw [HP.out] at hq6
      have hqq := hq6.reads
      have hrt := hr6.take (k := m) hmn
      rw [Nat.mul_one, show (bv l).take m = bv (l.take ((m : Int).toNat)) by rw [Int.toNat_natCast]; simp [bv, List.map_take]] at hrt
      generalize l.take ((m : Int).toNat) = lm at hq6 hqq hrt
      clear hrX hr5 hr6 hq6
      subst hts
      have hmi : (m : Int) ≤ n := by omega
      have hmc : m ≤ c := by omega
      have hmci : (m : Int) ≤ c := by omega
      have hm0 : (0 : Int) ≤ m := by omega
      have hd12 : decide ((n : Int) < (m : Int)) = false := decide_eq_false (by omega)
      have hd16 : decide ((m : Int) < 0) = false := decide_eq_false (by omega)
      have HC1 := Lib.hid hqq
      have HC2 := Lib.hid hrt
      have hg0 : Below w6.heap.size w6 w6.drew := (Below.refl _ _).drew
      clear hqq hrt
      go_wp2_with fail
      obtain ⟨F, hF⟩ : ∃ F, F = nthF [eqv (.int .i64 0), eqv (.bool false), eqv (.bool false), eqv (.string t), eqv (.int .i64 t.size), eqv (.int .i64 t.size), eqv (.bool false), eqv (.bool false), eqv (.bool false), eqv (.int .i64 m), eqv (.slice A n c), eqv (.int .i64 n), eqv (.bool false), eqv (.bool false), eqv (.bool false), eqv (.int .i64 m), eqv (.bool false), eqv (.bool false), eqv (.bool false), eqv (.slice Aq nq cq), eqv (.string ⟨lm.toArray⟩), eqv (.slice A n c), eqv (.int .i64 m), eqv (.slice A m c), eqv (.string ⟨lm.toArray⟩), eqv (.bool false), eqv (.bool false)] := ⟨_, rfl⟩
      have E0 := Lib.hid (show F 0 = eqv (.int .i64 0) by rw [hF]; rfl)
      have E1 := Lib.hid (show F 1 = eqv (.bool false) by rw [hF]; rfl)
      have E2 := Lib.hid (show F 2 = eqv (.bool false) by rw [hF]; rfl)
      have E3 := Lib.hid (show F 3 = eqv (.string t) by rw [hF]; rfl)
      have E4 := Lib.hid (show F 4 = eqv (.int .i64 t.size) by rw [hF]; rfl)
      have E5 := Lib.hid (show F 5 = eqv (.int .i64 t.size) by rw [hF]; rfl)
      have E6 := Lib.hid (show F 6 = eqv (.bool false) by rw [hF]; rfl)
      have E7 := Lib.hid (show F 7 = eqv (.bool false) by rw [hF]; rfl)
      have E8 := Lib.hid (show F 8 = eqv (.bool false) by rw [hF]; rfl)
      have E9 := Lib.hid (show F 9 = eqv (.int .i64 m) by rw [hF]; rfl)
      have E10 := Lib.hid (show F 10 = eqv (.slice A n c) by rw [hF]; rfl)
      have E11 := Lib.hid (show F 11 = eqv (.int .i64 n) by rw [hF]; rfl)
      have E12 := Lib.hid (show F 12 = eqv (.bool false) by rw [hF]; rfl)
      have E13 := Lib.hid (show F 13 = eqv (.bool false) by rw [hF]; rfl)
      have E14 := Lib.hid (show F 14 = eqv (.bool false) by rw [hF]; rfl)
      have E15 := Lib.hid (show F 15 = eqv (.int .i64 m) by rw [hF]; rfl)
      have E16 := Lib.hid (show F 16 = eqv (.bool false) by rw [hF]; rfl)
      have E17 := Lib.hid (show F 17 = eqv (.bool false) by rw [hF]; rfl)
      have E18 := Lib.hid (show F 18 = eqv (.bool false) by rw [hF]; rfl)
      have E19 := Lib.hid (show F 19 = eqv (.slice Aq nq cq) by rw [hF]; rfl)
      have E20 := Lib.hid (show F 20 = eqv (.string ⟨lm.toArray⟩) by rw [hF]; rfl)
      have E21 := Lib.hid (show F 21 = eqv (.slice A n c) by rw [hF]; rfl)
      have E22 := Lib.hid (show F 22 = eqv (.int .i64 m) by rw [hF]; rfl)
      have E23 := Lib.hid (show F 23 = eqv (.slice A m c) by rw [hF]; rfl)
      have E24 := Lib.hid (show F 24 = eqv (.string ⟨lm.toArray⟩) by rw [hF]; rfl)
      have E25 := Lib.hid (show F 25 = eqv (.bool false) by rw [hF]; rfl)
      have E26 := Lib.hid (show F 26 = eqv (.bool false) by rw [hF]; rfl)
      have hst : ∀ j v w w', F j v w → Grows w w' → F j v w' := by rw [hF]; exact nth_stable (by repeat (first | exact st_nil | exact st_eqv _ | exact st_any | exact st_bytes _ | exact st_list _ | exact st_strs _ | refine st_cons ?_ ?_))
      have HST0 := Lib.hid hst
      clear hF hst
      refine wp_region_facts F Grows (fun _ => True) (by kernel_rfl) (by kernel_rfl) grows_refl grows_trans HST0.out (trivial) ?_ ?_
      · intro V; refine ⟨?_, ?_, ?_, ?_, ?_, ?_, ?_, ?_, ?_, ?_, ?_, ?_, ?_, ?_, ?_, ?_, ?_, ?_, ?_, ?_, ?_, ?_, ?_, ?_, ?_, ?_, ?_, trivial⟩
        · intro wx hg hJ hdep
          clear hdep
          clear hg
          go_wp2_with fail
          exact ⟨rfl, grows_refl _, trivial, by rw [E0.out]; rfl⟩
        · intro wx hg hJ hdep
          have v0 : V 0 = (.int .i64 0) := by have h := hdep 0 rfl; rw [E0.out] at h; exact h
          clear hdep
          clear hg
          go_wp2_with fail
          exact ⟨rfl, grows_refl _, trivial, by rw [E1.out]; rfl⟩
        · intro wx hg hJ hdep
          have v1 : V 1 = (.bool false) := by have h := hdep 1 rfl; rw [E1.out] at h; exact h
          clear hdep
          clear hg
          go_wp2_with fail
          exact ⟨rfl, grows_refl _, trivial, by rw [E2.out]; rfl⟩
        · intro wx hg hJ hdep
          have v2 : V 2 = (.bool false) := by have h := hdep 2 rfl; rw [E2.out] at h; exact h
          clear hdep
          clear hg
          go_wp2_with fail
          exact ⟨rfl, grows_refl _, trivial, by rw [E3.out]; rfl⟩
        · intro wx hg hJ hdep
          have v3 : V 3 = (.string t) := by have h := hdep 3 rfl; rw [E3.out] at h; exact h
          have v2 : V 2 = (.bool false) := by have h := hdep 2 rfl; rw [E2.out] at h; exact h
          clear hdep
          clear hg
          go_wp2_with fail
          exact ⟨rfl, grows_refl _, trivial, by rw [E4.out]; rfl⟩
        · intro wx hg hJ hdep
          have v2 : V 2 = (.bool false) := by have h := hdep 2 rfl; rw [E2.out] at h; exact h
          clear hdep
          clear hg
          go_wp2_with fail
          exact ⟨rfl, grows_refl _, trivial, by rw [E5.out]; rfl⟩
        · intro wx hg hJ hdep
          have v4 : V 4 = (.int .i64 t.size) := by have h := hdep 4 rfl; rw [E4.out] at h; exact h
          have v5 : V 5 = (.int .i64 t.size) := by have h := hdep 5 rfl; rw [E5.out] at h; exact h
          have v2 : V 2 = (.bool false) := by have h := hdep 2 rfl; rw [E2.out] at h; exact h
          clear hdep
          clear hg
          go_wp2_with fail
          exact ⟨rfl, grows_refl _, trivial, by rw [E6.out]; rfl⟩
        · intro wx hg hJ hdep
          have v2 : V 2 = (.bool false) := by have h := hdep 2 rfl; rw [E2.out] at h; exact h
          have v6 : V 6 = (.bool false) := by have h := hdep 6 rfl; rw [E6.out] at h; exact h
          clear hdep
          clear hg
          go_wp2_with fail
          exact ⟨rfl, grows_refl _, trivial, by rw [E7.out]; rfl⟩
        · intro wx hg hJ hdep
          have v7 : V 7 = (.bool false) := by have h := hdep 7 rfl; rw [E7.out] at h; exact h
          have v2 : V 2 = (.bool false) := by have h := hdep 2 rfl; rw [E2.out] at h; exact h
          clear hdep
          clear hg
          go_wp2_with fail
          exact ⟨rfl, grows_refl _, trivial, by rw [E8.out]; rfl⟩
        · intro wx hg hJ hdep
          have v8 : V 8 = (.bool false) := by have h := hdep 8 rfl; rw [E8.out] at h; exact h
          clear hdep
          clear hg
          go_wp2_with fail
          exact ⟨rfl, grows_refl _, trivial, by rw [E9.out]; rfl⟩
        · intro wx hg hJ hdep
          have v8 : V 8 = (.bool false) := by have h := hdep 8 rfl; rw [E8.out] at h; exact h
          clear hdep
          clear hg
          go_wp2_with fail
          exact ⟨rfl, grows_refl _, trivial, by rw [E10.out]; rfl⟩
        · intro wx hg hJ hdep
          have v10 : V 10 = (.slice A n c) := by have h := hdep 10 rfl; rw [E10.out] at h; exact h
          have v8 : V 8 = (.bool false) := by have h := hdep 8 rfl; rw [E8.out] at h; exact h
          clear hdep
          clear hg
          go_wp2_with fail
          exact ⟨rfl, grows_refl _, trivial, by rw [E11.out]; rfl⟩
        · intro wx hg hJ hdep
          have v9 : V 9 = (.int .i64 m) := by have h := hdep 9 rfl; rw [E9.out] at h; exact h
          have v11 : V 11 = (.int .i64 n) := by have h := hdep 11 rfl; rw [E11.out] at h; exact h
          have v8 : V 8 = (.bool false) := by have h := hdep 8 rfl; rw [E8.out] at h; exact h
          clear hdep
          clear hg
          go_wp2_with fail
          exact ⟨rfl, grows_refl _, trivial, by rw [E12.out]; exact congrArg Value.bool (decide_eq_false (Nat.not_lt.2 hmn))⟩
        · intro wx hg hJ hdep
          have v8 : V 8 = (.bool false) := by have h := hdep 8 rfl; rw [E8.out] at h; exact h
          have v12 : V 12 = (.bool false) := by have h := hdep 12 rfl; rw [E12.out] at h; exact h
          clear hdep
          clear hg
          go_wp2_with fail
          exact ⟨rfl, grows_refl _, trivial, by rw [E13.out]; rfl⟩
        · intro wx hg hJ hdep
          have v13 : V 13 = (.bool false) := by have h := hdep 13 rfl; rw [E13.out] at h; exact h
          have v8 : V 8 = (.bool false) := by have h := hdep 8 rfl; rw [E8.out] at h; exact h
          clear hdep
          clear hg
          go_wp2_with fail
          exact ⟨rfl, grows_refl _, trivial, by rw [E14.out]; rfl⟩
        · intro wx hg hJ hdep
          have v14 : V 14 = (.bool false) := by have h := hdep 14 rfl; rw [E14.out] at h; exact h
          clear hdep
          clear hg
          go_wp2_with fail
          exact ⟨rfl, grows_refl _, trivial, by rw [E15.out]; rfl⟩
        · intro wx hg hJ hdep
          have v15 : V 15 = (.int .i64 m) := by have h := hdep 15 rfl; rw [E15.out] at h; exact h
          have v14 : V 14 = (.bool false) := by have h := hdep 14 rfl; rw [E14.out] at h; exact h
          clear hdep
          clear hg
          go_wp2_with fail
          exact ⟨rfl, grows_refl _, trivial, by rw [E16.out]; rfl⟩
        · intro wx hg hJ hdep
          have v14 : V 14 = (.bool false) := by have h := hdep 14 rfl; rw [E14.out] at h; exact h
          have v16 : V 16 = (.bool false) := by have h := hdep 16 rfl; rw [E16.out] at h; exact h
          clear hdep
          clear hg
          go_wp2_with fail
          exact ⟨rfl, grows_refl _, trivial, by rw [E17.out]; rfl⟩
        · intro wx hg hJ hdep
          have v17 : V 17 = (.bool false) := by have h := hdep 17 rfl; rw [E17.out] at h; exact h
          have v14 : V 14 = (.bool false) := by have h := hdep 14 rfl; rw [E14.out] at h; exact h
          clear hdep
          clear hg
          go_wp2_with fail
          exact ⟨rfl, grows_refl _, trivial, by rw [E18.out]; rfl⟩
        · intro wx hg hJ hdep
          have v18 : V 18 = (.bool false) := by have h := hdep 18 rfl; rw [E18.out] at h; exact h
          clear hdep
          clear hg
          go_wp2_with fail
          exact ⟨rfl, grows_refl _, trivial, by rw [E19.out]; rfl⟩
        · intro wx hg hJ hdep
          have v19 : V 19 = (.slice Aq nq cq) := by have h := hdep 19 rfl; rw [E19.out] at h; exact h
          have v18 : V 18 = (.bool false) := by have h := hdep 18 rfl; rw [E18.out] at h; exact h
          clear hdep
          have hcv := run_conv_bytes (P := Tryd.prog) Tryd.underlying30 Tryd.underlying5 Tryd.underlying9 (cap := cq) (HC1.out.below (hg0.trans hg))
          clear hg
          go_wp2_with fail
          exact ⟨rfl, grows_refl _, trivial, by rw [E20.out]; rfl⟩
        · intro wx hg hJ hdep
          have v18 : V 18 = (.bool false) := by have h := hdep 18 rfl; rw [E18.out] at h; exact h
          clear hdep
          clear hg
          go_wp2_with fail
          exact ⟨rfl, grows_refl _, trivial, by rw [E21.out]; rfl⟩
        · intro wx hg hJ hdep
          have v18 : V 18 = (.bool false) := by have h := hdep 18 rfl; rw [E18.out] at h; exact h
          clear hdep
          clear hg
          go_wp2_with fail
          exact ⟨rfl, grows_refl _, trivial, by rw [E22.out]; rfl⟩
        · intro wx hg hJ hdep
          have v21 : V 21 = (.slice A n c) := by have h := hdep 21 rfl; rw [E21.out] at h; exact h
          have v22 : V 22 = (.int .i64 m) := by have h := hdep 22 rfl; rw [E22.out] at h; exact h
          have v18 : V 18 = (.bool false) := by have h := hdep 18 rfl; rw [E18.out] at h; exact h
          clear hdep
          clear hg
          go_wp2_with fail
          exact ⟨rfl, grows_refl _, trivial, by rw [E23.out]; rfl⟩
        · intro wx hg hJ hdep
          have v23 : V 23 = (.slice A m c) := by have h := hdep 23 rfl; rw [E23.out] at h; exact h
          have v18 : V 18 = (.bool false) := by have h := hdep 18 rfl; rw [E18.out] at h; exact h
          clear hdep
          have hcv := run_conv_bytes (P := Tryd.prog) Tryd.underlying30 Tryd.underlying5 Tryd.underlying9 (cap := c) (HC2.out.below ((hg0.trans hg).mono hbY.size))
          clear hg
          go_wp2_with fail
          exact ⟨rfl, grows_refl _, trivial, by rw [E24.out]; rfl⟩
        · intro wx hg hJ hdep
          have v20 : V 20 = (.string ⟨lm.toArray⟩) := by have h := hdep 20 rfl; rw [E20.out] at h; exact h
          have v24 : V 24 = (.string ⟨lm.toArray⟩) := by have h := hdep 24 rfl; rw [E24.out] at h; exact h
          have v18 : V 18 = (.bool false) := by have h := hdep 18 rfl; rw [E18.out] at h; exact h
          clear hdep
          clear hg
          go_wp2_with fail
          exact ⟨rfl, grows_refl _, trivial, by rw [E25.out]; rfl⟩
        · intro wx hg hJ hdep
          have v18 : V 18 = (.bool false) := by have h := hdep 18 rfl; rw [E18.out] at h; exact h
          have v25 : V 25 = (.bool false) := by have h := hdep 25 rfl; rw [E25.out] at h; exact h
          clear hdep
          clear hg
          go_wp2_with fail
          exact ⟨rfl, grows_refl _, trivial, by rw [E26.out]; rfl⟩
      · intro V wx hg hJ hall
        have v0 : V 0 = (.int .i64 0) := by have h := hall 0 (by decide); rw [E0.out] at h; exact h
        have v1 : V 1 = (.bool false) := by have h := hall 1 (by decide); rw [E1.out] at h; exact h
        have v2 : V 2 = (.bool false) := by have h := hall 2 (by decide); rw [E2.out] at h; exact h
        have v3 : V 3 = (.string t) := by have h := hall 3 (by decide); rw [E3.out] at h; exact h
        have v4 : V 4 = (.int .i64 t.size) := by have h := hall 4 (by decide); rw [E4.out] at h; exact h
        have v5 : V 5 = (.int .i64 t.size) := by have h := hall 5 (by decide); rw [E5.out] at h; exact h
        have v6 : V 6 = (.bool false) := by have h := hall 6 (by decide); rw [E6.out] at h; exact h
        have v7 : V 7 = (.bool false) := by have h := hall 7 (by decide); rw [E7.out] at h; exact h
        have v8 : V 8 = (.bool false) := by have h := hall 8 (by decide); rw [E8.out] at h; exact h
        have v9 : V 9 = (.int .i64 m) := by have h := hall 9 (by decide); rw [E9.out] at h; exact h
        have v10 : V 10 = (.slice A n c) := by have h := hall 10 (by decide); rw [E10.out] at h; exact h
        have v11 : V 11 = (.int .i64 n) := by have h := hall 11 (by decide); rw [E11.out] at h; exact h
        have v12 : V 12 = (.bool false) := by have h := hall 12 (by decide); rw [E12.out] at h; exact h
        have v13 : V 13 = (.bool false) := by have h := hall 13 (by decide); rw [E13.out] at h; exact h
        have v14 : V 14 = (.bool false) := by have h := hall 14 (by decide); rw [E14.out] at h; exact h
        have v15 : V 15 = (.int .i64 m) := by have h := hall 15 (by decide); rw [E15.out] at h; exact h
        have v16 : V 16 = (.bool false) := by have h := hall 16 (by decide); rw [E16.out] at h; exact h
        have v17 : V 17 = (.bool false) := by have h := hall 17 (by decide); rw [E17.out] at h; exact h
        have v18 : V 18 = (.bool false) := by have h := hall 18 (by decide); rw [E18.out] at h; exact h
        have v19 : V 19 = (.slice Aq nq cq) := by have h := hall 19 (by decide); rw [E19.out] at h; exact h
        have v20 : V 20 = (.string ⟨lm.toArray⟩) := by have h := hall 20 (by decide); rw [E20.out] at h; exact h
        have v21 : V 21 = (.slice A n c) := by have h := hall 21 (by decide); rw [E21.out] at h; exact h
        have v22 : V 22 = (.int .i64 m) := by have h := hall 22 (by decide); rw [E22.out] at h; exact h
        have v23 : V 23 = (.slice A m c) := by have h := hall 23 (by decide); rw [E23.out] at h; exact h
        have v24 : V 24 = (.string ⟨lm.toArray⟩) := by have h := hall 24 (by decide); rw [E24.out] at h; exact h
        have v25 : V 25 = (.bool false) := by have h := hall 25 (by decide); rw [E25.out] at h; exact h
        have v26 : V 26 = (.bool false) := by have h := hall 26 (by decide); rw [E26.out] at h; exact h
        clear hall
        simp only [fillTo, Act.put, List.setIfInBounds_toArray, List.set_cons_succ, List.set_cons_zero, Nat.reduceAdd, Nat.zero_add, v0, v1, v2, v3, v4, v5, v6, v7, v8, v9, v10, v11, v12, v13, v14, v15, v16, v17, v18, v19, v20, v21, v22, v23, v24, v25, v26]
        clear v0 v1 v2 v3 v4 v5 v6 v7 v8 v9 v10 v11 v12 v13 v14 v15 v16 v17 v18 v19 v20 v21 v22 v23 v24 v25 v26
        have hbZ := hbY.trans ((hg0.trans hg).mono hbY.size)
        clear hg hg0 hbY
        have hbY := hbZ
        go_wp2_with fail
        refine (Text_any _ wd _ h63).mono ?_
        rintro e w8 ⟨rfl, hb8⟩
        have hb18 := thenB hbY hb8
        by_cases ht : textE (t.size : Int) wd = 0
        · obtain ⟨t1, t2, t3, t4⟩ := back_text h63 ht
          obtain ⟨tx, htt⟩ : ∃ tx : ByteArray, tx = ⟨(textV (t.size : Int) wd).toArray⟩ := ⟨_, rfl⟩
          have hd : tx.data.toList = textV (t.size : Int) wd := by rw [htt]
          have htsx : (tx.size : Int) = wd := by rw [← size_toList, hd]; exact t3
          have htmx : tx.size ≤ maxLen := by rw [← size_toList, hd]; unfold maxLen; omega
          rw [← htt, ht]
          rw [← hd] at t1 t2
          clear htt hd t3 t4 ht
          go_wp2_with fail
          refine (Number_any tx _ htmx).mono ?_
          rintro e w' ⟨rfl, rfl⟩
          unfold numR
          rw [t1, t2]
          go_wp2_with fail
          go_ret
          exact ⟨rfl, hb18⟩
        · have he : (textV (t.size : Int) wd).isEmpty = true := by rw [textV_no ht]; rfl
          have hn : (textE (t.size : Int) wd != 0) = true := by simpa using ht
          generalize textE (t.size : Int) wd = err at hn ht
          generalize textV (t.size : Int) wd = tv at he
          go_wp2_with fail
          go_ret
          first | exact ⟨rfl, hb18⟩ | exact ⟨ret_b he, hb18⟩
    · have hn : (unpackE l k == 0) = false := by simpa using hu
      have hbY := hb15
      generalize unpackE l k = err at hn
      generalize unpackS l k = us
      generalize unpackK l k = uk
      go_wp2_with fail
      refine (Text_any _ wd _ h63).mono ?_
      rintro e w8 ⟨rfl, hb8⟩
      have hb18 := thenB hbY hb8
      by_cases ht : textE k wd = 0
      · obtain ⟨t1, t2, t3, t4⟩ := back_text h63 ht
        obtain ⟨tx, htt⟩ : ∃ tx : ByteArray, tx = ⟨(textV k wd).toArray⟩ := ⟨_, rfl⟩
        have hd : tx.data.toList = textV k wd := by rw [htt]
        have htsx : (tx.size : Int) = wd := by rw [← size_toList, hd]; exact t3
        have htmx : tx.size ≤ maxLen := by rw [← size_toList, hd]; unfold maxLen; omega
        rw [← htt, ht]
        rw [← hd] at t1 t2
        clear htt hd t3 t4 ht
        go_wp2_with fail
        refine (Number_any tx _ htmx).mono ?_
        rintro e w' ⟨rfl, rfl⟩
        unfold numR
        rw [t1, t2]
        go_wp2_with fail
        go_ret
        exact ⟨rfl, hb18⟩
      · have he : (textV k wd).isEmpty = true := by rw [textV_no ht]; rfl
        have hn : (textE k wd != 0) = true := by simpa using ht
        generalize textE k wd = err at hn ht
        generalize textV k wd = tv at he
        go_wp2_with fail
        go_ret
        first | exact ⟨rfl, hb18⟩ | exact ⟨ret_b he, hb18⟩
end Go.Proofs.YtkmmmjbmooglfaaDoor
