/- THE WALK of roles' reference: Right, by what is asked. -/
import Derived.Test.YtnhcabcpdlgdaaaDoorAdmR1
namespace Go.Proofs.YtnhcabcpdlgdaaaDoor
open Go.RowKit

set_option maxRecDepth 100000 in
set_option maxHeartbeats 16000000 in
theorem rRight_4 (a : Adm) (w : World) (h : admMay a.role a.op = true) (hop : a.op = 4) : Calls Tryd.prog 29 #[a.val] w fun e w' => e = .returned (.int .i64 a.err) ∧ Below w.heap.size w w' := by
  have herr : a.err = if a.fine then 0 else 1 := by unfold Adm.err; rw [if_pos h]
  obtain ⟨er, her⟩ : ∃ er, a.err = er := ⟨_, rfl⟩
  rw [her] at herr ⊢
  have HM := Lib.hid (fun w => by have := rMay_any a.role a.op w; rw [h] at this; exact this)
  clear h her
  obtain ⟨r, o, t, m, s, p, q, u, v⟩ := a
  have hyes : (Adm.mk r o t m s p q u v).fine → er = 0 := fun h => by rw [herr, if_pos h]
  have hno : ¬ (Adm.mk r o t m s p q u v).fine → er = 1 := fun h => by rw [herr, if_neg h]
  unfold Adm.fine Adm.plain at hyes hno
  simp only at hyes hno HM hop
  subst hop
  have HY := Lib.hid hyes
  have HN := Lib.hid hno
  clear hyes hno herr
  obtain ⟨z, hz⟩ : ∃ z, z = decide (p = 0 ∧ q = 0 ∧ u = 0 ∧ v = 0) := ⟨_, rfl⟩
  have hq := fun w => rule_zero p q u v w z hz
  have HZ := Lib.hid hz
  clear hz
  unfold Adm.val
  simp only
  by_cases t1 : t < 1
  · have HX := Lib.hid (HN.out (by omega))
    clear HZ HN HY
    go_enter Tryd.func29, Tryd.ntmps29
    go_wp2_with fail
    refine (HM.out _).mono ?_
    rintro e w1 ⟨rfl, rfl⟩
    go_wp2_with fail
    go_ret
    exact ⟨by rw [HX.out]; rfl, below2 _ _ _⟩
  by_cases t2 : 64 < t
  · have HX := Lib.hid (HN.out (by omega))
    clear HZ HN HY
    go_enter Tryd.func29, Tryd.ntmps29
    go_wp2_with fail
    refine (HM.out _).mono ?_
    rintro e w1 ⟨rfl, rfl⟩
    go_wp2_with fail
    go_ret
    exact ⟨by rw [HX.out]; rfl, below2 _ _ _⟩
  by_cases t3 : 32 < s.size
  · have HX := Lib.hid (HN.out (by omega))
    clear HZ HN HY
    go_enter Tryd.func29, Tryd.ntmps29
    go_wp2_with fail
    refine (HM.out _).mono ?_
    rintro e w1 ⟨rfl, rfl⟩
    go_wp2_with fail
    go_ret
    exact ⟨by rw [HX.out]; rfl, below2 _ _ _⟩
  by_cases hs : s.size = 0
  · obtain rfl := size_zero hs
    by_cases hm : m = 0
    · subst hm
      have hzz := HZ.out
      cases z with
      | true =>
        have hz2 := of_decide_eq_true hzz.symm
        clear hzz
        have HX := Lib.hid (HY.out (by omega))
        clear hz2 HZ HN HY
        go_enter Tryd.func29, Tryd.ntmps29
        go_wp2_with fail
        refine (HM.out _).mono ?_
        rintro e w1 ⟨rfl, rfl⟩
        go_wp2_with fail
        go_ret
        exact ⟨by rw [HX.out]; rfl, below2 _ _ _⟩
      | false =>
        have hz2 := of_decide_eq_false hzz.symm
        clear hzz
        have HX := Lib.hid (HN.out (by omega))
        clear hz2 HZ HN HY
        go_enter Tryd.func29, Tryd.ntmps29
        go_wp2_with fail
        refine (HM.out _).mono ?_
        rintro e w1 ⟨rfl, rfl⟩
        go_wp2_with fail
        go_ret
        exact ⟨by rw [HX.out]; rfl, below2 _ _ _⟩
    · have hmn : (m != 0) = true := by simp; exact hm
      have hzz := HZ.out
      cases z with
      | true =>
        have hz2 := of_decide_eq_true hzz.symm
        clear hzz
        have HX := Lib.hid (HY.out (by omega))
        clear hz2 HZ HN HY
        go_enter Tryd.func29, Tryd.ntmps29
        go_wp2_with fail
        refine (HM.out _).mono ?_
        rintro e w1 ⟨rfl, rfl⟩
        go_wp2_with fail
        go_ret
        exact ⟨by rw [HX.out]; rfl, below2 _ _ _⟩
      | false =>
        have hz2 := of_decide_eq_false hzz.symm
        clear hzz
        have HX := Lib.hid (HN.out (by omega))
        clear hz2 HZ HN HY
        go_enter Tryd.func29, Tryd.ntmps29
        go_wp2_with fail
        refine (HM.out _).mono ?_
        rintro e w1 ⟨rfl, rfl⟩
        go_wp2_with fail
        go_ret
        exact ⟨by rw [HX.out]; rfl, below2 _ _ _⟩
  · obtain ⟨s1, s2, s3⟩ := ne_empty hs
    by_cases hm : m = 0
    · subst hm
      have hzz := HZ.out
      cases z with
      | true =>
        have hz2 := of_decide_eq_true hzz.symm
        clear hzz
        have HX := Lib.hid (HY.out (by omega))
        clear hz2 HZ HN HY
        go_enter Tryd.func29, Tryd.ntmps29
        go_wp2_with fail
        refine (HM.out _).mono ?_
        rintro e w1 ⟨rfl, rfl⟩
        go_wp2_with fail
        go_ret
        exact ⟨by rw [HX.out]; rfl, below2 _ _ _⟩
      | false =>
        have hz2 := of_decide_eq_false hzz.symm
        clear hzz
        have HX := Lib.hid (HN.out (by omega))
        clear hz2 HZ HN HY
        go_enter Tryd.func29, Tryd.ntmps29
        go_wp2_with fail
        refine (HM.out _).mono ?_
        rintro e w1 ⟨rfl, rfl⟩
        go_wp2_with fail
        go_ret
        exact ⟨by rw [HX.out]; rfl, below2 _ _ _⟩
    · have hmn : (m != 0) = true := by simp; exact hm
      have hzz := HZ.out
      cases z with
      | true =>
        have hz2 := of_decide_eq_true hzz.symm
        clear hzz
        have HX := Lib.hid (HY.out (by omega))
        clear hz2 HZ HN HY
        go_enter Tryd.func29, Tryd.ntmps29
        go_wp2_with fail
        refine (HM.out _).mono ?_
        rintro e w1 ⟨rfl, rfl⟩
        go_wp2_with fail
        go_ret
        exact ⟨by rw [HX.out]; rfl, below2 _ _ _⟩
      | false =>
        have hz2 := of_decide_eq_false hzz.symm
        clear hzz
        have HX := Lib.hid (HN.out (by omega))
        clear hz2 HZ HN HY
        go_enter Tryd.func29, Tryd.ntmps29
        go_wp2_with fail
        refine (HM.out _).mono ?_
        rintro e w1 ⟨rfl, rfl⟩
        go_wp2_with fail
        go_ret
        exact ⟨by rw [HX.out]; rfl, below2 _ _ _⟩
set_option maxRecDepth 100000 in
set_option maxHeartbeats 16000000 in
theorem rRight_5 (a : Adm) (w : World) (h : admMay a.role a.op = true) (hop : a.op = 5) : Calls Tryd.prog 29 #[a.val] w fun e w' => e = .returned (.int .i64 a.err) ∧ Below w.heap.size w w' := by
  have herr : a.err = if a.fine then 0 else 1 := by unfold Adm.err; rw [if_pos h]
  obtain ⟨er, her⟩ : ∃ er, a.err = er := ⟨_, rfl⟩
  rw [her] at herr ⊢
  have HM := Lib.hid (fun w => by have := rMay_any a.role a.op w; rw [h] at this; exact this)
  clear h her
  obtain ⟨r, o, t, m, s, p, q, u, v⟩ := a
  have hyes : (Adm.mk r o t m s p q u v).fine → er = 0 := fun h => by rw [herr, if_pos h]
  have hno : ¬ (Adm.mk r o t m s p q u v).fine → er = 1 := fun h => by rw [herr, if_neg h]
  unfold Adm.fine Adm.plain at hyes hno
  simp only at hyes hno HM hop
  subst hop
  have HY := Lib.hid hyes
  have HN := Lib.hid hno
  clear hyes hno herr
  obtain ⟨z, hz⟩ : ∃ z, z = decide (p = 0 ∧ q = 0 ∧ u = 0 ∧ v = 0) := ⟨_, rfl⟩
  have hq := fun w => rule_zero p q u v w z hz
  have HZ := Lib.hid hz
  clear hz
  unfold Adm.val
  simp only
  by_cases t1 : t < 1
  · have HX := Lib.hid (HN.out (by omega))
    clear HZ HN HY
    go_enter Tryd.func29, Tryd.ntmps29
    go_wp2_with fail
    refine (HM.out _).mono ?_
    rintro e w1 ⟨rfl, rfl⟩
    go_wp2_with fail
    go_ret
    exact ⟨by rw [HX.out]; rfl, below2 _ _ _⟩
  by_cases t2 : 64 < t
  · have HX := Lib.hid (HN.out (by omega))
    clear HZ HN HY
    go_enter Tryd.func29, Tryd.ntmps29
    go_wp2_with fail
    refine (HM.out _).mono ?_
    rintro e w1 ⟨rfl, rfl⟩
    go_wp2_with fail
    go_ret
    exact ⟨by rw [HX.out]; rfl, below2 _ _ _⟩
  by_cases t3 : 32 < s.size
  · have HX := Lib.hid (HN.out (by omega))
    clear HZ HN HY
    go_enter Tryd.func29, Tryd.ntmps29
    go_wp2_with fail
    refine (HM.out _).mono ?_
    rintro e w1 ⟨rfl, rfl⟩
    go_wp2_with fail
    go_ret
    exact ⟨by rw [HX.out]; rfl, below2 _ _ _⟩
  by_cases hs : s.size = 0
  · obtain rfl := size_zero hs
    by_cases hm : m = 0
    · subst hm
      have hzz := HZ.out
      cases z with
      | true =>
        have hz2 := of_decide_eq_true hzz.symm
        clear hzz
        have HX := Lib.hid (HY.out (by omega))
        clear hz2 HZ HN HY
        go_enter Tryd.func29, Tryd.ntmps29
        go_wp2_with fail
        refine (HM.out _).mono ?_
        rintro e w1 ⟨rfl, rfl⟩
        go_wp2_with fail
        go_ret
        exact ⟨by rw [HX.out]; rfl, below2 _ _ _⟩
      | false =>
        have hz2 := of_decide_eq_false hzz.symm
        clear hzz
        have HX := Lib.hid (HN.out (by omega))
        clear hz2 HZ HN HY
        go_enter Tryd.func29, Tryd.ntmps29
        go_wp2_with fail
        refine (HM.out _).mono ?_
        rintro e w1 ⟨rfl, rfl⟩
        go_wp2_with fail
        go_ret
        exact ⟨by rw [HX.out]; rfl, below2 _ _ _⟩
    · have hmn : (m != 0) = true := by simp; exact hm
      have HX := Lib.hid (HN.out (by omega))
      clear hm HZ HN HY
      go_enter Tryd.func29, Tryd.ntmps29
      go_wp2_with fail
      refine (HM.out _).mono ?_
      rintro e w1 ⟨rfl, rfl⟩
      go_wp2_with fail
      go_ret
      exact ⟨by rw [HX.out]; rfl, below2 _ _ _⟩
  · obtain ⟨s1, s2, s3⟩ := ne_empty hs
    by_cases hm : m = 0
    · subst hm
      have hzz := HZ.out
      cases z with
      | true =>
        have hz2 := of_decide_eq_true hzz.symm
        clear hzz
        have HX := Lib.hid (HY.out (by omega))
        clear hz2 HZ HN HY
        go_enter Tryd.func29, Tryd.ntmps29
        go_wp2_with fail
        refine (HM.out _).mono ?_
        rintro e w1 ⟨rfl, rfl⟩
        go_wp2_with fail
        go_ret
        exact ⟨by rw [HX.out]; rfl, below2 _ _ _⟩
      | false =>
        have hz2 := of_decide_eq_false hzz.symm
        clear hzz
        have HX := Lib.hid (HN.out (by omega))
        clear hz2 HZ HN HY
        go_enter Tryd.func29, Tryd.ntmps29
        go_wp2_with fail
        refine (HM.out _).mono ?_
        rintro e w1 ⟨rfl, rfl⟩
        go_wp2_with fail
        go_ret
        exact ⟨by rw [HX.out]; rfl, below2 _ _ _⟩
    · have hmn : (m != 0) = true := by simp; exact hm
      have HX := Lib.hid (HN.out (by omega))
      clear hm HZ HN HY
      go_enter Tryd.func29, Tryd.ntmps29
      go_wp2_with fail
      refine (HM.out _).mono ?_
      rintro e w1 ⟨rfl, rfl⟩
      go_wp2_with fail
      go_ret
      exact ⟨by rw [HX.out]; rfl, below2 _ _ _⟩
end Go.Proofs.YtnhcabcpdlgdaaaDoor
