/- THE WALK of the law MacLong. -/
import Derived.Test.YtbjlmodabiadfaaMacV
namespace Go.Proofs.Ytbjlmodabiadfaa
open Go.RowKit

theorem macB_long {key : List UInt8} (h : 64 < key.length) (b : List UInt8) : macB key b = macB (Sha.sum key) b := by
  have e : keyBlock (Sha.sum key) = keyBlock key := by
    unfold keyBlock
    rw [if_pos h, if_neg (by rw [Sha.length_sum]; omega)]
  unfold macB
  rw [e]

set_option maxRecDepth 100000 in
set_option maxHeartbeats 4000000 in
theorem MacLong_walk (A : Option Addr) (n c : Nat) (k : List UInt8) (A2 : Option Addr) (n2 c2 : Nat) (b : List UInt8) (w : World) (h1 : Reads w w.heap.size 1 A n (bv k)) (h1c : n ≤ c ∧ c ≤ 140737488351232) (h2 : Reads w w.heap.size 1 A2 n2 (bv b)) (h2c : n2 ≤ c2 ∧ c2 ≤ 140737488351232) :
    Calls Try.prog 5 #[.slice A n c, .slice A2 n2 c2] w fun e w' => e = .returned (.bool true) ∧ Below w.heap.size w w' := by
  have hkl : k.length = n := by have := h1.1; rw [length_bv] at this; omega
  have hbl : b.length = n2 := by have := h2.1; rw [length_bv] at this; omega
  have hs := Lib.hid (small06_any w)
  have H1 := Lib.hid h1
  have H2 := Lib.hid h2
  have HKL := Lib.hid hkl
  have HBL := Lib.hid hbl
  obtain ⟨h1c, h1c'⟩ := h1c
  obtain ⟨h2c, h2c'⟩ := h2c
  clear h1 h2 hkl hbl
  by_cases hg : n ≤ 64 ∨ 4096 < n ∨ 4096 < n2
  · by_cases g1 : n ≤ 64
    · have t1 : decide ((n : Int) ≤ 64) = true := by simp; omega
      go_enter Try.func5, Try.ntmps5
      go_wp2_with fail
      refine hs.out.mono ?_
      rintro e w1 ⟨rfl, hb1⟩
      go_wp2_with fail
      go_ret
      exact ⟨rfl, hb1⟩
    · have t1 : decide ((n : Int) ≤ 64) = false := by simp; omega
      by_cases g2 : 4096 < n
      · have t2 : decide (4096 < (n : Int)) = true := by simp; omega
        go_enter Try.func5, Try.ntmps5
        go_wp2_with fail
        refine hs.out.mono ?_
        rintro e w1 ⟨rfl, hb1⟩
        go_wp2_with fail
        go_ret
        exact ⟨rfl, hb1⟩
      · have t2 : decide (4096 < (n : Int)) = false := by simp; omega
        have t3 : decide (4096 < (n2 : Int)) = true := by simp; omega
        go_enter Try.func5, Try.ntmps5
        go_wp2_with fail
        refine hs.out.mono ?_
        rintro e w1 ⟨rfl, hb1⟩
        go_wp2_with fail
        go_ret
        exact ⟨rfl, hb1⟩
  · have t1 : decide ((n : Int) ≤ 64) = false := by simp; omega
    have t2 : decide (4096 < (n : Int)) = false := by simp; omega
    have t3 : decide (4096 < (n2 : Int)) = false := by simp; omega
    have HEQ := Lib.hid (macB_long (key := k) (by rw [HKL.out]; omega) b)
    have hn4 : n ≤ 4096 := by omega
    have hn24 : n2 ≤ 4096 := by omega
    go_enter Try.func5, Try.ntmps5
    go_wp2_with fail
    refine hs.out.mono ?_
    rintro e w1 ⟨rfl, hb1⟩
    have hb1s := hb1.size
    have K1 : Hid (BytesV k (.slice A n c) w1.drew) := Lib.hid ⟨A, n, c, w.heap.size, rfl, HKL.out, h1c, hb1s, (H1.out.below (w' := w1) hb1).drew⟩
    have K2 : Hid (BytesV b (.slice A2 n2 c2) w1.drew) := Lib.hid ⟨A2, n2, c2, w.heap.size, rfl, HBL.out, h2c, hb1s, (H2.out.below (w' := w1) hb1).drew⟩
    have HB1 := Lib.hid hb1
    clear hb1
    go_wp2_with fail
    generalize hd : Sha.sum k = d at HEQ
    have hd32 : d.length = 32 := by rw [← hd]; exact Sha.length_sum k
    generalize ht : macB k b = t at HEQ
    have HD := Lib.hid hd
    have HT := Lib.hid ht
    have HD32 := Lib.hid hd32
    clear hd ht hd32
    obtain ⟨F, hF⟩ : ∃ F, F = nthF [eqv (.bool true), eqv (.bool true), eqv (.slice A n c), eqv (.slice A2 n2 c2), ListV [b], BytesV t, eqv (.string ⟨t.toArray⟩), eqv (.slice A n c), ListV [k], BytesV d, eqv (.slice A2 n2 c2), ListV [b], BytesV t, eqv (.string ⟨t.toArray⟩), eqv (.bool true), eqv (.bool true), eqv (.bool true)] := ⟨_, rfl⟩
    have E0 := Lib.hid (show F 0 = eqv (.bool true) by rw [hF]; rfl)
    have E1 := Lib.hid (show F 1 = eqv (.bool true) by rw [hF]; rfl)
    have E2 := Lib.hid (show F 2 = eqv (.slice A n c) by rw [hF]; rfl)
    have E3 := Lib.hid (show F 3 = eqv (.slice A2 n2 c2) by rw [hF]; rfl)
    have E4 := Lib.hid (show F 4 = ListV [b] by rw [hF]; rfl)
    have E5 := Lib.hid (show F 5 = BytesV t by rw [hF]; rfl)
    have E6 := Lib.hid (show F 6 = eqv (.string ⟨t.toArray⟩) by rw [hF]; rfl)
    have E7 := Lib.hid (show F 7 = eqv (.slice A n c) by rw [hF]; rfl)
    have E8 := Lib.hid (show F 8 = ListV [k] by rw [hF]; rfl)
    have E9 := Lib.hid (show F 9 = BytesV d by rw [hF]; rfl)
    have E10 := Lib.hid (show F 10 = eqv (.slice A2 n2 c2) by rw [hF]; rfl)
    have E11 := Lib.hid (show F 11 = ListV [b] by rw [hF]; rfl)
    have E12 := Lib.hid (show F 12 = BytesV t by rw [hF]; rfl)
    have E13 := Lib.hid (show F 13 = eqv (.string ⟨t.toArray⟩) by rw [hF]; rfl)
    have E14 := Lib.hid (show F 14 = eqv (.bool true) by rw [hF]; rfl)
    have E15 := Lib.hid (show F 15 = eqv (.bool true) by rw [hF]; rfl)
    have E16 := Lib.hid (show F 16 = eqv (.bool true) by rw [hF]; rfl)
    have hst : ∀ j v w w', F j v w → Grows w w' → F j v w' := by rw [hF]; exact nth_stable (by repeat (first | exact st_nil | exact st_eqv _ | exact st_any | exact st_bytes _ | exact st_list _ | refine st_cons ?_ ?_))
    have HST0 := Lib.hid hst
    clear hF hst
    refine wp_region_facts F Grows (fun _ => True) (by kernel_rfl) (by kernel_rfl) grows_refl grows_trans HST0.out (trivial) ?_ ?_
    · refine ⟨?_, ?_, ?_, ?_, ?_, ?_, ?_, ?_, ?_, ?_, ?_, ?_, ?_, ?_, ?_, ?_, ?_, trivial⟩
      · intro V wx hg hJ hdep
        clear hdep
        clear hg
        go_wp2_with fail
        exact ⟨rfl, grows_refl _, trivial, by rw [E0.out]; rfl⟩
      · intro V wx hg hJ hdep
        have v0 : V 0 = (.bool true) := by have h := hdep 0 rfl; rw [E0.out] at h; exact h
        clear hdep
        clear hg
        go_wp2_with fail
        exact ⟨rfl, grows_refl _, trivial, by rw [E1.out]; rfl⟩
      · intro V wx hg hJ hdep
        have v1 : V 1 = (.bool true) := by have h := hdep 1 rfl; rw [E1.out] at h; exact h
        clear hdep
        clear hg
        go_wp2_with fail
        exact ⟨rfl, grows_refl _, trivial, by rw [E2.out]; rfl⟩
      · intro V wx hg hJ hdep
        have v1 : V 1 = (.bool true) := by have h := hdep 1 rfl; rw [E1.out] at h; exact h
        clear hdep
        clear hg
        go_wp2_with fail
        exact ⟨rfl, grows_refl _, trivial, by rw [E3.out]; rfl⟩
      · intro V wx hg hJ hdep
        have v3 : V 3 = (.slice A2 n2 c2) := by have h := hdep 3 rfl; rw [E3.out] at h; exact h
        have v1 : V 1 = (.bool true) := by have h := hdep 1 rfl; rw [E1.out] at h; exact h
        clear hdep
        go_wp2_with fail
        exact ⟨rfl, (Below.refl _ _).alloc (Nat.le_refl _) _, trivial, by rw [E4.out]; exact ListV.one (K2.out.grows hg) (by rw [HBL.out]; omega)⟩
      · intro V wx hg hJ hdep
        have v2 : V 2 = (.slice A n c) := by have h := hdep 2 rfl; rw [E2.out] at h; exact h
        have h4 : (ListV [b]) (V 4) wx := by have h := hdep 4 rfl; rw [E4.out] at h; exact h
        have v1 : V 1 = (.bool true) := by have h := hdep 1 rfl; rw [E1.out] at h; exact h
        clear hdep
        have hm := Mac_v k [b] _ _ wx (K1.out.grows hg) h4 (by rw [HKL.out]; omega) (by simp) (by simp [HBL.out]; omega)
        rw [show macB k [b].flatten = t by rw [← HT.out]; simp] at hm
        have HM := Lib.hid hm
        clear hm hg h4
        go_wp2_with fail
        refine HM.out.mono ?_
        rintro e w2 ⟨v, rfl, hv, hg2⟩
        have HV := Lib.hid hv
        have HG2 := Lib.hid hg2
        clear hv hg2
        go_wp2_with fail
        exact ⟨rfl, HG2.out, trivial, by rw [E5.out]; exact HV.out⟩
      · intro V wx hg hJ hdep
        have h5 : (BytesV t) (V 5) wx := by have h := hdep 5 rfl; rw [E5.out] at h; exact h
        have v1 : V 1 = (.bool true) := by have h := hdep 1 rfl; rw [E1.out] at h; exact h
        clear hdep
        have hcv := h5.conv (P := Try.prog) Try.underlying22 Try.underlying5 Try.underlying9
        go_wp2_with fail
        exact ⟨rfl, grows_refl _, trivial, by rw [E6.out]; rfl⟩
      · intro V wx hg hJ hdep
        have v1 : V 1 = (.bool true) := by have h := hdep 1 rfl; rw [E1.out] at h; exact h
        clear hdep
        clear hg
        go_wp2_with fail
        exact ⟨rfl, grows_refl _, trivial, by rw [E7.out]; rfl⟩
      · intro V wx hg hJ hdep
        have v7 : V 7 = (.slice A n c) := by have h := hdep 7 rfl; rw [E7.out] at h; exact h
        have v1 : V 1 = (.bool true) := by have h := hdep 1 rfl; rw [E1.out] at h; exact h
        clear hdep
        go_wp2_with fail
        exact ⟨rfl, (Below.refl _ _).alloc (Nat.le_refl _) _, trivial, by rw [E8.out]; exact ListV.one (K1.out.grows hg) (by rw [HKL.out]; omega)⟩
      · intro V wx hg hJ hdep
        have h8 : (ListV [k]) (V 8) wx := by have h := hdep 8 rfl; rw [E8.out] at h; exact h
        have v1 : V 1 = (.bool true) := by have h := hdep 1 rfl; rw [E1.out] at h; exact h
        clear hdep
        have hm := sSum_v [k] _ wx h8 (by simp) (by simp [HKL.out]; omega)
        rw [show Sha.sum [k].flatten = d by rw [← HD.out]; simp] at hm
        have HM := Lib.hid hm
        clear hm hg h8
        go_wp2_with fail
        refine HM.out.mono ?_
        rintro e w2 ⟨v, rfl, hv, hg2⟩
        have HV := Lib.hid hv
        have HG2 := Lib.hid hg2
        clear hv hg2
        go_wp2_with fail
        exact ⟨rfl, HG2.out, trivial, by rw [E9.out]; exact HV.out⟩
      · intro V wx hg hJ hdep
        have v1 : V 1 = (.bool true) := by have h := hdep 1 rfl; rw [E1.out] at h; exact h
        clear hdep
        clear hg
        go_wp2_with fail
        exact ⟨rfl, grows_refl _, trivial, by rw [E10.out]; rfl⟩
      · intro V wx hg hJ hdep
        have v10 : V 10 = (.slice A2 n2 c2) := by have h := hdep 10 rfl; rw [E10.out] at h; exact h
        have v1 : V 1 = (.bool true) := by have h := hdep 1 rfl; rw [E1.out] at h; exact h
        clear hdep
        go_wp2_with fail
        exact ⟨rfl, (Below.refl _ _).alloc (Nat.le_refl _) _, trivial, by rw [E11.out]; exact ListV.one (K2.out.grows hg) (by rw [HBL.out]; omega)⟩
      · intro V wx hg hJ hdep
        have h9 : (BytesV d) (V 9) wx := by have h := hdep 9 rfl; rw [E9.out] at h; exact h
        have h11 : (ListV [b]) (V 11) wx := by have h := hdep 11 rfl; rw [E11.out] at h; exact h
        have v1 : V 1 = (.bool true) := by have h := hdep 1 rfl; rw [E1.out] at h; exact h
        clear hdep
        have hm := Mac_v d [b] _ _ wx h9 h11 (by rw [HD32.out]; omega) (by simp) (by simp [HBL.out]; omega)
        rw [show macB d [b].flatten = t by rw [HEQ.out]; simp] at hm
        have HM := Lib.hid hm
        clear hm hg h9 h11
        go_wp2_with fail
        refine HM.out.mono ?_
        rintro e w2 ⟨v, rfl, hv, hg2⟩
        have HV := Lib.hid hv
        have HG2 := Lib.hid hg2
        clear hv hg2
        go_wp2_with fail
        exact ⟨rfl, HG2.out, trivial, by rw [E12.out]; exact HV.out⟩
      · intro V wx hg hJ hdep
        have h12 : (BytesV t) (V 12) wx := by have h := hdep 12 rfl; rw [E12.out] at h; exact h
        have v1 : V 1 = (.bool true) := by have h := hdep 1 rfl; rw [E1.out] at h; exact h
        clear hdep
        have hcv := h12.conv (P := Try.prog) Try.underlying22 Try.underlying5 Try.underlying9
        go_wp2_with fail
        exact ⟨rfl, grows_refl _, trivial, by rw [E13.out]; rfl⟩
      · intro V wx hg hJ hdep
        have v6 : V 6 = (.string ⟨t.toArray⟩) := by have h := hdep 6 rfl; rw [E6.out] at h; exact h
        have v13 : V 13 = (.string ⟨t.toArray⟩) := by have h := hdep 13 rfl; rw [E13.out] at h; exact h
        have v1 : V 1 = (.bool true) := by have h := hdep 1 rfl; rw [E1.out] at h; exact h
        clear hdep
        clear hg
        go_wp2_with fail
        exact ⟨rfl, grows_refl _, trivial, by rw [E14.out]; rfl⟩
      · intro V wx hg hJ hdep
        have v1 : V 1 = (.bool true) := by have h := hdep 1 rfl; rw [E1.out] at h; exact h
        have v14 : V 14 = (.bool true) := by have h := hdep 14 rfl; rw [E14.out] at h; exact h
        clear hdep
        clear hg
        go_wp2_with fail
        exact ⟨rfl, grows_refl _, trivial, by rw [E15.out]; rfl⟩
      · intro V wx hg hJ hdep
        have v15 : V 15 = (.bool true) := by have h := hdep 15 rfl; rw [E15.out] at h; exact h
        clear hdep
        clear hg
        go_wp2_with fail
        exact ⟨rfl, grows_refl _, trivial, by rw [E16.out]; rfl⟩
    · intro V wx hg hJ hall
      have v0 : V 0 = (.bool true) := by have h := hall 0 (by decide); rw [E0.out] at h; exact h
      have v1 : V 1 = (.bool true) := by have h := hall 1 (by decide); rw [E1.out] at h; exact h
      have v2 : V 2 = (.slice A n c) := by have h := hall 2 (by decide); rw [E2.out] at h; exact h
      have v3 : V 3 = (.slice A2 n2 c2) := by have h := hall 3 (by decide); rw [E3.out] at h; exact h
      have h4 : (ListV [b]) (V 4) wx := by have h := hall 4 (by decide); rw [E4.out] at h; exact h
      have h5 : (BytesV t) (V 5) wx := by have h := hall 5 (by decide); rw [E5.out] at h; exact h
      have v6 : V 6 = (.string ⟨t.toArray⟩) := by have h := hall 6 (by decide); rw [E6.out] at h; exact h
      have v7 : V 7 = (.slice A n c) := by have h := hall 7 (by decide); rw [E7.out] at h; exact h
      have h8 : (ListV [k]) (V 8) wx := by have h := hall 8 (by decide); rw [E8.out] at h; exact h
      have h9 : (BytesV d) (V 9) wx := by have h := hall 9 (by decide); rw [E9.out] at h; exact h
      have v10 : V 10 = (.slice A2 n2 c2) := by have h := hall 10 (by decide); rw [E10.out] at h; exact h
      have h11 : (ListV [b]) (V 11) wx := by have h := hall 11 (by decide); rw [E11.out] at h; exact h
      have h12 : (BytesV t) (V 12) wx := by have h := hall 12 (by decide); rw [E12.out] at h; exact h
      have v13 : V 13 = (.string ⟨t.toArray⟩) := by have h := hall 13 (by decide); rw [E13.out] at h; exact h
      have v14 : V 14 = (.bool true) := by have h := hall 14 (by decide); rw [E14.out] at h; exact h
      have v15 : V 15 = (.bool true) := by have h := hall 15 (by decide); rw [E15.out] at h; exact h
      have v16 : V 16 = (.bool true) := by have h := hall 16 (by decide); rw [E16.out] at h; exact h
      clear hall
      simp only [fillTo, Act.put, List.setIfInBounds_toArray, List.set_cons_succ, List.set_cons_zero, Nat.reduceAdd, Nat.zero_add, v0, v1, v2, v3, v6, v7, v10, v13, v14, v15, v16]
      clear v0 v1 v2 v3 v6 v7 v10 v13 v14 v15 v16
      have HG := Lib.hid hg
      clear hg
      go_wp2_with fail
      go_ret
      exact ⟨rfl, HB1.out.drew.trans (HG.out.mono hb1s)⟩
end Go.Proofs.Ytbjlmodabiadfaa
