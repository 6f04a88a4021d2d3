/- THE WALK of the law RolesTells. -/
import Derived.Test.YtnhcabcpdlgdaaaDoorAdm6
import Derived.Test.YtnhcabcpdlgdaaaDoorAdmR1b
import Derived.Test.YtnhcabcpdlgdaaaDoorAdmR4
namespace Go.Proofs.YtnhcabcpdlgdaaaDoor
open Go.RowKit

set_option maxRecDepth 100000 in
set_option maxHeartbeats 8000000 in
theorem RolesTells_walk (r0 o0 : Int) (a : Adm) (w : World) (_h1 : (Lit.int .i64 r0).wf = true) (_h2 : (Lit.int .i64 o0).wf = true) (hw : a.Wf) (ht : Tab w) :
    Calls Tryd.prog 9 #[.int .i64 r0, .int .i64 o0, a.val] w fun e w' => e = .returned (.bool true) ∧ Below w.heap.size w w' := by
  obtain ⟨mb, hmb⟩ : ∃ mb, admMay r0 o0 = mb := ⟨_, rfl⟩
  obtain ⟨er, her⟩ : ∃ er, a.err = er := ⟨_, rfl⟩
  obtain ⟨nl, hnl⟩ : ∃ nl : ByteArray, ⟨(noteL a).toArray⟩ = nl := ⟨_, rfl⟩
  have HM := Lib.hid (fun w => May_any r0 o0 w)
  have HRM := Lib.hid (fun w => rMay_any r0 o0 w)
  have HR := Lib.hid (fun w => Right_any a w)
  have HRR := Lib.hid (fun w => rRight_any a w)
  have HN := Lib.hid (fun w (h : Tab w) => Note_any a w hw h)
  have HRN := Lib.hid (fun w => rNote_any a w hw)
  rw [hmb] at HM HRM
  rw [her] at HR HRR
  rw [hnl] at HN HRN
  have HT := Lib.hid ht
  clear hmb her hnl hw ht
  obtain ⟨r, o, t, m, s, p, q, u, v⟩ := a
  unfold Adm.val at *
  simp only at *
  go_enter Tryd.func9, Tryd.ntmps9
  go_wp2_with fail
  refine (small23_any _ (HT.out.below ((Below.refl _ _).alloc (Nat.le_refl _) _))).mono ?_
  rintro e w1 ⟨rfl, hb1⟩
  have hbx := adm_box (a := (Adm.mk r o t m s p q u v)) hb1
  have HAT1 := Lib.hid hbx.1
  have HB1 := Lib.hid hbx.2.2
  have hs1 := hbx.2.1
  have HT1 := Lib.hid (HT.out.below HB1.out)
  have hg0 : Below w1.heap.size w1 w1.drew := (Below.refl _ _).drew
  clear hb1 hbx
  go_wp2_with fail
  obtain ⟨F, hF⟩ : ∃ F, F = nthF [eqv (.bool true), eqv (.bool true), eqv (.int .i64 r0), eqv (.int .i64 o0), eqv (.bool mb), eqv (.int .i64 r0), eqv (.int .i64 o0), eqv (.bool mb), eqv (.bool true), eqv (.bool true), eqv (.bool true), eqv (.agg #[.int .i64 r, .int .i64 o, .int .i64 t, .int .i64 m, .string s, .int .i64 p, .int .i64 q, .int .i64 u, .int .i64 v]), eqv (.int .i64 er), eqv (.agg #[.int .i64 r, .int .i64 o, .int .i64 t, .int .i64 m, .string s, .int .i64 p, .int .i64 q, .int .i64 u, .int .i64 v]), eqv (.int .i64 er), eqv (.bool true), eqv (.bool true), eqv (.bool true), eqv (.agg #[.int .i64 r, .int .i64 o, .int .i64 t, .int .i64 m, .string s, .int .i64 p, .int .i64 q, .int .i64 u, .int .i64 v]), eqv (.string nl), eqv (.agg #[.int .i64 r, .int .i64 o, .int .i64 t, .int .i64 m, .string s, .int .i64 p, .int .i64 q, .int .i64 u, .int .i64 v]), eqv (.string nl), eqv (.bool true), eqv (.bool true), eqv (.bool true)] := ⟨_, rfl⟩
  have E0 := Lib.hid (show F 0 = eqv (.bool true) by rw [hF]; rfl)
  have E1 := Lib.hid (show F 1 = eqv (.bool true) by rw [hF]; rfl)
  have E2 := Lib.hid (show F 2 = eqv (.int .i64 r0) by rw [hF]; rfl)
  have E3 := Lib.hid (show F 3 = eqv (.int .i64 o0) by rw [hF]; rfl)
  have E4 := Lib.hid (show F 4 = eqv (.bool mb) by rw [hF]; rfl)
  have E5 := Lib.hid (show F 5 = eqv (.int .i64 r0) by rw [hF]; rfl)
  have E6 := Lib.hid (show F 6 = eqv (.int .i64 o0) by rw [hF]; rfl)
  have E7 := Lib.hid (show F 7 = eqv (.bool mb) by rw [hF]; rfl)
  have E8 := Lib.hid (show F 8 = eqv (.bool true) by rw [hF]; rfl)
  have E9 := Lib.hid (show F 9 = eqv (.bool true) by rw [hF]; rfl)
  have E10 := Lib.hid (show F 10 = eqv (.bool true) by rw [hF]; rfl)
  have E11 := Lib.hid (show F 11 = eqv (.agg #[.int .i64 r, .int .i64 o, .int .i64 t, .int .i64 m, .string s, .int .i64 p, .int .i64 q, .int .i64 u, .int .i64 v]) by rw [hF]; rfl)
  have E12 := Lib.hid (show F 12 = eqv (.int .i64 er) by rw [hF]; rfl)
  have E13 := Lib.hid (show F 13 = eqv (.agg #[.int .i64 r, .int .i64 o, .int .i64 t, .int .i64 m, .string s, .int .i64 p, .int .i64 q, .int .i64 u, .int .i64 v]) by rw [hF]; rfl)
  have E14 := Lib.hid (show F 14 = eqv (.int .i64 er) by rw [hF]; rfl)
  have E15 := Lib.hid (show F 15 = eqv (.bool true) by rw [hF]; rfl)
  have E16 := Lib.hid (show F 16 = eqv (.bool true) by rw [hF]; rfl)
  have E17 := Lib.hid (show F 17 = eqv (.bool true) by rw [hF]; rfl)
  have E18 := Lib.hid (show F 18 = eqv (.agg #[.int .i64 r, .int .i64 o, .int .i64 t, .int .i64 m, .string s, .int .i64 p, .int .i64 q, .int .i64 u, .int .i64 v]) by rw [hF]; rfl)
  have E19 := Lib.hid (show F 19 = eqv (.string nl) by rw [hF]; rfl)
  have E20 := Lib.hid (show F 20 = eqv (.agg #[.int .i64 r, .int .i64 o, .int .i64 t, .int .i64 m, .string s, .int .i64 p, .int .i64 q, .int .i64 u, .int .i64 v]) by rw [hF]; rfl)
  have E21 := Lib.hid (show F 21 = eqv (.string nl) by rw [hF]; rfl)
  have E22 := Lib.hid (show F 22 = eqv (.bool true) by rw [hF]; rfl)
  have E23 := Lib.hid (show F 23 = eqv (.bool true) by rw [hF]; rfl)
  have E24 := Lib.hid (show F 24 = eqv (.bool true) by rw [hF]; rfl)
  have hst : ∀ j v w w', F j v w → Grows w w' → F j v w' := by rw [hF]; exact nth_stable (by repeat (first | exact st_nil | exact st_eqv _ | exact st_any | refine st_cons ?_ ?_))
  have HST0 := Lib.hid hst
  clear hF hst
  refine wp_region_facts F Grows (fun _ => True) (by kernel_rfl) (by kernel_rfl) grows_refl grows_trans HST0.out (trivial) ?_ ?_
  · intro V; refine ⟨?_, ?_, ?_, ?_, ?_, ?_, ?_, ?_, ?_, ?_, ?_, ?_, ?_, ?_, ?_, ?_, ?_, ?_, ?_, ?_, ?_, ?_, ?_, ?_, ?_, trivial⟩
    · intro wx hg hJ hdep
      clear hdep
      clear hg
      go_wp2_with fail
      exact ⟨rfl, grows_refl _, trivial, by rw [E0.out]; rfl⟩
    · intro wx hg hJ hdep
      have v0 : V 0 = (.bool true) := by have h := hdep 0 rfl; rw [E0.out] at h; exact h
      clear hdep
      clear hg
      go_wp2_with fail
      exact ⟨rfl, grows_refl _, trivial, by rw [E1.out]; rfl⟩
    · intro wx hg hJ hdep
      have v1 : V 1 = (.bool true) := by have h := hdep 1 rfl; rw [E1.out] at h; exact h
      clear hdep
      clear hg
      go_wp2_with fail
      exact ⟨rfl, grows_refl _, trivial, by rw [E2.out]; rfl⟩
    · intro wx hg hJ hdep
      have v1 : V 1 = (.bool true) := by have h := hdep 1 rfl; rw [E1.out] at h; exact h
      clear hdep
      clear hg
      go_wp2_with fail
      exact ⟨rfl, grows_refl _, trivial, by rw [E3.out]; rfl⟩
    · intro wx hg hJ hdep
      have v2 : V 2 = (.int .i64 r0) := by have h := hdep 2 rfl; rw [E2.out] at h; exact h
      have v3 : V 3 = (.int .i64 o0) := by have h := hdep 3 rfl; rw [E3.out] at h; exact h
      have v1 : V 1 = (.bool true) := by have h := hdep 1 rfl; rw [E1.out] at h; exact h
      clear hdep
      have HM0 := Lib.hid (HM.out wx)
      clear hg
      go_wp2_with fail
      refine HM0.out.mono ?_
      rintro e w7 ⟨rfl, hb7⟩
      have HG7 := Lib.hid hb7
      clear hb7
      go_wp2_with fail
      exact ⟨rfl, HG7.out, trivial, by rw [E4.out]; rfl⟩
    · intro wx hg hJ hdep
      have v1 : V 1 = (.bool true) := by have h := hdep 1 rfl; rw [E1.out] at h; exact h
      clear hdep
      clear hg
      go_wp2_with fail
      exact ⟨rfl, grows_refl _, trivial, by rw [E5.out]; rfl⟩
    · intro wx hg hJ hdep
      have v1 : V 1 = (.bool true) := by have h := hdep 1 rfl; rw [E1.out] at h; exact h
      clear hdep
      clear hg
      go_wp2_with fail
      exact ⟨rfl, grows_refl _, trivial, by rw [E6.out]; rfl⟩
    · intro wx hg hJ hdep
      have v5 : V 5 = (.int .i64 r0) := by have h := hdep 5 rfl; rw [E5.out] at h; exact h
      have v6 : V 6 = (.int .i64 o0) := by have h := hdep 6 rfl; rw [E6.out] at h; exact h
      have v4 : V 4 = (.bool mb) := by have h := hdep 4 rfl; rw [E4.out] at h; exact h
      have v1 : V 1 = (.bool true) := by have h := hdep 1 rfl; rw [E1.out] at h; exact h
      clear hdep
      have HM0 := Lib.hid (HRM.out wx)
      clear hg
      go_wp2_with fail
      refine HM0.out.mono ?_
      rintro e w7 ⟨rfl, rfl⟩
      go_wp2_with fail
      exact ⟨rfl, grows_refl _, trivial, by rw [E7.out]; rfl⟩
    · intro wx hg hJ hdep
      have v4 : V 4 = (.bool mb) := by have h := hdep 4 rfl; rw [E4.out] at h; exact h
      have v7 : V 7 = (.bool mb) := by have h := hdep 7 rfl; rw [E7.out] at h; exact h
      have v1 : V 1 = (.bool true) := by have h := hdep 1 rfl; rw [E1.out] at h; exact h
      clear hdep
      clear hg
      go_wp2_with fail
      exact ⟨rfl, grows_refl _, trivial, by rw [E8.out]; rfl⟩
    · intro wx hg hJ hdep
      have v1 : V 1 = (.bool true) := by have h := hdep 1 rfl; rw [E1.out] at h; exact h
      have v8 : V 8 = (.bool true) := by have h := hdep 8 rfl; rw [E8.out] at h; exact h
      clear hdep
      clear hg
      go_wp2_with fail
      exact ⟨rfl, grows_refl _, trivial, by rw [E9.out]; rfl⟩
    · intro wx hg hJ hdep
      have v9 : V 9 = (.bool true) := by have h := hdep 9 rfl; rw [E9.out] at h; exact h
      have v7 : V 7 = (.bool mb) := by have h := hdep 7 rfl; rw [E7.out] at h; exact h
      clear hdep
      clear hg
      go_wp2_with fail
      exact ⟨rfl, grows_refl _, trivial, by rw [E10.out]; rfl⟩
    · intro wx hg hJ hdep
      have v10 : V 10 = (.bool true) := by have h := hdep 10 rfl; rw [E10.out] at h; exact h
      clear hdep
      have hh := HAT1.out.below (hg0.trans hg) hs1
      have e0 := hh.1
      have e1 := hh.2.1
      have e2 := hh.2.2.1
      have e3 := hh.2.2.2.1
      have e4 := hh.2.2.2.2.1
      have e5 := hh.2.2.2.2.2.1
      have e6 := hh.2.2.2.2.2.2.1
      have e7 := hh.2.2.2.2.2.2.2.1
      have e8 := hh.2.2.2.2.2.2.2.2
      simp only at e0 e1 e2 e3 e4 e5 e6 e7 e8
      clear hg hh
      go_wp2_with fail
      exact ⟨rfl, grows_refl _, trivial, by rw [E11.out]; rfl⟩
    · intro wx hg hJ hdep
      have v11 : V 11 = (.agg #[.int .i64 r, .int .i64 o, .int .i64 t, .int .i64 m, .string s, .int .i64 p, .int .i64 q, .int .i64 u, .int .i64 v]) := by have h := hdep 11 rfl; rw [E11.out] at h; exact h
      have v10 : V 10 = (.bool true) := by have h := hdep 10 rfl; rw [E10.out] at h; exact h
      clear hdep
      have HM0 := Lib.hid (HR.out wx)
      clear hg
      go_wp2_with fail
      refine HM0.out.mono ?_
      rintro e w7 ⟨rfl, hb7⟩
      have HG7 := Lib.hid hb7
      clear hb7
      go_wp2_with fail
      exact ⟨rfl, HG7.out, trivial, by rw [E12.out]; rfl⟩
    · intro wx hg hJ hdep
      have v10 : V 10 = (.bool true) := by have h := hdep 10 rfl; rw [E10.out] at h; exact h
      clear hdep
      have hh := HAT1.out.below (hg0.trans hg) hs1
      have e0 := hh.1
      have e1 := hh.2.1
      have e2 := hh.2.2.1
      have e3 := hh.2.2.2.1
      have e4 := hh.2.2.2.2.1
      have e5 := hh.2.2.2.2.2.1
      have e6 := hh.2.2.2.2.2.2.1
      have e7 := hh.2.2.2.2.2.2.2.1
      have e8 := hh.2.2.2.2.2.2.2.2
      simp only at e0 e1 e2 e3 e4 e5 e6 e7 e8
      clear hg hh
      go_wp2_with fail
      exact ⟨rfl, grows_refl _, trivial, by rw [E13.out]; rfl⟩
    · intro wx hg hJ hdep
      have v13 : V 13 = (.agg #[.int .i64 r, .int .i64 o, .int .i64 t, .int .i64 m, .string s, .int .i64 p, .int .i64 q, .int .i64 u, .int .i64 v]) := by have h := hdep 13 rfl; rw [E13.out] at h; exact h
      have v12 : V 12 = (.int .i64 er) := by have h := hdep 12 rfl; rw [E12.out] at h; exact h
      have v10 : V 10 = (.bool true) := by have h := hdep 10 rfl; rw [E10.out] at h; exact h
      clear hdep
      have HM0 := Lib.hid (HRR.out wx)
      clear hg
      go_wp2_with fail
      refine HM0.out.mono ?_
      rintro e w7 ⟨rfl, hb7⟩
      have HG7 := Lib.hid hb7
      clear hb7
      go_wp2_with fail
      exact ⟨rfl, HG7.out, trivial, by rw [E14.out]; rfl⟩
    · intro wx hg hJ hdep
      have v12 : V 12 = (.int .i64 er) := by have h := hdep 12 rfl; rw [E12.out] at h; exact h
      have v14 : V 14 = (.int .i64 er) := by have h := hdep 14 rfl; rw [E14.out] at h; exact h
      have v10 : V 10 = (.bool true) := by have h := hdep 10 rfl; rw [E10.out] at h; exact h
      clear hdep
      clear hg
      go_wp2_with fail
      exact ⟨rfl, grows_refl _, trivial, by rw [E15.out]; rfl⟩
    · intro wx hg hJ hdep
      have v10 : V 10 = (.bool true) := by have h := hdep 10 rfl; rw [E10.out] at h; exact h
      have v15 : V 15 = (.bool true) := by have h := hdep 15 rfl; rw [E15.out] at h; exact h
      clear hdep
      clear hg
      go_wp2_with fail
      exact ⟨rfl, grows_refl _, trivial, by rw [E16.out]; rfl⟩
    · intro wx hg hJ hdep
      have v16 : V 16 = (.bool true) := by have h := hdep 16 rfl; rw [E16.out] at h; exact h
      have v14 : V 14 = (.int .i64 er) := by have h := hdep 14 rfl; rw [E14.out] at h; exact h
      clear hdep
      clear hg
      go_wp2_with fail
      exact ⟨rfl, grows_refl _, trivial, by rw [E17.out]; rfl⟩
    · intro wx hg hJ hdep
      have v17 : V 17 = (.bool true) := by have h := hdep 17 rfl; rw [E17.out] at h; exact h
      clear hdep
      have hh := HAT1.out.below (hg0.trans hg) hs1
      have e0 := hh.1
      have e1 := hh.2.1
      have e2 := hh.2.2.1
      have e3 := hh.2.2.2.1
      have e4 := hh.2.2.2.2.1
      have e5 := hh.2.2.2.2.2.1
      have e6 := hh.2.2.2.2.2.2.1
      have e7 := hh.2.2.2.2.2.2.2.1
      have e8 := hh.2.2.2.2.2.2.2.2
      simp only at e0 e1 e2 e3 e4 e5 e6 e7 e8
      clear hg hh
      go_wp2_with fail
      exact ⟨rfl, grows_refl _, trivial, by rw [E18.out]; rfl⟩
    · intro wx hg hJ hdep
      have v18 : V 18 = (.agg #[.int .i64 r, .int .i64 o, .int .i64 t, .int .i64 m, .string s, .int .i64 p, .int .i64 q, .int .i64 u, .int .i64 v]) := by have h := hdep 18 rfl; rw [E18.out] at h; exact h
      have v17 : V 17 = (.bool true) := by have h := hdep 17 rfl; rw [E17.out] at h; exact h
      clear hdep
      have HM0 := Lib.hid (HN.out wx (HT1.out.below (hg0.trans hg)))
      clear hg
      go_wp2_with fail
      refine HM0.out.mono ?_
      rintro e w7 ⟨rfl, hb7⟩
      have HG7 := Lib.hid hb7
      clear hb7
      go_wp2_with fail
      exact ⟨rfl, HG7.out, trivial, by rw [E19.out]; rfl⟩
    · intro wx hg hJ hdep
      have v17 : V 17 = (.bool true) := by have h := hdep 17 rfl; rw [E17.out] at h; exact h
      clear hdep
      have hh := HAT1.out.below (hg0.trans hg) hs1
      have e0 := hh.1
      have e1 := hh.2.1
      have e2 := hh.2.2.1
      have e3 := hh.2.2.2.1
      have e4 := hh.2.2.2.2.1
      have e5 := hh.2.2.2.2.2.1
      have e6 := hh.2.2.2.2.2.2.1
      have e7 := hh.2.2.2.2.2.2.2.1
      have e8 := hh.2.2.2.2.2.2.2.2
      simp only at e0 e1 e2 e3 e4 e5 e6 e7 e8
      clear hg hh
      go_wp2_with fail
      exact ⟨rfl, grows_refl _, trivial, by rw [E20.out]; rfl⟩
    · intro wx hg hJ hdep
      have v20 : V 20 = (.agg #[.int .i64 r, .int .i64 o, .int .i64 t, .int .i64 m, .string s, .int .i64 p, .int .i64 q, .int .i64 u, .int .i64 v]) := by have h := hdep 20 rfl; rw [E20.out] at h; exact h
      have v19 : V 19 = (.string nl) := by have h := hdep 19 rfl; rw [E19.out] at h; exact h
      have v17 : V 17 = (.bool true) := by have h := hdep 17 rfl; rw [E17.out] at h; exact h
      clear hdep
      have HM0 := Lib.hid (HRN.out wx)
      clear hg
      go_wp2_with fail
      refine HM0.out.mono ?_
      rintro e w7 ⟨rfl, hb7⟩
      have HG7 := Lib.hid hb7
      clear hb7
      go_wp2_with fail
      exact ⟨rfl, HG7.out, trivial, by rw [E21.out]; rfl⟩
    · intro wx hg hJ hdep
      have v19 : V 19 = (.string nl) := by have h := hdep 19 rfl; rw [E19.out] at h; exact h
      have v21 : V 21 = (.string nl) := by have h := hdep 21 rfl; rw [E21.out] at h; exact h
      have v17 : V 17 = (.bool true) := by have h := hdep 17 rfl; rw [E17.out] at h; exact h
      clear hdep
      clear hg
      go_wp2_with fail
      exact ⟨rfl, grows_refl _, trivial, by rw [E22.out]; rfl⟩
    · intro wx hg hJ hdep
      have v17 : V 17 = (.bool true) := by have h := hdep 17 rfl; rw [E17.out] at h; exact h
      have v22 : V 22 = (.bool true) := by have h := hdep 22 rfl; rw [E22.out] at h; exact h
      clear hdep
      clear hg
      go_wp2_with fail
      exact ⟨rfl, grows_refl _, trivial, by rw [E23.out]; rfl⟩
    · intro wx hg hJ hdep
      have v23 : V 23 = (.bool true) := by have h := hdep 23 rfl; rw [E23.out] at h; exact h
      have v21 : V 21 = (.string nl) := by have h := hdep 21 rfl; rw [E21.out] at h; exact h
      clear hdep
      clear hg
      go_wp2_with fail
      exact ⟨rfl, grows_refl _, trivial, by rw [E24.out]; rfl⟩
  · intro V wx hg hJ hall
    have v0 : V 0 = (.bool true) := by have h := hall 0 (by decide); rw [E0.out] at h; exact h
    have v1 : V 1 = (.bool true) := by have h := hall 1 (by decide); rw [E1.out] at h; exact h
    have v2 : V 2 = (.int .i64 r0) := by have h := hall 2 (by decide); rw [E2.out] at h; exact h
    have v3 : V 3 = (.int .i64 o0) := by have h := hall 3 (by decide); rw [E3.out] at h; exact h
    have v4 : V 4 = (.bool mb) := by have h := hall 4 (by decide); rw [E4.out] at h; exact h
    have v5 : V 5 = (.int .i64 r0) := by have h := hall 5 (by decide); rw [E5.out] at h; exact h
    have v6 : V 6 = (.int .i64 o0) := by have h := hall 6 (by decide); rw [E6.out] at h; exact h
    have v7 : V 7 = (.bool mb) := by have h := hall 7 (by decide); rw [E7.out] at h; exact h
    have v8 : V 8 = (.bool true) := by have h := hall 8 (by decide); rw [E8.out] at h; exact h
    have v9 : V 9 = (.bool true) := by have h := hall 9 (by decide); rw [E9.out] at h; exact h
    have v10 : V 10 = (.bool true) := by have h := hall 10 (by decide); rw [E10.out] at h; exact h
    have v11 : V 11 = (.agg #[.int .i64 r, .int .i64 o, .int .i64 t, .int .i64 m, .string s, .int .i64 p, .int .i64 q, .int .i64 u, .int .i64 v]) := by have h := hall 11 (by decide); rw [E11.out] at h; exact h
    have v12 : V 12 = (.int .i64 er) := by have h := hall 12 (by decide); rw [E12.out] at h; exact h
    have v13 : V 13 = (.agg #[.int .i64 r, .int .i64 o, .int .i64 t, .int .i64 m, .string s, .int .i64 p, .int .i64 q, .int .i64 u, .int .i64 v]) := by have h := hall 13 (by decide); rw [E13.out] at h; exact h
    have v14 : V 14 = (.int .i64 er) := by have h := hall 14 (by decide); rw [E14.out] at h; exact h
    have v15 : V 15 = (.bool true) := by have h := hall 15 (by decide); rw [E15.out] at h; exact h
    have v16 : V 16 = (.bool true) := by have h := hall 16 (by decide); rw [E16.out] at h; exact h
    have v17 : V 17 = (.bool true) := by have h := hall 17 (by decide); rw [E17.out] at h; exact h
    have v18 : V 18 = (.agg #[.int .i64 r, .int .i64 o, .int .i64 t, .int .i64 m, .string s, .int .i64 p, .int .i64 q, .int .i64 u, .int .i64 v]) := by have h := hall 18 (by decide); rw [E18.out] at h; exact h
    have v19 : V 19 = (.string nl) := by have h := hall 19 (by decide); rw [E19.out] at h; exact h
    have v20 : V 20 = (.agg #[.int .i64 r, .int .i64 o, .int .i64 t, .int .i64 m, .string s, .int .i64 p, .int .i64 q, .int .i64 u, .int .i64 v]) := by have h := hall 20 (by decide); rw [E20.out] at h; exact h
    have v21 : V 21 = (.string nl) := by have h := hall 21 (by decide); rw [E21.out] at h; exact h
    have v22 : V 22 = (.bool true) := by have h := hall 22 (by decide); rw [E22.out] at h; exact h
    have v23 : V 23 = (.bool true) := by have h := hall 23 (by decide); rw [E23.out] at h; exact h
    have v24 : V 24 = (.bool true) := by have h := hall 24 (by decide); rw [E24.out] at h; exact h
    clear hall
    simp only [fillTo, Act.put, List.setIfInBounds_toArray, List.set_cons_succ, List.set_cons_zero, Nat.reduceAdd, Nat.zero_add, v0, v1, v2, v3, v4, v5, v6, v7, v8, v9, v10, v11, v12, v13, v14, v15, v16, v17, v18, v19, v20, v21, v22, v23, v24]
    clear v0 v1 v2 v3 v4 v5 v6 v7 v8 v9 v10 v11 v12 v13 v14 v15 v16 v17 v18 v19 v20 v21 v22 v23 v24
    have HG := Lib.hid (HB1.out.trans ((hg0.trans hg).mono HB1.out.size))
    clear hg
    go_wp2_with fail
    go_ret
    exact ⟨rfl, HG.out⟩
end Go.Proofs.YtnhcabcpdlgdaaaDoor
