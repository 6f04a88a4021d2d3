/- THE WALK of roles.Note. -/
import Derived.Test.YtnhcabcpdlgdaaaDoorAdm2
import Derived.Test.YtnhcabcpdlgdaaaDoorPan4
import Derived.Test.YtnhcabcpdlgdaaaDoorRText
import Derived.Test.YtnhcabcpdlgdaaaDoorFacts2
namespace Go.Proofs.YtnhcabcpdlgdaaaDoor
open Go.RowKit

theorem note_len (l : List UInt8) : (⟨l.toArray⟩ : ByteArray).size = l.length := rfl
theorem note_data (s : ByteArray) : (⟨s.data.toList.toArray⟩ : ByteArray) = s := by cases s; rfl
def headB : ByteArray := ⟨#[97, 100, 109, 105, 110, 32]⟩
def spB : ByteArray := ⟨#[32]⟩
/-- A note's beginning. -/
def noteHead (a : Adm) : ByteArray := headB ++ ⟨(dec a.role.toNat).toArray⟩ ++ spB ++ ⟨(dec a.op.toNat).toArray⟩
theorem note_none {a : Adm} (h : a.text.size = 0) : noteHead a = ⟨(noteL a).toArray⟩ := by
  rw [str_is (noteHead a)]
  unfold noteHead noteL
  rw [if_pos h, Go.Joins.data_append, Go.Joins.data_append, Go.Joins.data_append]
  simp [headB, headS, spB]
theorem note_text {a : Adm} (h : a.text.size ≠ 0) (t : List UInt8) (ht : t = if a.op = 8 then maskS a.text.data.toList else a.text.data.toList) : noteHead a ++ spB ++ ⟨t.toArray⟩ = ⟨(noteL a).toArray⟩ := by
  rw [str_is (noteHead a ++ spB ++ ⟨t.toArray⟩)]
  unfold noteHead noteL
  rw [if_neg h, Go.Joins.data_append, Go.Joins.data_append, Go.Joins.data_append, Go.Joins.data_append, Go.Joins.data_append, ht]
  simp [headB, headS, spB]
theorem mask_len (l : List UInt8) : (maskS l).length ≤ 40 := by
  cases h1 : shapedB l with
  | true => rw [mask_shaped h1, len_maskOf h1]; have := (parts_len h1).2.2.2.2; omega
  | false =>
    cases h2 : splitOk l with
    | true =>
      obtain ⟨q1, q2, q3, -⟩ := split_shaped h2
      have hd := dec_len (n := (numV (afterDot l)).toNat) (by omega)
      have hm := len_maskOf q1
      have hl := (parts_len q1).2.2.2.2
      rw [mask_split h2, List.length_append, List.length_cons, hm]
      omega
    | false => rw [mask_none h1 h2]; simp [starsL]; omega
theorem size_app (a b : ByteArray) : (a ++ b).size = a.size + b.size := by
  rw [← size_toList, Go.Joins.data_append, List.length_append, size_toList, size_toList]

set_option maxRecDepth 100000 in
set_option maxHeartbeats 8000000 in
theorem Note_any (a : Adm) (w : World) (hw : a.Wf) (ht : Tab w) :
    Calls Tryd.prog 30 #[a.val] w fun e w' => e = .returned (.string ⟨(noteL a).toArray⟩) ∧ Below w.heap.size w w' := by
  obtain ⟨d1, hd1⟩ : ∃ d : ByteArray, d = ⟨(dec a.role.toNat).toArray⟩ := ⟨_, rfl⟩
  obtain ⟨d2, hd2⟩ : ∃ d : ByteArray, d = ⟨(dec a.op.toNat).toArray⟩ := ⟨_, rfl⟩
  have hr1 : a.role.toNat ≤ 9223372036854775807 := by have := hw.role; unfold fits at this; omega
  have hr2 : a.op.toNat ≤ 9223372036854775807 := by have := hw.op; unfold fits at this; omega
  have hs1 : d1.size ≤ 30 := by rw [hd1, note_len]; exact rt_dec hr1
  have hs2 : d2.size ≤ 30 := by rw [hd2, note_len]; exact rt_dec hr2
  have hx1 : (max a.role 0 : Int) = (a.role.toNat : Int) := by omega
  have HI1 := Lib.hid (fun w (h : Tab w) => show Calls Tryd.prog 44 #[.int .i64 (max a.role 0)] w fun e w' => e = .returned (.string d1) ∧ Below w.heap.size w w' by rw [hx1, hd1]; exact Itoa_any _ w hr1 h)
  have hx2 : (max a.op 0 : Int) = (a.op.toNat : Int) := by omega
  have HI2 := Lib.hid (fun w (h : Tab w) => show Calls Tryd.prog 44 #[.int .i64 (max a.op 0)] w fun e w' => e = .returned (.string d2) ∧ Below w.heap.size w w' by rw [hx2, hd2]; exact Itoa_any _ w hr2 h)
  obtain ⟨hd, hhd⟩ : ∃ hd, headB ++ d1 ++ spB ++ d2 = hd := ⟨_, rfl⟩
  have hnh : noteHead a = hd := by unfold noteHead; rw [← hd1, ← hd2, hhd]
  have hhs : hd.size ≤ 67 := by rw [← hhd, size_app, size_app, size_app]; show 6 + _ + 1 + _ ≤ _; omega
  have HHD := Lib.hid hhd
  have hts := hw.text
  have HN0 := Lib.hid (fun h => note_none (a := a) h)
  have HN1 := Lib.hid (fun h t ht => note_text (a := a) h t ht)
  rw [hnh] at HN0 HN1
  have HTAB := Lib.hid ht
  clear hd1 hd2 hr1 hr2 hhd hnh hw hx1 hx2 ht
  obtain ⟨nl, hnl⟩ : ∃ nl, (⟨(noteL a).toArray⟩ : ByteArray) = nl := ⟨_, rfl⟩
  rw [hnl] at HN0 HN1 ⊢
  clear hnl
  obtain ⟨r, o, t, n, s, p, q, u, v⟩ := a
  simp only at HI1 HI2 HN0 HN1 hts
  unfold Adm.val
  have n1 : ¬ 9223372036854775807 < 6 + d1.size := by omega
  have n2 : ¬ 9223372036854775807 < 6 + d1.size + 1 := by omega
  have n3 : ¬ 9223372036854775807 < 6 + d1.size + 1 + d2.size := by omega
  have n4 : ¬ 9223372036854775807 < hd.size + 1 := by omega
  have n5 : ¬ 9223372036854775807 < hd.size + 1 + s.size := by omega
  go_enter Tryd.func30, Tryd.ntmps30
  go_upto_region 1 with fail
  refine name_world fun w1 x1 x2 x3 x4 => ?_
  have hb1 : Below w.heap.size w w1 := below_heap ((Below.refl _ _).alloc (Nat.le_refl _) _) x1 x2 x3 x4
  have hlt : w.heap.size < w1.heap.size := by rw [x1]; simp
  have hat : AdmAt w1 w.heap.size ⟨r, o, t, n, s, p, q, u, v⟩ := AdmAt.keep (w := w.alloc (.cells #[.int .i64 r, .int .i64 o, .int .i64 t, .int .i64 n, .string s, .int .i64 p, .int .i64 q, .int .i64 u, .int .i64 v] 38)) (adm_box (a := ⟨r, o, t, n, s, p, q, u, v⟩) (Below.refl _ _)).1 (fun j => World.cell?_of_block (a := ⟨w.heap.size, j, none⟩) (by rw [x1]))
  obtain ⟨c0, c1, -, -, c4, -⟩ := hat
  simp only at c0 c1 c4
  have HB1 := Lib.hid hb1
  have HT1 := Lib.hid (HTAB.out.below hb1)
  have hg0 : Below w1.heap.size w1 w1.drew := (Below.refl _ _).drew
  clear x1 x2 x3 x4 hb1
  go_wp2_with fail
  obtain ⟨F, hF⟩ : ∃ F, F = nthF [eqv (.pointer (some ⟨w.heap.size, 0, none⟩)), eqv (.int .i64 r), eqv (.int .i64 (max r 0)), eqv (.string d1), eqv (.string (headB ++ d1)), eqv (.string (headB ++ d1 ++ spB)), eqv (.pointer (some ⟨w.heap.size, 1, none⟩)), eqv (.int .i64 o), eqv (.int .i64 (max o 0)), eqv (.string d2), eqv (.string hd), eqv (.string hd)] := ⟨_, rfl⟩
  have E0 := Lib.hid (show F 0 = eqv (.pointer (some ⟨w.heap.size, 0, none⟩)) by rw [hF]; rfl)
  have E1 := Lib.hid (show F 1 = eqv (.int .i64 r) by rw [hF]; rfl)
  have E2 := Lib.hid (show F 2 = eqv (.int .i64 (max r 0)) by rw [hF]; rfl)
  have E3 := Lib.hid (show F 3 = eqv (.string d1) by rw [hF]; rfl)
  have E4 := Lib.hid (show F 4 = eqv (.string (headB ++ d1)) by rw [hF]; rfl)
  have E5 := Lib.hid (show F 5 = eqv (.string (headB ++ d1 ++ spB)) by rw [hF]; rfl)
  have E6 := Lib.hid (show F 6 = eqv (.pointer (some ⟨w.heap.size, 1, none⟩)) by rw [hF]; rfl)
  have E7 := Lib.hid (show F 7 = eqv (.int .i64 o) by rw [hF]; rfl)
  have E8 := Lib.hid (show F 8 = eqv (.int .i64 (max o 0)) by rw [hF]; rfl)
  have E9 := Lib.hid (show F 9 = eqv (.string d2) by rw [hF]; rfl)
  have E10 := Lib.hid (show F 10 = eqv (.string hd) by rw [hF]; rfl)
  have E11 := Lib.hid (show F 11 = eqv (.string hd) by rw [hF]; rfl)
  have hst : ∀ j v w w', F j v w → Grows w w' → F j v w' := by rw [hF]; exact nth_stable (by repeat (first | exact st_nil | exact st_eqv _ | exact st_any | refine st_cons ?_ ?_))
  have HST0 := Lib.hid hst
  clear hF hst
  refine wp_region_facts F Grows (fun _ => True) (by kernel_rfl) (by kernel_rfl) grows_refl grows_trans HST0.out (trivial) ?_ ?_
  · intro V; refine ⟨?_, ?_, ?_, ?_, ?_, ?_, ?_, ?_, ?_, ?_, ?_, ?_, trivial⟩
    · intro wx hg hJ hdep
      clear hdep
      clear hg
      go_wp2_with fail
      exact ⟨rfl, grows_refl _, trivial, by rw [E0.out]; rfl⟩
    · intro wx hg hJ hdep
      have v0 : V 0 = (.pointer (some ⟨w.heap.size, 0, none⟩)) := by have h := hdep 0 rfl; rw [E0.out] at h; exact h
      clear hdep
      have kk := ((hg0.trans hg).cell (p := ⟨w.heap.size, 0, none⟩) hlt).trans c0
      clear hg
      go_wp2_with fail
      exact ⟨rfl, grows_refl _, trivial, by rw [E1.out]; rfl⟩
    · intro wx hg hJ hdep
      have v1 : V 1 = (.int .i64 r) := by have h := hdep 1 rfl; rw [E1.out] at h; exact h
      clear hdep
      clear hg
      go_wp2_with fail
      exact ⟨rfl, grows_refl _, trivial, by rw [E2.out]; rfl⟩
    · intro wx hg hJ hdep
      have v2 : V 2 = (.int .i64 (max r 0)) := by have h := hdep 2 rfl; rw [E2.out] at h; exact h
      clear hdep
      have HM0 := Lib.hid (HI1.out wx (HT1.below (hg0.trans hg)))
      clear hg
      go_wp2_with fail
      refine HM0.out.mono ?_
      rintro e w5 ⟨rfl, hb5⟩
      have HG5 := Lib.hid hb5
      clear hb5
      go_wp2_with fail
      exact ⟨rfl, HG5.out, trivial, by rw [E3.out]; rfl⟩
    · intro wx hg hJ hdep
      have v3 : V 3 = (.string d1) := by have h := hdep 3 rfl; rw [E3.out] at h; exact h
      clear hdep
      clear hg
      go_wp2_with fail
      exact ⟨rfl, grows_refl _, trivial, by rw [E4.out]; rfl⟩
    · intro wx hg hJ hdep
      have v4 : V 4 = (.string (headB ++ d1)) := by have h := hdep 4 rfl; rw [E4.out] at h; exact h
      clear hdep
      clear hg
      go_wp2_with fail
      exact ⟨rfl, grows_refl _, trivial, by rw [E5.out]; rfl⟩
    · intro wx hg hJ hdep
      clear hdep
      clear hg
      go_wp2_with fail
      exact ⟨rfl, grows_refl _, trivial, by rw [E6.out]; rfl⟩
    · intro wx hg hJ hdep
      have v6 : V 6 = (.pointer (some ⟨w.heap.size, 1, none⟩)) := by have h := hdep 6 rfl; rw [E6.out] at h; exact h
      clear hdep
      have kk := ((hg0.trans hg).cell (p := ⟨w.heap.size, 1, none⟩) hlt).trans c1
      clear hg
      go_wp2_with fail
      exact ⟨rfl, grows_refl _, trivial, by rw [E7.out]; rfl⟩
    · intro wx hg hJ hdep
      have v7 : V 7 = (.int .i64 o) := by have h := hdep 7 rfl; rw [E7.out] at h; exact h
      clear hdep
      clear hg
      go_wp2_with fail
      exact ⟨rfl, grows_refl _, trivial, by rw [E8.out]; rfl⟩
    · intro wx hg hJ hdep
      have v8 : V 8 = (.int .i64 (max o 0)) := by have h := hdep 8 rfl; rw [E8.out] at h; exact h
      have v3 : V 3 = (.string d1) := by have h := hdep 3 rfl; rw [E3.out] at h; exact h
      clear hdep
      have HM0 := Lib.hid (HI2.out wx (HT1.below (hg0.trans hg)))
      clear hg
      go_wp2_with fail
      refine HM0.out.mono ?_
      rintro e w5 ⟨rfl, hb5⟩
      have HG5 := Lib.hid hb5
      clear hb5
      go_wp2_with fail
      exact ⟨rfl, HG5.out, trivial, by rw [E9.out]; rfl⟩
    · intro wx hg hJ hdep
      have v5 : V 5 = (.string (headB ++ d1 ++ spB)) := by have h := hdep 5 rfl; rw [E5.out] at h; exact h
      have v9 : V 9 = (.string d2) := by have h := hdep 9 rfl; rw [E9.out] at h; exact h
      clear hdep
      clear hg
      go_wp2_with fail
      exact ⟨rfl, grows_refl _, trivial, by rw [E10.out, ← HHD.out]; rfl⟩
    · intro wx hg hJ hdep
      have v10 : V 10 = (.string hd) := by have h := hdep 10 rfl; rw [E10.out] at h; exact h
      have v9 : V 9 = (.string d2) := by have h := hdep 9 rfl; rw [E9.out] at h; exact h
      clear hdep
      clear hg
      go_wp2_with fail
      exact ⟨rfl, grows_refl _, trivial, by rw [E11.out]; rfl⟩
  · intro V wx hg hJ hall
    have v0 : V 0 = (.pointer (some ⟨w.heap.size, 0, none⟩)) := by have h := hall 0 (by decide); rw [E0.out] at h; exact h
    have v1 : V 1 = (.int .i64 r) := by have h := hall 1 (by decide); rw [E1.out] at h; exact h
    have v2 : V 2 = (.int .i64 (max r 0)) := by have h := hall 2 (by decide); rw [E2.out] at h; exact h
    have v3 : V 3 = (.string d1) := by have h := hall 3 (by decide); rw [E3.out] at h; exact h
    have v4 : V 4 = (.string (headB ++ d1)) := by have h := hall 4 (by decide); rw [E4.out] at h; exact h
    have v5 : V 5 = (.string (headB ++ d1 ++ spB)) := by have h := hall 5 (by decide); rw [E5.out] at h; exact h
    have v6 : V 6 = (.pointer (some ⟨w.heap.size, 1, none⟩)) := by have h := hall 6 (by decide); rw [E6.out] at h; exact h
    have v7 : V 7 = (.int .i64 o) := by have h := hall 7 (by decide); rw [E7.out] at h; exact h
    have v8 : V 8 = (.int .i64 (max o 0)) := by have h := hall 8 (by decide); rw [E8.out] at h; exact h
    have v9 : V 9 = (.string d2) := by have h := hall 9 (by decide); rw [E9.out] at h; exact h
    have v10 : V 10 = (.string hd) := by have h := hall 10 (by decide); rw [E10.out] at h; exact h
    have v11 : V 11 = (.string hd) := by have h := hall 11 (by decide); rw [E11.out] at h; exact h
    clear hall
    simp only [fillTo, Act.put, List.setIfInBounds_toArray, List.set_cons_succ, List.set_cons_zero, Nat.reduceAdd, Nat.zero_add, v0, v1, v2, v3, v4, v5, v6, v7, v8, v9, v10, v11]
    clear v0 v1 v2 v3 v4 v5 v6 v7 v8 v9 v10 v11
    have HB2 := Lib.hid (HB1.out.trans ((hg0.trans hg).mono HB1.out.size))
    have HT2 := Lib.hid (HT1.out.below (hg0.trans hg))
    have hs2 := (hg0.trans hg).size
    have e4 := ((hg0.trans hg).cell (p := ⟨w.heap.size, 4, none⟩) hlt).trans c4
    have e1 := ((hg0.trans hg).cell (p := ⟨w.heap.size, 1, none⟩) hlt).trans c1
    clear hg hg0 c0 c1 c4
    by_cases h0 : s.size = 0
    · obtain rfl := size_zero h0
      go_wp2_with fail
      go_ret
      exact ⟨by rw [← HN0.out rfl]; rfl, HB2.out⟩
    · have e5 : s.toList.isEmpty = false := by
        rw [ByteArray.toList_eq]
        cases e : s.data.toList with
        | nil => exact absurd (by rw [← size_toList, e]; rfl) h0
        | cons x l => rfl
      have e6 : (s.toList == []) = false := by
        rw [ByteArray.toList_eq]
        cases e : s.data.toList with
        | nil => exact absurd (by rw [← size_toList, e]; rfl) h0
        | cons x l => rfl
      by_cases h8 : o = 8
      · subst h8
        obtain ⟨mk, hmk⟩ : ∃ mk : ByteArray, mk = ⟨(maskS s.data.toList).toArray⟩ := ⟨_, rfl⟩
        have hms : mk.size ≤ 40 := by rw [hmk, note_len]; exact mask_len _
        have HFIN := Lib.hid (HN1.out h0 (maskS s.data.toList) (by simp))
        rw [← hmk] at HFIN
        have HMK := Lib.hid (Mask_any s wx (by unfold maxLen; omega) HT2.out)
        rw [← hmk] at HMK
        have n6 : ¬ 9223372036854775807 < hd.size + 1 + mk.size := by omega
        clear hmk h0
        go_wp2_with fail
        refine HMK.out.mono ?_
        rintro e w5 ⟨rfl, hb5⟩
        have HB5 := Lib.hid (HB2.out.trans (hb5.mono HB2.out.size))
        clear hb5
        go_wp2_with fail
        go_ret
        exact ⟨by rw [← HFIN.out]; rfl, HB5.out⟩
      · have e8 : (o == 8) = false := by simp; exact h8
        have HFIN := Lib.hid (HN1.out h0 s.data.toList (by simp [h8]))
        rw [show (⟨s.data.toList.toArray⟩ : ByteArray) = s from (str_is s).symm] at HFIN
        clear h8 h0
        go_wp2_with fail
        go_ret
        exact ⟨by rw [← HFIN.out]; rfl, HB2.out⟩
end Go.Proofs.YtnhcabcpdlgdaaaDoor
