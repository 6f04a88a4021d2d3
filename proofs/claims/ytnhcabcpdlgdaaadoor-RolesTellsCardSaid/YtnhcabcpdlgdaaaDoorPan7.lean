/- THE WALKS of pan's reference: masks; the small case of the laws of pan. -/
import Derived.Test.YtnhcabcpdlgdaaaDoorPan6
namespace Go.Proofs.YtnhcabcpdlgdaaaDoor
open Go.RowKit

set_option maxHeartbeats 1000000 in
theorem rMask_shaped (s : ByteArray) (w : World) (hs : s.size ≤ maxLen) (h1 : shapedB s.data.toList = true) :
    Calls Tryd.prog 20 #[.string s] w fun e w' => e = .returned (.string ⟨(maskS s.data.toList).toArray⟩) ∧ Below w.heap.size w w' := by
  have hm := mask_shaped h1
  obtain ⟨p1, p2, p3, p4, p5⟩ := parts_len h1
  have hcut := cutR_yes h1
  obtain ⟨a, ha⟩ : ∃ a : ByteArray, a = ⟨(binP s.data.toList).toArray⟩ := ⟨_, rfl⟩
  obtain ⟨b, hb⟩ : ∃ b : ByteArray, b = ⟨(midP s.data.toList).toArray⟩ := ⟨_, rfl⟩
  obtain ⟨c, hc⟩ : ∃ c : ByteArray, c = ⟨(lastP s.data.toList).toArray⟩ := ⟨_, rfl⟩
  have hasz : a.size ≤ 6 := by rw [ha, len_str]; omega
  have hbsz : b.size ≤ 9 := by rw [hb, len_str]; omega
  have hcsz : c.size ≤ 4 := by rw [hc, len_str]; omega
  have hfin : (a ++ ⟨(starsL b.size).toArray⟩ ++ c : ByteArray) = ⟨(maskS s.data.toList).toArray⟩ := by
    rw [str_is (a ++ ⟨(starsL b.size).toArray⟩ ++ c), Go.Joins.data_append, Go.Joins.data_append, hm, ha, hb, hc, len_str]
    simp [maskOf]
  rw [← ha, ← hb, ← hc] at hcut
  have HC := Lib.hid hcut
  have HF := Lib.hid hfin
  have hssz : (⟨(starsL b.size).toArray⟩ : ByteArray).size ≤ 9 := by rw [len_str]; simp [starsL]; exact hbsz
  clear h1 hm p1 p2 p3 p4 p5 ha hb hc hfin hcut
  generalize hst : (⟨(starsL b.size).toArray⟩ : ByteArray) = st at HF hssz
  have HST := Lib.hid (fun w => rStars_any b.size w (by omega))
  rw [hst] at HST
  clear hst
  go_enter Tryd.func20, Tryd.ntmps20
  go_wp2_with fail
  refine (rCut_any s _ hs).mono ?_
  rw [HC.out]
  rintro e w1 ⟨rfl, hb1⟩
  go_wp2_with fail
  refine (HST.out _).mono ?_
  rintro e w2 ⟨rfl, rfl⟩
  have n1 : ¬ 9223372036854775807 < a.size + st.size := by omega
  have n2 : ¬ 9223372036854775807 < a.size + st.size + c.size := by omega
  go_wp2_with fail
  go_ret
  exact ⟨by rw [← HF.out]; rfl, hb1⟩

set_option maxHeartbeats 1000000 in
theorem rMask_none (s : ByteArray) (w : World) (hs : s.size ≤ maxLen) (h1 : shapedB s.data.toList = false) (h2 : splitOk s.data.toList = false) :
    Calls Tryd.prog 20 #[.string s] w fun e w' => e = .returned (.string ⟨(maskS s.data.toList).toArray⟩) ∧ Below w.heap.size w w' := by
  have hm := mask_none h1 h2
  rw [size_toList] at hm
  have HM := Lib.hid hm
  have HC := Lib.hid (cutR_no h1)
  have HS := Lib.hid (splR_no h2)
  clear h1 h2 hm
  go_enter Tryd.func20, Tryd.ntmps20
  go_wp2_with fail
  refine (rCut_any s _ hs).mono ?_
  rw [HC.out]
  rintro e w1 ⟨rfl, hb1⟩
  go_wp2_with fail
  refine (rSplit_any s _ hs).mono ?_
  rw [HS.out]
  rintro e w2 ⟨rfl, hb2⟩
  go_wp2_with fail
  rw [show (min (s.size : Int) 32) = ((min s.size 32 : Nat) : Int) by omega]
  refine (rStars_any (min s.size 32) _ (by omega)).mono ?_
  rw [← HM.out]
  rintro e w4 ⟨rfl, rfl⟩
  generalize hr : (⟨(maskS s.data.toList).toArray⟩ : ByteArray) = r
  have HR := Lib.hid hr
  clear hr
  go_wp2_with fail
  go_ret
  exact ⟨by rw [HR.out]; rfl, thenB hb1 hb2⟩

theorem drop_pre {α : Type} {l a b : List α} (h : l = a ++ b) : l.drop a.length = b := by rw [h, List.drop_left]
set_option maxRecDepth 100000 in
set_option maxHeartbeats 4000000 in
theorem rMask_split (s : ByteArray) (w : World) (hs : s.size ≤ maxLen) (h1 : splitOk s.data.toList = true) :
    Calls Tryd.prog 20 #[.string s] w fun e w' => e = .returned (.string ⟨(maskS s.data.toList).toArray⟩) ∧ Below w.heap.size w w' := by
  have hnot : shapedB s.data.toList = false := by
    cases e : shapedB s.data.toList with
    | false => rfl
    | true => rw [shaped_split e] at h1; cases h1
  have HC := Lib.hid (cutR_no hnot)
  have hm := mask_split h1
  obtain ⟨q1, q2, q3, q4⟩ := split_shaped h1
  have hsp := splR_yes h1
  have hdl := (dots_le s.data.toList).1
  rw [size_toList] at hdl
  obtain ⟨t, htt⟩ : ∃ t : ByteArray, t = ⟨(beforeDot s.data.toList).toArray⟩ := ⟨_, rfl⟩
  have htd : t.data.toList = beforeDot s.data.toList := by rw [htt]
  have htsz : t.size = (beforeDot s.data.toList).length := by rw [← size_toList, htd]
  have hts : t.size ≤ maxLen := by omega
  have hts2 : t.size ≤ s.size := by omega
  rw [← htt] at hsp
  have hy : s.extract t.size s.size = ⟨(46 :: dec (numV (afterDot s.data.toList)).toNat).toArray⟩ := sub_str _ _ _ _ (by
    rw [List.take_of_length_le (by simp), htsz]
    exact drop_pre q4)
  have hdl3 := dec_len (n := (numV (afterDot s.data.toList)).toNat) (by omega)
  rw [← htd] at q1 hm
  have HMT := Lib.hid (fun w => rMask_shaped t w hts q1)
  have hpm := mask_shaped q1
  obtain ⟨x, hx⟩ : ∃ x : ByteArray, x = ⟨(maskS t.data.toList).toArray⟩ := ⟨_, rfl⟩
  obtain ⟨y, hye⟩ : ∃ y : ByteArray, y = s.extract t.size s.size := ⟨_, rfl⟩
  have hxsz : x.size ≤ 19 := by rw [hx, len_str, hpm, len_maskOf q1]; exact (shapedB_iff.1 q1).2.2
  have hysz : y.size ≤ 4 := by rw [hye, hy, len_str]; simp; omega
  have HF := Lib.hid (show x ++ y = ⟨(maskS s.data.toList).toArray⟩ by rw [hm, hye, hy, hx, hpm, str_is (⟨(maskOf t.data.toList).toArray⟩ ++ _), Go.Joins.data_append])
  have HSP := Lib.hid hsp
  have HY := Lib.hid hye
  have HX := Lib.hid hx
  rw [← hx] at HMT
  generalize numV (afterDot s.data.toList) = vN at HSP
  have n1 : ¬ 9223372036854775807 < x.size + y.size := by omega
  clear hnot h1 hm q1 q2 q3 q4 hsp hdl htt htd htsz hy hdl3 hpm hx hye
  go_enter Tryd.func20, Tryd.ntmps20
  go_wp2_with fail
  refine (rCut_any s _ hs).mono ?_
  rw [HC.out]
  rintro e w1 ⟨rfl, hb1⟩
  go_wp2_with fail
  refine (rSplit_any s _ hs).mono ?_
  rw [HSP.out]
  rintro e w2 ⟨rfl, hb2⟩
  have HB2 := Lib.hid (thenB hb1 hb2)
  clear hb1 hb2
  unfold maxLen at hs hts
  go_wp2_with fail
  obtain ⟨F, hF⟩ : ∃ F, F = nthF [eqv (.string t), eqv (.string x), eqv (.string s), eqv (.string t), eqv (.int .i64 t.size), eqv (.string y), eqv (.string (x ++ y)), eqv (.string (x ++ y))] := ⟨_, rfl⟩
  have E0 := Lib.hid (show F 0 = eqv (.string t) by rw [hF]; rfl)
  have E1 := Lib.hid (show F 1 = eqv (.string x) by rw [hF]; rfl)
  have E2 := Lib.hid (show F 2 = eqv (.string s) by rw [hF]; rfl)
  have E3 := Lib.hid (show F 3 = eqv (.string t) by rw [hF]; rfl)
  have E4 := Lib.hid (show F 4 = eqv (.int .i64 t.size) by rw [hF]; rfl)
  have E5 := Lib.hid (show F 5 = eqv (.string y) by rw [hF]; rfl)
  have E6 := Lib.hid (show F 6 = eqv (.string (x ++ y)) by rw [hF]; rfl)
  have E7 := Lib.hid (show F 7 = eqv (.string (x ++ y)) by rw [hF]; rfl)
  have hst : ∀ j v w w', F j v w → Grows w w' → F j v w' := by rw [hF]; exact nth_stable (by repeat (first | exact st_nil | exact st_eqv _ | exact st_any | exact st_bytes _ | exact st_list _ | exact st_strs _ | refine st_cons ?_ ?_))
  have HST0 := Lib.hid hst
  clear hF hst
  refine wp_region_facts F Grows (fun _ => True) (by kernel_rfl) (by kernel_rfl) grows_refl grows_trans HST0.out (trivial) ?_ ?_
  · intro V; refine ⟨?_, ?_, ?_, ?_, ?_, ?_, ?_, ?_, trivial⟩
    · intro wx hg hJ hdep
      clear hdep
      clear hg
      go_wp2_with fail
      exact ⟨rfl, grows_refl _, trivial, by rw [E0.out]; rfl⟩
    · intro wx hg hJ hdep
      have v0 : V 0 = (.string t) := by have h := hdep 0 rfl; rw [E0.out] at h; exact h
      clear hdep
      have HM := Lib.hid (HMT.out wx)
      clear hg
      go_wp2_with fail
      refine HM.out.mono ?_
      rintro e w3 ⟨rfl, hg2⟩
      have HG2 := Lib.hid hg2
      clear hg2
      go_wp2_with fail
      exact ⟨rfl, HG2.out, trivial, by rw [E1.out]; rfl⟩
    · intro wx hg hJ hdep
      clear hdep
      clear hg
      go_wp2_with fail
      exact ⟨rfl, grows_refl _, trivial, by rw [E2.out]; rfl⟩
    · intro wx hg hJ hdep
      clear hdep
      clear hg
      go_wp2_with fail
      exact ⟨rfl, grows_refl _, trivial, by rw [E3.out]; rfl⟩
    · intro wx hg hJ hdep
      have v3 : V 3 = (.string t) := by have h := hdep 3 rfl; rw [E3.out] at h; exact h
      clear hdep
      clear hg
      go_wp2_with fail
      exact ⟨rfl, grows_refl _, trivial, by rw [E4.out]; rfl⟩
    · intro wx hg hJ hdep
      have v2 : V 2 = (.string s) := by have h := hdep 2 rfl; rw [E2.out] at h; exact h
      have v4 : V 4 = (.int .i64 t.size) := by have h := hdep 4 rfl; rw [E4.out] at h; exact h
      clear hdep
      go_wp2_with fail
      exact ⟨rfl, grows_refl _, trivial, by rw [E5.out, HY.out]; rfl⟩
    · intro wx hg hJ hdep
      have v1 : V 1 = (.string x) := by have h := hdep 1 rfl; rw [E1.out] at h; exact h
      have v5 : V 5 = (.string y) := by have h := hdep 5 rfl; rw [E5.out] at h; exact h
      clear hdep
      clear hg
      go_wp2_with fail
      exact ⟨rfl, grows_refl _, trivial, by rw [E6.out]; rfl⟩
    · intro wx hg hJ hdep
      have v6 : V 6 = (.string (x ++ y)) := by have h := hdep 6 rfl; rw [E6.out] at h; exact h
      clear hdep
      clear hg
      go_wp2_with fail
      exact ⟨rfl, grows_refl _, trivial, by rw [E7.out]; rfl⟩
  · intro V wx hg hJ hall
    have v0 : V 0 = (.string t) := by have h := hall 0 (by decide); rw [E0.out] at h; exact h
    have v1 : V 1 = (.string x) := by have h := hall 1 (by decide); rw [E1.out] at h; exact h
    have v2 : V 2 = (.string s) := by have h := hall 2 (by decide); rw [E2.out] at h; exact h
    have v3 : V 3 = (.string t) := by have h := hall 3 (by decide); rw [E3.out] at h; exact h
    have v4 : V 4 = (.int .i64 t.size) := by have h := hall 4 (by decide); rw [E4.out] at h; exact h
    have v5 : V 5 = (.string y) := by have h := hall 5 (by decide); rw [E5.out] at h; exact h
    have v6 : V 6 = (.string (x ++ y)) := by have h := hall 6 (by decide); rw [E6.out] at h; exact h
    have v7 : V 7 = (.string (x ++ y)) := by have h := hall 7 (by decide); rw [E7.out] at h; exact h
    clear hall
    simp only [fillTo, Act.put, List.setIfInBounds_toArray, List.set_cons_succ, List.set_cons_zero, Nat.reduceAdd, Nat.zero_add, v0, v1, v2, v3, v4, v5, v6, v7]
    clear v0 v1 v2 v3 v4 v5 v6 v7
    have HG := Lib.hid hg
    clear hg
    go_wp2_with fail
    go_ret
    exact ⟨ret_s (by rw [HF.out]), HB2.out.drew.trans (HG.out.mono HB2.out.size)⟩
theorem rMask_any (s : ByteArray) (w : World) (hs : s.size ≤ maxLen) :
    Calls Tryd.prog 20 #[.string s] w fun e w' => e = .returned (.string ⟨(maskS s.data.toList).toArray⟩) ∧ Below w.heap.size w w' := by
  cases h1 : shapedB s.data.toList with
  | true => exact rMask_shaped s w hs h1
  | false =>
    cases h2 : splitOk s.data.toList with
    | true => exact rMask_split s w hs h2
    | false => exact rMask_none s w hs h1 h2
end Go.Proofs.YtnhcabcpdlgdaaaDoor
