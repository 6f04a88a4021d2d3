/- THE WALK of pan.Mask. -/
import Derived.Test.YtnhcabcpdlgdaaaDoorPan3
import Derived.Deep.RegionHeld3
namespace Go.Proofs.YtnhcabcpdlgdaaaDoor
open Go.RowKit

theorem box_cells {w w' : World} {a b c : ByteArray} {t : TypeId} (hb : Below (w.alloc (.cells #[.string a, .string b, .string c] t)).heap.size (w.alloc (.cells #[.string a, .string b, .string c] t)) w') :
    w.heap.size < w'.heap.size ∧ w'.cell? ⟨w.heap.size, 0, none⟩ = some (.string a) ∧ w'.cell? ⟨w.heap.size, 1, none⟩ = some (.string b) ∧ w'.cell? ⟨w.heap.size, 2, none⟩ = some (.string c) ∧
      w'.frozen? ⟨w.heap.size, 0, none⟩ = false ∧ w'.frozen? ⟨w.heap.size, 1, none⟩ = false ∧ w'.frozen? ⟨w.heap.size, 2, none⟩ = false := by
  refine ⟨by have := hb.size; simp at this; omega, ?_, ?_, ?_, ?_, ?_, ?_⟩
  · exact (hb.cell (p := ⟨w.heap.size, 0, none⟩) (by simp)).trans (cell?_new _ _ _ _)
  · exact (hb.cell (p := ⟨w.heap.size, 1, none⟩) (by simp)).trans (cell?_new _ _ _ _)
  · exact (hb.cell (p := ⟨w.heap.size, 2, none⟩) (by simp)).trans (cell?_new _ _ _ _)
  · exact (hb.frozen (p := ⟨w.heap.size, 0, none⟩) (by simp)).trans (frozen?_new _ _ _ _)
  · exact (hb.frozen (p := ⟨w.heap.size, 1, none⟩) (by simp)).trans (frozen?_new _ _ _ _)
  · exact (hb.frozen (p := ⟨w.heap.size, 2, none⟩) (by simp)).trans (frozen?_new _ _ _ _)

set_option maxHeartbeats 2000000 in
theorem Mask_none (s : ByteArray) (w : World) (hs : s.size ≤ maxLen) (ht : Tab w) (h1 : shapedB s.data.toList = false) (h2 : splitOk s.data.toList = false) :
    Calls Tryd.prog 19 #[.string s] w fun e w' => e = .returned (.string ⟨(maskS s.data.toList).toArray⟩) ∧ Below w.heap.size w w' := by
  have hm := mask_none h1 h2
  rw [size_toList] at hm
  have HM := Lib.hid hm
  have HV := Lib.hid (partsV_no h1)
  have HS := Lib.hid (splR_no h2)
  clear h1 h2 hm
  go_enter Tryd.func19, Tryd.ntmps19
  go_wp2_with fail
  refine (cut_any s _ hs).mono ?_
  rw [HV.out]
  rintro e w1 ⟨rfl, hb1⟩
  go_wp2_with fail
  refine (Split_any s _ hs ((ht.below hb1).below ((Below.refl _ _).alloc (Nat.le_refl _) _))).mono ?_
  rw [HS.out]
  rintro e w2 ⟨rfl, hb2⟩
  obtain ⟨hs2, c0, c1, c2, -⟩ := box_cells hb2
  have hb12 := thenB hb1 (thenB ((Below.refl _ _).alloc (Nat.le_refl _) _) hb2)
  clear hb2
  go_wp2_with fail
  refine (shaped_none _).mono ?_
  rintro e w3 ⟨rfl, hb3⟩
  go_wp2_with fail
  rw [show (min (s.size : Int) 32) = ((min s.size 32 : Nat) : Int) by omega]
  refine (stars_any (min s.size 32) _ (by omega)).mono ?_
  rw [← HM.out]
  rintro e w4 ⟨rfl, hb4⟩
  generalize hr : (⟨(maskS s.data.toList).toArray⟩ : ByteArray) = r
  have HR := Lib.hid hr
  clear hr
  go_wp2_with fail
  go_ret
  exact ⟨by rw [HR.out]; rfl, thenB hb12 (thenB hb3 hb4)⟩

theorem cat4 (a c e : ByteArray) (n : Nat) (l : List UInt8) (h : a.data.toList ++ starsL n ++ c.data.toList ++ e.data.toList = l) : (a ++ ⟨(starsL n).toArray⟩ ++ c ++ e : ByteArray) = ⟨l.toArray⟩ := by
  rw [str_is (a ++ ⟨(starsL n).toArray⟩ ++ c ++ e), Go.Joins.data_append, Go.Joins.data_append, Go.Joins.data_append, ← h]
theorem len_str (l : List UInt8) : (⟨l.toArray⟩ : ByteArray).size = l.length := by rw [← size_toList]

set_option maxRecDepth 100000 in
set_option maxHeartbeats 4000000 in
theorem Mask_shaped (s : ByteArray) (w : World) (hs : s.size ≤ maxLen) (ht : Tab w) (h1 : shapedB s.data.toList = true) :
    Calls Tryd.prog 19 #[.string s] w fun e w' => e = .returned (.string ⟨(maskS s.data.toList).toArray⟩) ∧ Below w.heap.size w w' := by
  have HS := Lib.hid (splR_no (shaped_split h1))
  have HSH := Lib.hid (fun w => (shaped_any s.data.toList w))
  rw [h1] at HSH
  have hm := mask_shaped h1
  obtain ⟨p1, p2, p3, p4, p5⟩ := parts_len h1
  have hpv : partsV s.data.toList = .agg #[.string ⟨(binP s.data.toList).toArray⟩, .string ⟨(midP s.data.toList).toArray⟩, .string ⟨(lastP s.data.toList).toArray⟩] := rfl
  obtain ⟨a, ha⟩ : ∃ a : ByteArray, a = ⟨(binP s.data.toList).toArray⟩ := ⟨_, rfl⟩
  obtain ⟨b, hb⟩ : ∃ b : ByteArray, b = ⟨(midP s.data.toList).toArray⟩ := ⟨_, rfl⟩
  obtain ⟨c, hc⟩ : ∃ c : ByteArray, c = ⟨(lastP s.data.toList).toArray⟩ := ⟨_, rfl⟩
  have hasz : a.size = 6 := by rw [ha, len_str]; exact p1
  have hbsz : b.size ≤ 9 := by rw [hb, len_str]; omega
  have hcsz : c.size = 4 := by rw [hc, len_str]; exact p3
  have hfin : (a ++ ⟨(starsL b.size).toArray⟩ ++ c ++ ⟨#[]⟩ : ByteArray) = ⟨(maskS s.data.toList).toArray⟩ := by
    refine cat4 _ _ _ _ _ ?_
    rw [hm, ha, hb, hc, len_str]
    simp [maskOf]
  rw [← ha, ← hb, ← hc] at hpv
  have HV := Lib.hid hpv
  have HF := Lib.hid hfin
  have hssz : (⟨(starsL b.size).toArray⟩ : ByteArray).size ≤ 9 := by rw [len_str]; simp [starsL]; exact hbsz
  clear hpv h1 hm p1 p2 p3 p4 p5 ha hb hc hfin
  have has1 : a.size ≤ 6 := by omega
  have hcs1 : c.size ≤ 4 := by omega
  clear hasz hcsz
  go_enter Tryd.func19, Tryd.ntmps19
  go_wp2_with fail
  refine (cut_any s _ hs).mono ?_
  rw [HV.out]
  rintro e w1 ⟨rfl, hb1⟩
  go_wp2_with fail
  refine (Split_any s _ hs ((ht.below hb1).below ((Below.refl _ _).alloc (Nat.le_refl _) _))).mono ?_
  rw [HS.out]
  rintro e w2 ⟨rfl, hb2⟩
  obtain ⟨hs2, c0, c1, c2, -⟩ := box_cells hb2
  have hb12 := thenB hb1 (thenB ((Below.refl _ _).alloc (Nat.le_refl _) _) hb2)
  clear hb2
  go_wp2_with fail
  rw [← HV.out]
  refine (HSH.out _).mono ?_
  rintro e w3 ⟨rfl, hb3⟩
  have d0 := (hb3.cell (p := ⟨w1.heap.size, 0, none⟩) hs2).trans c0
  have d1 := (hb3.cell (p := ⟨w1.heap.size, 1, none⟩) hs2).trans c1
  have d2 := (hb3.cell (p := ⟨w1.heap.size, 2, none⟩) hs2).trans c2
  have hs3 : w1.heap.size < w3.heap.size := by have := hb3.size; omega
  have hb13 := thenB hb12 hb3
  clear c0 c1 c2 hb3
  go_wp2_with fail
  generalize hst : (⟨(starsL b.size).toArray⟩ : ByteArray) = st at HF hssz
  have HST := Lib.hid (fun w => stars_any b.size w (by omega))
  rw [hst] at HST
  clear hst
  have n1 : ¬ 9223372036854775807 < a.size + st.size := by omega
  have n2 : ¬ 9223372036854775807 < a.size + st.size + c.size := by omega
  go_region_held3 (fun w' => w'.cell? ⟨w1.heap.size, 0, none⟩ = some (.string a) ∧ w'.cell? ⟨w1.heap.size, 1, none⟩ = some (.string b) ∧ w'.cell? ⟨w1.heap.size, 2, none⟩ = some (.string c))
    (go_keep)
    (first
      | (go_at_call 45; refine (HST.out _).mono ?_; rintro e w4 ⟨rfl, hb4⟩; have k0 := (hb4.cell (p := ⟨w1.heap.size, 0, none⟩) (by simp; omega)).trans d0; have k1 := (hb4.cell (p := ⟨w1.heap.size, 1, none⟩) (by simp; omega)).trans d1; have k2 := (hb4.cell (p := ⟨w1.heap.size, 2, none⟩) (by simp; omega)).trans d2; have HB4 := Lib.hid hb4; clear hb4))
  go_wp2_with fail
  go_ret
  exact ⟨by rw [← HF.out]; rfl, hb13.drew.trans (HB4.out.mono (by simp; exact hb13.size))⟩

theorem box_set {w : World} {g : Nat} {x0 x1 x2 : Value} (y0 y1 y2 : Value) (c0 : w.cell? ⟨g, 0, none⟩ = some x0) (c1 : w.cell? ⟨g, 1, none⟩ = some x1) (c2 : w.cell? ⟨g, 2, none⟩ = some x2) :
    (((w.setCell ⟨g, 0, none⟩ y0).setCell ⟨g, 1, none⟩ y1).setCell ⟨g, 2, none⟩ y2).cell? ⟨g, 0, none⟩ = some y0 ∧ (((w.setCell ⟨g, 0, none⟩ y0).setCell ⟨g, 1, none⟩ y1).setCell ⟨g, 2, none⟩ y2).cell? ⟨g, 1, none⟩ = some y1 ∧
      (((w.setCell ⟨g, 0, none⟩ y0).setCell ⟨g, 1, none⟩ y1).setCell ⟨g, 2, none⟩ y2).cell? ⟨g, 2, none⟩ = some y2 := by
  refine ⟨?_, ?_, ?_⟩ <;> simp [go_sem, c0, c1, c2]
set_option maxRecDepth 100000 in
set_option maxHeartbeats 4000000 in
theorem Mask_split (s : ByteArray) (w : World) (hs : s.size ≤ maxLen) (ht : Tab w) (h1 : splitOk s.data.toList = true) :
    Calls Tryd.prog 19 #[.string s] w fun e w' => e = .returned (.string ⟨(maskS s.data.toList).toArray⟩) ∧ Below w.heap.size w w' := by
  have hnot : shapedB s.data.toList = false := by
    cases e : shapedB s.data.toList with
    | false => rfl
    | true => rw [shaped_split e] at h1; cases h1
  have HN := Lib.hid (partsV_no hnot)
  have HS := Lib.hid (splR_yes h1)
  have hm := mask_split h1
  obtain ⟨q1, q2, q3, -⟩ := split_shaped h1
  have hdl := (dots_le s.data.toList).1
  rw [size_toList] at hdl
  obtain ⟨t, htt⟩ : ∃ t : ByteArray, t = ⟨(beforeDot s.data.toList).toArray⟩ := ⟨_, rfl⟩
  have htd : t.data.toList = beforeDot s.data.toList := by rw [htt]
  have hts : t.size ≤ maxLen := by rw [← size_toList, htd]; omega
  rw [← htd] at q1 hm
  obtain ⟨n, hn⟩ : ∃ n : Nat, numV (afterDot s.data.toList) = n := ⟨(numV (afterDot s.data.toList)).toNat, by omega⟩
  rw [hn] at hm q2 q3 HS
  rw [← htt] at HS
  rw [Int.toNat_natCast] at hm
  have HSH := Lib.hid (fun w => (shaped_any t.data.toList w))
  rw [q1] at HSH
  obtain ⟨p1, p2, p3, p4, p5⟩ := parts_len q1
  have hpv : partsV t.data.toList = .agg #[.string ⟨(binP t.data.toList).toArray⟩, .string ⟨(midP t.data.toList).toArray⟩, .string ⟨(lastP t.data.toList).toArray⟩] := rfl
  obtain ⟨a, ha⟩ : ∃ a : ByteArray, a = ⟨(binP t.data.toList).toArray⟩ := ⟨_, rfl⟩
  obtain ⟨b, hb⟩ : ∃ b : ByteArray, b = ⟨(midP t.data.toList).toArray⟩ := ⟨_, rfl⟩
  obtain ⟨c, hc⟩ : ∃ c : ByteArray, c = ⟨(lastP t.data.toList).toArray⟩ := ⟨_, rfl⟩
  obtain ⟨d, hd⟩ : ∃ d : ByteArray, d = ⟨(dec n).toArray⟩ := ⟨_, rfl⟩
  have hasz : a.size ≤ 6 := by rw [ha, len_str]; omega
  have hbsz : b.size ≤ 9 := by rw [hb, len_str]; omega
  have hcsz : c.size ≤ 4 := by rw [hc, len_str]; omega
  have hdsz : d.size ≤ 3 := by rw [hd, len_str]; exact dec_len (by omega)
  have hfin : (a ++ ⟨(starsL b.size).toArray⟩ ++ c ++ (⟨#[46]⟩ ++ d) : ByteArray) = ⟨(maskS s.data.toList).toArray⟩ := by
    refine cat4 _ _ _ _ _ ?_
    rw [hm, ha, hb, hc, hd, len_str, Go.Joins.data_append]
    simp [maskOf]
  have hedl : (⟨#[46]⟩ ++ d : ByteArray).size ≤ 4 := by
    rw [← size_toList, Go.Joins.data_append, List.length_append, size_toList]; show 1 + _ ≤ 4; rw [size_toList]; omega
  have HI := Lib.hid (fun w (h : Tab w) => Itoa_any n w (by omega) h)
  rw [← hd] at HI
  rw [← ha, ← hb, ← hc] at hpv
  have HV := Lib.hid hpv
  have HF := Lib.hid hfin
  have hssz : (⟨(starsL b.size).toArray⟩ : ByteArray).size ≤ 9 := by rw [len_str]; simp [starsL]; exact hbsz
  clear hpv h1 hm p1 p2 p3 p4 p5 ha hb hc hd hfin hnot q1 q2 q3 htt htd hn hdl
  go_enter Tryd.func19, Tryd.ntmps19
  go_wp2_with fail
  refine (cut_any s _ hs).mono ?_
  rw [HN.out]
  rintro e w1 ⟨rfl, hb1⟩
  go_wp2_with fail
  refine (Split_any s _ hs ((ht.below hb1).below ((Below.refl _ _).alloc (Nat.le_refl _) _))).mono ?_
  rw [HS.out]
  rintro e w2 ⟨rfl, hb2⟩
  have hs2 := (box_cells hb2).1
  have HB2 := Lib.hid hb2
  have hb12 := thenB hb1 (thenB ((Below.refl _ _).alloc (Nat.le_refl _) _) hb2)
  clear hb2
  go_wp2_with fail
  refine (cut_any t _ hts).mono ?_
  rw [HV.out]
  rintro e w3 ⟨rfl, hb3⟩
  have hb13 := thenB hb12 hb3
  have HB3 := Lib.hid (HB2.out.trans (hb3.mono HB2.out.size))
  clear hb3
  go_wp2_with fail
  refine (HI.out _ (ht.below hb13)).mono ?_
  rintro e w4 ⟨rfl, hb4⟩
  have hb14 := thenB hb13 hb4
  have HB4 := Lib.hid (HB3.out.trans (hb4.mono HB3.out.size))
  obtain ⟨hs4, c0, c1, c2, f0, f1, f2⟩ := box_cells HB4.out
  clear hb4
  go_wp2_with fail
  have HW5 := Lib.hid (box_set (.string a) (.string b) (.string c) c0 c1 c2)
  have hb15 : Below w.heap.size w (((w4.setCell ⟨w1.heap.size, 0, none⟩ (.string a)).setCell ⟨w1.heap.size, 1, none⟩ (.string b)).setCell ⟨w1.heap.size, 2, none⟩ (.string c)) := ((hb14.setCell (by have := hb1.size; exact this) _).setCell (by have := hb1.size; exact this) _).setCell (by have := hb1.size; exact this) _
  have hs5 : w1.heap.size < (((w4.setCell ⟨w1.heap.size, 0, none⟩ (.string a)).setCell ⟨w1.heap.size, 1, none⟩ (.string b)).setCell ⟨w1.heap.size, 2, none⟩ (.string c)).heap.size := by simp; exact hs4
  generalize (((w4.setCell ⟨w1.heap.size, 0, none⟩ (.string a)).setCell ⟨w1.heap.size, 1, none⟩ (.string b)).setCell ⟨w1.heap.size, 2, none⟩ (.string c)) = w5 at HW5 hb15 hs5 ⊢
  obtain ⟨e0, e1, e2⟩ := HW5.out
  clear HW5 c0 c1 c2 f0 f1 f2 HB2 HB3 HB4
  rw [← HV.out]
  refine (HSH.out _).mono ?_
  rintro e w6 ⟨rfl, hb6⟩
  have d0 := (hb6.cell (p := ⟨w1.heap.size, 0, none⟩) hs5).trans e0
  have d1 := (hb6.cell (p := ⟨w1.heap.size, 1, none⟩) hs5).trans e1
  have d2 := (hb6.cell (p := ⟨w1.heap.size, 2, none⟩) hs5).trans e2
  have hs6 : w1.heap.size < w6.heap.size := by have := hb6.size; omega
  have hb16 := thenB hb15 hb6
  clear e0 e1 e2 hb6
  go_wp2_with fail
  generalize hst : (⟨(starsL b.size).toArray⟩ : ByteArray) = st at HF hssz
  have HST := Lib.hid (fun w => stars_any b.size w (by omega))
  rw [hst] at HST
  clear hst
  generalize (⟨#[46]⟩ ++ d : ByteArray) = en at hedl HF ⊢
  have n1 : ¬ 9223372036854775807 < a.size + st.size := by omega
  have n2 : ¬ 9223372036854775807 < a.size + st.size + c.size := by omega
  have n3 : ¬ 9223372036854775807 < a.size + st.size + c.size + en.size := by omega
  go_region_held3 (fun w' => w'.cell? ⟨w1.heap.size, 0, none⟩ = some (.string a) ∧ w'.cell? ⟨w1.heap.size, 1, none⟩ = some (.string b) ∧ w'.cell? ⟨w1.heap.size, 2, none⟩ = some (.string c))
    (go_keep)
    (first
      | (go_at_call 45; refine (HST.out _).mono ?_; rintro e w7 ⟨rfl, hb7⟩; have k0 := (hb7.cell (p := ⟨w1.heap.size, 0, none⟩) (by simp; omega)).trans d0; have k1 := (hb7.cell (p := ⟨w1.heap.size, 1, none⟩) (by simp; omega)).trans d1; have k2 := (hb7.cell (p := ⟨w1.heap.size, 2, none⟩) (by simp; omega)).trans d2; have HB7 := Lib.hid hb7; clear hb7))
  go_wp2_with fail
  go_ret
  exact ⟨by rw [← HF.out]; rfl, hb16.drew.trans (HB7.out.mono (by simp; exact hb16.size))⟩
theorem Mask_any (s : ByteArray) (w : World) (hs : s.size ≤ maxLen) (ht : Tab w) :
    Calls Tryd.prog 19 #[.string s] w fun e w' => e = .returned (.string ⟨(maskS s.data.toList).toArray⟩) ∧ Below w.heap.size w w' := by
  cases h1 : shapedB s.data.toList with
  | true => exact Mask_shaped s w hs ht h1
  | false =>
    cases h2 : splitOk s.data.toList with
    | true => exact Mask_split s w hs ht h2
    | false => exact Mask_none s w hs ht h1 h2
end Go.Proofs.YtnhcabcpdlgdaaaDoor
