/- THE WALKS of pan: cutting, shaped texts, card numbers. -/
import Derived.Test.YtnhcabcpdlgdaaaDoorDigRPack
import Derived.Test.YtnhcabcpdlgdaaaDoorDigRNum
import Derived.Test.YtnhcabcpdlgdaaaDoorPanP
import Derived.Lib.Strings
import Derived.Lib.IndexBytes
namespace Go.Proofs.YtnhcabcpdlgdaaaDoor
open Go.RowKit

/-- A shaped text's parts, as a value. -/
def partsV (l : List UInt8) : Value := .agg #[.string ⟨(binP l).toArray⟩, .string ⟨(midP l).toArray⟩, .string ⟨(lastP l).toArray⟩]
theorem partsV_no {l : List UInt8} (h : shapedB l = false) : partsV l = .agg #[.string ⟨#[]⟩, .string ⟨#[]⟩, .string ⟨#[]⟩] := by
  unfold partsV; rw [binP_no h, midP_no h, lastP_no h]
theorem sub_str (s : ByteArray) (a b : Nat) (l : List UInt8) (h : (s.data.toList.drop a).take (b - a) = l) : s.extract a b = ⟨l.toArray⟩ := by
  have e := str_is (s.extract a b)
  rw [Lib.extract_data, h] at e
  exact e
theorem partsV_yes {s : ByteArray} (h : shapedB s.data.toList = true) : partsV s.data.toList = .agg #[.string (s.extract 0 6), .string (s.extract 6 (s.size - 4)), .string (s.extract (s.size - 4) s.size)] := by
  obtain ⟨_, h1, h2⟩ := shapedB_iff.1 h
  have hl : s.data.toList.length = s.size := size_toList s
  unfold partsV
  rw [sub_str s 0 6 (binP s.data.toList) (by rw [binP_yes h]; rfl), sub_str s 6 (s.size - 4) (midP s.data.toList) (by rw [midP_yes h, hl, Nat.sub_sub]),
    sub_str s (s.size - 4) s.size (lastP s.data.toList) (by rw [lastP_yes h, hl, List.take_of_length_le (by simp)])]

set_option maxHeartbeats 1000000 in
theorem cut_yes (s : ByteArray) (w : World) (hs : s.size ≤ maxLen) (h : shapedB s.data.toList = true) :
    Calls Tryd.prog 39 #[.string s] w fun e w' => e = .returned (partsV s.data.toList) ∧ Below w.heap.size w w' := by
  have HV := Lib.hid (partsV_yes h)
  obtain ⟨h0, h1, h2⟩ := shapedB_iff.1 h
  rw [size_toList] at h1 h2
  have HE := Lib.hid h0
  have h1' : (16 : Int) ≤ s.size := by omega
  have h2' : (s.size : Int) ≤ 19 := by omega
  clear h h0
  go_enter Tryd.func39, Tryd.ntmps39
  go_wp2_with fail
  refine (Pack_any s _ hs).mono ?_
  rw [HE.out]
  rintro e w1 ⟨A, n, c, rfl, -, hb1⟩
  have hs1 : w.heap.size < w1.heap.size := by have := hb1.size; simp at this; omega
  have c0 := (hb1.cell (p := ⟨w.heap.size, 0, none⟩) (by simp)).trans (cell?_new _ _ _ _)
  have c1 := (hb1.cell (p := ⟨w.heap.size, 1, none⟩) (by simp)).trans (cell?_new _ _ _ _)
  have c2 := (hb1.cell (p := ⟨w.heap.size, 2, none⟩) (by simp)).trans (cell?_new _ _ _ _)
  have f0 := (hb1.frozen (p := ⟨w.heap.size, 0, none⟩) (by simp)).trans (frozen?_new _ _ _ _)
  have f1 := (hb1.frozen (p := ⟨w.heap.size, 1, none⟩) (by simp)).trans (frozen?_new _ _ _ _)
  have f2 := (hb1.frozen (p := ⟨w.heap.size, 2, none⟩) (by simp)).trans (frozen?_new _ _ _ _)
  simp at c0 c1 c2
  go_wp2_with fail
  go_region
  go_wp2_with fail
  refine bodyPost_ret (v := .agg #[.string (s.extract 0 6), .string (s.extract 6 (s.size - 4)), .string (s.extract (s.size - 4) s.size)]) (by simp [results, Tryd.results39, go_sem, c0, c1, c2]) rfl ⟨by rw [HV.out], ?_⟩
  exact ((((((Below.refl _ _).alloc (Nat.le_refl _) _).trans (hb1.mono (by simp))).setCell (Nat.le_refl _) _).setCell (Nat.le_refl _) _).setCell (Nat.le_refl _) _).drew

theorem shapedB_long {l : List UInt8} (h : shapedB l = false) (h0 : lookE l = 0) : l.length < 16 ∨ 19 < l.length := by
  by_cases h1 : 16 ≤ l.length ∧ l.length ≤ 19
  · rw [shapedB_iff.2 ⟨h0, h1⟩] at h; cases h
  · omega
set_option maxHeartbeats 1000000 in
theorem cut_no (s : ByteArray) (w : World) (hs : s.size ≤ maxLen) (h : shapedB s.data.toList = false) :
    Calls Tryd.prog 39 #[.string s] w fun e w' => e = .returned (partsV s.data.toList) ∧ Below w.heap.size w w' := by
  have HV := Lib.hid (partsV_no h)
  by_cases h0 : lookE s.data.toList = 0
  · have HE := Lib.hid h0
    rcases shapedB_long h h0 with hl | hl
    · rw [size_toList] at hl
      have hl' : (s.size : Int) < 16 := by omega
      clear h h0
      go_enter Tryd.func39, Tryd.ntmps39
      go_wp2_with fail
      refine (Pack_any s _ hs).mono ?_
      rw [HE.out]
      rintro e w1 ⟨A, n, c, rfl, -, hb1⟩
      have hs1 : w.heap.size < w1.heap.size := by have := hb1.size; simp at this; omega
      have c0 := (hb1.cell (p := ⟨w.heap.size, 0, none⟩) (by simp)).trans (cell?_new _ _ _ _)
      have c1 := (hb1.cell (p := ⟨w.heap.size, 1, none⟩) (by simp)).trans (cell?_new _ _ _ _)
      have c2 := (hb1.cell (p := ⟨w.heap.size, 2, none⟩) (by simp)).trans (cell?_new _ _ _ _)
      have f0 := (hb1.frozen (p := ⟨w.heap.size, 0, none⟩) (by simp)).trans (frozen?_new _ _ _ _)
      have f1 := (hb1.frozen (p := ⟨w.heap.size, 1, none⟩) (by simp)).trans (frozen?_new _ _ _ _)
      have f2 := (hb1.frozen (p := ⟨w.heap.size, 2, none⟩) (by simp)).trans (frozen?_new _ _ _ _)
      simp at c0 c1 c2
      go_wp2_with fail
      refine bodyPost_ret (v := .agg #[.string ⟨#[]⟩, .string ⟨#[]⟩, .string ⟨#[]⟩]) (by simp [results, Tryd.results39, go_sem, c0, c1, c2]) rfl ⟨by rw [HV.out], ?_⟩
      exact (((((Below.refl _ _).alloc (Nat.le_refl _) _).trans (hb1.mono (by simp))).setCell (Nat.le_refl _) _).setCell (Nat.le_refl _) _).setCell (Nat.le_refl _) _
    · rw [size_toList] at hl
      have hl' : (19 : Int) < s.size := by omega
      clear h h0
      go_enter Tryd.func39, Tryd.ntmps39
      go_wp2_with fail
      refine (Pack_any s _ hs).mono ?_
      rw [HE.out]
      rintro e w1 ⟨A, n, c, rfl, -, hb1⟩
      have hs1 : w.heap.size < w1.heap.size := by have := hb1.size; simp at this; omega
      have c0 := (hb1.cell (p := ⟨w.heap.size, 0, none⟩) (by simp)).trans (cell?_new _ _ _ _)
      have c1 := (hb1.cell (p := ⟨w.heap.size, 1, none⟩) (by simp)).trans (cell?_new _ _ _ _)
      have c2 := (hb1.cell (p := ⟨w.heap.size, 2, none⟩) (by simp)).trans (cell?_new _ _ _ _)
      have f0 := (hb1.frozen (p := ⟨w.heap.size, 0, none⟩) (by simp)).trans (frozen?_new _ _ _ _)
      have f1 := (hb1.frozen (p := ⟨w.heap.size, 1, none⟩) (by simp)).trans (frozen?_new _ _ _ _)
      have f2 := (hb1.frozen (p := ⟨w.heap.size, 2, none⟩) (by simp)).trans (frozen?_new _ _ _ _)
      simp at c0 c1 c2
      go_wp2_with fail
      refine bodyPost_ret (v := .agg #[.string ⟨#[]⟩, .string ⟨#[]⟩, .string ⟨#[]⟩]) (by simp [results, Tryd.results39, go_sem, c0, c1, c2]) rfl ⟨by rw [HV.out], ?_⟩
      exact (((((Below.refl _ _).alloc (Nat.le_refl _) _).trans (hb1.mono (by simp))).setCell (Nat.le_refl _) _).setCell (Nat.le_refl _) _).setCell (Nat.le_refl _) _
  · generalize hh : lookE s.data.toList = er at h0
    have HE := Lib.hid hh
    have hne : (er != 0) = true := by simpa using h0
    clear h hh
    go_enter Tryd.func39, Tryd.ntmps39
    go_wp2_with fail
    refine (Pack_any s _ hs).mono ?_
    rw [HE.out]
    rintro e w1 ⟨A, n, c, rfl, -, hb1⟩
    have hs1 : w.heap.size < w1.heap.size := by have := hb1.size; simp at this; omega
    have c0 := (hb1.cell (p := ⟨w.heap.size, 0, none⟩) (by simp)).trans (cell?_new _ _ _ _)
    have c1 := (hb1.cell (p := ⟨w.heap.size, 1, none⟩) (by simp)).trans (cell?_new _ _ _ _)
    have c2 := (hb1.cell (p := ⟨w.heap.size, 2, none⟩) (by simp)).trans (cell?_new _ _ _ _)
    have f0 := (hb1.frozen (p := ⟨w.heap.size, 0, none⟩) (by simp)).trans (frozen?_new _ _ _ _)
    have f1 := (hb1.frozen (p := ⟨w.heap.size, 1, none⟩) (by simp)).trans (frozen?_new _ _ _ _)
    have f2 := (hb1.frozen (p := ⟨w.heap.size, 2, none⟩) (by simp)).trans (frozen?_new _ _ _ _)
    simp at c0 c1 c2
    go_wp2_with fail
    refine bodyPost_ret (v := .agg #[.string ⟨#[]⟩, .string ⟨#[]⟩, .string ⟨#[]⟩]) (by simp [results, Tryd.results39, go_sem, c0, c1, c2]) rfl ⟨by rw [HV.out], ?_⟩
    exact (((((Below.refl _ _).alloc (Nat.le_refl _) _).trans (hb1.mono (by simp))).setCell (Nat.le_refl _) _).setCell (Nat.le_refl _) _).setCell (Nat.le_refl _) _
theorem cut_any (s : ByteArray) (w : World) (hs : s.size ≤ maxLen) : Calls Tryd.prog 39 #[.string s] w fun e w' => e = .returned (partsV s.data.toList) ∧ Below w.heap.size w w' := by
  cases h : shapedB s.data.toList with
  | true => exact cut_yes s w hs h
  | false => exact cut_no s w hs h

theorem shaped_none (w : World) : Calls Tryd.prog 40 #[.agg #[.string ⟨#[]⟩, .string ⟨#[]⟩, .string ⟨#[]⟩]] w fun e w' => e = .returned (.bool false) ∧ Below w.heap.size w w' := by
  go_enter Tryd.func40, Tryd.ntmps40
  go_wp2_with fail
  go_ret
  exact ⟨rfl, (Below.refl _ _).alloc (Nat.le_refl _) _⟩
theorem shaped_some (a b c : ByteArray) (w : World) (h : a.toList.isEmpty = false) : Calls Tryd.prog 40 #[.agg #[.string a, .string b, .string c]] w fun e w' => e = .returned (.bool true) ∧ Below w.heap.size w w' := by
  go_enter Tryd.func40, Tryd.ntmps40
  go_wp2_with fail
  go_ret
  exact ⟨rfl, (Below.refl _ _).alloc (Nat.le_refl _) _⟩
theorem shaped_any (l : List UInt8) (w : World) : Calls Tryd.prog 40 #[partsV l] w fun e w' => e = .returned (.bool (shapedB l)) ∧ Below w.heap.size w w' := by
  cases h : shapedB l with
  | false => rw [partsV_no h]; exact shaped_none w
  | true =>
    refine shaped_some _ _ _ w ?_
    rw [Lib.toList_data]
    have := (parts_len h).1
    show (binP l).isEmpty = false
    cases e : binP l with
    | nil => rw [e] at this; cases this
    | cons _ _ => rfl

theorem Is_any (s : ByteArray) (w : World) (hs : s.size ≤ maxLen) : Calls Tryd.prog 17 #[.string s] w fun e w' => e = .returned (.bool (panB s.data.toList)) ∧ Below w.heap.size w w' := by
  cases h : shapedB s.data.toList with
  | false =>
    have HE := Lib.hid (show panB s.data.toList = false by unfold panB; rw [h]; rfl)
    go_enter Tryd.func17, Tryd.ntmps17
    go_wp2_with fail
    refine (cut_any s _ hs).mono ?_
    rintro e w1 ⟨rfl, hb1⟩
    generalize hv : partsV s.data.toList = v
    have HV := Lib.hid hv
    clear hv
    go_wp2_with fail
    rw [← HV.out]
    refine (shaped_any _ _).mono ?_
    rw [h]
    rintro e w2 ⟨rfl, hb2⟩
    go_wp2_with fail
    go_ret
    exact ⟨by rw [HE.out]; rfl, thenB hb1 hb2⟩
  | true =>
    have HE := Lib.hid (show panB s.data.toList = validB s.data.toList by unfold panB; rw [h]; rfl)
    go_enter Tryd.func17, Tryd.ntmps17
    go_wp2_with fail
    refine (cut_any s _ hs).mono ?_
    rintro e w1 ⟨rfl, hb1⟩
    generalize hv : partsV s.data.toList = v
    have HV := Lib.hid hv
    clear hv
    go_wp2_with fail
    rw [← HV.out]
    refine (shaped_any _ _).mono ?_
    rw [h]
    rintro e w2 ⟨rfl, hb2⟩
    go_wp2_with fail
    refine (Valid_any s _ hs).mono ?_
    rintro e w3 ⟨rfl, hb3⟩
    rw [← HE.out]
    generalize hq : panB s.data.toList = q
    have HQ := Lib.hid hq
    clear hq
    go_wp2_with fail
    go_ret
    exact ⟨by rw [HQ.out]; rfl, thenB hb1 (thenB hb2 hb3)⟩
end Go.Proofs.YtnhcabcpdlgdaaaDoor
