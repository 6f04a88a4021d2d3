/- THE WALKS of pan: cutting, shaped texts, card numbers. THE WALKS of pan: the parts, stars, tokens. THE WALKS of pan: splitting tokens, masks. THE WALK of pan.Mask. THE WALKS of pan's reference: shaped texts, cutting, tokens. -/
import Derived.Test.YtogpnlfbdhddmaaGreatDoorGDig
import Derived.Test.YtogpnlfbdhddmaaGreatDoorGPlain
import Derived.Lib.Strings
import Derived.Lib.IndexBytes
import Derived.Test.YtogpnlfbdhddmaaGreatDoorGKeys
import Derived.Deep.RegionHeld3
import Derived.Test.YtogpnlfbdhddmaaGreatDoorGMem
import Derived.Lib.ItoaLen
namespace Go.Proofs.YtogpnlfbdhddmaaGreatDoor
open Go.RowKit

/-- A shaped text's parts, as a value. -/
def partsV (l : List UInt8) : Value := .agg #[.string ⟨(binP l).toArray⟩, .string ⟨(midP l).toArray⟩, .string ⟨(lastP l).toArray⟩]
theorem partsV_no {l : List UInt8} (h : shapedB l = false) : partsV l = .agg #[.string ⟨#[]⟩, .string ⟨#[]⟩, .string ⟨#[]⟩] := by
  unfold partsV; rw [binP_no h, midP_no h, lastP_no h]
theorem sub_str (s : ByteArray) (a b : Nat) (l : List UInt8) (h : (s.data.toList.drop a).take (b - a) = l) : s.extract a b = ⟨l.toArray⟩ := by
  have e := str_is (s.extract a b)
  rw [Lib.extract_data, h] at e
  exact e
theorem partsV_yes {s : ByteArray} (h : shapedB s.data.toList = true) : partsV s.data.toList = .agg #[.string (s.extract 0 6), .string (s.extract 6 (s.size - 4)), .string (s.extract (s.size - 4) s.size)] := by
  obtain ⟨_, h1, h2⟩ := shapedB_iff.1 h
  have hl : s.data.toList.length = s.size := size_toList s
  unfold partsV
  rw [sub_str s 0 6 (binP s.data.toList) (by rw [binP_yes h]; rfl), sub_str s 6 (s.size - 4) (midP s.data.toList) (by rw [midP_yes h, hl, Nat.sub_sub]),
    sub_str s (s.size - 4) s.size (lastP s.data.toList) (by rw [lastP_yes h, hl, List.take_of_length_le (by simp)])]

set_option maxHeartbeats 1000000 in
theorem cut_yes (s : ByteArray) (w : World) (hs : s.size ≤ maxLen) (h : shapedB s.data.toList = true) :
    Calls Tryz.prog 36 #[.string s] w fun e w' => e = .returned (partsV s.data.toList) ∧ Below w.heap.size w w' := by
  have HV := Lib.hid (partsV_yes h)
  obtain ⟨h0, h1, h2⟩ := shapedB_iff.1 h
  rw [size_toList] at h1 h2
  have HE := Lib.hid h0
  have h1' : (16 : Int) ≤ s.size := by omega
  have h2' : (s.size : Int) ≤ 19 := by omega
  clear h h0
  go_enter Tryz.func36, Tryz.ntmps36
  go_wp2_with fail
  refine (Pack_any s _ hs).mono ?_
  rw [HE.out]
  rintro e w1 ⟨A, n, c, rfl, -, hb1⟩
  have hs1 : w.heap.size < w1.heap.size := by have := hb1.size; simp at this; omega
  have c0 := (hb1.cell (p := ⟨w.heap.size, 0, none⟩) (by simp)).trans (cell?_new _ _ _ _)
  have c1 := (hb1.cell (p := ⟨w.heap.size, 1, none⟩) (by simp)).trans (cell?_new _ _ _ _)
  have c2 := (hb1.cell (p := ⟨w.heap.size, 2, none⟩) (by simp)).trans (cell?_new _ _ _ _)
  have f0 := (hb1.frozen (p := ⟨w.heap.size, 0, none⟩) (by simp)).trans (frozen?_new _ _ _ _)
  have f1 := (hb1.frozen (p := ⟨w.heap.size, 1, none⟩) (by simp)).trans (frozen?_new _ _ _ _)
  have f2 := (hb1.frozen (p := ⟨w.heap.size, 2, none⟩) (by simp)).trans (frozen?_new _ _ _ _)
  simp at c0 c1 c2
  go_wp2_with fail
  go_region
  go_wp2_with fail
  refine bodyPost_ret (v := .agg #[.string (s.extract 0 6), .string (s.extract 6 (s.size - 4)), .string (s.extract (s.size - 4) s.size)]) (by simp [results, Tryz.results36, go_sem, c0, c1, c2]) rfl ⟨by rw [HV.out], ?_⟩
  exact ((((((Below.refl _ _).alloc (Nat.le_refl _) _).trans (hb1.mono (by simp))).setCell (Nat.le_refl _) _).setCell (Nat.le_refl _) _).setCell (Nat.le_refl _) _).drew

theorem shapedB_long {l : List UInt8} (h : shapedB l = false) (h0 : lookE l = 0) : l.length < 16 ∨ 19 < l.length := by
  by_cases h1 : 16 ≤ l.length ∧ l.length ≤ 19
  · rw [shapedB_iff.2 ⟨h0, h1⟩] at h; cases h
  · omega
set_option maxHeartbeats 1000000 in
theorem cut_no (s : ByteArray) (w : World) (hs : s.size ≤ maxLen) (h : shapedB s.data.toList = false) :
    Calls Tryz.prog 36 #[.string s] w fun e w' => e = .returned (partsV s.data.toList) ∧ Below w.heap.size w w' := by
  have HV := Lib.hid (partsV_no h)
  by_cases h0 : lookE s.data.toList = 0
  · have HE := Lib.hid h0
    rcases shapedB_long h h0 with hl | hl
    · rw [size_toList] at hl
      have hl' : (s.size : Int) < 16 := by omega
      clear h h0
      go_enter Tryz.func36, Tryz.ntmps36
      go_wp2_with fail
      refine (Pack_any s _ hs).mono ?_
      rw [HE.out]
      rintro e w1 ⟨A, n, c, rfl, -, hb1⟩
      have hs1 : w.heap.size < w1.heap.size := by have := hb1.size; simp at this; omega
      have c0 := (hb1.cell (p := ⟨w.heap.size, 0, none⟩) (by simp)).trans (cell?_new _ _ _ _)
      have c1 := (hb1.cell (p := ⟨w.heap.size, 1, none⟩) (by simp)).trans (cell?_new _ _ _ _)
      have c2 := (hb1.cell (p := ⟨w.heap.size, 2, none⟩) (by simp)).trans (cell?_new _ _ _ _)
      have f0 := (hb1.frozen (p := ⟨w.heap.size, 0, none⟩) (by simp)).trans (frozen?_new _ _ _ _)
      have f1 := (hb1.frozen (p := ⟨w.heap.size, 1, none⟩) (by simp)).trans (frozen?_new _ _ _ _)
      have f2 := (hb1.frozen (p := ⟨w.heap.size, 2, none⟩) (by simp)).trans (frozen?_new _ _ _ _)
      simp at c0 c1 c2
      go_wp2_with fail
      refine bodyPost_ret (v := .agg #[.string ⟨#[]⟩, .string ⟨#[]⟩, .string ⟨#[]⟩]) (by simp [results, Tryz.results36, go_sem, c0, c1, c2]) rfl ⟨by rw [HV.out], ?_⟩
      exact (((((Below.refl _ _).alloc (Nat.le_refl _) _).trans (hb1.mono (by simp))).setCell (Nat.le_refl _) _).setCell (Nat.le_refl _) _).setCell (Nat.le_refl _) _
    · rw [size_toList] at hl
      have hl' : (19 : Int) < s.size := by omega
      clear h h0
      go_enter Tryz.func36, Tryz.ntmps36
      go_wp2_with fail
      refine (Pack_any s _ hs).mono ?_
      rw [HE.out]
      rintro e w1 ⟨A, n, c, rfl, -, hb1⟩
      have hs1 : w.heap.size < w1.heap.size := by have := hb1.size; simp at this; omega
      have c0 := (hb1.cell (p := ⟨w.heap.size, 0, none⟩) (by simp)).trans (cell?_new _ _ _ _)
      have c1 := (hb1.cell (p := ⟨w.heap.size, 1, none⟩) (by simp)).trans (cell?_new _ _ _ _)
      have c2 := (hb1.cell (p := ⟨w.heap.size, 2, none⟩) (by simp)).trans (cell?_new _ _ _ _)
      have f0 := (hb1.frozen (p := ⟨w.heap.size, 0, none⟩) (by simp)).trans (frozen?_new _ _ _ _)
      have f1 := (hb1.frozen (p := ⟨w.heap.size, 1, none⟩) (by simp)).trans (frozen?_new _ _ _ _)
      have f2 := (hb1.frozen (p := ⟨w.heap.size, 2, none⟩) (by simp)).trans (frozen?_new _ _ _ _)
      simp at c0 c1 c2
      go_wp2_with fail
      refine bodyPost_ret (v := .agg #[.string ⟨#[]⟩, .string ⟨#[]⟩, .string ⟨#[]⟩]) (by simp [results, Tryz.results36, go_sem, c0, c1, c2]) rfl ⟨by rw [HV.out], ?_⟩
      exact (((((Below.refl _ _).alloc (Nat.le_refl _) _).trans (hb1.mono (by simp))).setCell (Nat.le_refl _) _).setCell (Nat.le_refl _) _).setCell (Nat.le_refl _) _
  · generalize hh : lookE s.data.toList = er at h0
    have HE := Lib.hid hh
    have hne : (er != 0) = true := by simpa using h0
    clear h hh
    go_enter Tryz.func36, Tryz.ntmps36
    go_wp2_with fail
    refine (Pack_any s _ hs).mono ?_
    rw [HE.out]
    rintro e w1 ⟨A, n, c, rfl, -, hb1⟩
    have hs1 : w.heap.size < w1.heap.size := by have := hb1.size; simp at this; omega
    have c0 := (hb1.cell (p := ⟨w.heap.size, 0, none⟩) (by simp)).trans (cell?_new _ _ _ _)
    have c1 := (hb1.cell (p := ⟨w.heap.size, 1, none⟩) (by simp)).trans (cell?_new _ _ _ _)
    have c2 := (hb1.cell (p := ⟨w.heap.size, 2, none⟩) (by simp)).trans (cell?_new _ _ _ _)
    have f0 := (hb1.frozen (p := ⟨w.heap.size, 0, none⟩) (by simp)).trans (frozen?_new _ _ _ _)
    have f1 := (hb1.frozen (p := ⟨w.heap.size, 1, none⟩) (by simp)).trans (frozen?_new _ _ _ _)
    have f2 := (hb1.frozen (p := ⟨w.heap.size, 2, none⟩) (by simp)).trans (frozen?_new _ _ _ _)
    simp at c0 c1 c2
    go_wp2_with fail
    refine bodyPost_ret (v := .agg #[.string ⟨#[]⟩, .string ⟨#[]⟩, .string ⟨#[]⟩]) (by simp [results, Tryz.results36, go_sem, c0, c1, c2]) rfl ⟨by rw [HV.out], ?_⟩
    exact (((((Below.refl _ _).alloc (Nat.le_refl _) _).trans (hb1.mono (by simp))).setCell (Nat.le_refl _) _).setCell (Nat.le_refl _) _).setCell (Nat.le_refl _) _
theorem cut_any (s : ByteArray) (w : World) (hs : s.size ≤ maxLen) : Calls Tryz.prog 36 #[.string s] w fun e w' => e = .returned (partsV s.data.toList) ∧ Below w.heap.size w w' := by
  cases h : shapedB s.data.toList with
  | true => exact cut_yes s w hs h
  | false => exact cut_no s w hs h

theorem shaped_none (w : World) : Calls Tryz.prog 37 #[.agg #[.string ⟨#[]⟩, .string ⟨#[]⟩, .string ⟨#[]⟩]] w fun e w' => e = .returned (.bool false) ∧ Below w.heap.size w w' := by
  go_enter Tryz.func37, Tryz.ntmps37
  go_wp2_with fail
  go_ret
  exact ⟨rfl, (Below.refl _ _).alloc (Nat.le_refl _) _⟩
theorem shaped_some (a b c : ByteArray) (w : World) (h : a.toList.isEmpty = false) : Calls Tryz.prog 37 #[.agg #[.string a, .string b, .string c]] w fun e w' => e = .returned (.bool true) ∧ Below w.heap.size w w' := by
  go_enter Tryz.func37, Tryz.ntmps37
  go_wp2_with fail
  go_ret
  exact ⟨rfl, (Below.refl _ _).alloc (Nat.le_refl _) _⟩
theorem shaped_any (l : List UInt8) (w : World) : Calls Tryz.prog 37 #[partsV l] w fun e w' => e = .returned (.bool (shapedB l)) ∧ Below w.heap.size w w' := by
  cases h : shapedB l with
  | false => rw [partsV_no h]; exact shaped_none w
  | true =>
    refine shaped_some _ _ _ w ?_
    rw [Lib.toList_data]
    have := (parts_len h).1
    show (binP l).isEmpty = false
    cases e : binP l with
    | nil => rw [e] at this; cases this
    | cons _ _ => rfl

theorem Is_any (s : ByteArray) (w : World) (hs : s.size ≤ maxLen) : Calls Tryz.prog 13 #[.string s] w fun e w' => e = .returned (.bool (panB s.data.toList)) ∧ Below w.heap.size w w' := by
  cases h : shapedB s.data.toList with
  | false =>
    have HE := Lib.hid (show panB s.data.toList = false by unfold panB; rw [h]; rfl)
    go_enter Tryz.func13, Tryz.ntmps13
    go_wp2_with fail
    refine (cut_any s _ hs).mono ?_
    rintro e w1 ⟨rfl, hb1⟩
    generalize hv : partsV s.data.toList = v
    have HV := Lib.hid hv
    clear hv
    go_wp2_with fail
    rw [← HV.out]
    refine (shaped_any _ _).mono ?_
    rw [h]
    rintro e w2 ⟨rfl, hb2⟩
    go_wp2_with fail
    go_ret
    exact ⟨by rw [HE.out]; rfl, thenB hb1 hb2⟩
  | true =>
    have HE := Lib.hid (show panB s.data.toList = validB s.data.toList by unfold panB; rw [h]; rfl)
    go_enter Tryz.func13, Tryz.ntmps13
    go_wp2_with fail
    refine (cut_any s _ hs).mono ?_
    rintro e w1 ⟨rfl, hb1⟩
    generalize hv : partsV s.data.toList = v
    have HV := Lib.hid hv
    clear hv
    go_wp2_with fail
    rw [← HV.out]
    refine (shaped_any _ _).mono ?_
    rw [h]
    rintro e w2 ⟨rfl, hb2⟩
    go_wp2_with fail
    refine (Valid_any s _ hs).mono ?_
    rintro e w3 ⟨rfl, hb3⟩
    rw [← HE.out]
    generalize hq : panB s.data.toList = q
    have HQ := Lib.hid hq
    clear hq
    go_wp2_with fail
    go_ret
    exact ⟨by rw [HQ.out]; rfl, thenB hb1 (thenB hb2 hb3)⟩
end Go.Proofs.YtogpnlfbdhddmaaGreatDoor
namespace Go.Proofs.YtogpnlfbdhddmaaGreatDoor
open Go.RowKit

theorem repeat_star (n : Nat) : Lib.repeatL [42] n = starsL n := by
  induction n with
  | zero => rfl
  | succ n ih => show 42 :: Lib.repeatL [42] n = _; rw [ih]; rfl
theorem stars_any (n : Nat) (w : World) (hn : n ≤ 1000) : Calls Tryz.prog 50 #[.int .i64 n] w fun e w' => e = .returned (.string ⟨(starsL n).toArray⟩) ∧ Below w.heap.size w w' := by
  have hr0 := Tryz.strings_Repeat ⟨#[42]⟩ n w (by omega) (by show 1 * n ≤ _; omega)
  rw [show (⟨#[42]⟩ : ByteArray).data.toList = [42] from rfl, repeat_star] at hr0
  have hr := Lib.hid hr0
  clear hr0
  go_enter Tryz.func50, Tryz.ntmps50
  go_wp2_with fail
  refine hr.out.mono ?_
  rintro e w1 ⟨rfl, hb1⟩
  go_wp2_with fail
  go_ret
  exact ⟨rfl, hb1⟩

/-- What Cut answers. -/
def cutR (l : List UInt8) : Ending := .returned (.tuple #[.string ⟨(binP l).toArray⟩, .string ⟨(midP l).toArray⟩, .string ⟨(lastP l).toArray⟩, .int .i64 (if shapedB l = true then 0 else 10)])
theorem cutR_no {l : List UInt8} (h : shapedB l = false) : cutR l = .returned (.tuple #[.string ⟨#[]⟩, .string ⟨#[]⟩, .string ⟨#[]⟩, .int .i64 10]) := by
  unfold cutR; rw [binP_no h, midP_no h, lastP_no h, if_neg (by rw [h]; decide)]
theorem cutR_yes {l : List UInt8} (h : shapedB l = true) : cutR l = .returned (.tuple #[.string ⟨(binP l).toArray⟩, .string ⟨(midP l).toArray⟩, .string ⟨(lastP l).toArray⟩, .int .i64 0]) := by
  unfold cutR; rw [if_pos h]

set_option maxHeartbeats 1000000 in
theorem Cut_any (s : ByteArray) (w : World) (hs : s.size ≤ maxLen) : Calls Tryz.prog 15 #[.string s] w fun e w' => e = cutR s.data.toList ∧ Below w.heap.size w w' := by
  cases h : shapedB s.data.toList with
  | false =>
    have HE := Lib.hid (cutR_no h)
    have HV := Lib.hid (partsV_no h)
    clear h
    go_enter Tryz.func15, Tryz.ntmps15
    go_wp2_with fail
    refine (cut_any s _ hs).mono ?_
    rw [HV.out]
    rintro e w1 ⟨rfl, hb1⟩
    go_wp2_with fail
    refine (shaped_none _).mono ?_
    rintro e w2 ⟨rfl, hb2⟩
    go_wp2_with fail
    refine bodyPost_ret (v := .tuple #[.string ⟨#[]⟩, .string ⟨#[]⟩, .string ⟨#[]⟩, .int .i64 10]) (by simp [results, Tryz.results15, go_sem]) rfl ⟨HE.out.symm, ?_⟩
    exact thenB hb1 (thenB ((Below.refl _ _).alloc (Nat.le_refl _) _) hb2)
  | true =>
    have HE := Lib.hid (cutR_yes h)
    have HSH := Lib.hid (fun w => (shaped_any s.data.toList w))
    rw [h] at HSH
    have hpv : partsV s.data.toList = .agg #[.string ⟨(binP s.data.toList).toArray⟩, .string ⟨(midP s.data.toList).toArray⟩, .string ⟨(lastP s.data.toList).toArray⟩] := rfl
    generalize (⟨(binP s.data.toList).toArray⟩ : ByteArray) = a at hpv HE
    generalize (⟨(midP s.data.toList).toArray⟩ : ByteArray) = b at hpv HE
    generalize (⟨(lastP s.data.toList).toArray⟩ : ByteArray) = c at hpv HE
    have HV := Lib.hid hpv
    clear hpv h
    go_enter Tryz.func15, Tryz.ntmps15
    go_wp2_with fail
    refine (cut_any s _ hs).mono ?_
    rw [HV.out]
    rintro e w1 ⟨rfl, hb1⟩
    go_wp2_with fail
    rw [← HV.out]
    refine (HSH.out _).mono ?_
    rintro e w2 ⟨rfl, hb2⟩
    have hs2 : w1.heap.size < w2.heap.size := by have := hb2.size; simp at this; omega
    have c0 := (hb2.cell (p := ⟨w1.heap.size, 0, none⟩) (by simp)).trans (cell?_new _ _ _ _)
    have c1 := (hb2.cell (p := ⟨w1.heap.size, 1, none⟩) (by simp)).trans (cell?_new _ _ _ _)
    have c2 := (hb2.cell (p := ⟨w1.heap.size, 2, none⟩) (by simp)).trans (cell?_new _ _ _ _)
    simp at c0 c1 c2
    go_wp2_with fail
    go_region
    go_wp2_with fail
    refine bodyPost_ret (v := .tuple #[.string a, .string b, .string c, .int .i64 0]) (by simp [results, Tryz.results15, go_sem]) rfl ⟨HE.out.symm, ?_⟩
    exact (thenB hb1 (thenB ((Below.refl _ _).alloc (Nat.le_refl _) _) hb2)).drew

/-! ### tokens -/
def tokR (l : List UInt8) (v : Int) : Ending := .returned (.tuple #[.string ⟨(tokS l v).toArray⟩, .int .i64 (tokE l v)])
theorem tokR_shape {l : List UInt8} {v : Int} (h : shapedB l = false) : tokR l v = .returned (.tuple #[.string ⟨#[]⟩, .int .i64 10]) := by
  have e := tokE_shape (v := v) h
  unfold tokR; rw [tokS_no (by rw [e]; decide), e]
theorem tokR_ver {l : List UInt8} {v : Int} (h : shapedB l = true) (hv : ¬ (1 ≤ v ∧ v ≤ 255)) : tokR l v = .returned (.tuple #[.string ⟨#[]⟩, .int .i64 1]) := by
  have e := tokE_ver h hv
  unfold tokR; rw [tokS_no (by rw [e]; decide), e]
theorem tokR_ok {s : ByteArray} {n : Nat} (h : shapedB s.data.toList = true) (hv : 1 ≤ n ∧ n ≤ 255) : tokR s.data.toList n = .returned (.tuple #[.string (s ++ ⟨#[46]⟩ ++ ⟨(dec n).toArray⟩), .int .i64 0]) := by
  have e := tokE_ok (v := (n : Int)) h (by omega)
  unfold tokR; rw [tokS_ok e, e, Int.toNat_natCast]
  have : (⟨(s.data.toList ++ 46 :: dec n).toArray⟩ : ByteArray) = s ++ ⟨#[46]⟩ ++ ⟨(dec n).toArray⟩ := by
    rw [str_is (s ++ ⟨#[46]⟩ ++ ⟨(dec n).toArray⟩), Go.Joins.data_append, Go.Joins.data_append, List.append_assoc]; rfl
  rw [this]

set_option maxHeartbeats 1000000 in
theorem Token_any (s : ByteArray) (v : Int) (w : World) (hs : s.size ≤ maxLen) (ht : Tab w) : Calls Tryz.prog 35 #[.string s, .int .i64 v] w fun e w' => e = tokR s.data.toList v ∧ Below w.heap.size w w' := by
  have HSH := Lib.hid (fun w => (shaped_any s.data.toList w))
  cases h : shapedB s.data.toList with
  | false =>
    rw [h] at HSH
    have HE := Lib.hid (tokR_shape (v := v) h)
    generalize hv : partsV s.data.toList = pv at HSH
    have HV := Lib.hid hv
    clear h hv
    go_enter Tryz.func35, Tryz.ntmps35
    go_wp2_with fail
    refine (cut_any s _ hs).mono ?_
    rw [HV.out]
    rintro e w1 ⟨rfl, hb1⟩
    go_wp2_with fail
    refine (HSH.out _).mono ?_
    rintro e w2 ⟨rfl, hb2⟩
    go_wp2_with fail
    go_ret2
    exact ⟨HE.out.symm, thenB hb1 hb2⟩
  | true =>
    rw [h] at HSH
    have hsz := (shapedB_iff.1 h).2.2
    rw [size_toList] at hsz
    by_cases h1 : v < 1
    · have HE := Lib.hid (tokR_ver (v := v) h (by omega))
      generalize hv : partsV s.data.toList = pv at HSH
      have HV := Lib.hid hv
      clear h hv
      go_enter Tryz.func35, Tryz.ntmps35
      go_wp2_with fail
      refine (cut_any s _ hs).mono ?_
      rw [HV.out]
      rintro e w1 ⟨rfl, hb1⟩
      go_wp2_with fail
      refine (HSH.out _).mono ?_
      rintro e w2 ⟨rfl, hb2⟩
      go_wp2_with fail
      go_ret2
      exact ⟨HE.out.symm, thenB hb1 hb2⟩
    by_cases h2 : 255 < v
    · have HE := Lib.hid (tokR_ver (v := v) h (by omega))
      generalize hv : partsV s.data.toList = pv at HSH
      have HV := Lib.hid hv
      clear h hv
      go_enter Tryz.func35, Tryz.ntmps35
      go_wp2_with fail
      refine (cut_any s _ hs).mono ?_
      rw [HV.out]
      rintro e w1 ⟨rfl, hb1⟩
      go_wp2_with fail
      refine (HSH.out _).mono ?_
      rintro e w2 ⟨rfl, hb2⟩
      go_wp2_with fail
      go_ret2
      exact ⟨HE.out.symm, thenB hb1 hb2⟩
    obtain ⟨n, rfl⟩ : ∃ n : Nat, v = n := ⟨v.toNat, by omega⟩
    have HE := Lib.hid (tokR_ok (n := n) h (by omega))
    have hdl := dec_len (n := n) (by omega)
    generalize hv : partsV s.data.toList = pv at HSH
    have HV := Lib.hid hv
    clear h hv
    go_enter Tryz.func35, Tryz.ntmps35
    go_wp2_with fail
    refine (cut_any s _ hs).mono ?_
    rw [HV.out]
    rintro e w1 ⟨rfl, hb1⟩
    go_wp2_with fail
    refine (HSH.out _).mono ?_
    rintro e w2 ⟨rfl, hb2⟩
    have hb12 := thenB hb1 hb2
    go_wp2_with fail
    refine (Itoa_any n _ (by omega) (ht.below hb12)).mono ?_
    rintro e w3 ⟨rfl, hb3⟩
    have hd2 : (⟨(dec n).toArray⟩ : ByteArray).size ≤ 3 := by show (dec n).toArray.size ≤ 3; simpa using hdl
    generalize (⟨(dec n).toArray⟩ : ByteArray) = d at hd2 HE ⊢
    go_wp2_with fail
    go_ret2
    exact ⟨HE.out.symm, thenB hb12 hb3⟩
end Go.Proofs.YtogpnlfbdhddmaaGreatDoor
namespace Go.Proofs.YtogpnlfbdhddmaaGreatDoor
open Go.RowKit

/-! ### cutting at the first dot -/
theorem index_dot : ∀ (l : List UInt8), (Lib.indexByte l 46 = -1 ∧ beforeDot l = l ∧ afterDot l = []) ∨
    (∃ i : Nat, i < l.length ∧ Lib.indexByte l 46 = i ∧ beforeDot l = l.take i ∧ afterDot l = l.drop (i + 1))
  | [] => .inl ⟨rfl, rfl, rfl⟩
  | c :: l => by
    by_cases hc : c = 46
    · subst hc
      exact .inr ⟨0, by simp, rfl, rfl, rfl⟩
    · have hb : (c == 46) = false := by simpa using hc
      have hn : (c != 46) = true := by simpa using hc
      have e1 : beforeDot (c :: l) = c :: beforeDot l := by simp only [beforeDot]; rw [List.takeWhile_cons_of_pos (p := fun c => c != 46) hn]
      have e2 : afterDot (c :: l) = afterDot l := by simp only [afterDot]; rw [List.dropWhile_cons_of_pos (p := fun c => c != 46) hn]
      have e3 : Lib.indexByte (c :: l) 46 = if Lib.indexByte l 46 == -1 then -1 else Lib.indexByte l 46 + 1 := by
        show (if c == 46 then (0 : Int) else if Lib.indexByte l 46 == -1 then -1 else Lib.indexByte l 46 + 1) = _
        rw [hb]; rfl
      rcases index_dot l with ⟨h1, h2, h3⟩ | ⟨i, h0, h1, h2, h3⟩
      · exact .inl ⟨by rw [e3, h1]; rfl, by rw [e1, h2], by rw [e2, h3]⟩
      · refine .inr ⟨i + 1, by simp; omega, ?_, by rw [e1, h2]; rfl, by rw [e2, h3]; rfl⟩
        rw [e3, h1, if_neg (by simp)]; rfl

/-- What strings.Cut answers at a dot, but for whether there is one. -/
def CutOut (l : List UInt8) (w : World) (e : Ending) (w' : World) : Prop := ∃ q : Bool, e = .returned (.tuple #[.string ⟨(beforeDot l).toArray⟩, .string ⟨(afterDot l).toArray⟩, .bool q]) ∧ Below w.heap.size w w'
set_option maxHeartbeats 1000000 in
theorem liteCut_any (s : ByteArray) (w : World) (hs : s.size ≤ maxLen) : Calls Tryz.prog 69 #[.string s, .string ⟨#[46]⟩] w (CutOut s.data.toList w) := by
  have hix := Tryz.stringslite_Index_one s 46 w
  rcases index_dot s.data.toList with ⟨h1, h2, h3⟩ | ⟨i, h0, h1, h2, h3⟩
  · rw [h1] at hix
    have HIX := Lib.hid hix
    have H2 := Lib.hid h2
    have H3 := Lib.hid h3
    clear hix h1 h2 h3
    go_enter Tryz.func69, Tryz.ntmps69
    go_wp2_with fail
    refine HIX.out.mono ?_
    rintro e w1 ⟨rfl, rfl⟩
    go_wp2_with fail
    refine bodyPost_ret (v := .tuple #[.string s, .string ⟨#[]⟩, .bool false]) (by simp [results, Tryz.results69, go_sem]) rfl ⟨false, ?_, Below.refl _ _⟩
    rw [H2.out, H3.out, ← str_is]
  · rw [h1] at hix
    rw [size_toList] at h0
    have HIX := Lib.hid hix
    have H2 := Lib.hid (sub_str s 0 i (beforeDot s.data.toList) (by rw [h2]; rfl))
    have H3 := Lib.hid (sub_str s (i + 1) s.size (afterDot s.data.toList) (by rw [h3, List.take_of_length_le (by simp)]))
    have hl1 : (⟨#[46]⟩ : ByteArray).size = 1 := rfl
    clear hix h1 h2 h3
    unfold maxLen at hs
    go_enter Tryz.func69, Tryz.ntmps69
    go_wp2_with fail
    refine HIX.out.mono ?_
    rintro e w1 ⟨rfl, rfl⟩
    go_wp2_with fail
    go_region
    go_wp2_with fail
    refine bodyPost_ret (v := .tuple #[.string (s.extract 0 i), .string (s.extract (i + 1) s.size), .bool true]) (by simp [results, Tryz.results69, go_sem]) rfl ⟨true, ?_, (Below.refl _ _).drew⟩
    rw [H2.out, H3.out]
theorem sCut_any (s : ByteArray) (w : World) (hs : s.size ≤ maxLen) : Calls Tryz.prog 39 #[.string s, .string ⟨#[46]⟩] w (CutOut s.data.toList w) := by
  have HC := Lib.hid (liteCut_any s w hs)
  generalize s.data.toList = l at HC
  go_enter Tryz.func39, Tryz.ntmps39
  go_wp2_with fail
  refine HC.out.mono ?_
  rintro e w1 ⟨q, rfl, hb1⟩
  generalize ha : (⟨(beforeDot l).toArray⟩ : ByteArray) = a
  generalize hb : (⟨(afterDot l).toArray⟩ : ByteArray) = b
  have HA := Lib.hid ha
  have HB := Lib.hid hb
  clear ha hb
  go_wp2_with fail
  refine bodyPost_ret (v := .tuple #[.string a, .string b, .bool q]) (by simp [results, Tryz.results39, go_sem]) rfl ⟨q, ?_, hb1⟩
  rw [HA.out, HB.out]

/-! ### Split -/
def splR (l : List UInt8) : Ending := .returned (.tuple #[.string ⟨(splS l).toArray⟩, .int .i64 (splV l), .int .i64 (splE l)])
theorem splR_no {l : List UInt8} (h : splitOk l = false) : splR l = .returned (.tuple #[.string ⟨#[]⟩, .int .i64 0, .int .i64 11]) := by
  obtain ⟨h1, h2, h3⟩ := spl_no h
  unfold splR; rw [h1, h2, h3]
theorem splR_yes {l : List UInt8} (h : splitOk l = true) : splR l = .returned (.tuple #[.string ⟨(beforeDot l).toArray⟩, .int .i64 (numV (afterDot l)), .int .i64 0]) := by
  obtain ⟨h1, h2, h3⟩ := spl_yes h
  unfold splR; rw [h1, h2, h3]
theorem dots_le (l : List UInt8) : (beforeDot l).length ≤ l.length ∧ (afterDot l).length ≤ l.length := by
  constructor
  · exact (List.takeWhile_sublist _).length_le
  · unfold afterDot; rw [List.length_drop]; have := (List.dropWhile_sublist (l := l) (fun c => c != 46)).length_le; omega

set_option maxHeartbeats 2000000 in
theorem Split_any (s : ByteArray) (w : World) (hs : s.size ≤ maxLen) (ht : Tab w) : Calls Tryz.prog 14 #[.string s] w fun e w' => e = splR s.data.toList ∧ Below w.heap.size w w' := by
  obtain ⟨hl1, hl2⟩ := dots_le s.data.toList
  rw [size_toList] at hl1 hl2
  have HC := Lib.hid (sCut_any s w hs)
  unfold CutOut at HC
  obtain ⟨x, hx⟩ : ∃ x : ByteArray, x = ⟨(beforeDot s.data.toList).toArray⟩ := ⟨_, rfl⟩
  obtain ⟨y, hy⟩ : ∃ y : ByteArray, y = ⟨(afterDot s.data.toList).toArray⟩ := ⟨_, rfl⟩
  have hxd : x.data.toList = beforeDot s.data.toList := by rw [hx]
  have hyd : y.data.toList = afterDot s.data.toList := by rw [hy]
  have hxs : x.size ≤ maxLen := by rw [← size_toList, hxd]; omega
  have hys : y.size ≤ maxLen := by rw [← size_toList, hyd]; omega
  have HN := Lib.hid (fun w => Number_any y w hys)
  have HT := Lib.hid (fun w (h : Tab w) => Token_any x (numV y.data.toList) w hxs h)
  unfold numR at HN
  unfold tokR at HT
  rw [← hx, ← hy] at HC
  have hok : splitOk s.data.toList = true ↔ numE y.data.toList = 0 ∧ tokE x.data.toList (numV y.data.toList) = 0 ∧ tokS x.data.toList (numV y.data.toList) = s.data.toList := by rw [splitOk_iff, hxd, hyd]
  have hys2 : splitOk s.data.toList = true → splR s.data.toList = .returned (.tuple #[.string x, .int .i64 (numV y.data.toList), .int .i64 0]) := fun h => by rw [splR_yes h, hx, hyd]
  have hno2 : splitOk s.data.toList = false → splR s.data.toList = .returned (.tuple #[.string ⟨#[]⟩, .int .i64 0, .int .i64 11]) := splR_no
  generalize splR s.data.toList = R at hys2 hno2 ⊢
  generalize splitOk s.data.toList = ok at hok hys2 hno2
  generalize numE y.data.toList = eN at hok HN
  generalize numV y.data.toList = vN at hok HN HT hys2
  generalize tokE x.data.toList vN = eT at hok HT
  obtain ⟨u, hu⟩ : ∃ u : ByteArray, u = ⟨(tokS x.data.toList vN).toArray⟩ := ⟨_, rfl⟩
  have hud : tokS x.data.toList vN = u.data.toList := by rw [hu]
  rw [← hu] at HT
  rw [hud] at hok
  clear hl1 hl2 hx hy hxd hyd hu hud
  by_cases h1 : eN = 0
  · by_cases h2 : eT = 0
    · by_cases h3 : u.data.toList = s.data.toList
      · have HE := Lib.hid (hys2 (hok.2 ⟨h1, h2, h3⟩))
        have hus : u = s := by rw [str_is u, h3, ← str_is]
        subst h1; subst h2; subst hus
        clear hok hys2 hno2 h3
        go_enter Tryz.func14, Tryz.ntmps14
        go_wp2_with fail
        refine HC.out.mono ?_
        rintro e w1 ⟨q, rfl, hb1⟩
        go_wp2_with fail
        refine (HN.out _).mono ?_
        rintro e w2 ⟨rfl, rfl⟩
        go_wp2_with fail
        refine (HT.out _ (ht.below hb1)).mono ?_
        rintro e w3 ⟨rfl, hb3⟩
        go_wp2_with fail
        go_ret3
        exact ⟨HE.out.symm, thenB hb1 hb3⟩
      · have hb : ok = false := by cases ok with
          | false => rfl
          | true => exact absurd (hok.1 rfl).2.2 h3
        have HE := Lib.hid (hno2 hb)
        have hne : (u.toList == s.toList) = false := by rw [Lib.toList_data, Lib.toList_data]; simpa using h3
        subst h1; subst h2
        clear hok hys2 hno2 h3 hb
        go_enter Tryz.func14, Tryz.ntmps14
        go_wp2_with fail
        refine HC.out.mono ?_
        rintro e w1 ⟨q, rfl, hb1⟩
        go_wp2_with fail
        refine (HN.out _).mono ?_
        rintro e w2 ⟨rfl, rfl⟩
        go_wp2_with fail
        refine (HT.out _ (ht.below hb1)).mono ?_
        rintro e w3 ⟨rfl, hb3⟩
        go_wp2_with fail
        go_ret3
        exact ⟨HE.out.symm, thenB hb1 hb3⟩
    · have hb : ok = false := by cases ok with
        | false => rfl
        | true => exact absurd (hok.1 rfl).2.1 h2
      have HE := Lib.hid (hno2 hb)
      have hne : (eT != 0) = true := by simpa using h2
      subst h1
      clear hok hys2 hno2 h2 hb
      go_enter Tryz.func14, Tryz.ntmps14
      go_wp2_with fail
      refine HC.out.mono ?_
      rintro e w1 ⟨q, rfl, hb1⟩
      go_wp2_with fail
      refine (HN.out _).mono ?_
      rintro e w2 ⟨rfl, rfl⟩
      go_wp2_with fail
      refine (HT.out _ (ht.below hb1)).mono ?_
      rintro e w3 ⟨rfl, hb3⟩
      go_wp2_with fail
      go_ret3
      exact ⟨HE.out.symm, thenB hb1 hb3⟩
  · have hb : ok = false := by cases ok with
      | false => rfl
      | true => exact absurd (hok.1 rfl).1 h1
    have HE := Lib.hid (hno2 hb)
    have hne : (eN != 0) = true := by simpa using h1
    clear hok hys2 hno2 h1 hb
    go_enter Tryz.func14, Tryz.ntmps14
    go_wp2_with fail
    refine HC.out.mono ?_
    rintro e w1 ⟨q, rfl, hb1⟩
    go_wp2_with fail
    refine (HN.out _).mono ?_
    rintro e w2 ⟨rfl, rfl⟩
    go_wp2_with fail
    refine (HT.out _ (ht.below hb1)).mono ?_
    rintro e w3 ⟨rfl, hb3⟩
    go_wp2_with fail
    go_ret3
    exact ⟨HE.out.symm, thenB hb1 hb3⟩
end Go.Proofs.YtogpnlfbdhddmaaGreatDoor
namespace Go.Proofs.YtogpnlfbdhddmaaGreatDoor
open Go.RowKit

theorem box_cells {w w' : World} {a b c : ByteArray} {t : TypeId} (hb : Below (w.alloc (.cells #[.string a, .string b, .string c] t)).heap.size (w.alloc (.cells #[.string a, .string b, .string c] t)) w') :
    w.heap.size < w'.heap.size ∧ w'.cell? ⟨w.heap.size, 0, none⟩ = some (.string a) ∧ w'.cell? ⟨w.heap.size, 1, none⟩ = some (.string b) ∧ w'.cell? ⟨w.heap.size, 2, none⟩ = some (.string c) ∧
      w'.frozen? ⟨w.heap.size, 0, none⟩ = false ∧ w'.frozen? ⟨w.heap.size, 1, none⟩ = false ∧ w'.frozen? ⟨w.heap.size, 2, none⟩ = false := by
  refine ⟨by have := hb.size; simp at this; omega, ?_, ?_, ?_, ?_, ?_, ?_⟩
  · exact (hb.cell (p := ⟨w.heap.size, 0, none⟩) (by simp)).trans (cell?_new _ _ _ _)
  · exact (hb.cell (p := ⟨w.heap.size, 1, none⟩) (by simp)).trans (cell?_new _ _ _ _)
  · exact (hb.cell (p := ⟨w.heap.size, 2, none⟩) (by simp)).trans (cell?_new _ _ _ _)
  · exact (hb.frozen (p := ⟨w.heap.size, 0, none⟩) (by simp)).trans (frozen?_new _ _ _ _)
  · exact (hb.frozen (p := ⟨w.heap.size, 1, none⟩) (by simp)).trans (frozen?_new _ _ _ _)
  · exact (hb.frozen (p := ⟨w.heap.size, 2, none⟩) (by simp)).trans (frozen?_new _ _ _ _)

set_option maxHeartbeats 2000000 in
theorem Mask_none (s : ByteArray) (w : World) (hs : s.size ≤ maxLen) (ht : Tab w) (h1 : shapedB s.data.toList = false) (h2 : splitOk s.data.toList = false) :
    Calls Tryz.prog 27 #[.string s] w fun e w' => e = .returned (.string ⟨(maskS s.data.toList).toArray⟩) ∧ Below w.heap.size w w' := by
  have hm := mask_none h1 h2
  rw [size_toList] at hm
  have HM := Lib.hid hm
  have HV := Lib.hid (partsV_no h1)
  have HS := Lib.hid (splR_no h2)
  clear h1 h2 hm
  go_enter Tryz.func27, Tryz.ntmps27
  go_wp2_with fail
  refine (cut_any s _ hs).mono ?_
  rw [HV.out]
  rintro e w1 ⟨rfl, hb1⟩
  go_wp2_with fail
  refine (Split_any s _ hs ((ht.below hb1).below ((Below.refl _ _).alloc (Nat.le_refl _) _))).mono ?_
  rw [HS.out]
  rintro e w2 ⟨rfl, hb2⟩
  obtain ⟨hs2, c0, c1, c2, -⟩ := box_cells hb2
  have hb12 := thenB hb1 (thenB ((Below.refl _ _).alloc (Nat.le_refl _) _) hb2)
  clear hb2
  go_wp2_with fail
  refine (shaped_none _).mono ?_
  rintro e w3 ⟨rfl, hb3⟩
  go_wp2_with fail
  rw [show (min (s.size : Int) 32) = ((min s.size 32 : Nat) : Int) by omega]
  refine (stars_any (min s.size 32) _ (by omega)).mono ?_
  rw [← HM.out]
  rintro e w4 ⟨rfl, hb4⟩
  generalize hr : (⟨(maskS s.data.toList).toArray⟩ : ByteArray) = r
  have HR := Lib.hid hr
  clear hr
  go_wp2_with fail
  go_ret
  exact ⟨by rw [HR.out]; rfl, thenB hb12 (thenB hb3 hb4)⟩

theorem cat4 (a c e : ByteArray) (n : Nat) (l : List UInt8) (h : a.data.toList ++ starsL n ++ c.data.toList ++ e.data.toList = l) : (a ++ ⟨(starsL n).toArray⟩ ++ c ++ e : ByteArray) = ⟨l.toArray⟩ := by
  rw [str_is (a ++ ⟨(starsL n).toArray⟩ ++ c ++ e), Go.Joins.data_append, Go.Joins.data_append, Go.Joins.data_append, ← h]
theorem len_str (l : List UInt8) : (⟨l.toArray⟩ : ByteArray).size = l.length := by rw [← size_toList]

set_option maxRecDepth 100000 in
set_option maxHeartbeats 4000000 in
theorem Mask_shaped (s : ByteArray) (w : World) (hs : s.size ≤ maxLen) (ht : Tab w) (h1 : shapedB s.data.toList = true) :
    Calls Tryz.prog 27 #[.string s] w fun e w' => e = .returned (.string ⟨(maskS s.data.toList).toArray⟩) ∧ Below w.heap.size w w' := by
  have HS := Lib.hid (splR_no (shaped_split h1))
  have HSH := Lib.hid (fun w => (shaped_any s.data.toList w))
  rw [h1] at HSH
  have hm := mask_shaped h1
  obtain ⟨p1, p2, p3, p4, p5⟩ := parts_len h1
  have hpv : partsV s.data.toList = .agg #[.string ⟨(binP s.data.toList).toArray⟩, .string ⟨(midP s.data.toList).toArray⟩, .string ⟨(lastP s.data.toList).toArray⟩] := rfl
  obtain ⟨a, ha⟩ : ∃ a : ByteArray, a = ⟨(binP s.data.toList).toArray⟩ := ⟨_, rfl⟩
  obtain ⟨b, hb⟩ : ∃ b : ByteArray, b = ⟨(midP s.data.toList).toArray⟩ := ⟨_, rfl⟩
  obtain ⟨c, hc⟩ : ∃ c : ByteArray, c = ⟨(lastP s.data.toList).toArray⟩ := ⟨_, rfl⟩
  have hasz : a.size = 6 := by rw [ha, len_str]; exact p1
  have hbsz : b.size ≤ 9 := by rw [hb, len_str]; omega
  have hcsz : c.size = 4 := by rw [hc, len_str]; exact p3
  have hfin : (a ++ ⟨(starsL b.size).toArray⟩ ++ c ++ ⟨#[]⟩ : ByteArray) = ⟨(maskS s.data.toList).toArray⟩ := by
    refine cat4 _ _ _ _ _ ?_
    rw [hm, ha, hb, hc, len_str]
    simp [maskOf]
  rw [← ha, ← hb, ← hc] at hpv
  have HV := Lib.hid hpv
  have HF := Lib.hid hfin
  have hssz : (⟨(starsL b.size).toArray⟩ : ByteArray).size ≤ 9 := by rw [len_str]; simp [starsL]; exact hbsz
  clear hpv h1 hm p1 p2 p3 p4 p5 ha hb hc hfin
  have has1 : a.size ≤ 6 := by omega
  have hcs1 : c.size ≤ 4 := by omega
  clear hasz hcsz
  go_enter Tryz.func27, Tryz.ntmps27
  go_wp2_with fail
  refine (cut_any s _ hs).mono ?_
  rw [HV.out]
  rintro e w1 ⟨rfl, hb1⟩
  go_wp2_with fail
  refine (Split_any s _ hs ((ht.below hb1).below ((Below.refl _ _).alloc (Nat.le_refl _) _))).mono ?_
  rw [HS.out]
  rintro e w2 ⟨rfl, hb2⟩
  obtain ⟨hs2, c0, c1, c2, -⟩ := box_cells hb2
  have hb12 := thenB hb1 (thenB ((Below.refl _ _).alloc (Nat.le_refl _) _) hb2)
  clear hb2
  go_wp2_with fail
  rw [← HV.out]
  refine (HSH.out _).mono ?_
  rintro e w3 ⟨rfl, hb3⟩
  have d0 := (hb3.cell (p := ⟨w1.heap.size, 0, none⟩) hs2).trans c0
  have d1 := (hb3.cell (p := ⟨w1.heap.size, 1, none⟩) hs2).trans c1
  have d2 := (hb3.cell (p := ⟨w1.heap.size, 2, none⟩) hs2).trans c2
  have hs3 : w1.heap.size < w3.heap.size := by have := hb3.size; omega
  have hb13 := thenB hb12 hb3
  clear c0 c1 c2 hb3
  go_wp2_with fail
  generalize hst : (⟨(starsL b.size).toArray⟩ : ByteArray) = st at HF hssz
  have HST := Lib.hid (fun w => stars_any b.size w (by omega))
  rw [hst] at HST
  clear hst
  have n1 : ¬ 9223372036854775807 < a.size + st.size := by omega
  have n2 : ¬ 9223372036854775807 < a.size + st.size + c.size := by omega
  go_region_held3 (fun w' => w'.cell? ⟨w1.heap.size, 0, none⟩ = some (.string a) ∧ w'.cell? ⟨w1.heap.size, 1, none⟩ = some (.string b) ∧ w'.cell? ⟨w1.heap.size, 2, none⟩ = some (.string c))
    (go_keep)
    (first
      | (go_at_call 50; refine (HST.out _).mono ?_; rintro e w4 ⟨rfl, hb4⟩; have k0 := (hb4.cell (p := ⟨w1.heap.size, 0, none⟩) (by simp; omega)).trans d0; have k1 := (hb4.cell (p := ⟨w1.heap.size, 1, none⟩) (by simp; omega)).trans d1; have k2 := (hb4.cell (p := ⟨w1.heap.size, 2, none⟩) (by simp; omega)).trans d2; have HB4 := Lib.hid hb4; clear hb4))
  go_wp2_with fail
  go_ret
  exact ⟨by rw [← HF.out]; rfl, hb13.drew.trans (HB4.out.mono (by simp; exact hb13.size))⟩

theorem box_set {w : World} {g : Nat} {x0 x1 x2 : Value} (y0 y1 y2 : Value) (c0 : w.cell? ⟨g, 0, none⟩ = some x0) (c1 : w.cell? ⟨g, 1, none⟩ = some x1) (c2 : w.cell? ⟨g, 2, none⟩ = some x2) :
    (((w.setCell ⟨g, 0, none⟩ y0).setCell ⟨g, 1, none⟩ y1).setCell ⟨g, 2, none⟩ y2).cell? ⟨g, 0, none⟩ = some y0 ∧ (((w.setCell ⟨g, 0, none⟩ y0).setCell ⟨g, 1, none⟩ y1).setCell ⟨g, 2, none⟩ y2).cell? ⟨g, 1, none⟩ = some y1 ∧
      (((w.setCell ⟨g, 0, none⟩ y0).setCell ⟨g, 1, none⟩ y1).setCell ⟨g, 2, none⟩ y2).cell? ⟨g, 2, none⟩ = some y2 := by
  refine ⟨?_, ?_, ?_⟩ <;> simp [go_sem, c0, c1, c2]
set_option maxRecDepth 100000 in
set_option maxHeartbeats 4000000 in
theorem Mask_split (s : ByteArray) (w : World) (hs : s.size ≤ maxLen) (ht : Tab w) (h1 : splitOk s.data.toList = true) :
    Calls Tryz.prog 27 #[.string s] w fun e w' => e = .returned (.string ⟨(maskS s.data.toList).toArray⟩) ∧ Below w.heap.size w w' := by
  have hnot : shapedB s.data.toList = false := by
    cases e : shapedB s.data.toList with
    | false => rfl
    | true => rw [shaped_split e] at h1; cases h1
  have HN := Lib.hid (partsV_no hnot)
  have HS := Lib.hid (splR_yes h1)
  have hm := mask_split h1
  obtain ⟨q1, q2, q3, -⟩ := split_shaped h1
  have hdl := (dots_le s.data.toList).1
  rw [size_toList] at hdl
  obtain ⟨t, htt⟩ : ∃ t : ByteArray, t = ⟨(beforeDot s.data.toList).toArray⟩ := ⟨_, rfl⟩
  have htd : t.data.toList = beforeDot s.data.toList := by rw [htt]
  have hts : t.size ≤ maxLen := by rw [← size_toList, htd]; omega
  rw [← htd] at q1 hm
  obtain ⟨n, hn⟩ : ∃ n : Nat, numV (afterDot s.data.toList) = n := ⟨(numV (afterDot s.data.toList)).toNat, by omega⟩
  rw [hn] at hm q2 q3 HS
  rw [← htt] at HS
  rw [Int.toNat_natCast] at hm
  have HSH := Lib.hid (fun w => (shaped_any t.data.toList w))
  rw [q1] at HSH
  obtain ⟨p1, p2, p3, p4, p5⟩ := parts_len q1
  have hpv : partsV t.data.toList = .agg #[.string ⟨(binP t.data.toList).toArray⟩, .string ⟨(midP t.data.toList).toArray⟩, .string ⟨(lastP t.data.toList).toArray⟩] := rfl
  obtain ⟨a, ha⟩ : ∃ a : ByteArray, a = ⟨(binP t.data.toList).toArray⟩ := ⟨_, rfl⟩
  obtain ⟨b, hb⟩ : ∃ b : ByteArray, b = ⟨(midP t.data.toList).toArray⟩ := ⟨_, rfl⟩
  obtain ⟨c, hc⟩ : ∃ c : ByteArray, c = ⟨(lastP t.data.toList).toArray⟩ := ⟨_, rfl⟩
  obtain ⟨d, hd⟩ : ∃ d : ByteArray, d = ⟨(dec n).toArray⟩ := ⟨_, rfl⟩
  have hasz : a.size ≤ 6 := by rw [ha, len_str]; omega
  have hbsz : b.size ≤ 9 := by rw [hb, len_str]; omega
  have hcsz : c.size ≤ 4 := by rw [hc, len_str]; omega
  have hdsz : d.size ≤ 3 := by rw [hd, len_str]; exact dec_len (by omega)
  have hfin : (a ++ ⟨(starsL b.size).toArray⟩ ++ c ++ (⟨#[46]⟩ ++ d) : ByteArray) = ⟨(maskS s.data.toList).toArray⟩ := by
    refine cat4 _ _ _ _ _ ?_
    rw [hm, ha, hb, hc, hd, len_str, Go.Joins.data_append]
    simp [maskOf]
  have hedl : (⟨#[46]⟩ ++ d : ByteArray).size ≤ 4 := by
    rw [← size_toList, Go.Joins.data_append, List.length_append, size_toList]; show 1 + _ ≤ 4; rw [size_toList]; omega
  have HI := Lib.hid (fun w (h : Tab w) => Itoa_any n w (by omega) h)
  rw [← hd] at HI
  rw [← ha, ← hb, ← hc] at hpv
  have HV := Lib.hid hpv
  have HF := Lib.hid hfin
  have hssz : (⟨(starsL b.size).toArray⟩ : ByteArray).size ≤ 9 := by rw [len_str]; simp [starsL]; exact hbsz
  clear hpv h1 hm p1 p2 p3 p4 p5 ha hb hc hd hfin hnot q1 q2 q3 htt htd hn hdl
  go_enter Tryz.func27, Tryz.ntmps27
  go_wp2_with fail
  refine (cut_any s _ hs).mono ?_
  rw [HN.out]
  rintro e w1 ⟨rfl, hb1⟩
  go_wp2_with fail
  refine (Split_any s _ hs ((ht.below hb1).below ((Below.refl _ _).alloc (Nat.le_refl _) _))).mono ?_
  rw [HS.out]
  rintro e w2 ⟨rfl, hb2⟩
  have hs2 := (box_cells hb2).1
  have HB2 := Lib.hid hb2
  have hb12 := thenB hb1 (thenB ((Below.refl _ _).alloc (Nat.le_refl _) _) hb2)
  clear hb2
  go_wp2_with fail
  refine (cut_any t _ hts).mono ?_
  rw [HV.out]
  rintro e w3 ⟨rfl, hb3⟩
  have hb13 := thenB hb12 hb3
  have HB3 := Lib.hid (HB2.out.trans (hb3.mono HB2.out.size))
  clear hb3
  go_wp2_with fail
  refine (HI.out _ (ht.below hb13)).mono ?_
  rintro e w4 ⟨rfl, hb4⟩
  have hb14 := thenB hb13 hb4
  have HB4 := Lib.hid (HB3.out.trans (hb4.mono HB3.out.size))
  obtain ⟨hs4, c0, c1, c2, f0, f1, f2⟩ := box_cells HB4.out
  clear hb4
  go_wp2_with fail
  have HW5 := Lib.hid (box_set (.string a) (.string b) (.string c) c0 c1 c2)
  have hb15 : Below w.heap.size w (((w4.setCell ⟨w1.heap.size, 0, none⟩ (.string a)).setCell ⟨w1.heap.size, 1, none⟩ (.string b)).setCell ⟨w1.heap.size, 2, none⟩ (.string c)) := ((hb14.setCell (by have := hb1.size; exact this) _).setCell (by have := hb1.size; exact this) _).setCell (by have := hb1.size; exact this) _
  have hs5 : w1.heap.size < (((w4.setCell ⟨w1.heap.size, 0, none⟩ (.string a)).setCell ⟨w1.heap.size, 1, none⟩ (.string b)).setCell ⟨w1.heap.size, 2, none⟩ (.string c)).heap.size := by simp; exact hs4
  generalize (((w4.setCell ⟨w1.heap.size, 0, none⟩ (.string a)).setCell ⟨w1.heap.size, 1, none⟩ (.string b)).setCell ⟨w1.heap.size, 2, none⟩ (.string c)) = w5 at HW5 hb15 hs5 ⊢
  obtain ⟨e0, e1, e2⟩ := HW5.out
  clear HW5 c0 c1 c2 f0 f1 f2 HB2 HB3 HB4
  rw [← HV.out]
  refine (HSH.out _).mono ?_
  rintro e w6 ⟨rfl, hb6⟩
  have d0 := (hb6.cell (p := ⟨w1.heap.size, 0, none⟩) hs5).trans e0
  have d1 := (hb6.cell (p := ⟨w1.heap.size, 1, none⟩) hs5).trans e1
  have d2 := (hb6.cell (p := ⟨w1.heap.size, 2, none⟩) hs5).trans e2
  have hs6 : w1.heap.size < w6.heap.size := by have := hb6.size; omega
  have hb16 := thenB hb15 hb6
  clear e0 e1 e2 hb6
  go_wp2_with fail
  generalize hst : (⟨(starsL b.size).toArray⟩ : ByteArray) = st at HF hssz
  have HST := Lib.hid (fun w => stars_any b.size w (by omega))
  rw [hst] at HST
  clear hst
  generalize (⟨#[46]⟩ ++ d : ByteArray) = en at hedl HF ⊢
  have n1 : ¬ 9223372036854775807 < a.size + st.size := by omega
  have n2 : ¬ 9223372036854775807 < a.size + st.size + c.size := by omega
  have n3 : ¬ 9223372036854775807 < a.size + st.size + c.size + en.size := by omega
  go_region_held3 (fun w' => w'.cell? ⟨w1.heap.size, 0, none⟩ = some (.string a) ∧ w'.cell? ⟨w1.heap.size, 1, none⟩ = some (.string b) ∧ w'.cell? ⟨w1.heap.size, 2, none⟩ = some (.string c))
    (go_keep)
    (first
      | (go_at_call 50; refine (HST.out _).mono ?_; rintro e w7 ⟨rfl, hb7⟩; have k0 := (hb7.cell (p := ⟨w1.heap.size, 0, none⟩) (by simp; omega)).trans d0; have k1 := (hb7.cell (p := ⟨w1.heap.size, 1, none⟩) (by simp; omega)).trans d1; have k2 := (hb7.cell (p := ⟨w1.heap.size, 2, none⟩) (by simp; omega)).trans d2; have HB7 := Lib.hid hb7; clear hb7))
  go_wp2_with fail
  go_ret
  exact ⟨by rw [← HF.out]; rfl, hb16.drew.trans (HB7.out.mono (by simp; exact hb16.size))⟩
theorem Mask_any (s : ByteArray) (w : World) (hs : s.size ≤ maxLen) (ht : Tab w) :
    Calls Tryz.prog 27 #[.string s] w fun e w' => e = .returned (.string ⟨(maskS s.data.toList).toArray⟩) ∧ Below w.heap.size w w' := by
  cases h1 : shapedB s.data.toList with
  | true => exact Mask_shaped s w hs ht h1
  | false =>
    cases h2 : splitOk s.data.toList with
    | true => exact Mask_split s w hs ht h2
    | false => exact Mask_none s w hs ht h1 h2
end Go.Proofs.YtogpnlfbdhddmaaGreatDoor
namespace Go.Proofs.YtogpnlfbdhddmaaGreatDoor
open Go.RowKit

theorem rShaped_any (s : ByteArray) (w : World) (hs : s.size ≤ maxLen) : Calls Tryz.prog 26 #[.string s] w fun e w' => e = .returned (.bool (shapedB s.data.toList)) ∧ Below w.heap.size w w' := by
  have hsb : shapedB s.data.toList = (decide (lookE s.data.toList = 0) && decide (16 ≤ (s.size : Int)) && decide ((s.size : Int) ≤ 19)) := by
    unfold shapedB
    rw [size_toList, ← Bool.decide_and, ← Bool.decide_and]
    congr 1
    rw [eq_iff_iff]; omega
  by_cases h0 : lookE s.data.toList = 0
  · have hsb2 : shapedB s.data.toList = (decide (16 ≤ (s.size : Int)) && decide ((s.size : Int) ≤ 19)) := by rw [hsb, decide_eq_true h0, Bool.true_and]
    have HE := Lib.hid h0
    have HS := Lib.hid hsb2
    clear h0 hsb hsb2
    go_enter Tryz.func26, Tryz.ntmps26
    go_wp2_with fail
    refine (rPack_any s _ hs).mono ?_
    rw [HE.out]
    rintro e w1 ⟨A, n, c, rfl, -, hb1⟩
    by_cases h1 : (16 : Int) ≤ s.size
    · have hd1 : decide ((16 : Int) ≤ s.size) = true := decide_eq_true h1
      by_cases h2 : (s.size : Int) ≤ 19
      · have hd2 : decide ((s.size : Int) ≤ 19) = true := decide_eq_true h2
        rw [hd1, hd2] at HS
        go_wp2_with fail
        go_ret
        exact ⟨by rw [HS.out]; rfl, hb1⟩
      · have hd2 : decide ((s.size : Int) ≤ 19) = false := decide_eq_false h2
        rw [hd1, hd2] at HS
        go_wp2_with fail
        go_ret
        exact ⟨by rw [HS.out]; rfl, hb1⟩
    · have hd1 : decide ((16 : Int) ≤ s.size) = false := decide_eq_false h1
      rw [hd1, Bool.false_and] at HS
      go_wp2_with fail
      go_ret
      exact ⟨by rw [HS.out]; rfl, hb1⟩
  · have hsb2 : shapedB s.data.toList = false := by rw [hsb, decide_eq_false h0]; rfl
    generalize hh : lookE s.data.toList = er at h0
    have HE := Lib.hid hh
    have HS := Lib.hid hsb2
    have hne : (er == 0) = false := by simpa using h0
    clear hh hsb hsb2
    go_enter Tryz.func26, Tryz.ntmps26
    go_wp2_with fail
    refine (rPack_any s _ hs).mono ?_
    rw [HE.out]
    rintro e w1 ⟨A, n, c, rfl, -, hb1⟩
    go_wp2_with fail
    go_ret
    exact ⟨by rw [HS.out]; rfl, hb1⟩

theorem rIs_any (s : ByteArray) (w : World) (hs : s.size ≤ maxLen) : Calls Tryz.prog 43 #[.string s] w fun e w' => e = .returned (.bool (panB s.data.toList)) ∧ Below w.heap.size w w' := by
  cases h : shapedB s.data.toList with
  | false =>
    have HE := Lib.hid (show panB s.data.toList = false by unfold panB; rw [h]; rfl)
    go_enter Tryz.func43, Tryz.ntmps43
    go_wp2_with fail
    refine (rShaped_any s _ hs).mono ?_
    rw [h]
    rintro e w1 ⟨rfl, hb1⟩
    go_wp2_with fail
    go_ret
    exact ⟨by rw [HE.out]; rfl, hb1⟩
  | true =>
    have HE := Lib.hid (show panB s.data.toList = validB s.data.toList by unfold panB; rw [h]; rfl)
    go_enter Tryz.func43, Tryz.ntmps43
    go_wp2_with fail
    refine (rShaped_any s _ hs).mono ?_
    rw [h]
    rintro e w1 ⟨rfl, hb1⟩
    go_wp2_with fail
    refine (rValid_any s _ hs).mono ?_
    rintro e w2 ⟨rfl, rfl⟩
    rw [← HE.out]
    generalize hq : panB s.data.toList = q
    have HQ := Lib.hid hq
    clear hq
    go_wp2_with fail
    go_ret
    exact ⟨by rw [HQ.out]; rfl, hb1⟩

theorem cutR_strs {s : ByteArray} (h : shapedB s.data.toList = true) : cutR s.data.toList = .returned (.tuple #[.string (s.extract 0 6), .string (s.extract 6 (s.size - 4)), .string (s.extract (s.size - 4) s.size), .int .i64 0]) := by
  rw [cutR_yes h]
  have := partsV_yes h
  unfold partsV at this
  injection this with this
  simp at this
  obtain ⟨h1, h2, h3⟩ := this
  rw [h1, h2, h3]
set_option maxHeartbeats 1000000 in
theorem rCut_any (s : ByteArray) (w : World) (hs : s.size ≤ maxLen) : Calls Tryz.prog 76 #[.string s] w fun e w' => e = cutR s.data.toList ∧ Below w.heap.size w w' := by
  cases h : shapedB s.data.toList with
  | false =>
    have HE := Lib.hid (cutR_no h)
    go_enter Tryz.func76, Tryz.ntmps76
    go_wp2_with fail
    refine (rShaped_any s _ hs).mono ?_
    rw [h]
    rintro e w1 ⟨rfl, hb1⟩
    go_wp2_with fail
    refine bodyPost_ret (v := .tuple #[.string ⟨#[]⟩, .string ⟨#[]⟩, .string ⟨#[]⟩, .int .i64 10]) (by simp [results, Tryz.results76, go_sem]) rfl ⟨HE.out.symm, hb1⟩
  | true =>
    have HE := Lib.hid (cutR_strs h)
    obtain ⟨h0, h1, h2⟩ := shapedB_iff.1 h
    rw [size_toList] at h1 h2
    have h1' : (16 : Int) ≤ s.size := by omega
    have h2' : (s.size : Int) ≤ 19 := by omega
    clear h0
    go_enter Tryz.func76, Tryz.ntmps76
    go_wp2_with fail
    refine (rShaped_any s _ hs).mono ?_
    rw [h]
    rintro e w1 ⟨rfl, hb1⟩
    clear h
    go_wp2_with fail
    go_region
    go_wp2_with fail
    refine bodyPost_ret (v := .tuple #[.string (s.extract 0 6), .string (s.extract 6 (s.size - 4)), .string (s.extract (s.size - 4) s.size), .int .i64 0]) (by simp [results, Tryz.results76, go_sem]) rfl ⟨HE.out.symm, hb1.drew⟩

theorem dec_le30 {n : Nat} (h : n ≤ 9223372036854775807) : (dec n).length ≤ 30 := by
  unfold dec
  rw [Lib.decDigits_length]
  have := Lib.nDigits_le20 n (by omega)
  omega
theorem bytes_one (c : UInt8) (t : TypeId) (w : World) : BytesV [c] (.slice (some ⟨w.heap.size, 0, none⟩) 1 1) (w.alloc (.cells #[.int .u8 (c.toNat : Int)] t)) :=
  ⟨_, 1, 1, w.heap.size + 1, rfl, rfl, Nat.le_refl _, by simp, Reads.lit w _ t rfl⟩
theorem sg_int (n : Nat) : ((sg (n % 10)).toNat : Int) = 48 + (n : Int) % 10 := by rw [sg_toNat (by omega)]; omega
set_option maxRecDepth 100000 in
set_option maxHeartbeats 4000000 in
theorem rtext_any (n : Nat) : ∀ (w : World), n ≤ 9223372036854775807 → Calls Tryz.prog 75 #[.int .i64 n] w fun e w' => e = .returned (.string ⟨(dec n).toArray⟩) ∧ Below w.heap.size w w' := by
  induction n using Nat.strongRecOn with
  | _ n ih =>
    intro w hn
    by_cases h : n < 10
    · have HD := Lib.hid (dec_one h)
      have hcv := run_conv_one (P := Tryz.prog) Tryz.underlying27 Tryz.underlying5 Tryz.underlying9
      clear ih
      go_enter Tryz.func75, Tryz.ntmps75
      go_wp2
      go_ret
      refine ⟨ret_s ?_, (Below.refl _ _).alloc (Nat.le_refl _) _⟩
      rw [HD.out, sg_b8 (by omega)]
    · have HD := Lib.hid (dec_more h)
      have hl := dec_le30 (n := n / 10) (by omega)
      have hln : (⟨(dec (n / 10)).toArray⟩ : ByteArray).size ≤ 30 := by rw [len_str]; exact hl
      have HIH := Lib.hid (fun w => ih (n / 10) (by omega) w (by omega))
      clear ih hl
      have h0 : (0 : Int) ≤ n := by omega
      have h10 : (10 : Int) ≤ n := by omega
      have hsg : (⟨[sg (n % 10)].toArray⟩ : ByteArray).size ≤ 1 := by rw [len_str]; simp
      obtain ⟨x, hx⟩ : ∃ x : ByteArray, x = ⟨(dec (n / 10)).toArray⟩ := ⟨_, rfl⟩
      obtain ⟨y, hy⟩ : ∃ y : ByteArray, y = ⟨[sg (n % 10)].toArray⟩ := ⟨_, rfl⟩
      have HX := Lib.hid hx
      have HY := Lib.hid hy
      have HF := Lib.hid (show x ++ y = ⟨(dec n).toArray⟩ by rw [HD.out, str_is (x ++ y), Go.Joins.data_append, hx, hy])
      rw [← hx] at hln
      rw [← hy] at hsg
      clear hx hy
      have n1 : ¬ 9223372036854775807 < x.size + y.size := by omega
      go_enter Tryz.func75, Tryz.ntmps75
      go_wp2_with fail
      obtain ⟨F, hF⟩ : ∃ F, F = nthF [eqv (.int .i64 n), eqv (.int .i64 ((n : Int) / 10)), eqv (.string x), eqv (.int .i64 n), eqv (.int .i64 ((n : Int) % 10)), eqv (.int .i64 (48 + (n : Int) % 10)), eqv (.int .u8 (48 + (n : Int) % 10)), BytesV [sg (n % 10)], eqv (.string y), eqv (.string (x ++ y)), eqv (.string (x ++ y))] := ⟨_, rfl⟩
      have E0 := Lib.hid (show F 0 = eqv (.int .i64 n) by rw [hF]; rfl)
      have E1 := Lib.hid (show F 1 = eqv (.int .i64 ((n : Int) / 10)) by rw [hF]; rfl)
      have E2 := Lib.hid (show F 2 = eqv (.string x) by rw [hF]; rfl)
      have E3 := Lib.hid (show F 3 = eqv (.int .i64 n) by rw [hF]; rfl)
      have E4 := Lib.hid (show F 4 = eqv (.int .i64 ((n : Int) % 10)) by rw [hF]; rfl)
      have E5 := Lib.hid (show F 5 = eqv (.int .i64 (48 + (n : Int) % 10)) by rw [hF]; rfl)
      have E6 := Lib.hid (show F 6 = eqv (.int .u8 (48 + (n : Int) % 10)) by rw [hF]; rfl)
      have E7 := Lib.hid (show F 7 = BytesV [sg (n % 10)] by rw [hF]; rfl)
      have E8 := Lib.hid (show F 8 = eqv (.string y) by rw [hF]; rfl)
      have E9 := Lib.hid (show F 9 = eqv (.string (x ++ y)) by rw [hF]; rfl)
      have E10 := Lib.hid (show F 10 = eqv (.string (x ++ y)) by rw [hF]; rfl)
      have hst : ∀ j v w w', F j v w → Grows w w' → F j v w' := by rw [hF]; exact nth_stable (by repeat (first | exact st_nil | exact st_eqv _ | exact st_any | exact st_bytes _ | exact st_list _ | exact st_strs _ | refine st_cons ?_ ?_))
      have HST0 := Lib.hid hst
      clear hF hst
      refine wp_region_facts F Grows (fun _ => True) (by kernel_rfl) (by kernel_rfl) grows_refl grows_trans HST0.out (trivial) ?_ ?_
      · intro V; refine ⟨?_, ?_, ?_, ?_, ?_, ?_, ?_, ?_, ?_, ?_, ?_, trivial⟩
        · intro wx hg hJ hdep
          clear hdep
          clear hg
          go_wp2_with fail
          exact ⟨rfl, grows_refl _, trivial, by rw [E0.out]; rfl⟩
        · intro wx hg hJ hdep
          have v0 : V 0 = (.int .i64 n) := by have h := hdep 0 rfl; rw [E0.out] at h; exact h
          clear hdep
          clear hg
          go_wp2_with fail
          exact ⟨rfl, grows_refl _, trivial, by rw [E1.out]; rfl⟩
        · intro wx hg hJ hdep
          have v1 : V 1 = (.int .i64 ((n : Int) / 10)) := by have h := hdep 1 rfl; rw [E1.out] at h; exact h
          clear hdep
          have hm := HIH.out wx
          rw [show ((n / 10 : Nat) : Int) = (n : Int) / 10 by omega, ← HX.out] at hm
          have HM := Lib.hid hm
          clear hm hg
          go_wp2_with fail
          refine HM.out.mono ?_
          rintro e w2 ⟨rfl, hg2⟩
          have HG2 := Lib.hid hg2
          clear hg2
          go_wp2_with fail
          exact ⟨rfl, HG2.out, trivial, by rw [E2.out]; rfl⟩
        · intro wx hg hJ hdep
          clear hdep
          clear hg
          go_wp2_with fail
          exact ⟨rfl, grows_refl _, trivial, by rw [E3.out]; rfl⟩
        · intro wx hg hJ hdep
          have v3 : V 3 = (.int .i64 n) := by have h := hdep 3 rfl; rw [E3.out] at h; exact h
          clear hdep
          clear hg
          go_wp2_with fail
          exact ⟨rfl, grows_refl _, trivial, by rw [E4.out]; rfl⟩
        · intro wx hg hJ hdep
          have v4 : V 4 = (.int .i64 ((n : Int) % 10)) := by have h := hdep 4 rfl; rw [E4.out] at h; exact h
          clear hdep
          clear hg
          go_wp2_with fail
          exact ⟨rfl, grows_refl _, trivial, by rw [E5.out]; rfl⟩
        · intro wx hg hJ hdep
          have v5 : V 5 = (.int .i64 (48 + (n : Int) % 10)) := by have h := hdep 5 rfl; rw [E5.out] at h; exact h
          clear hdep
          clear hg
          go_wp2_with fail
          exact ⟨rfl, grows_refl _, trivial, by rw [E6.out]; rfl⟩
        · intro wx hg hJ hdep
          have v6 : V 6 = (.int .u8 (48 + (n : Int) % 10)) := by have h := hdep 6 rfl; rw [E6.out] at h; exact h
          clear hdep
          go_wp2_with fail
          have hb := bytes_one (sg (n % 10)) 5 wx
          rw [sg_int] at hb
          exact ⟨rfl, (Below.refl _ _).alloc (Nat.le_refl _) _, trivial, by rw [E7.out]; exact hb⟩
        · intro wx hg hJ hdep
          have h7 : (BytesV [sg (n % 10)]) (V 7) wx := by have h := hdep 7 rfl; rw [E7.out] at h; exact h
          clear hdep
          have hcv := h7.conv (P := Tryz.prog) Tryz.underlying27 Tryz.underlying5 Tryz.underlying9
          rw [← HY.out] at hcv
          go_wp2_with fail
          exact ⟨rfl, grows_refl _, trivial, by rw [E8.out]; rfl⟩
        · intro wx hg hJ hdep
          have v2 : V 2 = (.string x) := by have h := hdep 2 rfl; rw [E2.out] at h; exact h
          have v8 : V 8 = (.string y) := by have h := hdep 8 rfl; rw [E8.out] at h; exact h
          clear hdep
          clear hg
          go_wp2_with fail
          exact ⟨rfl, grows_refl _, trivial, by rw [E9.out]; rfl⟩
        · intro wx hg hJ hdep
          have v9 : V 9 = (.string (x ++ y)) := by have h := hdep 9 rfl; rw [E9.out] at h; exact h
          clear hdep
          clear hg
          go_wp2_with fail
          exact ⟨rfl, grows_refl _, trivial, by rw [E10.out]; rfl⟩
      · intro V wx hg hJ hall
        have v0 : V 0 = (.int .i64 n) := by have h := hall 0 (by decide); rw [E0.out] at h; exact h
        have v1 : V 1 = (.int .i64 ((n : Int) / 10)) := by have h := hall 1 (by decide); rw [E1.out] at h; exact h
        have v2 : V 2 = (.string x) := by have h := hall 2 (by decide); rw [E2.out] at h; exact h
        have v3 : V 3 = (.int .i64 n) := by have h := hall 3 (by decide); rw [E3.out] at h; exact h
        have v4 : V 4 = (.int .i64 ((n : Int) % 10)) := by have h := hall 4 (by decide); rw [E4.out] at h; exact h
        have v5 : V 5 = (.int .i64 (48 + (n : Int) % 10)) := by have h := hall 5 (by decide); rw [E5.out] at h; exact h
        have v6 : V 6 = (.int .u8 (48 + (n : Int) % 10)) := by have h := hall 6 (by decide); rw [E6.out] at h; exact h
        have h7 : (BytesV [sg (n % 10)]) (V 7) wx := by have h := hall 7 (by decide); rw [E7.out] at h; exact h
        have v8 : V 8 = (.string y) := by have h := hall 8 (by decide); rw [E8.out] at h; exact h
        have v9 : V 9 = (.string (x ++ y)) := by have h := hall 9 (by decide); rw [E9.out] at h; exact h
        have v10 : V 10 = (.string (x ++ y)) := by have h := hall 10 (by decide); rw [E10.out] at h; exact h
        clear hall
        simp only [fillTo, Act.put, List.setIfInBounds_toArray, List.set_cons_succ, List.set_cons_zero, Nat.reduceAdd, Nat.zero_add, v0, v1, v2, v3, v4, v5, v6, v8, v9, v10]
        clear v0 v1 v2 v3 v4 v5 v6 v8 v9 v10
        go_wp2_with fail
        go_ret
        exact ⟨ret_s (by rw [HF.out]), ((Below.refl w.heap.size w).drew).trans hg⟩
end Go.Proofs.YtogpnlfbdhddmaaGreatDoor
