/- THE WALKS of pan: the parts, stars, tokens. -/
import Derived.Test.YtnhcabcpdlgdaaaDoorPan1
import Derived.Test.YtnhcabcpdlgdaaaDoorTab
namespace Go.Proofs.YtnhcabcpdlgdaaaDoor
open Go.RowKit

theorem repeat_star (n : Nat) : Lib.repeatL [42] n = starsL n := by
  induction n with
  | zero => rfl
  | succ n ih => show 42 :: Lib.repeatL [42] n = _; rw [ih]; rfl
theorem stars_any (n : Nat) (w : World) (hn : n ≤ 1000) : Calls Tryd.prog 45 #[.int .i64 n] w fun e w' => e = .returned (.string ⟨(starsL n).toArray⟩) ∧ Below w.heap.size w w' := by
  have hr0 := Tryd.strings_Repeat ⟨#[42]⟩ n w (by omega) (by show 1 * n ≤ _; omega)
  rw [show (⟨#[42]⟩ : ByteArray).data.toList = [42] from rfl, repeat_star] at hr0
  have hr := Lib.hid hr0
  clear hr0
  go_enter Tryd.func45, Tryd.ntmps45
  go_wp2_with fail
  refine hr.out.mono ?_
  rintro e w1 ⟨rfl, hb1⟩
  go_wp2_with fail
  go_ret
  exact ⟨rfl, hb1⟩

/-- What Cut answers. -/
def cutR (l : List UInt8) : Ending := .returned (.tuple #[.string ⟨(binP l).toArray⟩, .string ⟨(midP l).toArray⟩, .string ⟨(lastP l).toArray⟩, .int .i64 (if shapedB l = true then 0 else 10)])
theorem cutR_no {l : List UInt8} (h : shapedB l = false) : cutR l = .returned (.tuple #[.string ⟨#[]⟩, .string ⟨#[]⟩, .string ⟨#[]⟩, .int .i64 10]) := by
  unfold cutR; rw [binP_no h, midP_no h, lastP_no h, if_neg (by rw [h]; decide)]
theorem cutR_yes {l : List UInt8} (h : shapedB l = true) : cutR l = .returned (.tuple #[.string ⟨(binP l).toArray⟩, .string ⟨(midP l).toArray⟩, .string ⟨(lastP l).toArray⟩, .int .i64 0]) := by
  unfold cutR; rw [if_pos h]

set_option maxHeartbeats 1000000 in
theorem Cut_any (s : ByteArray) (w : World) (hs : s.size ≤ maxLen) : Calls Tryd.prog 15 #[.string s] w fun e w' => e = cutR s.data.toList ∧ Below w.heap.size w w' := by
  cases h : shapedB s.data.toList with
  | false =>
    have HE := Lib.hid (cutR_no h)
    have HV := Lib.hid (partsV_no h)
    clear h
    go_enter Tryd.func15, Tryd.ntmps15
    go_wp2_with fail
    refine (cut_any s _ hs).mono ?_
    rw [HV.out]
    rintro e w1 ⟨rfl, hb1⟩
    go_wp2_with fail
    refine (shaped_none _).mono ?_
    rintro e w2 ⟨rfl, hb2⟩
    go_wp2_with fail
    refine bodyPost_ret (v := .tuple #[.string ⟨#[]⟩, .string ⟨#[]⟩, .string ⟨#[]⟩, .int .i64 10]) (by simp [results, Tryd.results15, go_sem]) rfl ⟨HE.out.symm, ?_⟩
    exact thenB hb1 (thenB ((Below.refl _ _).alloc (Nat.le_refl _) _) hb2)
  | true =>
    have HE := Lib.hid (cutR_yes h)
    have HSH := Lib.hid (fun w => (shaped_any s.data.toList w))
    rw [h] at HSH
    have hpv : partsV s.data.toList = .agg #[.string ⟨(binP s.data.toList).toArray⟩, .string ⟨(midP s.data.toList).toArray⟩, .string ⟨(lastP s.data.toList).toArray⟩] := rfl
    generalize (⟨(binP s.data.toList).toArray⟩ : ByteArray) = a at hpv HE
    generalize (⟨(midP s.data.toList).toArray⟩ : ByteArray) = b at hpv HE
    generalize (⟨(lastP s.data.toList).toArray⟩ : ByteArray) = c at hpv HE
    have HV := Lib.hid hpv
    clear hpv h
    go_enter Tryd.func15, Tryd.ntmps15
    go_wp2_with fail
    refine (cut_any s _ hs).mono ?_
    rw [HV.out]
    rintro e w1 ⟨rfl, hb1⟩
    go_wp2_with fail
    rw [← HV.out]
    refine (HSH.out _).mono ?_
    rintro e w2 ⟨rfl, hb2⟩
    have hs2 : w1.heap.size < w2.heap.size := by have := hb2.size; simp at this; omega
    have c0 := (hb2.cell (p := ⟨w1.heap.size, 0, none⟩) (by simp)).trans (cell?_new _ _ _ _)
    have c1 := (hb2.cell (p := ⟨w1.heap.size, 1, none⟩) (by simp)).trans (cell?_new _ _ _ _)
    have c2 := (hb2.cell (p := ⟨w1.heap.size, 2, none⟩) (by simp)).trans (cell?_new _ _ _ _)
    simp at c0 c1 c2
    go_wp2_with fail
    go_region
    go_wp2_with fail
    refine bodyPost_ret (v := .tuple #[.string a, .string b, .string c, .int .i64 0]) (by simp [results, Tryd.results15, go_sem]) rfl ⟨HE.out.symm, ?_⟩
    exact (thenB hb1 (thenB ((Below.refl _ _).alloc (Nat.le_refl _) _) hb2)).drew

/-! ### tokens -/
def tokR (l : List UInt8) (v : Int) : Ending := .returned (.tuple #[.string ⟨(tokS l v).toArray⟩, .int .i64 (tokE l v)])
theorem tokR_shape {l : List UInt8} {v : Int} (h : shapedB l = false) : tokR l v = .returned (.tuple #[.string ⟨#[]⟩, .int .i64 10]) := by
  have e := tokE_shape (v := v) h
  unfold tokR; rw [tokS_no (by rw [e]; decide), e]
theorem tokR_ver {l : List UInt8} {v : Int} (h : shapedB l = true) (hv : ¬ (1 ≤ v ∧ v ≤ 255)) : tokR l v = .returned (.tuple #[.string ⟨#[]⟩, .int .i64 1]) := by
  have e := tokE_ver h hv
  unfold tokR; rw [tokS_no (by rw [e]; decide), e]
theorem tokR_ok {s : ByteArray} {n : Nat} (h : shapedB s.data.toList = true) (hv : 1 ≤ n ∧ n ≤ 255) : tokR s.data.toList n = .returned (.tuple #[.string (s ++ ⟨#[46]⟩ ++ ⟨(dec n).toArray⟩), .int .i64 0]) := by
  have e := tokE_ok (v := (n : Int)) h (by omega)
  unfold tokR; rw [tokS_ok e, e, Int.toNat_natCast]
  have : (⟨(s.data.toList ++ 46 :: dec n).toArray⟩ : ByteArray) = s ++ ⟨#[46]⟩ ++ ⟨(dec n).toArray⟩ := by
    rw [str_is (s ++ ⟨#[46]⟩ ++ ⟨(dec n).toArray⟩), Go.Joins.data_append, Go.Joins.data_append, List.append_assoc]; rfl
  rw [this]

set_option maxHeartbeats 1000000 in
theorem Token_any (s : ByteArray) (v : Int) (w : World) (hs : s.size ≤ maxLen) (ht : Tab w) : Calls Tryd.prog 21 #[.string s, .int .i64 v] w fun e w' => e = tokR s.data.toList v ∧ Below w.heap.size w w' := by
  have HSH := Lib.hid (fun w => (shaped_any s.data.toList w))
  cases h : shapedB s.data.toList with
  | false =>
    rw [h] at HSH
    have HE := Lib.hid (tokR_shape (v := v) h)
    generalize hv : partsV s.data.toList = pv at HSH
    have HV := Lib.hid hv
    clear h hv
    go_enter Tryd.func21, Tryd.ntmps21
    go_wp2_with fail
    refine (cut_any s _ hs).mono ?_
    rw [HV.out]
    rintro e w1 ⟨rfl, hb1⟩
    go_wp2_with fail
    refine (HSH.out _).mono ?_
    rintro e w2 ⟨rfl, hb2⟩
    go_wp2_with fail
    go_ret2
    exact ⟨HE.out.symm, thenB hb1 hb2⟩
  | true =>
    rw [h] at HSH
    have hsz := (shapedB_iff.1 h).2.2
    rw [size_toList] at hsz
    by_cases h1 : v < 1
    · have HE := Lib.hid (tokR_ver (v := v) h (by omega))
      generalize hv : partsV s.data.toList = pv at HSH
      have HV := Lib.hid hv
      clear h hv
      go_enter Tryd.func21, Tryd.ntmps21
      go_wp2_with fail
      refine (cut_any s _ hs).mono ?_
      rw [HV.out]
      rintro e w1 ⟨rfl, hb1⟩
      go_wp2_with fail
      refine (HSH.out _).mono ?_
      rintro e w2 ⟨rfl, hb2⟩
      go_wp2_with fail
      go_ret2
      exact ⟨HE.out.symm, thenB hb1 hb2⟩
    by_cases h2 : 255 < v
    · have HE := Lib.hid (tokR_ver (v := v) h (by omega))
      generalize hv : partsV s.data.toList = pv at HSH
      have HV := Lib.hid hv
      clear h hv
      go_enter Tryd.func21, Tryd.ntmps21
      go_wp2_with fail
      refine (cut_any s _ hs).mono ?_
      rw [HV.out]
      rintro e w1 ⟨rfl, hb1⟩
      go_wp2_with fail
      refine (HSH.out _).mono ?_
      rintro e w2 ⟨rfl, hb2⟩
      go_wp2_with fail
      go_ret2
      exact ⟨HE.out.symm, thenB hb1 hb2⟩
    obtain ⟨n, rfl⟩ : ∃ n : Nat, v = n := ⟨v.toNat, by omega⟩
    have HE := Lib.hid (tokR_ok (n := n) h (by omega))
    have hdl := dec_len (n := n) (by omega)
    generalize hv : partsV s.data.toList = pv at HSH
    have HV := Lib.hid hv
    clear h hv
    go_enter Tryd.func21, Tryd.ntmps21
    go_wp2_with fail
    refine (cut_any s _ hs).mono ?_
    rw [HV.out]
    rintro e w1 ⟨rfl, hb1⟩
    go_wp2_with fail
    refine (HSH.out _).mono ?_
    rintro e w2 ⟨rfl, hb2⟩
    have hb12 := thenB hb1 hb2
    go_wp2_with fail
    refine (Itoa_any n _ (by omega) (ht.below hb12)).mono ?_
    rintro e w3 ⟨rfl, hb3⟩
    have hd2 : (⟨(dec n).toArray⟩ : ByteArray).size ≤ 3 := by show (dec n).toArray.size ≤ 3; simpa using hdl
    generalize (⟨(dec n).toArray⟩ : ByteArray) = d at hd2 HE ⊢
    go_wp2_with fail
    go_ret2
    exact ⟨HE.out.symm, thenB hb12 hb3⟩
end Go.Proofs.YtnhcabcpdlgdaaaDoor
