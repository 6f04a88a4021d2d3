/- THE WALKS of radix: values of digits, digits of values. -/
import Derived.Test.YtiijjpjkfiookaaDoorDigRNum
import Derived.Test.YtiijjpjkfiookaaDoorRadPow
namespace Go.Proofs.YtiijjpjkfiookaaDoor
open Go.RowKit

/-- What Value answers. -/
def valR (l : List UInt8) : Ending := if l = [] then .returned (.tuple #[.int .i64 0, .int .i64 1]) else if 16 < l.length then .returned (.tuple #[.int .i64 0, .int .i64 2]) else numR l
theorem valR_nil {l : List UInt8} (h : l = []) : valR l = .returned (.tuple #[.int .i64 0, .int .i64 1]) := if_pos h
theorem valR_long {l : List UInt8} (h : 16 < l.length) : valR l = .returned (.tuple #[.int .i64 0, .int .i64 2]) := by
  unfold valR; rw [if_neg (by intro e; rw [e] at h; simp at h), if_pos h]
theorem valR_num {l : List UInt8} (h : l ≠ []) (h2 : ¬ 16 < l.length) : valR l = numR l := by
  unfold valR; rw [if_neg h, if_neg h2]

set_option maxHeartbeats 400000 in
theorem Value_any (s : ByteArray) (w : World) (hs : s.size ≤ maxLen) : Calls Tryd.prog 13 #[.string s] w fun e w' => e = valR s.data.toList ∧ w = w' := by
  by_cases h : s.data.toList = []
  · have hy := isEmpty_yes h
    have HE := Lib.hid (valR_nil h); clear h
    go_enter Tryd.func13, Tryd.ntmps13
    go_wp2_with fail
    go_ret2
    exact ⟨HE.out.symm, rfl⟩
  have hy := isEmpty_no h
  by_cases h2 : (16 : Int) < s.size
  · have HE := Lib.hid (valR_long (l := s.data.toList) (by rw [size_toList]; omega)); clear h
    go_enter Tryd.func13, Tryd.ntmps13
    go_wp2_with fail
    go_ret2
    exact ⟨HE.out.symm, rfl⟩
  have HE := Lib.hid (valR_num h (by rw [size_toList]; omega)); clear h
  go_enter Tryd.func13, Tryd.ntmps13
  go_wp2_with fail
  refine (Number_any s _ hs).mono ?_
  rintro e w' ⟨rfl, rfl⟩
  unfold numR
  go_wp2_with fail
  go_ret2
  exact ⟨HE.out.symm, rfl⟩

set_option maxHeartbeats 400000 in
theorem rValue_any (s : ByteArray) (w : World) (hs : s.size ≤ maxLen) : Calls Tryd.prog 14 #[.string s] w fun e w' => e = valR s.data.toList ∧ w = w' := by
  by_cases h : s.data.toList = []
  · have hy := isEmpty_yes h
    have HE := Lib.hid (valR_nil h); clear h
    go_enter Tryd.func14, Tryd.ntmps14
    go_wp2_with fail
    go_ret2
    exact ⟨HE.out.symm, rfl⟩
  have hy := isEmpty_no h
  by_cases h2 : (16 : Int) < s.size
  · have HE := Lib.hid (valR_long (l := s.data.toList) (by rw [size_toList]; omega)); clear h
    go_enter Tryd.func14, Tryd.ntmps14
    go_wp2_with fail
    go_ret2
    exact ⟨HE.out.symm, rfl⟩
  have HE := Lib.hid (valR_num h (by rw [size_toList]; omega)); clear h
  go_enter Tryd.func14, Tryd.ntmps14
  go_wp2_with fail
  refine (rNumber_any s _ hs).mono ?_
  rintro e w' ⟨rfl, rfl⟩
  unfold numR
  go_wp2_with fail
  go_ret2
  exact ⟨HE.out.symm, rfl⟩

/-- What Digits answers. -/
def inB (n k : Int) : Bool := decide (0 ≤ n ∧ n < powV k)
def digE (n k : Int) : Int := if inB n k = true then textE n k else 1
def digS (n k : Int) : List UInt8 := if inB n k = true then textV n k else []
def digR (n k : Int) : Ending := .returned (.tuple #[.string ⟨(digS n k).toArray⟩, .int .i64 (digE n k)])
theorem digR_no {n k : Int} (h : inB n k = false) : digR n k = .returned (.tuple #[.string ⟨#[]⟩, .int .i64 1]) := by
  unfold digR digS digE; rw [h]; rfl
theorem digR_ok {n k : Int} (h : inB n k = true) : digR n k = .returned (.tuple #[.string ⟨(textV n k).toArray⟩, .int .i64 (textE n k)]) := by
  unfold digR digS digE; rw [if_pos h, if_pos h]

set_option maxHeartbeats 400000 in
theorem Digits_any (n k : Int) (w : World) (h63 : n ≤ 9223372036854775807) : Calls Tryd.prog 15 #[.int .i64 n, .int .i64 k] w fun e w' => e = digR n k ∧ Below w.heap.size w w' := by
  by_cases h1 : n < 0
  · have HE := Lib.hid (digR_no (n := n) (k := k) (decide_eq_false (by omega)))
    go_enter Tryd.func15, Tryd.ntmps15
    go_wp2_with fail
    refine (Power_any k _).mono ?_
    rintro e w1 ⟨rfl, hb1⟩
    generalize powV k = p
    go_wp2_with fail
    go_ret2
    exact ⟨HE.out.symm, hb1⟩
  by_cases h2 : powV k ≤ n
  · have HE := Lib.hid (digR_no (n := n) (k := k) (decide_eq_false (by omega)))
    go_enter Tryd.func15, Tryd.ntmps15
    go_wp2_with fail
    refine (Power_any k _).mono ?_
    rintro e w1 ⟨rfl, hb1⟩
    generalize powV k = p at h2
    go_wp2_with fail
    go_ret2
    exact ⟨HE.out.symm, hb1⟩
  have HE := Lib.hid (digR_ok (n := n) (k := k) (decide_eq_true (by omega)))
  go_enter Tryd.func15, Tryd.ntmps15
  go_wp2_with fail
  refine (Power_any k _).mono ?_
  rintro e w1 ⟨rfl, hb1⟩
  generalize powV k = p at h2
  go_wp2_with fail
  refine (Text_any n k _ h63).mono ?_
  rintro e w2 ⟨rfl, hb2⟩
  go_wp2_with fail
  go_ret2
  exact ⟨HE.out.symm, thenB hb1 hb2⟩

set_option maxHeartbeats 400000 in
theorem in_any (n k : Int) (w : World) : Calls Tryd.prog 38 #[.int .i64 n, .int .i64 k] w fun e w' => e = .returned (.bool (inB n k)) ∧ w = w' := by
  by_cases h1 : n < 0
  · have HE := Lib.hid (show inB n k = false from decide_eq_false (by omega))
    go_enter Tryd.func38, Tryd.ntmps38
    go_wp2_with fail
    go_ret
    exact ⟨by rw [HE.out]; rfl, rfl⟩
  have HE := Lib.hid (show inB n k = decide (n < powV k) by unfold inB; simp; omega)
  go_enter Tryd.func38, Tryd.ntmps38
  go_wp2_with fail
  refine (rPower_any k _).mono ?_
  rintro e w1 ⟨rfl, rfl⟩
  generalize powV k = p at HE
  go_wp2_with fail
  go_ret
  exact ⟨by rw [HE.out]; rfl, rfl⟩

set_option maxHeartbeats 400000 in
theorem rDigits_any (n k : Int) (w : World) (h63 : n ≤ 9223372036854775807) : Calls Tryd.prog 16 #[.int .i64 n, .int .i64 k] w fun e w' => e = digR n k ∧ Below w.heap.size w w' := by
  by_cases h : inB n k = true
  · have HE := Lib.hid (digR_ok h)
    go_enter Tryd.func16, Tryd.ntmps16
    go_wp2_with fail
    refine (in_any n k _).mono ?_
    rw [h]
    rintro e w1 ⟨rfl, rfl⟩
    go_wp2_with fail
    refine (rText_any n k _ h63).mono ?_
    rintro e w2 ⟨rfl, hb2⟩
    go_wp2_with fail
    go_ret2
    exact ⟨HE.out.symm, hb2⟩
  · have h' : inB n k = false := by simpa using h
    have HE := Lib.hid (digR_no h')
    go_enter Tryd.func16, Tryd.ntmps16
    go_wp2_with fail
    refine (in_any n k _).mono ?_
    rw [h']
    rintro e w1 ⟨rfl, rfl⟩
    go_wp2_with fail
    go_ret2
    exact ⟨HE.out.symm, Below.refl _ _⟩
end Go.Proofs.YtiijjpjkfiookaaDoor
