/- THE WALK of the law RadixBack. -/
import Derived.Test.YtiijjpjkfiookaaDoorRadNum
import Derived.Test.YtiijjpjkfiookaaDoorRadAdd
import Derived.Test.YtiijjpjkfiookaaDoorDigBackP
namespace Go.Proofs.YtiijjpjkfiookaaDoor
open Go.RowKit

theorem textD_val : ∀ (l : List UInt8), l.all isDig = true → textD (valD l) l.length = l := by
  intro l
  induction l with
  | nil => intro _; rfl
  | cons c l ih =>
    intro h
    have hc : isDig c = true := by simp at h; exact h.1
    have hl : l.all isDig = true := by simp at h ⊢; exact h.2
    have hlt := val_lt l hl
    have h9 := dg_le hc
    rw [List.length_cons, textD_succ, val_cons]
    have hp : 0 < 10 ^ l.length := Nat.pow_pos (by decide)
    have e1 : (dg c * 10 ^ l.length + valD l) / 10 ^ l.length % 10 = dg c := by
      rw [Nat.mul_comm, Nat.mul_add_div hp, Nat.div_eq_of_lt hlt]; omega
    rw [e1, sg_dg hc]
    congr 1
    have e2 : ∀ (m w : Nat), textD (m * 10 ^ w + valD l) w = textD (valD l) w := by
      intro m w
      unfold textD
      apply List.map_congr_left
      intro j hj
      have hj2 : j < w := by simpa using hj
      congr 1
      have : m * 10 ^ w = 10 ^ (w - 1 - j) * (10 * (m * 10 ^ j)) := by
        have : w = (w - 1 - j) + (1 + j) := by omega
        rw [this]
        simp only [Nat.pow_add, Nat.pow_one]
        rw [show w - 1 - j + (1 + j) - 1 - j = w - 1 - j by omega]
        generalize 10 ^ (w - 1 - j) = x
        generalize 10 ^ j = y
        rw [Nat.mul_comm m, Nat.mul_assoc, Nat.mul_assoc]; congr 1; rw [Nat.mul_comm y]
      rw [this, Nat.mul_add_div (Nat.pow_pos (by decide))]
      omega
    rw [e2]
    exact ih hl

/-- A value's digits. -/
theorem back_val {l : List UInt8} (h0 : l ≠ []) (h16 : ¬ 16 < l.length) (h : numE l = 0) :
    digR (numV l) l.length = .returned (.tuple #[.string ⟨l.toArray⟩, .int .i64 0]) := by
  obtain ⟨h1, -, h3⟩ := numE_zero h
  obtain ⟨ha, -⟩ := lookE_ok.1 h1
  have hlt := val_lt l ha
  have hl0 : 0 < l.length := List.length_pos_iff.2 h0
  have hp := powV_ok (k := l.length) (by omega) (by omega)
  rw [numV_ok h]
  have hin : inB (valD l : Int) (l.length : Int) = true := by
    unfold inB; exact decide_eq_true (by rw [hp]; omega)
  rw [digR_ok hin]
  have hE : textE (valD l : Int) (l.length : Int) = 0 := textE_ok (by omega) (by
    rw [Int.toNat_natCast, Int.toNat_natCast, Nat.div_eq_of_lt hlt]; omega)
  rw [textV_ok hE, hE, Int.toNat_natCast, Int.toNat_natCast, textD_val l ha]
theorem in_text {x k : Int} (h : inB x k = true) : textE x k = 0 := by
  unfold inB at h
  have h2 : 0 ≤ x ∧ x < powV k := by simpa using h
  by_cases hk : 1 ≤ k ∧ k ≤ 16
  · obtain ⟨m, rfl⟩ : ∃ m : Nat, k = m := ⟨k.toNat, by omega⟩
    rw [powV_ok (by omega) (by omega)] at h2
    exact textE_ok (by omega) (by rw [Int.toNat_natCast, Nat.div_eq_of_lt (by omega)]; omega)
  · rw [powV_no hk] at h2; omega
/-- A number's digits tell it. -/
theorem back_dig {x k : Int} (h63 : x ≤ 9223372036854775807) (h : inB x k = true) :
    valR (textV x k) = .returned (.tuple #[.int .i64 x, .int .i64 0]) ∧ ((textV x k).length : Int) = k := by
  have hE := in_text h
  obtain ⟨h1, h2, h3, h4⟩ := back_text h63 hE
  have hk : 1 ≤ k ∧ k ≤ 16 := by
    unfold inB at h
    have h2 : 0 ≤ x ∧ x < powV k := by simpa using h
    by_cases hk : 1 ≤ k ∧ k ≤ 16
    · exact hk
    · rw [powV_no hk] at h2; omega
  refine ⟨?_, h3⟩
  rw [valR_num (by intro e; rw [e] at h3; simp at h3; omega) (by omega)]
  unfold numR; rw [h1, h2]

theorem valR_err {l : List UInt8} (h : ¬ (l ≠ [] ∧ ¬ 16 < l.length ∧ numE l = 0)) : ∃ e : Int, valR l = .returned (.tuple #[.int .i64 0, .int .i64 e]) ∧ e ≠ 0 := by
  by_cases h1 : l = []
  · exact ⟨1, valR_nil h1, by decide⟩
  by_cases h2 : 16 < l.length
  · exact ⟨2, valR_long h2, by decide⟩
  have h3 : numE l ≠ 0 := fun e => h ⟨h1, h2, e⟩
  refine ⟨numE l, ?_, h3⟩
  rw [valR_num h1 h2]; unfold numR; rw [numV_no h3]

set_option maxHeartbeats 2000000 in
theorem RadixBack_v_out (s : ByteArray) (x y k : Int) (w : World) (hs : s.size ≤ maxLen) (h63 : x ≤ 9223372036854775807) (h0 : s.data.toList ≠ []) (h16 : ¬ 16 < s.data.toList.length) (hn : numE s.data.toList = 0) (hx : inB x k = false) :
    Calls Tryd.prog 8 #[.string s, .int .i64 x, .int .i64 y, .int .i64 k] w fun e w' => e = .returned (.bool true) ∧ Below w.heap.size w w' := by
  have hv1 := back_val h0 h16 hn
  have hv2 := valR_num h0 h16
  unfold numR at hv2
  rw [hn] at hv2
  rw [size_toList, ← str_is s] at hv1
  have h63v : numV s.data.toList ≤ 9223372036854775807 := by rw [numV_ok hn]; have := (numE_zero hn).2.2; omega
  have HV1 := Lib.hid hv1
  have HV2 := Lib.hid hv2
  clear hv1 hv2 hn h0 h16
  have HD := Lib.hid (digR_no hx)
  clear hx
  go_enter Tryd.func8, Tryd.ntmps8
  go_wp2_with fail
  refine (small09_any _).mono ?_
  rintro e w1 ⟨rfl, hb1⟩
  go_wp2_with fail
  refine (Value_any s _ hs).mono ?_
  rw [HV2.out]
  rintro e w2 ⟨rfl, rfl⟩
  go_wp2_with fail
  refine (Digits_any _ _ _ h63v).mono ?_
  rw [HV1.out]
  rintro e w3 ⟨rfl, hb3⟩
  have hb13 := thenB hb1 hb3
  clear hb1 hb3
  generalize numV s.data.toList = nv at h63v
  go_wp2_with fail
  refine (Digits_any _ _ _ h63).mono ?_
  rw [HD.out]
  rintro e w4 ⟨rfl, hb4⟩
  have hb14 := thenB hb13 hb4
  clear hb13 hb4
  go_wp2_with fail
  go_ret
  exact ⟨rfl, hb14⟩

set_option maxHeartbeats 2000000 in
theorem RadixBack_v_neg (s : ByteArray) (x y k : Int) (w : World) (hs : s.size ≤ maxLen) (h63 : x ≤ 9223372036854775807) (h0 : s.data.toList ≠ []) (h16 : ¬ 16 < s.data.toList.length) (hn : numE s.data.toList = 0) (hx : inB x k = true) (hy : y < 0) :
    Calls Tryd.prog 8 #[.string s, .int .i64 x, .int .i64 y, .int .i64 k] w fun e w' => e = .returned (.bool true) ∧ Below w.heap.size w w' := by
  have hv1 := back_val h0 h16 hn
  have hv2 := valR_num h0 h16
  unfold numR at hv2
  rw [hn] at hv2
  rw [size_toList, ← str_is s] at hv1
  have h63v : numV s.data.toList ≤ 9223372036854775807 := by rw [numV_ok hn]; have := (numE_zero hn).2.2; omega
  have HV1 := Lib.hid hv1
  have HV2 := Lib.hid hv2
  clear hv1 hv2 hn h0 h16
  obtain ⟨hv3, hv4⟩ := back_dig h63 hx
  have hd := digR_ok hx
  rw [in_text hx] at hd
  have hx2 : 0 ≤ x ∧ x < powV k := by unfold inB at hx; simpa using hx
  have HA := Lib.hid (addR_no (bothB_no (a := x) (b := y) (k := k) (by omega)))
  obtain ⟨t, htt⟩ : ∃ t : ByteArray, t = ⟨(textV x k).toArray⟩ := ⟨_, rfl⟩
  have hdt : t.data.toList = textV x k := by rw [htt]
  have hts : (t.size : Int) = k := by rw [← size_toList, hdt]; exact hv4
  rw [← htt] at hd
  rw [← hdt] at hv3
  have htm : t.size ≤ maxLen := by have := (back_text h63 (in_text hx)).2.2.2; rw [← hdt, size_toList] at this; unfold maxLen; omega
  clear htt hdt hv4 hx
  subst hts
  have HD := Lib.hid hd
  have HV3 := Lib.hid hv3
  clear hd hv3
  go_enter Tryd.func8, Tryd.ntmps8
  go_wp2_with fail
  refine (small09_any _).mono ?_
  rintro e w1 ⟨rfl, hb1⟩
  go_wp2_with fail
  refine (Value_any s _ hs).mono ?_
  rw [HV2.out]
  rintro e w2 ⟨rfl, rfl⟩
  go_wp2_with fail
  refine (Digits_any _ _ _ h63v).mono ?_
  rw [HV1.out]
  rintro e w3 ⟨rfl, hb3⟩
  have hb13 := thenB hb1 hb3
  clear hb1 hb3
  generalize numV s.data.toList = nv at h63v
  go_wp2_with fail
  refine (Digits_any _ _ _ h63).mono ?_
  rw [HD.out]
  rintro e w4 ⟨rfl, hb4⟩
  have hb14 := thenB hb13 hb4
  clear hb13 hb4
  go_wp2_with fail
  refine (Value_any t _ htm).mono ?_
  rw [HV3.out]
  rintro e w5 ⟨rfl, rfl⟩
  go_wp2_with fail
  refine (Add_any _ _ _ _).mono ?_
  rw [HA.out]
  rintro e w6 ⟨rfl, hb6⟩
  have hb16 := thenB hb14 hb6
  clear hb14 hb6
  go_wp2_with fail
  go_ret
  exact ⟨rfl, hb16⟩

set_option maxHeartbeats 2000000 in
theorem RadixBack_v_big (s : ByteArray) (x y k : Int) (w : World) (hs : s.size ≤ maxLen) (h63 : x ≤ 9223372036854775807) (h0 : s.data.toList ≠ []) (h16 : ¬ 16 < s.data.toList.length) (hn : numE s.data.toList = 0) (hx : inB x k = true) (hy : powV k ≤ y) :
    Calls Tryd.prog 8 #[.string s, .int .i64 x, .int .i64 y, .int .i64 k] w fun e w' => e = .returned (.bool true) ∧ Below w.heap.size w w' := by
  have hv1 := back_val h0 h16 hn
  have hv2 := valR_num h0 h16
  unfold numR at hv2
  rw [hn] at hv2
  rw [size_toList, ← str_is s] at hv1
  have h63v : numV s.data.toList ≤ 9223372036854775807 := by rw [numV_ok hn]; have := (numE_zero hn).2.2; omega
  have HV1 := Lib.hid hv1
  have HV2 := Lib.hid hv2
  clear hv1 hv2 hn h0 h16
  obtain ⟨hv3, hv4⟩ := back_dig h63 hx
  have hd := digR_ok hx
  rw [in_text hx] at hd
  have hx2 : 0 ≤ x ∧ x < powV k := by unfold inB at hx; simpa using hx
  have HA := Lib.hid (addR_no (bothB_no (a := x) (b := y) (k := k) (by omega)))
  obtain ⟨t, htt⟩ : ∃ t : ByteArray, t = ⟨(textV x k).toArray⟩ := ⟨_, rfl⟩
  have hdt : t.data.toList = textV x k := by rw [htt]
  have hts : (t.size : Int) = k := by rw [← size_toList, hdt]; exact hv4
  rw [← htt] at hd
  rw [← hdt] at hv3
  have htm : t.size ≤ maxLen := by have := (back_text h63 (in_text hx)).2.2.2; rw [← hdt, size_toList] at this; unfold maxLen; omega
  clear htt hdt hv4 hx
  subst hts
  have HD := Lib.hid hd
  have HV3 := Lib.hid hv3
  clear hd hv3
  go_enter Tryd.func8, Tryd.ntmps8
  go_wp2_with fail
  refine (small09_any _).mono ?_
  rintro e w1 ⟨rfl, hb1⟩
  go_wp2_with fail
  refine (Value_any s _ hs).mono ?_
  rw [HV2.out]
  rintro e w2 ⟨rfl, rfl⟩
  go_wp2_with fail
  refine (Digits_any _ _ _ h63v).mono ?_
  rw [HV1.out]
  rintro e w3 ⟨rfl, hb3⟩
  have hb13 := thenB hb1 hb3
  clear hb1 hb3
  generalize numV s.data.toList = nv at h63v
  go_wp2_with fail
  refine (Digits_any _ _ _ h63).mono ?_
  rw [HD.out]
  rintro e w4 ⟨rfl, hb4⟩
  have hb14 := thenB hb13 hb4
  clear hb13 hb4
  go_wp2_with fail
  refine (Value_any t _ htm).mono ?_
  rw [HV3.out]
  rintro e w5 ⟨rfl, rfl⟩
  go_wp2_with fail
  refine (Add_any _ _ _ _).mono ?_
  rw [HA.out]
  rintro e w6 ⟨rfl, hb6⟩
  have hb16 := thenB hb14 hb6
  clear hb14 hb6
  go_wp2_with fail
  refine (Power_any _ _).mono ?_
  rintro e w7 ⟨rfl, hb7⟩
  have hb17 := thenB hb16 hb7
  generalize powV (t.size : Int) = p at hy hx2
  obtain ⟨hx3, hx4⟩ := hx2
  have hy0 : ¬ y < 0 := by omega
  go_wp2_with fail
  go_ret
  exact ⟨rfl, hb17⟩

set_option maxHeartbeats 2000000 in
theorem RadixBack_v_in (s : ByteArray) (x y k : Int) (w : World) (hs : s.size ≤ maxLen) (h63 : x ≤ 9223372036854775807) (h0 : s.data.toList ≠ []) (h16 : ¬ 16 < s.data.toList.length) (hn : numE s.data.toList = 0) (hx : inB x k = true) (hy : inB y k = true) :
    Calls Tryd.prog 8 #[.string s, .int .i64 x, .int .i64 y, .int .i64 k] w fun e w' => e = .returned (.bool true) ∧ Below w.heap.size w w' := by
  have hv1 := back_val h0 h16 hn
  have hv2 := valR_num h0 h16
  unfold numR at hv2
  rw [hn] at hv2
  rw [size_toList, ← str_is s] at hv1
  have h63v : numV s.data.toList ≤ 9223372036854775807 := by rw [numV_ok hn]; have := (numE_zero hn).2.2; omega
  have HV1 := Lib.hid hv1
  have HV2 := Lib.hid hv2
  clear hv1 hv2 hn h0 h16
  obtain ⟨hv3, hv4⟩ := back_dig h63 hx
  have hd := digR_ok hx
  rw [in_text hx] at hd
  have hx2 : 0 ≤ x ∧ x < powV k := by unfold inB at hx; simpa using hx
  have hy2 : 0 ≤ y ∧ y < powV k := by unfold inB at hy; simpa using hy
  have hb : bothB x y k = true := bothB_mk hx2.1 hx2.2 hy2.1 hy2.2
  have hai := addV_in hb
  have hb2 : bothB (addV x y k) y k = true := bothB_mk hai.1 hai.2 hy2.1 hy2.2
  have HA := Lib.hid (addR_yes hb)
  have hss := subR_yes hb2
  rw [sub_add hb] at hss
  have HS := Lib.hid hss
  clear hss hb2 hb hy hy2
  obtain ⟨t, htt⟩ : ∃ t : ByteArray, t = ⟨(textV x k).toArray⟩ := ⟨_, rfl⟩
  have hdt : t.data.toList = textV x k := by rw [htt]
  have hts : (t.size : Int) = k := by rw [← size_toList, hdt]; exact hv4
  rw [← htt] at hd
  rw [← hdt] at hv3
  have htm : t.size ≤ maxLen := by have := (back_text h63 (in_text hx)).2.2.2; rw [← hdt, size_toList] at this; unfold maxLen; omega
  clear htt hdt hv4 hx
  subst hts
  have HD := Lib.hid hd
  have HV3 := Lib.hid hv3
  clear hd hv3
  go_enter Tryd.func8, Tryd.ntmps8
  go_wp2_with fail
  refine (small09_any _).mono ?_
  rintro e w1 ⟨rfl, hb1⟩
  go_wp2_with fail
  refine (Value_any s _ hs).mono ?_
  rw [HV2.out]
  rintro e w2 ⟨rfl, rfl⟩
  go_wp2_with fail
  refine (Digits_any _ _ _ h63v).mono ?_
  rw [HV1.out]
  rintro e w3 ⟨rfl, hb3⟩
  have hb13 := thenB hb1 hb3
  clear hb1 hb3
  generalize numV s.data.toList = nv at h63v
  go_wp2_with fail
  refine (Digits_any _ _ _ h63).mono ?_
  rw [HD.out]
  rintro e w4 ⟨rfl, hb4⟩
  have hb14 := thenB hb13 hb4
  clear hb13 hb4
  go_wp2_with fail
  refine (Value_any t _ htm).mono ?_
  rw [HV3.out]
  rintro e w5 ⟨rfl, rfl⟩
  go_wp2_with fail
  refine (Add_any _ _ _ _).mono ?_
  rw [HA.out]
  rintro e w6 ⟨rfl, hb6⟩
  have hb16 := thenB hb14 hb6
  clear hb14 hb6
  go_wp2_with fail
  refine (Sub_any _ _ _ _).mono ?_
  rw [HS.out]
  rintro e w7 ⟨rfl, hb7⟩
  have hb17 := thenB hb16 hb7
  obtain ⟨ha1, ha2⟩ := hai
  go_wp2_with fail
  refine (Power_any _ _).mono ?_
  rintro e w8 ⟨rfl, hb8⟩
  have hb18 := thenB hb17 hb8
  generalize powV (t.size : Int) = p at ha2
  generalize addV x y (t.size : Int) = a at ha1 ha2
  go_wp2_with fail
  go_ret
  exact ⟨rfl, hb18⟩

set_option maxHeartbeats 2000000 in
theorem RadixBack_n_out (s : ByteArray) (x y k : Int) (w : World) (hs : s.size ≤ maxLen) (h63 : x ≤ 9223372036854775807) (hbad : ∃ e : Int, valR s.data.toList = .returned (.tuple #[.int .i64 0, .int .i64 e]) ∧ e ≠ 0) (hx : inB x k = false) :
    Calls Tryd.prog 8 #[.string s, .int .i64 x, .int .i64 y, .int .i64 k] w fun e w' => e = .returned (.bool true) ∧ Below w.heap.size w w' := by
  obtain ⟨ev, hv2, hev⟩ := hbad
  have HV2 := Lib.hid hv2
  clear hv2
  have HD := Lib.hid (digR_no hx)
  clear hx
  go_enter Tryd.func8, Tryd.ntmps8
  go_wp2_with fail
  refine (small09_any _).mono ?_
  rintro e w1 ⟨rfl, hb1⟩
  go_wp2_with fail
  refine (Value_any s _ hs).mono ?_
  rw [HV2.out]
  rintro e w2 ⟨rfl, rfl⟩
  go_wp2_with fail
  refine (Digits_any _ _ _ h63).mono ?_
  rw [HD.out]
  rintro e w4 ⟨rfl, hb4⟩
  have hb14 := thenB hb1 hb4
  clear hb1 hb4
  go_wp2_with fail
  go_ret
  exact ⟨rfl, hb14⟩

set_option maxHeartbeats 2000000 in
theorem RadixBack_n_neg (s : ByteArray) (x y k : Int) (w : World) (hs : s.size ≤ maxLen) (h63 : x ≤ 9223372036854775807) (hbad : ∃ e : Int, valR s.data.toList = .returned (.tuple #[.int .i64 0, .int .i64 e]) ∧ e ≠ 0) (hx : inB x k = true) (hy : y < 0) :
    Calls Tryd.prog 8 #[.string s, .int .i64 x, .int .i64 y, .int .i64 k] w fun e w' => e = .returned (.bool true) ∧ Below w.heap.size w w' := by
  obtain ⟨ev, hv2, hev⟩ := hbad
  have HV2 := Lib.hid hv2
  clear hv2
  obtain ⟨hv3, hv4⟩ := back_dig h63 hx
  have hd := digR_ok hx
  rw [in_text hx] at hd
  have hx2 : 0 ≤ x ∧ x < powV k := by unfold inB at hx; simpa using hx
  have HA := Lib.hid (addR_no (bothB_no (a := x) (b := y) (k := k) (by omega)))
  obtain ⟨t, htt⟩ : ∃ t : ByteArray, t = ⟨(textV x k).toArray⟩ := ⟨_, rfl⟩
  have hdt : t.data.toList = textV x k := by rw [htt]
  have hts : (t.size : Int) = k := by rw [← size_toList, hdt]; exact hv4
  rw [← htt] at hd
  rw [← hdt] at hv3
  have htm : t.size ≤ maxLen := by have := (back_text h63 (in_text hx)).2.2.2; rw [← hdt, size_toList] at this; unfold maxLen; omega
  clear htt hdt hv4 hx
  subst hts
  have HD := Lib.hid hd
  have HV3 := Lib.hid hv3
  clear hd hv3
  go_enter Tryd.func8, Tryd.ntmps8
  go_wp2_with fail
  refine (small09_any _).mono ?_
  rintro e w1 ⟨rfl, hb1⟩
  go_wp2_with fail
  refine (Value_any s _ hs).mono ?_
  rw [HV2.out]
  rintro e w2 ⟨rfl, rfl⟩
  go_wp2_with fail
  refine (Digits_any _ _ _ h63).mono ?_
  rw [HD.out]
  rintro e w4 ⟨rfl, hb4⟩
  have hb14 := thenB hb1 hb4
  clear hb1 hb4
  go_wp2_with fail
  refine (Value_any t _ htm).mono ?_
  rw [HV3.out]
  rintro e w5 ⟨rfl, rfl⟩
  go_wp2_with fail
  refine (Add_any _ _ _ _).mono ?_
  rw [HA.out]
  rintro e w6 ⟨rfl, hb6⟩
  have hb16 := thenB hb14 hb6
  clear hb14 hb6
  go_wp2_with fail
  go_ret
  exact ⟨rfl, hb16⟩

set_option maxHeartbeats 2000000 in
theorem RadixBack_n_big (s : ByteArray) (x y k : Int) (w : World) (hs : s.size ≤ maxLen) (h63 : x ≤ 9223372036854775807) (hbad : ∃ e : Int, valR s.data.toList = .returned (.tuple #[.int .i64 0, .int .i64 e]) ∧ e ≠ 0) (hx : inB x k = true) (hy : powV k ≤ y) :
    Calls Tryd.prog 8 #[.string s, .int .i64 x, .int .i64 y, .int .i64 k] w fun e w' => e = .returned (.bool true) ∧ Below w.heap.size w w' := by
  obtain ⟨ev, hv2, hev⟩ := hbad
  have HV2 := Lib.hid hv2
  clear hv2
  obtain ⟨hv3, hv4⟩ := back_dig h63 hx
  have hd := digR_ok hx
  rw [in_text hx] at hd
  have hx2 : 0 ≤ x ∧ x < powV k := by unfold inB at hx; simpa using hx
  have HA := Lib.hid (addR_no (bothB_no (a := x) (b := y) (k := k) (by omega)))
  obtain ⟨t, htt⟩ : ∃ t : ByteArray, t = ⟨(textV x k).toArray⟩ := ⟨_, rfl⟩
  have hdt : t.data.toList = textV x k := by rw [htt]
  have hts : (t.size : Int) = k := by rw [← size_toList, hdt]; exact hv4
  rw [← htt] at hd
  rw [← hdt] at hv3
  have htm : t.size ≤ maxLen := by have := (back_text h63 (in_text hx)).2.2.2; rw [← hdt, size_toList] at this; unfold maxLen; omega
  clear htt hdt hv4 hx
  subst hts
  have HD := Lib.hid hd
  have HV3 := Lib.hid hv3
  clear hd hv3
  go_enter Tryd.func8, Tryd.ntmps8
  go_wp2_with fail
  refine (small09_any _).mono ?_
  rintro e w1 ⟨rfl, hb1⟩
  go_wp2_with fail
  refine (Value_any s _ hs).mono ?_
  rw [HV2.out]
  rintro e w2 ⟨rfl, rfl⟩
  go_wp2_with fail
  refine (Digits_any _ _ _ h63).mono ?_
  rw [HD.out]
  rintro e w4 ⟨rfl, hb4⟩
  have hb14 := thenB hb1 hb4
  clear hb1 hb4
  go_wp2_with fail
  refine (Value_any t _ htm).mono ?_
  rw [HV3.out]
  rintro e w5 ⟨rfl, rfl⟩
  go_wp2_with fail
  refine (Add_any _ _ _ _).mono ?_
  rw [HA.out]
  rintro e w6 ⟨rfl, hb6⟩
  have hb16 := thenB hb14 hb6
  clear hb14 hb6
  go_wp2_with fail
  refine (Power_any _ _).mono ?_
  rintro e w7 ⟨rfl, hb7⟩
  have hb17 := thenB hb16 hb7
  generalize powV (t.size : Int) = p at hy hx2
  obtain ⟨hx3, hx4⟩ := hx2
  have hy0 : ¬ y < 0 := by omega
  go_wp2_with fail
  go_ret
  exact ⟨rfl, hb17⟩

set_option maxHeartbeats 2000000 in
theorem RadixBack_n_in (s : ByteArray) (x y k : Int) (w : World) (hs : s.size ≤ maxLen) (h63 : x ≤ 9223372036854775807) (hbad : ∃ e : Int, valR s.data.toList = .returned (.tuple #[.int .i64 0, .int .i64 e]) ∧ e ≠ 0) (hx : inB x k = true) (hy : inB y k = true) :
    Calls Tryd.prog 8 #[.string s, .int .i64 x, .int .i64 y, .int .i64 k] w fun e w' => e = .returned (.bool true) ∧ Below w.heap.size w w' := by
  obtain ⟨ev, hv2, hev⟩ := hbad
  have HV2 := Lib.hid hv2
  clear hv2
  obtain ⟨hv3, hv4⟩ := back_dig h63 hx
  have hd := digR_ok hx
  rw [in_text hx] at hd
  have hx2 : 0 ≤ x ∧ x < powV k := by unfold inB at hx; simpa using hx
  have hy2 : 0 ≤ y ∧ y < powV k := by unfold inB at hy; simpa using hy
  have hb : bothB x y k = true := bothB_mk hx2.1 hx2.2 hy2.1 hy2.2
  have hai := addV_in hb
  have hb2 : bothB (addV x y k) y k = true := bothB_mk hai.1 hai.2 hy2.1 hy2.2
  have HA := Lib.hid (addR_yes hb)
  have hss := subR_yes hb2
  rw [sub_add hb] at hss
  have HS := Lib.hid hss
  clear hss hb2 hb hy hy2
  obtain ⟨t, htt⟩ : ∃ t : ByteArray, t = ⟨(textV x k).toArray⟩ := ⟨_, rfl⟩
  have hdt : t.data.toList = textV x k := by rw [htt]
  have hts : (t.size : Int) = k := by rw [← size_toList, hdt]; exact hv4
  rw [← htt] at hd
  rw [← hdt] at hv3
  have htm : t.size ≤ maxLen := by have := (back_text h63 (in_text hx)).2.2.2; rw [← hdt, size_toList] at this; unfold maxLen; omega
  clear htt hdt hv4 hx
  subst hts
  have HD := Lib.hid hd
  have HV3 := Lib.hid hv3
  clear hd hv3
  go_enter Tryd.func8, Tryd.ntmps8
  go_wp2_with fail
  refine (small09_any _).mono ?_
  rintro e w1 ⟨rfl, hb1⟩
  go_wp2_with fail
  refine (Value_any s _ hs).mono ?_
  rw [HV2.out]
  rintro e w2 ⟨rfl, rfl⟩
  go_wp2_with fail
  refine (Digits_any _ _ _ h63).mono ?_
  rw [HD.out]
  rintro e w4 ⟨rfl, hb4⟩
  have hb14 := thenB hb1 hb4
  clear hb1 hb4
  go_wp2_with fail
  refine (Value_any t _ htm).mono ?_
  rw [HV3.out]
  rintro e w5 ⟨rfl, rfl⟩
  go_wp2_with fail
  refine (Add_any _ _ _ _).mono ?_
  rw [HA.out]
  rintro e w6 ⟨rfl, hb6⟩
  have hb16 := thenB hb14 hb6
  clear hb14 hb6
  go_wp2_with fail
  refine (Sub_any _ _ _ _).mono ?_
  rw [HS.out]
  rintro e w7 ⟨rfl, hb7⟩
  have hb17 := thenB hb16 hb7
  obtain ⟨ha1, ha2⟩ := hai
  go_wp2_with fail
  refine (Power_any _ _).mono ?_
  rintro e w8 ⟨rfl, hb8⟩
  have hb18 := thenB hb17 hb8
  generalize powV (t.size : Int) = p at ha2
  generalize addV x y (t.size : Int) = a at ha1 ha2
  go_wp2_with fail
  go_ret
  exact ⟨rfl, hb18⟩
theorem RadixBack_walk (s : ByteArray) (x y k : Int) (w : World) (hs : s.size ≤ maxLen) (h1 : (Lit.int .i64 x).wf = true) (_h2 : (Lit.int .i64 y).wf = true) (_h3 : (Lit.int .i64 k).wf = true) :
    Calls Tryd.prog 8 #[.string s, .int .i64 x, .int .i64 y, .int .i64 k] w fun e w' => e = .returned (.bool true) ∧ Below w.heap.size w w' := by
  have h63 : x ≤ 9223372036854775807 := by simp [Lit.wf] at h1; omega
  have hyy : y < 0 ∨ powV k ≤ y ∨ inB y k = true := by
    by_cases a : y < 0
    · exact .inl a
    by_cases b : powV k ≤ y
    · exact .inr (.inl b)
    exact .inr (.inr (decide_eq_true (by omega)))
  by_cases hv : s.data.toList ≠ [] ∧ ¬ 16 < s.data.toList.length ∧ numE s.data.toList = 0
  · obtain ⟨a, b, c⟩ := hv
    cases hx : inB x k with
    | false => exact RadixBack_v_out s x y k w hs h63 a b c hx
    | true =>
      rcases hyy with hy | hy | hy
      · exact RadixBack_v_neg s x y k w hs h63 a b c hx hy
      · exact RadixBack_v_big s x y k w hs h63 a b c hx hy
      · exact RadixBack_v_in s x y k w hs h63 a b c hx hy
  · have hb := valR_err hv
    cases hx : inB x k with
    | false => exact RadixBack_n_out s x y k w hs h63 hb hx
    | true =>
      rcases hyy with hy | hy | hy
      · exact RadixBack_n_neg s x y k w hs h63 hb hx hy
      · exact RadixBack_n_big s x y k w hs h63 hb hx hy
      · exact RadixBack_n_in s x y k w hs h63 hb hx hy
end Go.Proofs.YtiijjpjkfiookaaDoor
