/- THE WALKS of digits and of its reference: the number that digits tell; the reference's text of a number. -/
import Derived.Test.YtiijjpjkfiookaaDoorDigText
import Derived.Test.YtiijjpjkfiookaaDoorDigNumP
import Derived.Lib.Split
namespace Go.Proofs.YtiijjpjkfiookaaDoor
open Go.RowKit

theorem str_data' (l : List UInt8) : (⟨l.toArray⟩ : ByteArray).data.toList = l := rfl
theorem str_is (s : ByteArray) : s = ⟨s.data.toList.toArray⟩ := by cases s; simp
theorem trim_eq {l : List UInt8} {c : UInt8} {m : List UInt8} (h : l = c :: m) (hc : c ≠ 48) : trimZ l = l := by
  subst h; unfold trimZ; rw [List.dropWhile_cons, if_neg (by simpa using hc)]
theorem trim_step {l : List UInt8} {m : List UInt8} (h : l = 48 :: m) : trimZ l = trimZ m := by
  subst h; unfold trimZ; rw [List.dropWhile_cons, if_pos (by decide)]
theorem head_of {s : ByteArray} (h : 0 < s.size) : s.data.toList = s[0] :: s.data.toList.drop 1 := by
  have h' : 0 < s.data.toList.length := by rw [size_toList]; exact h
  have := List.drop_eq_getElem_cons h'
  rw [List.drop_zero] at this
  rw [this]; rfl
theorem drop_data (s : ByteArray) : (s.extract 1 s.size).data.toList = s.data.toList.drop 1 := by
  rw [ByteArray.data_extract, Array.toList_extract]; simp only [List.extract]; rw [List.take_of_length_le (by rw [List.length_drop, size_toList]; exact Nat.le_refl _)]

theorem ret_s {a b : ByteArray} (h : a = b) : Ending.returned (.string a) = .returned (.string b) := by rw [h]
set_option maxHeartbeats 400000 in
theorem trimLeftByte_any (s : ByteArray) (w : World) (hs : s.size ≤ 9223372036854775807) :
    Calls Tryd.prog 58 #[.string s, .int .u8 48] w fun e w' => e = .returned (.string ⟨(trimZ s.data.toList).toArray⟩) ∧ w = w' := by
  have _ := hs
  go_enter Tryd.func58, Tryd.ntmps58
  go_wp2_with fail
  go_loop [0] (fun v => ∃ t : ByteArray, v = .string t ∧ t.size ≤ s.size ∧ trimZ t.data.toList = trimZ s.data.toList) (fun v => match v with | .string t => t.size | _ => 0)
  case atStart => exact ⟨s, rfl, Nat.le_refl _, rfl⟩
  case round =>
    obtain ⟨t, rfl, hts, htr⟩ := hrel
    have HT := Lib.hid htr; clear htr
    by_cases h0 : 0 < t.size
    · have HH := Lib.hid (head_of h0)
      by_cases h48 : t[0] = 48
      · have h48' : ((t[0].toNat : Int)) = 48 := by rw [h48]; rfl
        have H48 := Lib.hid h48; clear h48
        go_wp2
        go_round
        case rel => exact ⟨t.extract 1 t.size, rfl, by simp; omega, by rw [drop_data, ← HT.out]; exact (trim_step (by rw [← H48.out]; exact HH.out)).symm⟩
        case measure => simp; omega
      · have h48' : ¬ ((t[0].toNat : Int)) = 48 := by intro e; exact h48 (UInt8.toNat_inj.1 (by show t[0].toNat = 48; omega))
        have H48 := Lib.hid h48; clear h48
        go_wp2
        go_ret
        exact ⟨ret_s (by rw [← HT.out, trim_eq HH.out H48.out]), rfl⟩
    · have he : t.data.toList = [] := List.eq_nil_of_length_eq_zero (by rw [size_toList]; omega)
      have HE := Lib.hid he; clear he
      go_wp2
      go_ret
      exact ⟨ret_s (by rw [← HT.out, HE.out]; rw [str_is t, HE.out]; rfl), rfl⟩

set_option maxHeartbeats 400000 in
theorem TrimLeft_at (s c : ByteArray) (w : World) (hs : s.size ≤ maxLen) (h1 : c.size = 1) (h48 : (c[0]'(by omega)).toNat = 48) (hce : c.toList.isEmpty = false) :
    Calls Tryd.prog 51 #[.string s, .string c] w fun e w' => e = .returned (.string ⟨(trimZ s.data.toList).toArray⟩) ∧ w = w' := by
  have h48' : ((c[0]'(by omega)).toNat : Int) = 48 := by omega
  by_cases h : s.data.toList = []
  · have hy := isEmpty_yes h
    have HE := Lib.hid h; clear h
    go_enter Tryd.func51, Tryd.ntmps51
    go_wp2_with fail
    go_ret
    exact ⟨ret_s (by rw [HE.out]; rw [str_is s, HE.out]; rfl), rfl⟩
  · have hy := isEmpty_no h
    have HE := Lib.hid h; clear h
    go_enter Tryd.func51, Tryd.ntmps51
    go_wp2_with fail
    refine (trimLeftByte_any s _ hs).mono ?_
    rintro e w' ⟨rfl, rfl⟩
    go_wp2_with fail
    go_ret
    exact ⟨rfl, rfl⟩
theorem TrimLeft_any (s : ByteArray) (w : World) (hs : s.size ≤ maxLen) :
    Calls Tryd.prog 51 #[.string s, .string ⟨#[48]⟩] w fun e w' => e = .returned (.string ⟨(trimZ s.data.toList).toArray⟩) ∧ w = w' :=
  TrimLeft_at s ⟨#[48]⟩ w hs rfl rfl (isEmpty_no (by simp))

/-- What Number answers. -/
def numR (l : List UInt8) : Ending := .returned (.tuple #[.int .i64 (numV l), .int .i64 (numE l)])
theorem numR_no {l : List UInt8} {e : Int} (h : numE l = e) (he : e ≠ 0) : numR l = .returned (.tuple #[.int .i64 0, .int .i64 e]) := by
  unfold numR; rw [numV_no (by rw [h]; exact he), h]
theorem numR_ok {l : List UInt8} {v : Int} (h : numE l = 0) (hv : (valD l : Int) = v) : numR l = .returned (.tuple #[.int .i64 v, .int .i64 0]) := by
  unfold numR; rw [numV_ok h, h, hv]
theorem val_take {s : ByteArray} {k : Nat} (hk : k < s.size) : valD (s.data.toList.take (k + 1)) = 10 * valD (s.data.toList.take k) + dg s[k] := by
  rw [take_snoc s k hk, val_snoc]
theorem val_small {l : List UInt8} {k : Nat} (h : l.all isDig = true) (hk : k ≤ 19) : valD (l.take k) < 10000000000000000000 := by
  have h1 := val_lt (l.take k) (by rw [List.all_eq_true] at h ⊢; exact fun c hc => h c (List.mem_of_mem_take hc))
  have h2 : (l.take k).length ≤ 19 := by rw [List.length_take]; omega
  have h3 : 10 ^ (l.take k).length ≤ 10 ^ 19 := Nat.pow_le_pow_right (by decide) h2
  have e : (10 : Nat) ^ 19 = 10000000000000000000 := by decide
  omega

set_option maxHeartbeats 1000000 in
theorem Number_in (s : ByteArray) (w : World) (hs : s.size ≤ maxLen) (he : lookE s.data.toList = 0) (h0 : s.data.toList ≠ []) :
    Calls Tryd.prog 35 #[.string s] w fun e w' => e = numR s.data.toList ∧ w = w' := by
  have hne := isEmpty_no h0
  have HE := Lib.hid he
  have H0 := Lib.hid h0
  have HA := Lib.hid (lookE_ok.1 he).1
  have hV := val_trim s.data.toList
  have HTA := trim_all HA.out
  have hlen : (trimZ s.data.toList).length ≤ s.size := by rw [← size_toList]; exact (List.dropWhile_sublist _).length_le
  obtain ⟨t, ht⟩ : ∃ t : ByteArray, t = ⟨(trimZ s.data.toList).toArray⟩ := ⟨_, rfl⟩
  have htl : t.data.toList = trimZ s.data.toList := by rw [ht]
  have hsz : t.size = (trimZ s.data.toList).length := by rw [← size_toList, htl]
  have htm : t.size ≤ 999 := by have := (lookE_ok.1 he).2; rw [size_toList] at this; omega
  have HB := Lib.hid (trim_big HA.out)
  rw [← htl] at HTA hV
  rw [← hsz] at HB
  have HV := Lib.hid hV
  have HT := Lib.hid HTA
  clear he h0 hV HTA hlen htl hsz
  go_enter Tryd.func35, Tryd.ntmps35
  go_wp2_with fail
  refine (look_any s _ hs).mono ?_
  rintro e w' ⟨rfl, rfl⟩
  rw [HE.out]
  go_wp2_with fail
  refine (TrimLeft_any s _ hs).mono ?_
  rintro e w' ⟨rfl, rfl⟩
  rw [← ht]
  clear ht
  by_cases hbig : 19 < t.size
  · go_wp2_with fail
    go_ret2
    exact ⟨(numR_no (numE_big HE.out H0.out (HB.out hbig)) (by decide)).symm, rfl⟩
  · go_wp2_with fail
    go_loop [6, 24] (fun n c => ∃ k a : Nat, k ≤ t.size ∧ c = .int .i64 k ∧ n = .int .u64 a ∧ a = valD (t.data.toList.take k)) (fun _ i => t.size - (intOf i).toNat)
    case atStart => exact ⟨0, 0, Nat.zero_le _, rfl, rfl, by simp [valD]⟩
    case round =>
      obtain ⟨k, a, hk, rfl, rfl, ha⟩ := hrel
      have hsm := val_small HT.out (k := k) (by omega)
      rw [← ha] at hsm
      have HQ := Lib.hid ha; clear ha
      by_cases hlt : k < t.size
      · have hdig := dig_at HT.out (k := k) (by rw [size_toList]; exact hlt)
        rw [byte_at t k hlt] at hdig
        have hs2 := val_small HT.out (k := k + 1) (by omega)
        rw [val_take hlt, ← HQ.out] at hs2
        have hd : dg t[k] = t[k].toNat - 48 := rfl
        rw [hd] at hs2
        go_wp2
        go_round
        case rel => exact ⟨k + 1, 10 * a + dg t[k], by omega, by go_num, by rw [hd]; go_num, by rw [val_take hlt, HQ.out]⟩
        case measure => simp [intOf]; omega
      · have hall : t.data.toList.take k = t.data.toList := List.take_of_length_le (by rw [size_toList]; omega)
        have hav : a = valD s.data.toList := by rw [HQ.out, hall, HV.out]
        have HAV := Lib.hid hav; clear hav hall
        by_cases hb : 9223372036854775807 < a
        · go_wp2
          go_ret2
          exact ⟨(numR_no (numE_big HE.out H0.out (by rw [← HAV.out]; exact hb)) (by decide)).symm, rfl⟩
        · go_wp2
          go_ret2
          exact ⟨(numR_ok (numE_ok HE.out H0.out (by rw [← HAV.out]; omega)) (by rw [← HAV.out])).symm, rfl⟩

set_option maxHeartbeats 400000 in
theorem Number_any (s : ByteArray) (w : World) (hs : s.size ≤ maxLen) :
    Calls Tryd.prog 35 #[.string s] w fun e w' => e = numR s.data.toList ∧ w = w' := by
  by_cases hl : lookE s.data.toList = 0
  · by_cases h0 : s.data.toList = []
    · have hy := isEmpty_yes h0
      have HE := Lib.hid hl; have H0 := Lib.hid h0
      clear hl h0
      go_enter Tryd.func35, Tryd.ntmps35
      go_wp2_with fail
      refine (look_any s _ hs).mono ?_
      rintro e w' ⟨rfl, rfl⟩
      rw [HE.out]
      go_wp2_with fail
      refine (TrimLeft_any s _ hs).mono ?_
      rintro e w' ⟨rfl, rfl⟩
      go_wp2_with fail
      go_ret2
      exact ⟨(numR_no (by rw [H0.out]; exact numE_nil) (by decide)).symm, rfl⟩
    · exact Number_in s w hs hl h0
  · generalize hh : lookE s.data.toList = err at hl
    have HE := Lib.hid hh
    have HN := Lib.hid (numE_look (by rw [hh]; exact hl))
    clear hh
    have hn : (err != 0) = true := by simpa using hl
    have HL := Lib.hid hl; clear hl
    go_enter Tryd.func35, Tryd.ntmps35
    go_wp2_with fail
    refine (look_any s _ hs).mono ?_
    rintro e w' ⟨rfl, rfl⟩
    rw [HE.out]
    go_wp2_with fail
    go_ret2
    exact ⟨(numR_no (by rw [HN.out, HE.out]) HL.out).symm, rfl⟩
end Go.Proofs.YtiijjpjkfiookaaDoor
