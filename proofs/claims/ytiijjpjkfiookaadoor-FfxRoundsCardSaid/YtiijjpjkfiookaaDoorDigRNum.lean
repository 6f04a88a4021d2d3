/- THE WALKS of digits' reference: the number that digits tell; the text of a number. -/
import Derived.Test.YtiijjpjkfiookaaDoorDigNum
namespace Go.Proofs.YtiijjpjkfiookaaDoor
open Go.RowKit

theorem val_le (l : List UInt8) (k : Nat) : valD (l.take k) ≤ valD l := by
  have h := val_append (l.take k) (l.drop k)
  rw [List.take_append_drop] at h
  have h1 : 1 ≤ 10 ^ (l.drop k).length := Nat.one_le_pow _ _ (by decide)
  have h2 : valD (l.take k) * 1 ≤ valD (l.take k) * 10 ^ (l.drop k).length := Nat.mul_le_mul_left _ h1
  omega

set_option maxHeartbeats 1000000 in
theorem rNumber_in (s : ByteArray) (w : World) (hs : s.size ≤ maxLen) (he : lookE s.data.toList = 0) (h0 : s.data.toList ≠ []) :
    Calls Tryd.prog 36 #[.string s] w fun e w' => e = numR s.data.toList ∧ w = w' := by
  have hne := isEmpty_no h0
  have HE := Lib.hid he
  have H0 := Lib.hid h0
  have HA := Lib.hid (lookE_ok.1 he).1
  have h9 : s.size ≤ 999 := by have := (lookE_ok.1 he).2; rw [size_toList] at this; omega
  clear he h0
  go_enter Tryd.func36, Tryd.ntmps36
  go_wp2_with fail
  refine (texts_any s _ hs).mono ?_
  rintro e w' ⟨rfl, rfl⟩
  rw [HE.out]
  go_wp2_with fail
  go_loop [5, 6] (fun n c => ∃ k a : Nat, k ≤ s.size ∧ c = .int .i64 k ∧ n = .int .i64 a ∧ a ≤ 9223372036854775807 ∧ a = valD (s.data.toList.take k)) (fun _ i => s.size - (intOf i).toNat)
  case atStart => exact ⟨0, 0, Nat.zero_le _, rfl, rfl, by omega, by simp [valD]⟩
  case round =>
    obtain ⟨k, a, hk, rfl, rfl, ha9, ha⟩ := hrel
    have HQ := Lib.hid ha; clear ha
    by_cases hlt : k < s.size
    · have hdig := dig_at HA.out (k := k) (by rw [size_toList]; exact hlt)
      rw [byte_at s k hlt] at hdig
      have hd : dg s[k] = s[k].toNat - 48 := rfl
      have HV := Lib.hid (val_take hlt)
      by_cases hb : (9223372036854775807 - ((s[k].toNat : Int) - 48)) / 10 < a
      · go_wp2
        go_ret2
        exact ⟨(numR_no (numE_big HE.out H0.out (by
          have h1 := val_le s.data.toList (k + 1)
          rw [HV.out, ← HQ.out, hd] at h1
          omega)) (by decide)).symm, rfl⟩
      · go_wp2
        go_round
        case rel => exact ⟨k + 1, 10 * a + dg s[k], by omega, by go_num, by rw [hd]; go_num, by rw [hd]; omega, by rw [HV.out, HQ.out]⟩
        case measure => simp [intOf]; omega
    · have hall : s.data.toList.take k = s.data.toList := List.take_of_length_le (by rw [size_toList]; omega)
      have hav : a = valD s.data.toList := by rw [HQ.out, hall]
      have HAV := Lib.hid hav; clear hav hall
      go_wp2
      go_ret2
      exact ⟨(numR_ok (numE_ok HE.out H0.out (by rw [← HAV.out]; omega)) (by rw [← HAV.out])).symm, rfl⟩

set_option maxHeartbeats 400000 in
theorem rNumber_any (s : ByteArray) (w : World) (hs : s.size ≤ maxLen) :
    Calls Tryd.prog 36 #[.string s] w fun e w' => e = numR s.data.toList ∧ w = w' := by
  by_cases hl : lookE s.data.toList = 0
  · by_cases h0 : s.data.toList = []
    · have hy := isEmpty_yes h0
      have HE := Lib.hid hl; have H0 := Lib.hid h0
      clear hl h0
      go_enter Tryd.func36, Tryd.ntmps36
      go_wp2_with fail
      refine (texts_any s _ hs).mono ?_
      rintro e w' ⟨rfl, rfl⟩
      rw [HE.out]
      go_wp2_with fail
      go_ret2
      exact ⟨(numR_no (by rw [H0.out]; exact numE_nil) (by decide)).symm, rfl⟩
    · exact rNumber_in s w hs hl h0
  · generalize hh : lookE s.data.toList = err at hl
    have HE := Lib.hid hh
    have HN := Lib.hid (numE_look (by rw [hh]; exact hl))
    clear hh
    have hn : (err != 0) = true := by simpa using hl
    have HL := Lib.hid hl; clear hl
    go_enter Tryd.func36, Tryd.ntmps36
    go_wp2_with fail
    refine (texts_any s _ hs).mono ?_
    rintro e w' ⟨rfl, rfl⟩
    rw [HE.out]
    go_wp2_with fail
    go_ret2
    exact ⟨(numR_no (by rw [HN.out, HE.out]) HL.out).symm, rfl⟩

theorem b8_mod (q : Nat) : b8 (48 + (q : Int) % 10) = sg (q % 10) := by
  unfold b8 sg; rw [show (48 + (q : Int) % 10).toNat = 48 + q % 10 by omega]
theorem cons_data (c : UInt8) (t : ByteArray) : ((⟨#[c]⟩ : ByteArray) ++ t).data.toList = c :: t.data.toList := by rw [Go.Joins.data_append]; rfl
theorem ret_bs {k : IntKind} {a : ByteArray} {b : List UInt8} {c d : Int} (h : a.data.toList = b) (h' : c = d) : Ending.returned (.tuple #[.string a, .int k c]) = .returned (.tuple #[.string ⟨b.toArray⟩, .int k d]) := by
  rw [h', ← h]

set_option maxHeartbeats 1000000 in
theorem rText_in (n wd : Int) (w : World) (h : ¬ (n < 0 ∨ wd < 1 ∨ 19 < wd)) (h63 : n ≤ 9223372036854775807) :
    Calls Tryd.prog 39 #[.int .i64 n, .int .i64 wd] w fun e w' => e = .returned (.tuple #[.string ⟨(textV n wd).toArray⟩, .int .i64 (textE n wd)]) ∧ Below w.heap.size w w' := by
  have hcv := run_conv_one (P := Tryd.prog) Tryd.underlying32 Tryd.underlying5 Tryd.underlying9
  obtain ⟨m, rfl⟩ : ∃ m : Nat, n = m := ⟨n.toNat, by omega⟩
  obtain ⟨v, rfl⟩ : ∃ v : Nat, wd = v := ⟨wd.toNat, by omega⟩
  have h1 : 0 ≤ (m : Int) := by omega
  have h2 : 1 ≤ (v : Int) := by omega
  have h3 : (v : Int) ≤ 19 := by omega
  have H := Lib.hid h; clear h
  go_enter Tryd.func39, Tryd.ntmps39
  go_wp2_with fail
  go_loopw [0, 6, 7] (fun n t c wr => ∃ (k q : Nat) (b : ByteArray), k ≤ v ∧ c = .int .i64 k ∧ n = .int .i64 q ∧ q ≤ m ∧ q = m / 10 ^ k ∧ t = .string b ∧ b.size = k ∧ b.data.toList = textD m k ∧ Below w.heap.size w wr) (fun _ _ i _ => v - (intOf i).toNat)
  case atStart => exact ⟨0, m, ⟨#[]⟩, by omega, rfl, rfl, Nat.le_refl _, by simp, rfl, rfl, rfl, Below.refl _ _⟩
  case round =>
    obtain ⟨k, q, b, hk, rfl, rfl, hqm, hq, rfl, hbs, hb, hbel⟩ := hrel
    have HQ := Lib.hid hq; clear hq
    have HB := Lib.hid hb; clear hb
    by_cases hlt : k < v
    · have hbw := hbel.size
      go_wp2
      go_roundw
      case rel =>
        refine ⟨k + 1, q / 10, _, by omega, by go_num, by go_num, Nat.le_trans (Nat.div_le_self _ _) hqm, by rw [HQ.out, div_pow_succ], rfl, ?_, ?_, hbel.alloc hbw _⟩
        · rw [← size_toList, cons_data, List.length_cons, size_toList, hbs]
        · rw [cons_data, textD_succ, HB.out, b8_mod, HQ.out]
      case measure => simp [intOf]; omega
    · obtain rfl : k = v := by omega
      by_cases hz : 0 < q
      · have he := Lib.hid (textE_num H.out (by rw [Int.toNat_natCast, Int.toNat_natCast, ← HQ.out]; exact hz))
        go_wp2
        go_ret2
        exact ⟨ret_str (by rw [textV_no (by rw [he.out]; decide)]) he.out.symm, hbel⟩
      · have he := Lib.hid (textE_ok H.out (by rw [Int.toNat_natCast, Int.toNat_natCast, ← HQ.out]; exact hz))
        go_wp2
        go_ret2
        exact ⟨ret_bs (by rw [HB.out, textV_ok he.out]; simp) he.out.symm, hbel⟩

theorem rText_any (n wd : Int) (w : World) (h63 : n ≤ 9223372036854775807) :
    Calls Tryd.prog 39 #[.int .i64 n, .int .i64 wd] w fun e w' => e = .returned (.tuple #[.string ⟨(textV n wd).toArray⟩, .int .i64 (textE n wd)]) ∧ Below w.heap.size w w' := by
  by_cases h : n < 0 ∨ wd < 1 ∨ 19 < wd
  · have he := Lib.hid (textE_arg h)
    by_cases h1 : n < 0
    · clear h
      go_enter Tryd.func39, Tryd.ntmps39
      go_wp2_with fail
      go_ret2
      exact ⟨ret_str (a := []) (by rw [textV_no (by rw [he.out]; decide)]) he.out.symm, Below.refl _ _⟩
    · by_cases h2 : wd < 1
      · clear h
        go_enter Tryd.func39, Tryd.ntmps39
        go_wp2_with fail
        go_ret2
        exact ⟨ret_str (a := []) (by rw [textV_no (by rw [he.out]; decide)]) he.out.symm, Below.refl _ _⟩
      · have h3 : 19 < wd := by omega
        clear h
        go_enter Tryd.func39, Tryd.ntmps39
        go_wp2_with fail
        go_ret2
        exact ⟨ret_str (a := []) (by rw [textV_no (by rw [he.out]; decide)]) he.out.symm, Below.refl _ _⟩
  · exact rText_in n wd w h h63
end Go.Proofs.YtiijjpjkfiookaaDoor
