/- THE WALKS of the laws PanLengths, PanBack. -/
import Derived.Test.YtnhcabcpdlgdaaaDoorPan8
namespace Go.Proofs.YtnhcabcpdlgdaaaDoor
open Go.RowKit

theorem isEmpty_str {l : List UInt8} (h : l = []) : (⟨l.toArray⟩ : ByteArray) = ⟨#[]⟩ := by rw [h]
set_option maxRecDepth 100000 in
set_option maxHeartbeats 4000000 in
theorem PanLengths_walk (s : ByteArray) (w : World) (hs : s.size ≤ maxLen) (ht : Tab w) : Calls Tryd.prog 8 #[.string s] w fun e w' => e = .returned (.bool true) ∧ Below w.heap.size w w' := by
  cases h : shapedB s.data.toList with
  | false =>
    have HE := Lib.hid (cutR_no h)
    clear h
    go_enter Tryd.func8, Tryd.ntmps8
    go_wp2_with fail
    refine (small11_any _ ht).mono ?_
    rintro e w1 ⟨rfl, hb1⟩
    go_wp2_with fail
    refine (Cut_any _ _ hs).mono ?_
    rw [HE.out]
    rintro e w2 ⟨rfl, hb2⟩
    go_wp2_with fail
    go_ret
    exact ⟨rfl, thenB hb1 hb2⟩
  | true =>
    have hcut := cutR_yes h
    obtain ⟨p1, p2, p3, p4, p5⟩ := parts_len h
    have hall := parts_all h
    have hdig := lookE_dig (shapedB_iff.1 h).1
    obtain ⟨a, ha⟩ : ∃ a : ByteArray, a = ⟨(binP s.data.toList).toArray⟩ := ⟨_, rfl⟩
    obtain ⟨b, hb⟩ : ∃ b : ByteArray, b = ⟨(midP s.data.toList).toArray⟩ := ⟨_, rfl⟩
    obtain ⟨c, hc⟩ : ∃ c : ByteArray, c = ⟨(lastP s.data.toList).toArray⟩ := ⟨_, rfl⟩
    have hasz : a.size = 6 := by rw [ha, len_str]; omega
    have hcsz : c.size = 4 := by rw [hc, len_str]; omega
    have hb6 : (6 : Int) ≤ b.size := by rw [hb, len_str]; omega
    have hb9 : (b.size : Int) ≤ 9 := by rw [hb, len_str]; omega
    have habc : a ++ b ++ c = s := by
      rw [str_is (a ++ b ++ c), Go.Joins.data_append, Go.Joins.data_append, ha, hb, hc]
      show (⟨(binP s.data.toList ++ midP s.data.toList ++ lastP s.data.toList).toArray⟩ : ByteArray) = s
      rw [hall, ← str_is]
    rw [← ha, ← hb, ← hc] at hcut
    have HC := Lib.hid hcut
    have HABC := Lib.hid habc
    have HD := Lib.hid hdig
    have hs19 : s.size ≤ 19 := by rw [← size_toList]; omega
    have hb9' : b.size ≤ 9 := by omega
    have d1 : decide ((6 : Int) ≤ b.size) = true := decide_eq_true hb6
    have d2 : decide ((b.size : Int) ≤ 9) = true := decide_eq_true hb9
    have HA6 := Lib.hid hasz
    have HC4 := Lib.hid hcsz
    clear h hcut p1 p2 p3 p4 p5 hall hdig ha hb hc hasz hcsz habc
    go_enter Tryd.func8, Tryd.ntmps8
    go_wp2_with fail
    refine (small11_any _ ht).mono ?_
    rintro e w1 ⟨rfl, hb1⟩
    go_wp2_with fail
    refine (Cut_any _ _ hs).mono ?_
    rw [HC.out]
    rintro e w2 ⟨rfl, hb2⟩
    have hb12 := thenB hb1 hb2
    go_wp2_with fail
    go_loop [8] (fun i => ∃ k : Nat, k ≤ s.size ∧ i = .int .i64 k) (fun i => s.size - (intOf i).toNat)
    case atStart => exact ⟨0, by omega, rfl⟩
    case round =>
      obtain ⟨k, hk, rfl⟩ := hrel
      by_cases hlt : k < s.size
      · have hdk : isDig s[k] = true := by rw [← byte_at s k hlt]; exact List.all_eq_true.1 HD.out _ (List.getElem_mem _)
        obtain ⟨e1, e2⟩ := isDig_iff.1 hdk
        have g1 : decide ((s[k].toNat : Int) < 48) = false := decide_eq_false (by omega)
        have g2 : decide ((57 : Int) < s[k].toNat) = false := decide_eq_false (by omega)
        clear hdk
        go_wp2_with fail
        go_round
        case rel => exact ⟨k + 1, by omega, by go_num⟩
        case measure => simp [intOf]; omega
      · have f1 : ((a.size : Int) == 6) = true := by rw [HA6.out]; rfl
        have f2 : ((c.size : Int) == 4) = true := by rw [HC4.out]; rfl
        have n1 : ¬ 9223372036854775807 < a.size + b.size := by have := HA6.out; omega
        have n2 : ¬ 9223372036854775807 < a.size + b.size + c.size := by have := HA6.out; have := HC4.out; omega
        have f3 : ((a ++ b ++ c).toList == s.toList) = true := by rw [HABC.out]; simp
        go_wp2_with fail
        go_ret
        exact ⟨rfl, hb12⟩

set_option maxRecDepth 100000 in
set_option maxHeartbeats 4000000 in
theorem PanBack_walk (s : ByteArray) (v : Int) (t : ByteArray) (w : World) (hs : s.size ≤ maxLen) (_hv : (Lit.int .i64 v).wf = true) (hts : t.size ≤ maxLen) (ht : Tab w) : Calls Tryd.prog 5 #[.string s, .int .i64 v, .string t] w fun e w' => e = .returned (.bool true) ∧ Below w.heap.size w w' := by
  -- the second half, from any world
  have hT : (splitOk t.data.toList = false ∧ splR t.data.toList = .returned (.tuple #[.string ⟨#[]⟩, .int .i64 0, .int .i64 11])) ∨
      (∃ (p : ByteArray) (n : Int), p.size ≤ maxLen ∧ splR t.data.toList = .returned (.tuple #[.string p, .int .i64 n, .int .i64 0]) ∧ tokR p.data.toList n = .returned (.tuple #[.string t, .int .i64 0])) := by
    cases h : splitOk t.data.toList with
    | false => exact .inl ⟨rfl, splR_no h⟩
    | true =>
      obtain ⟨h1, h2, h3⟩ := splitOk_iff.1 h
      refine .inr ⟨⟨(beforeDot t.data.toList).toArray⟩, numV (afterDot t.data.toList), ?_, splR_yes h, ?_⟩
      · rw [len_str]; have := (dots_le t.data.toList).1; rw [size_toList] at this; omega
      · unfold tokR
        show Ending.returned (.tuple #[.string ⟨(tokS (beforeDot t.data.toList) _).toArray⟩, .int .i64 (tokE (beforeDot t.data.toList) _)]) = _
        rw [h2, h3, ← str_is]
  by_cases hok : tokE s.data.toList v = 0
  · obtain ⟨k1, k2, k3⟩ := tok_split hok
    obtain ⟨x, hx⟩ : ∃ x : ByteArray, x = ⟨(tokS s.data.toList v).toArray⟩ := ⟨_, rfl⟩
    have hxd : x.data.toList = tokS s.data.toList v := by rw [hx]
    have HT1 := Lib.hid (show tokR s.data.toList v = .returned (.tuple #[.string x, .int .i64 0]) by unfold tokR; rw [hok, hx])
    have HS1 := Lib.hid (show splR x.data.toList = .returned (.tuple #[.string s, .int .i64 v, .int .i64 0]) by rw [hxd, splR_yes k1, k2, k3, ← str_is])
    have hxs : x.size ≤ maxLen := by
      obtain ⟨hsh, hv1, hv2⟩ := tokE_zero hok
      have h19 := (shapedB_iff.1 hsh).2.2
      rw [size_toList] at h19
      have hdl := dec_len (n := v.toNat) (by omega)
      rw [← size_toList, hxd, tokS_ok hok]; unfold maxLen; simp only [List.length_append, List.length_cons, size_toList]; omega
    clear hok k1 k2 k3 hx hxd
    rcases hT with ⟨_, hT⟩ | ⟨p, n, hps, hT, hP⟩
    · have HT := Lib.hid hT
      clear hT
      go_enter Tryd.func5, Tryd.ntmps5
      go_wp2_with fail
      refine (small11_any _ ht).mono ?_
      rintro e w1 ⟨rfl, hb1⟩
      go_wp2_with fail
      refine (Token_any _ _ _ hs (ht.below hb1)).mono ?_
      rw [HT1.out]
      rintro e w2 ⟨rfl, hb2⟩
      have hb12 := thenB hb1 hb2
      go_wp2_with fail
      refine (Split_any _ _ hxs (ht.below hb12)).mono ?_
      rw [HS1.out]
      rintro e w3 ⟨rfl, hb3⟩
      have hb13 := thenB hb12 hb3
      go_wp2_with fail
      refine (Split_any _ _ hts (ht.below hb13)).mono ?_
      rw [HT.out]
      rintro e w4 ⟨rfl, hb4⟩
      go_wp2_with fail
      go_ret
      exact ⟨rfl, thenB hb13 hb4⟩
    · have HT := Lib.hid hT
      have HP := Lib.hid hP
      clear hT hP
      go_enter Tryd.func5, Tryd.ntmps5
      go_wp2_with fail
      refine (small11_any _ ht).mono ?_
      rintro e w1 ⟨rfl, hb1⟩
      go_wp2_with fail
      refine (Token_any _ _ _ hs (ht.below hb1)).mono ?_
      rw [HT1.out]
      rintro e w2 ⟨rfl, hb2⟩
      have hb12 := thenB hb1 hb2
      go_wp2_with fail
      refine (Split_any _ _ hxs (ht.below hb12)).mono ?_
      rw [HS1.out]
      rintro e w3 ⟨rfl, hb3⟩
      have hb13 := thenB hb12 hb3
      go_wp2_with fail
      refine (Split_any _ _ hts (ht.below hb13)).mono ?_
      rw [HT.out]
      rintro e w4 ⟨rfl, hb4⟩
      have hb14 := thenB hb13 hb4
      go_wp2_with fail
      refine (Token_any _ _ _ hps (ht.below hb14)).mono ?_
      rw [HP.out]
      rintro e w5 ⟨rfl, hb5⟩
      go_wp2_with fail
      go_ret
      exact ⟨rfl, thenB hb14 hb5⟩
  · obtain ⟨er, her⟩ : ∃ er, tokE s.data.toList v = er := ⟨_, rfl⟩
    rw [her] at hok
    have HT1 := Lib.hid (show tokR s.data.toList v = .returned (.tuple #[.string ⟨#[]⟩, .int .i64 er]) by unfold tokR; rw [tokS_no (by rw [her]; exact hok), her])
    have hne : (er == 0) = false := by simpa using hok
    clear hok her
    rcases hT with ⟨_, hT⟩ | ⟨p, n, hps, hT, hP⟩
    · have HT := Lib.hid hT
      clear hT
      go_enter Tryd.func5, Tryd.ntmps5
      go_wp2_with fail
      refine (small11_any _ ht).mono ?_
      rintro e w1 ⟨rfl, hb1⟩
      go_wp2_with fail
      refine (Token_any _ _ _ hs (ht.below hb1)).mono ?_
      rw [HT1.out]
      rintro e w2 ⟨rfl, hb2⟩
      have hb12 := thenB hb1 hb2
      go_wp2_with fail
      refine (Split_any _ _ hts (ht.below hb12)).mono ?_
      rw [HT.out]
      rintro e w4 ⟨rfl, hb4⟩
      go_wp2_with fail
      go_ret
      exact ⟨rfl, thenB hb12 hb4⟩
    · have HT := Lib.hid hT
      have HP := Lib.hid hP
      clear hT hP
      go_enter Tryd.func5, Tryd.ntmps5
      go_wp2_with fail
      refine (small11_any _ ht).mono ?_
      rintro e w1 ⟨rfl, hb1⟩
      go_wp2_with fail
      refine (Token_any _ _ _ hs (ht.below hb1)).mono ?_
      rw [HT1.out]
      rintro e w2 ⟨rfl, hb2⟩
      have hb12 := thenB hb1 hb2
      go_wp2_with fail
      refine (Split_any _ _ hts (ht.below hb12)).mono ?_
      rw [HT.out]
      rintro e w4 ⟨rfl, hb4⟩
      have hb14 := thenB hb12 hb4
      go_wp2_with fail
      refine (Token_any _ _ _ hps (ht.below hb14)).mono ?_
      rw [HP.out]
      rintro e w5 ⟨rfl, hb5⟩
      go_wp2_with fail
      go_ret
      exact ⟨rfl, thenB hb14 hb5⟩
end Go.Proofs.YtnhcabcpdlgdaaaDoor
