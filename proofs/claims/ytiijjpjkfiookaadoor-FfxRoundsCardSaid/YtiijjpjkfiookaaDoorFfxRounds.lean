/- THE WALK of the law FfxRounds. -/
import Derived.Test.YtiijjpjkfiookaaDoorFfxBack
import Derived.Test.YtiijjpjkfiookaaDoorFfxM
namespace Go.Proofs.YtiijjpjkfiookaaDoor
open Go.RowKit

set_option maxRecDepth 100000 in
set_option maxHeartbeats 8000000 in
theorem FfxRounds_no (A : Option Addr) (n c : Nat) (key : List UInt8) (T : Option Addr) (m d : Nat) (tw : List UInt8) (s : ByteArray) (w : World) (hrk : Reads w w.heap.size 1 A n (bv key)) (hrt : Reads w w.heap.size 1 T m (bv tw)) (hd : m ≤ 140737488355328) (hs : s.size ≤ maxLen) (hbad : ¬ cipE key tw = 0) :
    Calls Tryd.prog 11 #[.slice A n c, .slice T m d, .string s] w fun e w' => e = .returned (.bool true) ∧ Below w.heap.size w w' := by
  have HNW := Lib.hid (fun w1 (hb : Below w.heap.size w w1) => New_cip key tw A n c T m d w.heap.size w1 (hrk.below hb) (hrt.below hb) hb.size hd)
  have HNM := Lib.hid (fun w => numerals_any s w hs)
  have HBAD := Lib.hid hbad
  obtain ⟨er, her⟩ : ∃ er, er = cipE key tw := ⟨_, rfl⟩
  have he0 : ¬ er = 0 := by rw [her]; exact hbad
  have HER := Lib.hid her
  clear hrk hrt hbad her
  generalize nmB s.data.toList = bt at HNM
  go_enter Tryd.func11, Tryd.ntmps11
  go_wp2_with fail
  refine (small10_any _).mono ?_
  rintro e w1 ⟨rfl, hb1⟩
  have HB1 := Lib.hid hb1
  have HN2 := Lib.hid (HNW.out w1 hb1)
  clear hb1
  go_wp2_with fail
  refine HN2.out.mono ?_
  rintro e w2 ⟨hb2, ⟨_, rfl⟩ | ⟨h0, _⟩⟩
  rotate_left
  · exact absurd h0 HBAD.out
  have HB2 := Lib.hid (thenB HB1.out hb2)
  clear hb2
  rw [← HER.out]
  go_wp2_with fail
  refine (HNM.out _).mono ?_
  rintro e w3 ⟨rfl, rfl⟩
  go_wp2_with fail
  go_ret
  exact ⟨rfl, HB2.out⟩
set_option maxRecDepth 100000 in
set_option maxHeartbeats 8000000 in
theorem FfxRounds_bad (A : Option Addr) (n c : Nat) (key : List UInt8) (T : Option Addr) (m d : Nat) (tw : List UInt8) (s : ByteArray) (w : World) (hrk : Reads w w.heap.size 1 A n (bv key)) (hrt : Reads w w.heap.size 1 T m (bv tw)) (hd : m ≤ 140737488355328) (hs : s.size ≤ maxLen) (hok : cipE key tw = 0) (hnm : ¬ nmE s.data.toList = 0) :
    Calls Tryd.prog 11 #[.slice A n c, .slice T m d, .string s] w fun e w' => e = .returned (.bool true) ∧ Below w.heap.size w w' := by
  have HNW := Lib.hid (fun w1 (hb : Below w.heap.size w w1) => New_cip key tw A n c T m d w.heap.size w1 (hrk.below hb) (hrt.below hb) hb.size hd)
  have HNM := Lib.hid (fun w => numerals_any s w hs)
  rw [nmB_no hnm] at HNM
  have HOK := Lib.hid hok
  clear hrk hrt hok hnm
  go_enter Tryd.func11, Tryd.ntmps11
  go_wp2_with fail
  refine (small10_any _).mono ?_
  rintro e w1 ⟨rfl, hb1⟩
  have HB1 := Lib.hid hb1
  have HN2 := Lib.hid (HNW.out w1 hb1)
  clear hb1
  go_wp2_with fail
  refine HN2.out.mono ?_
  rintro e w2 ⟨hb2, ⟨hno, _⟩ | ⟨_, cb, rfl, _⟩⟩
  · exact absurd HOK.out hno
  have HB2 := Lib.hid (thenB HB1.out hb2)
  clear hb2
  go_wp2_with fail
  refine (HNM.out _).mono ?_
  rintro e w3 ⟨rfl, rfl⟩
  go_wp2_with fail
  go_ret
  exact ⟨rfl, HB2.out⟩
set_option maxRecDepth 100000 in
set_option maxHeartbeats 8000000 in
theorem FfxRounds_yes (A : Option Addr) (n c : Nat) (key : List UInt8) (T : Option Addr) (m d : Nat) (tw : List UInt8) (s : ByteArray) (w : World) (hrk : Reads w w.heap.size 1 A n (bv key)) (hrt : Reads w w.heap.size 1 T m (bv tw)) (hd : m ≤ 140737488355328) (hs : s.size ≤ maxLen) (hok : cipE key tw = 0) (hnm : nmE s.data.toList = 0) :
    Calls Tryd.prog 11 #[.slice A n c, .slice T m d, .string s] w fun e w' => e = .returned (.bool true) ∧ Below w.heap.size w w' := by
  have HNW := Lib.hid (fun w1 (hb : Below w.heap.size w w1) => New_cip key tw A n c T m d w.heap.size w1 (hrk.below hb) (hrt.below hb) hb.size hd)
  have HNM := Lib.hid (fun w => numerals_any s w hs)
  rw [nmB_yes hnm] at HNM
  obtain ⟨hk, h16⟩ := cipE_zero hok
  have HK := Lib.hid hk
  have HOK := Lib.hid hok
  obtain ⟨h6, h32, hdg⟩ := nmE_zero hnm
  have hsz : s.data.toList.length = s.size := size_toList s
  obtain ⟨u, hu⟩ : ∃ u, u = s.size / 2 := ⟨_, rfl⟩
  obtain ⟨v, hv⟩ : ∃ v, v = s.size - s.size / 2 := ⟨_, rfl⟩
  have hda : (s.extract 0 u).data.toList = s.data.toList.take (s.data.toList.length / 2) := by
    rw [hsz, ← hu]; simp [ByteArray.data_extract, Array.toList_extract, List.extract]
  have hdb : (s.extract u s.size).data.toList = s.data.toList.drop (s.data.toList.length / 2) := by
    rw [hsz, ← hu]; simp [ByteArray.data_extract, Array.toList_extract, List.extract]
    rw [List.take_of_length_le (by simp [hsz])]
  have hza : (s.extract 0 u).size ≤ maxLen := by rw [← size_toList, hda, List.length_take]; unfold maxLen; omega
  have hzb : (s.extract u s.size).size ≤ maxLen := by rw [← size_toList, hdb, List.length_drop]; unfold maxLen; omega
  obtain ⟨l, hl⟩ : ∃ l, l = s.data.toList := ⟨_, rfl⟩
  have hV1 := fun w => Value_any (s.extract 0 u) w hza
  have hV2 := fun w => Value_any (s.extract u s.size) w hzb
  rw [hda, ← hl] at hV1
  rw [hdb, ← hl] at hV2
  rw [← hl] at hsz h6 h32 hdg hnm
  rw [numR_dig (List.all_eq_true.2 fun c hc => List.all_eq_true.1 hdg c (List.mem_of_mem_take hc)) (by rw [List.length_take]; omega) (by rw [List.length_take]; omega)] at hV1
  rw [numR_dig (List.all_eq_true.2 fun c hc => List.all_eq_true.1 hdg c (List.mem_of_mem_drop hc)) (by rw [List.length_drop]; omega) (by rw [List.length_drop]; omega)] at hV2
  have HENC := Lib.hid (fun cb X w h => by
    have h1 := FEncrypt_any cb X key tw s w h hk h16 hs
    rw [← hl, encR_ok hnm] at h1
    unfold EncR at h1
    rw [hnm] at h1
    exact h1)
  have HV := Lib.hid (vals_in hdg)
  have q0 : ((s.size : Nat) : Int).tdiv 2 = (u : Int) := by rw [Int.tdiv_eq_ediv_of_nonneg (by omega)]; omega
  have q1 : (s.size : Int) / 2 = (u : Int) := by omega
  have q2 : (u : Int) ≤ (s.size : Int) := by omega
  have q3 : (0 : Int) ≤ (u : Int) := by omega
  have q4 : (s.size : Int) - (u : Int) = (v : Int) := by omega
  have hq0 := fun i => enc_in (f := maskV key tw l.length) HV.out i
  obtain ⟨va, hva⟩ : ∃ va, va = valD (l.take (l.length / 2)) := ⟨_, rfl⟩
  obtain ⟨vb, hvb⟩ : ∃ vb, vb = valD (l.drop (l.length / 2)) := ⟨_, rfl⟩
  have HEAT := Lib.hid (show ∀ i, encAt (maskV key tw l.length) l.length (valD (l.take (l.length / 2))) (valD (l.drop (l.length / 2))) i = encAt (maskV key tw l.length) l.length va vb i by rw [hva, hvb]; exact fun _ => rfl)
  rw [← hva] at hV1
  rw [← hvb] at hV2
  have HV1 := Lib.hid hV1
  have HV2 := Lib.hid hV2
  have HQ0 := Lib.hid hq0
  have HSZ := Lib.hid hsz
  have HU := Lib.hid hu
  have HVV := Lib.hid hv
  have HVA := Lib.hid hva
  have HVB := Lib.hid hvb
  have hs6 : 6 ≤ s.size := by omega
  have hs32 : s.size ≤ 32 := by omega
  clear hrk hrt hok hda hdb hza hzb hl hV1 hV2 hq0 hsz hu hv hva hvb hnm hdg hs hd
  go_enter Tryd.func11, Tryd.ntmps11
  go_wp2_with fail
  refine (small10_any _).mono ?_
  rintro e w1 ⟨rfl, hb1⟩
  have HB1 := Lib.hid hb1
  have HN2 := Lib.hid (HNW.out w1 hb1)
  clear hb1
  go_wp2_with fail
  refine HN2.out.mono ?_
  rintro e w2 ⟨hb2, ⟨hno, _⟩ | ⟨_, cb, rfl, _, hcip⟩⟩
  · exact absurd HOK.out hno
  have HB2 := Lib.hid (thenB HB1.out hb2)
  have hs1 := HB1.out.size
  have hs2 := HB2.out.size
  have HST : Hid (RoundRel w2 cb (fun k => w1.heap.size ≤ k) key tw l (.int .i64 va) (.int .i64 vb) (.int .i64 0) 10 w2) := Lib.hid ⟨0, by omega, rfl, rfl, by rw [HVA.out]; rfl, by rw [HVB.out]; rfl, CipOut.refl_ hcip⟩
  clear hb2 hcip
  go_wp2_with fail
  refine (HNM.out _).mono ?_
  rintro e w3 ⟨rfl, rfl⟩
  go_wp2_with fail
  refine (HV1.out _).mono ?_
  rintro e w3 ⟨rfl, rfl⟩
  go_wp2_with fail
  refine (HV2.out _).mono ?_
  rintro e w3 ⟨rfl, rfl⟩
  go_wp2_with fail
  go_loopg [12, 14, 16] 10 (fun gg s6 s7 s22 wx => RoundRel w2 cb (fun k => w1.heap.size ≤ k) key tw l s6 s7 s22 gg wx)
  case atStart => exact HST.out
  case round =>
    clear HST
    obtain ⟨i, hi, hgg, rfl, rfl, rfl, hco⟩ := hrel
    have HGG := Lib.hid hgg
    clear hgg
    have hin := HQ0.out i
    obtain ⟨q, hq⟩ : ∃ q, q = encAt (maskV key tw l.length) l.length (valD (l.take (l.length / 2))) (valD (l.drop (l.length / 2))) i := ⟨_, rfl⟩
    rw [← hq] at hin ⊢
    have HQ := Lib.hid hq
    have HIN := Lib.hid hin
    clear hq hin
    by_cases hlt : i < 10
    · obtain ⟨X2, hc2, hnx⟩ := hco.next
      obtain ⟨mv, hmv⟩ : ∃ mv, mv = maskV key tw l.length i q.2 := ⟨_, rfl⟩
      have HMV := Lib.hid hmv
      have HMK := Lib.hid (show Calls Tryd.prog 34 #[.pointer (some ⟨cb, 0, none⟩), .int .i64 (s.size : Nat), .int .i64 i, .int .i64 (q.2 : Nat)] wr (fun e w' => e = .returned (.tuple #[.int .i64 mv, .int .i64 0]) ∧ CipOut cb X2 key tw wr w') from by
        rw [← HSZ.out, hmv]
        exact Mask_yes cb X2 key tw l.length i q.2 wr hc2 HK.out h16 h6 h32 (by omega) HIN.out.2)
      have HNX := Lib.hid hnx
      obtain ⟨hv, hhv⟩ : ∃ hv, hv = halfN l.length i := ⟨_, rfl⟩
      obtain ⟨av, hav⟩ : ∃ av, av = (q.1 + mv) % 10 ^ hv := ⟨_, rfl⟩
      have HAD := Lib.hid (fun w => Add_any (q.1 : Int) (mv : Nat) (hv : Nat) w)
      rw [hhv, add_half h6 h32 HIN.out.1 (by rw [hmv]; exact mask_lt _ _ _ _ _), ← hhv, ← hav] at HAD
      have HAV := Lib.hid (show av = (q.1 + maskV key tw l.length i q.2) % 10 ^ halfN l.length i by rw [hav, hmv, hhv])
      obtain ⟨r, hr⟩ : ∃ r, r = i % 2 := ⟨_, rfl⟩
      have t1 : ((i : Nat) : Int).tmod 2 = (r : Int) := by rw [Int.tmod_eq_emod_of_nonneg (by omega)]; omega
      have t2 : (i : Int) % 2 = (r : Int) := by omega
      have hi' : (i : Int) < 10 := by omega
      have huv : hv = if r = 1 then v else u := by
        have e1 := HU.out; have e2 := HVV.out; have e3 := HSZ.out
        rw [hhv]; unfold halfN; rw [← hr]
        split <;> omega
      clear hc2 hnx hco hmv hhv hav
      by_cases hr1 : r = 1
      · rw [if_pos hr1] at huv
        have hr1' : (r : Int) = 1 := by omega
        subst huv
        clear hr
        go_wp2_with fail
        refine HMK.out.mono ?_
        rintro e w5 ⟨rfl, hc3⟩
        have HC3 := Lib.hid (HNX.out _ hc3)
        clear hc3
        go_wp2_with fail
        refine (HAD.out _).mono ?_
        rintro e w6 ⟨rfl, hb6⟩
        have HNE2 : Hid (RoundRel w2 cb (fun k => w1.heap.size ≤ k) key tw l (.int .i64 (q.2 : Nat)) (.int .i64 (av : Nat)) (.int .i64 ((i : Int) + 1)) (9 - i) w6) := Lib.hid ⟨i + 1, by omega, by omega, by go_num, by rw [HQ.out]; rfl, by rw [HAV.out, HQ.out]; rfl, HC3.out.more hb6⟩
        clear hb6
        go_wp2_with fail
        go_roundg (9 - i)
        case measure => have := HGG.out; omega
        case rel => exact HNE2.out
      · rw [if_neg hr1] at huv
        have hr1' : ¬ (r : Int) = 1 := by omega
        subst huv
        clear hr
        go_wp2_with fail
        refine HMK.out.mono ?_
        rintro e w5 ⟨rfl, hc3⟩
        have HC3 := Lib.hid (HNX.out _ hc3)
        clear hc3
        go_wp2_with fail
        refine (HAD.out _).mono ?_
        rintro e w6 ⟨rfl, hb6⟩
        have HNE2 : Hid (RoundRel w2 cb (fun k => w1.heap.size ≤ k) key tw l (.int .i64 (q.2 : Nat)) (.int .i64 (av : Nat)) (.int .i64 ((i : Int) + 1)) (9 - i) w6) := Lib.hid ⟨i + 1, by omega, by omega, by go_num, by rw [HQ.out]; rfl, by rw [HAV.out, HQ.out]; rfl, HC3.out.more hb6⟩
        clear hb6
        go_wp2_with fail
        go_roundg (9 - i)
        case measure => have := HGG.out; omega
        case rel => exact HNE2.out
    · obtain rfl : i = 10 := by omega
      obtain ⟨X2, hc2, hnx⟩ := hco.next
      have hin0 := in_ten.1 HIN.out
      have h1 := hin0.1
      have h2 := hin0.2
      have e1 := HU.out
      have e2 := HVV.out
      have e3 := HSZ.out
      rw [half0, e3, ← e1] at h1
      rw [half1, e3, ← e2] at h2
      have hb16 : ∀ m x : Nat, m ≤ 16 → x < 10 ^ m → (x : Int) ≤ 9223372036854775807 := fun m x hm hx => by
        have hp16 : 10 ^ m ≤ 10 ^ 16 := Nat.pow_le_pow_right (by decide) hm
        have e16 : (10 : Nat) ^ 16 = 10000000000000000 := by decide
        omega
      have hD1 := fun w => Digits_any (q.1 : Int) (u : Int) w (hb16 u _ (by omega) h1)
      have hD2 := fun w => Digits_any (q.2 : Int) (v : Int) w (hb16 v _ (by omega) h2)
      rw [textV_nat (by omega) (by omega) h1] at hD1
      rw [textV_nat (by omega) (by omega) h2] at hD2
      obtain ⟨sA, hsA⟩ : ∃ sA : ByteArray, sA = ⟨(textD q.1 u).toArray⟩ := ⟨_, rfl⟩
      obtain ⟨sB, hsB⟩ : ∃ sB : ByteArray, sB = ⟨(textD q.2 v).toArray⟩ := ⟨_, rfl⟩
      have hzA : sA.size ≤ 16 := by rw [hsA, show (⟨(textD q.1 u).toArray⟩ : ByteArray).size = (textD q.1 u).length from by simp [ByteArray.size], length_textD]; omega
      have hzB : sB.size ≤ 16 := by rw [hsB, show (⟨(textD q.2 v).toArray⟩ : ByteArray).size = (textD q.2 v).length from by simp [ByteArray.size], length_textD]; omega
      rw [← hsA] at hD1
      rw [← hsB] at hD2
      have hxe : (⟨(encT key tw l).toArray⟩ : ByteArray) = sA ++ sB := by
        rw [hsA, hsB, str_add]; unfold encT joinT
        rw [← HQ.out, e3, e2, ← e1]
      have HXE := Lib.hid hxe
      have HD1 := Lib.hid hD1
      have HD2 := Lib.hid hD2
      have HCN := Lib.hid (fun wz (hb : Below wr.heap.size wr wz) => HENC.out cb X2 wz (hc2.below hb (Nat.le_refl _)))
      have HCO := Lib.hid hco
      have hbb : ((sA ++ sB).toList == (sA ++ sB).toList) = true := by simp
      clear hD1 hD2 h1 h2 hb16 hin0 hsA hsB hxe hc2 hnx hco e1 e2 e3
      go_wp2_with fail
      refine (HD1.out _).mono ?_
      rintro e w5 ⟨rfl, hb5⟩
      have HB5 := Lib.hid hb5
      clear hb5
      go_wp2_with fail
      refine (HD2.out _).mono ?_
      rintro e w6 ⟨rfl, hb6⟩
      have HB6 := Lib.hid (thenB HB5.out hb6)
      have hco6 := HCO.out.more HB6.out
      obtain ⟨X6, hc6, hnx6⟩ := hco6.next
      have HNX6 := Lib.hid hnx6
      have HE6 := Lib.hid (HENC.out cb X6 w6 hc6)
      clear hb6 hco6 hc6 hnx6
      go_wp2_with fail
      refine HE6.out.mono ?_
      rintro e w7 ⟨rfl, hco7⟩
      obtain ⟨_, _, _, hg⟩ := HNX6.out w7 hco7
      have HBF := Lib.hid (HB2.out.trans (hg.below (B := w.heap.size) (by omega) (fun k _ hx => by have h9 : w1.heap.size ≤ k := hx; omega)))
      rw [HXE.out]
      clear hco7 hg
      go_wp2_with fail
      go_ret
      exact ⟨by simp, HBF.out⟩
theorem FfxRounds_walk (A : Option Addr) (n c : Nat) (key : List UInt8) (T : Option Addr) (m d : Nat) (tw : List UInt8) (s : ByteArray) (w : World) (hrk : Reads w w.heap.size 1 A n (bv key)) (_hc : n ≤ c ∧ c ≤ 140737488351232) (hrt : Reads w w.heap.size 1 T m (bv tw)) (hd : m ≤ d ∧ d ≤ 140737488351232) (hs : s.size ≤ maxLen) :
    Calls Tryd.prog 11 #[.slice A n c, .slice T m d, .string s] w fun e w' => e = .returned (.bool true) ∧ Below w.heap.size w w' := by
  by_cases h : cipE key tw = 0
  · by_cases h2 : nmE s.data.toList = 0
    · exact FfxRounds_yes A n c key T m d tw s w hrk hrt (by omega) hs h h2
    · exact FfxRounds_bad A n c key T m d tw s w hrk hrt (by omega) hs h h2
  · exact FfxRounds_no A n c key T m d tw s w hrk hrt (by omega) hs h
end Go.Proofs.YtiijjpjkfiookaaDoor
