/- THE WALK of the law VaultBack. -/
import Derived.Test.YtogpnlfbdhddmaaGreatDoorHVauApart
import Derived.Test.YtogpnlfbdhddmaaGreatDoorHVauRot
namespace Go.Proofs.YtogpnlfbdhddmaaGreatDoor
open Go.RowKit

/-- Behind k Rotates, from version v on. -/
def RotFrom (w : World) (vb : Nat) (m : List UInt8) (t v q : Nat) (i : Value) (wr : World) : Prop :=
  ∃ k now : Nat, k ≤ q ∧ v ≤ now ∧ i = .int .i64 k ∧ VOk m t now ∧ VauSin w vb m t now wr
/-- What a token made at version v comes to at version now. -/
theorem back_all {m : List UInt8} {t v now : Nat} {s x : ByteArray} (h : panB s.data.toList = true) (h1 : 1 ≤ v) (h2 : v ≤ now) (h3 : now ≤ 255) (hx : x.data.toList = vtS m t v s.data.toList) :
    vbR m t now x.data.toList = .returned (.tuple #[.string s, .int .i64 0]) ∧ ∃ y d : ByteArray, y.size ≤ 30 ∧ vnR m t now x.data.toList = .returned (.tuple #[.string y, .int .i64 0]) ∧
      vbR m t now y.data.toList = .returned (.tuple #[.string s, .int .i64 0]) ∧ splR y.data.toList = .returned (.tuple #[.string d, .int .i64 now, .int .i64 0]) := by
  obtain ⟨b1, b2⟩ := tok_back (m := m) (t := t) (now := now) h h1 (by omega) h2
  obtain ⟨y, d, hy, hyd, _, hr, hsp⟩ := vt_split (m := m) (t := t) (now := now) h (by omega) h3
  obtain ⟨c1, c2⟩ := tok_back (m := m) (t := t) (now := now) (v := now) h (by omega) h3 (Nat.le_refl _)
  refine ⟨?_, y, d, hy, ?_, ?_, hsp⟩
  · unfold vbR; rw [hx, b1, b2, vstr]
  · rw [hx, vnR_ok b1, b2]; exact hr
  · unfold vbR; rw [hyd, c1, c2, vstr]
set_option maxRecDepth 100000 in
set_option maxHeartbeats 4000000 in
theorem VaultBack_no (A : Option Addr) (n c : Nat) (m : List UInt8) (t0 v0 : Int) (s : ByteArray) (times : Int) (u : ByteArray) (w : World) (hr : Reads w w.heap.size 1 A n (bv m)) (hno : vOk m t0 v0 = false) (ht : Tab w) :
    Calls Tryz.prog 7 #[.slice A n c, .int .i64 t0, .int .i64 v0, .string s, .int .i64 times, .string u] w fun e w' => e = .returned (.bool true) ∧ Below w.heap.size w w' := by
  have HOK := Lib.hid hno
  have HNEW := Lib.hid (fun w1 (hb : Below w.heap.size w w1) => New_vau m A n c w.heap.size t0 v0 w1 (hr.below hb) hb.size (ht.below hb))
  clear hno hr
  go_enter Tryz.func7, Tryz.ntmps7
  go_wp2_with fail
  refine (small14_any _ ht).mono ?_
  rintro e w1 ⟨rfl, hb1⟩
  have HB1 := Lib.hid hb1
  clear hb1
  go_wp2_with fail
  refine (HNEW.out w1 HB1.out).mono ?_
  rintro e w2 ⟨hb2, ⟨_, rfl⟩ | ⟨h0, _⟩⟩
  · have HB2 := Lib.hid (thenB HB1.out hb2)
    clear hb2
    go_wp2_with fail
    go_ret
    exact ⟨rfl, HB2.out⟩
  · rw [HOK.out] at h0; cases h0
set_option maxRecDepth 100000 in
set_option maxHeartbeats 8000000 in
theorem VaultBack_no_no (A : Option Addr) (n c : Nat) (m : List UInt8) (t v : Nat) (s : ByteArray) (times : Int) (u : ByteArray) (w : World) (hr : Reads w w.heap.size 1 A n (bv m)) (hok : vOk m t v = true) (hs : s.size ≤ maxLen) (hu : u.size ≤ maxLen) (ht : Tab w) (hp : panB s.data.toList = false) (hq : ¬ vbE m t v u.data.toList = 0) :
    Calls Tryz.prog 7 #[.slice A n c, .int .i64 t, .int .i64 v, .string s, .int .i64 times, .string u] w fun e w' => e = .returned (.bool true) ∧ Below w.heap.size w w' := by
  have HOK := Lib.hid hok
  have hv0 := (VOk.of_new hok).1
  rw [Int.toNat_natCast, Int.toNat_natCast] at hv0
  obtain ⟨_, _, _, hn1, hn2⟩ := id hv0
  have HV0 := Lib.hid hv0
  have HNEW := Lib.hid (fun w1 (hb : Below w.heap.size w w1) => New_vau m A n c w.heap.size t v w1 (hr.below hb) hb.size (ht.below hb))
  have HIS := Lib.hid (fun w => Is_any s w hs)
  rw [hp] at HIS
  have HP := Lib.hid hp
  have hss : (s.toList == s.toList) = true := by simp
  obtain ⟨q, hq31, hqe⟩ := v_and (a := times) (m := 7) (by decide)
  rw [show ((7 : Nat) : Int) = 7 from rfl] at hqe
  have HR1 := Lib.hid (vtR_no (m := m) (t := t) (now := v) hp)
  obtain ⟨p, hpe⟩ : ∃ p : ByteArray, p = ⟨(vbS m t v u.data.toList).toArray⟩ := ⟨_, rfl⟩
  obtain ⟨er, her⟩ : ∃ er, er = vbE m t v u.data.toList := ⟨_, rfl⟩
  have HR2 := Lib.hid (show vbR m t v u.data.toList = .returned (.tuple #[.string p, .int .i64 er]) by unfold vbR; rw [hpe, her])
  have hb0 : (er == 0) = false := beq_eq_false_iff_ne.2 (by rw [her]; exact hq)
  clear hpe her hq
  clear hok hr hv0 hp
  go_enter Tryz.func7, Tryz.ntmps7
  go_wp2_with fail
  refine (small14_any _ ht).mono ?_
  rintro e w1 ⟨rfl, hb1⟩
  have HB1 := Lib.hid hb1
  clear hb1
  go_wp2_with fail
  refine (HNEW.out w1 HB1.out).mono ?_
  rintro e w2 ⟨hb2, ⟨h0, _⟩ | ⟨_, vb, rfl, hvb, hva⟩⟩
  · rw [HOK.out] at h0; cases h0
  rw [Int.toNat_natCast, Int.toNat_natCast] at hva
  have HS2 := Lib.hid (sin_new (w0 := w) HB1.out hb2 hvb hva)
  clear hb2 hva hvb
  go_wp2_with fail
  refine (sToken HS2.out HV0.out ht s hs).mono ?_
  rw [HR1.out]
  rintro e w3 ⟨rfl, h3⟩
  have HS3 := Lib.hid h3
  clear h3
  go_wp2_with fail
  refine (HIS.out _).mono ?_
  rintro e w4 ⟨rfl, hb4⟩
  have HS4 := Lib.hid (HS3.out.below hb4)
  clear hb4
  go_wp2_with fail
  refine (sBack HS4.out HV0.out ht u hu).mono ?_
  rw [HR2.out]
  rintro e w5 ⟨rfl, h5⟩
  have HS5 := Lib.hid h5
  clear h5
  go_wp2_with fail
  have HST := Lib.hid (show RotFrom w vb m t v q (.int .i64 0) w5 from ⟨0, v, by omega, Nat.le_refl _, rfl, HV0.out, HS5.out⟩)
  go_loopw [25] (fun i wr => RotFrom w vb m t v q i wr) (fun i _ => q - (intOf i).toNat)
  case atStart => exact HST.out
  case round =>
    clear HST
    obtain ⟨k, now, hk, hvn, rfl, hvk, hsin⟩ := hrel
    obtain ⟨_, _, _, hw1, hw2⟩ := id hvk
    have HVK := Lib.hid hvk
    have HSN := Lib.hid hsin
    clear hvk hsin
    by_cases hlt : k < q
    · have hki : (k : Int) < (q : Int) := by omega
      by_cases h255 : now = 255
      · have HR := Lib.hid (sRotate_no HSN.out h255)
        subst h255
        go_wp2_with fail
        refine HR.out.mono ?_
        rintro e w4 ⟨rfl, rfl⟩
        go_wp2_with fail
        go_roundw
        case rel => exact ⟨k + 1, 255, by omega, hvn, by go_num, HVK.out, HSN.out⟩
        case measure => simp [intOf]; omega
      · have HR := Lib.hid (sRotate_yes HSN.out (by omega))
        go_wp2_with fail
        refine HR.out.mono ?_
        rintro e w4 ⟨rfl, hs4⟩
        have HS4 := Lib.hid hs4
        clear hs4
        go_wp2_with fail
        go_roundw
        case rel => exact ⟨k + 1, now + 1, by omega, by omega, by go_num, ⟨HVK.out.1, HVK.out.2.1, HVK.out.2.2.1, by omega, by omega⟩, HS4.out⟩
        case measure => simp [intOf]; omega
    · obtain rfl : k = q := by omega
      have hee : ((⟨#[]⟩ : ByteArray).toList == (⟨#[]⟩ : ByteArray).toList) = true := by simp
      go_wp2_with fail
      go_ret
      exact ⟨rfl, HSN.out.2.2⟩
set_option maxRecDepth 100000 in
set_option maxHeartbeats 8000000 in
theorem VaultBack_no_now (A : Option Addr) (n c : Nat) (m : List UInt8) (t v : Nat) (s : ByteArray) (times : Int) (u : ByteArray) (w : World) (hr : Reads w w.heap.size 1 A n (bv m)) (hok : vOk m t v = true) (hs : s.size ≤ maxLen) (hu : u.size ≤ maxLen) (ht : Tab w) (hp : panB s.data.toList = false) (hq : vbE m t v u.data.toList = 0 ∧ splV u.data.toList = v) :
    Calls Tryz.prog 7 #[.slice A n c, .int .i64 t, .int .i64 v, .string s, .int .i64 times, .string u] w fun e w' => e = .returned (.bool true) ∧ Below w.heap.size w w' := by
  have HOK := Lib.hid hok
  have hv0 := (VOk.of_new hok).1
  rw [Int.toNat_natCast, Int.toNat_natCast] at hv0
  obtain ⟨_, _, _, hn1, hn2⟩ := id hv0
  have HV0 := Lib.hid hv0
  have HNEW := Lib.hid (fun w1 (hb : Below w.heap.size w w1) => New_vau m A n c w.heap.size t v w1 (hr.below hb) hb.size (ht.below hb))
  have HIS := Lib.hid (fun w => Is_any s w hs)
  rw [hp] at HIS
  have HP := Lib.hid hp
  have hss : (s.toList == s.toList) = true := by simp
  obtain ⟨q, hq31, hqe⟩ := v_and (a := times) (m := 7) (by decide)
  rw [show ((7 : Nat) : Int) = 7 from rfl] at hqe
  have HR1 := Lib.hid (vtR_no (m := m) (t := t) (now := v) hp)
  obtain ⟨hq0, hqv⟩ := hq
  obtain ⟨k1, k2, k3, k4, k5, k6⟩ := back_tok hq0
  have hl19 := back_len (m := m) (t := t) (now := v) (l := u.data.toList)
  have hsk := spl_yes (vbE_zero hq0).1
  obtain ⟨p, hpe⟩ : ∃ p : ByteArray, p = ⟨(vbS m t v u.data.toList).toArray⟩ := ⟨_, rfl⟩
  have hpd : p.data.toList = vbS m t v u.data.toList := by rw [hpe]
  have hp19 : p.size ≤ 19 := by rw [← size_toList, hpd]; exact hl19
  have hpm : p.size ≤ maxLen := by unfold maxLen; omega
  have HR2 := Lib.hid (show vbR m t v u.data.toList = .returned (.tuple #[.string p, .int .i64 0]) by unfold vbR; rw [hpe, hq0])
  have HISP := Lib.hid (fun w => Is_any p w hpm)
  rw [hpd, k1] at HISP
  obtain ⟨y, y', hy1, hyd, hy2, hr3, hy3⟩ := vt_split (m := m) (t := t) (now := v) k1 hn1 hn2
  have HR3 := Lib.hid (show vtR m t v p.data.toList = .returned (.tuple #[.string y, .int .i64 0]) by rw [hpd]; exact hr3)
  obtain ⟨sv, hsv⟩ : ∃ sv, sv = splV u.data.toList := ⟨_, rfl⟩
  obtain ⟨ss, hse⟩ : ∃ ss : ByteArray, ss = ⟨(splS u.data.toList).toArray⟩ := ⟨_, rfl⟩
  have HSPU := Lib.hid (fun w (h : Tab w) => show Calls Tryz.prog 14 #[.string u] w (fun e w' => e = .returned (.tuple #[.string ss, .int .i64 sv, .int .i64 0]) ∧ Below w.heap.size w w') by
    have h := Split_any u w hu h
    unfold splR at h
    rw [hsk.1, ← hsv, ← hse] at h
    exact h)
  obtain ⟨mp, hmp⟩ : ∃ mp : ByteArray, mp = ⟨(maskS p.data.toList).toArray⟩ := ⟨_, rfl⟩
  obtain ⟨mu, hmu⟩ : ∃ mu : ByteArray, mu = ⟨(maskS u.data.toList).toArray⟩ := ⟨_, rfl⟩
  have HMP := Lib.hid (fun w h => Mask_any p w hpm h)
  have HMU := Lib.hid (fun w h => Mask_any u w hu h)
  rw [← hmp] at HMP
  rw [← hmu] at HMU
  have hml : p.size ≤ mu.size := by rw [hmu, len_arr, ← size_toList, hpd]; exact k6
  have hpi : (p.size : Int) ≤ (mu.size : Int) := by omega
  have hcut : mu.extract 0 p.size = mp := by
    rw [hmp, hpd, k5]
    refine sub_str mu 0 p.size _ ?_
    rw [hmu, List.drop_zero, Nat.sub_zero, ← size_toList p, hpd]
  have hmm : (mp.toList != mp.toList) = false := by simp
  have hsvv : sv = (v : Int) := by rw [hsv, hqv]
  have hyu : y = u := ByteArray.ext (Array.toList_inj.1 (by rw [hyd]; exact k4 hqv))
  rw [hyu] at HR3
  rw [hsvv] at HSPU
  clear hyu hsvv
  clear hq0 hqv k1 k2 k3 k4 k5 k6 hl19 hsk hpe hpd hyd hr3 hse hmp hmu hsv hy1 hy2 hy3
  clear hok hr hv0 hp
  go_enter Tryz.func7, Tryz.ntmps7
  go_wp2_with fail
  refine (small14_any _ ht).mono ?_
  rintro e w1 ⟨rfl, hb1⟩
  have HB1 := Lib.hid hb1
  clear hb1
  go_wp2_with fail
  refine (HNEW.out w1 HB1.out).mono ?_
  rintro e w2 ⟨hb2, ⟨h0, _⟩ | ⟨_, vb, rfl, hvb, hva⟩⟩
  · rw [HOK.out] at h0; cases h0
  rw [Int.toNat_natCast, Int.toNat_natCast] at hva
  have HS2 := Lib.hid (sin_new (w0 := w) HB1.out hb2 hvb hva)
  clear hb2 hva hvb
  go_wp2_with fail
  refine (sToken HS2.out HV0.out ht s hs).mono ?_
  rw [HR1.out]
  rintro e w3 ⟨rfl, h3⟩
  have HS3 := Lib.hid h3
  clear h3
  go_wp2_with fail
  refine (HIS.out _).mono ?_
  rintro e w4 ⟨rfl, hb4⟩
  have HS4 := Lib.hid (HS3.out.below hb4)
  clear hb4
  go_wp2_with fail
  refine (sBack HS4.out HV0.out ht u hu).mono ?_
  rw [HR2.out]
  rintro e w5 ⟨rfl, h5⟩
  have HS5 := Lib.hid h5
  clear h5
  go_wp2_with fail
  refine (HSPU.out _ (HS5.out.tab ht)).mono ?_
  rintro e w6 ⟨rfl, hb6⟩
  have HS6 := Lib.hid (HS5.out.below hb6)
  clear hb6
  go_wp2_with fail
  refine (sToken HS6.out HV0.out ht p hpm).mono ?_
  rw [HR3.out]
  rintro e w7 ⟨rfl, h7⟩
  have HS7 := Lib.hid h7
  clear h7
  go_wp2_with fail
  refine (HISP.out _).mono ?_
  rintro e w8 ⟨rfl, hb8⟩
  have HS8 := Lib.hid (HS7.out.below hb8)
  clear hb8
  go_wp2_with fail
  refine (HMP.out _ (HS8.out.tab ht)).mono ?_
  rintro e w9 ⟨rfl, hb9⟩
  have HS9 := Lib.hid (HS8.out.below hb9)
  clear hb9
  go_wp2_with fail
  refine (HMU.out _ (HS9.out.tab ht)).mono ?_
  rintro e w10 ⟨rfl, hb10⟩
  have HS10 := Lib.hid (HS9.out.below hb10)
  clear hb10
  go_wp2_with fail
  clear hcut hmm hml hpi
  have HST := Lib.hid (show RotFrom w vb m t v q (.int .i64 0) w10 from ⟨0, v, by omega, Nat.le_refl _, rfl, HV0.out, HS10.out⟩)
  go_loopw [25] (fun i wr => RotFrom w vb m t v q i wr) (fun i _ => q - (intOf i).toNat)
  case atStart => exact HST.out
  case round =>
    clear HST
    obtain ⟨k, now, hk, hvn, rfl, hvk, hsin⟩ := hrel
    obtain ⟨_, _, _, hw1, hw2⟩ := id hvk
    have HVK := Lib.hid hvk
    have HSN := Lib.hid hsin
    clear hvk hsin
    by_cases hlt : k < q
    · have hki : (k : Int) < (q : Int) := by omega
      by_cases h255 : now = 255
      · have HR := Lib.hid (sRotate_no HSN.out h255)
        subst h255
        go_wp2_with fail
        refine HR.out.mono ?_
        rintro e w4 ⟨rfl, rfl⟩
        go_wp2_with fail
        go_roundw
        case rel => exact ⟨k + 1, 255, by omega, hvn, by go_num, HVK.out, HSN.out⟩
        case measure => simp [intOf]; omega
      · have HR := Lib.hid (sRotate_yes HSN.out (by omega))
        go_wp2_with fail
        refine HR.out.mono ?_
        rintro e w4 ⟨rfl, hs4⟩
        have HS4 := Lib.hid hs4
        clear hs4
        go_wp2_with fail
        go_roundw
        case rel => exact ⟨k + 1, now + 1, by omega, by omega, by go_num, ⟨HVK.out.1, HVK.out.2.1, HVK.out.2.2.1, by omega, by omega⟩, HS4.out⟩
        case measure => simp [intOf]; omega
    · obtain rfl : k = q := by omega
      have hee : ((⟨#[]⟩ : ByteArray).toList == (⟨#[]⟩ : ByteArray).toList) = true := by simp
      go_wp2_with fail
      go_ret
      exact ⟨rfl, HSN.out.2.2⟩
set_option maxRecDepth 100000 in
set_option maxHeartbeats 8000000 in
theorem VaultBack_no_old (A : Option Addr) (n c : Nat) (m : List UInt8) (t v : Nat) (s : ByteArray) (times : Int) (u : ByteArray) (w : World) (hr : Reads w w.heap.size 1 A n (bv m)) (hok : vOk m t v = true) (hs : s.size ≤ maxLen) (hu : u.size ≤ maxLen) (ht : Tab w) (hp : panB s.data.toList = false) (hq : vbE m t v u.data.toList = 0 ∧ ¬ splV u.data.toList = v) :
    Calls Tryz.prog 7 #[.slice A n c, .int .i64 t, .int .i64 v, .string s, .int .i64 times, .string u] w fun e w' => e = .returned (.bool true) ∧ Below w.heap.size w w' := by
  have HOK := Lib.hid hok
  have hv0 := (VOk.of_new hok).1
  rw [Int.toNat_natCast, Int.toNat_natCast] at hv0
  obtain ⟨_, _, _, hn1, hn2⟩ := id hv0
  have HV0 := Lib.hid hv0
  have HNEW := Lib.hid (fun w1 (hb : Below w.heap.size w w1) => New_vau m A n c w.heap.size t v w1 (hr.below hb) hb.size (ht.below hb))
  have HIS := Lib.hid (fun w => Is_any s w hs)
  rw [hp] at HIS
  have HP := Lib.hid hp
  have hss : (s.toList == s.toList) = true := by simp
  obtain ⟨q, hq31, hqe⟩ := v_and (a := times) (m := 7) (by decide)
  rw [show ((7 : Nat) : Int) = 7 from rfl] at hqe
  have HR1 := Lib.hid (vtR_no (m := m) (t := t) (now := v) hp)
  obtain ⟨hq0, hqv⟩ := hq
  obtain ⟨k1, k2, k3, k4, k5, k6⟩ := back_tok hq0
  have hl19 := back_len (m := m) (t := t) (now := v) (l := u.data.toList)
  have hsk := spl_yes (vbE_zero hq0).1
  obtain ⟨p, hpe⟩ : ∃ p : ByteArray, p = ⟨(vbS m t v u.data.toList).toArray⟩ := ⟨_, rfl⟩
  have hpd : p.data.toList = vbS m t v u.data.toList := by rw [hpe]
  have hp19 : p.size ≤ 19 := by rw [← size_toList, hpd]; exact hl19
  have hpm : p.size ≤ maxLen := by unfold maxLen; omega
  have HR2 := Lib.hid (show vbR m t v u.data.toList = .returned (.tuple #[.string p, .int .i64 0]) by unfold vbR; rw [hpe, hq0])
  have HISP := Lib.hid (fun w => Is_any p w hpm)
  rw [hpd, k1] at HISP
  obtain ⟨y, y', hy1, hyd, hy2, hr3, hy3⟩ := vt_split (m := m) (t := t) (now := v) k1 hn1 hn2
  have HR3 := Lib.hid (show vtR m t v p.data.toList = .returned (.tuple #[.string y, .int .i64 0]) by rw [hpd]; exact hr3)
  obtain ⟨sv, hsv⟩ : ∃ sv, sv = splV u.data.toList := ⟨_, rfl⟩
  obtain ⟨ss, hse⟩ : ∃ ss : ByteArray, ss = ⟨(splS u.data.toList).toArray⟩ := ⟨_, rfl⟩
  have HSPU := Lib.hid (fun w (h : Tab w) => show Calls Tryz.prog 14 #[.string u] w (fun e w' => e = .returned (.tuple #[.string ss, .int .i64 sv, .int .i64 0]) ∧ Below w.heap.size w w') by
    have h := Split_any u w hu h
    unfold splR at h
    rw [hsk.1, ← hsv, ← hse] at h
    exact h)
  obtain ⟨mp, hmp⟩ : ∃ mp : ByteArray, mp = ⟨(maskS p.data.toList).toArray⟩ := ⟨_, rfl⟩
  obtain ⟨mu, hmu⟩ : ∃ mu : ByteArray, mu = ⟨(maskS u.data.toList).toArray⟩ := ⟨_, rfl⟩
  have HMP := Lib.hid (fun w h => Mask_any p w hpm h)
  have HMU := Lib.hid (fun w h => Mask_any u w hu h)
  rw [← hmp] at HMP
  rw [← hmu] at HMU
  have hml : p.size ≤ mu.size := by rw [hmu, len_arr, ← size_toList, hpd]; exact k6
  have hpi : (p.size : Int) ≤ (mu.size : Int) := by omega
  have hcut : mu.extract 0 p.size = mp := by
    rw [hmp, hpd, k5]
    refine sub_str mu 0 p.size _ ?_
    rw [hmu, List.drop_zero, Nat.sub_zero, ← size_toList p, hpd]
  have hmm : (mp.toList != mp.toList) = false := by simp
  have hse1 : (sv == (v : Int)) = false := by rw [hsv]; exact beq_eq_false_iff_ne.2 hqv
  clear hq0 hqv k1 k2 k3 k4 k5 k6 hl19 hsk hpe hpd hyd hr3 hse hmp hmu hsv hy1 hy2 hy3
  clear hok hr hv0 hp
  go_enter Tryz.func7, Tryz.ntmps7
  go_wp2_with fail
  refine (small14_any _ ht).mono ?_
  rintro e w1 ⟨rfl, hb1⟩
  have HB1 := Lib.hid hb1
  clear hb1
  go_wp2_with fail
  refine (HNEW.out w1 HB1.out).mono ?_
  rintro e w2 ⟨hb2, ⟨h0, _⟩ | ⟨_, vb, rfl, hvb, hva⟩⟩
  · rw [HOK.out] at h0; cases h0
  rw [Int.toNat_natCast, Int.toNat_natCast] at hva
  have HS2 := Lib.hid (sin_new (w0 := w) HB1.out hb2 hvb hva)
  clear hb2 hva hvb
  go_wp2_with fail
  refine (sToken HS2.out HV0.out ht s hs).mono ?_
  rw [HR1.out]
  rintro e w3 ⟨rfl, h3⟩
  have HS3 := Lib.hid h3
  clear h3
  go_wp2_with fail
  refine (HIS.out _).mono ?_
  rintro e w4 ⟨rfl, hb4⟩
  have HS4 := Lib.hid (HS3.out.below hb4)
  clear hb4
  go_wp2_with fail
  refine (sBack HS4.out HV0.out ht u hu).mono ?_
  rw [HR2.out]
  rintro e w5 ⟨rfl, h5⟩
  have HS5 := Lib.hid h5
  clear h5
  go_wp2_with fail
  refine (HSPU.out _ (HS5.out.tab ht)).mono ?_
  rintro e w6 ⟨rfl, hb6⟩
  have HS6 := Lib.hid (HS5.out.below hb6)
  clear hb6
  go_wp2_with fail
  refine (sToken HS6.out HV0.out ht p hpm).mono ?_
  rw [HR3.out]
  rintro e w7 ⟨rfl, h7⟩
  have HS7 := Lib.hid h7
  clear h7
  go_wp2_with fail
  refine (HISP.out _).mono ?_
  rintro e w8 ⟨rfl, hb8⟩
  have HS8 := Lib.hid (HS7.out.below hb8)
  clear hb8
  go_wp2_with fail
  refine (HMP.out _ (HS8.out.tab ht)).mono ?_
  rintro e w9 ⟨rfl, hb9⟩
  have HS9 := Lib.hid (HS8.out.below hb9)
  clear hb9
  go_wp2_with fail
  refine (HMU.out _ (HS9.out.tab ht)).mono ?_
  rintro e w10 ⟨rfl, hb10⟩
  have HS10 := Lib.hid (HS9.out.below hb10)
  clear hb10
  go_wp2_with fail
  clear hcut hmm hml hpi hse1
  have HST := Lib.hid (show RotFrom w vb m t v q (.int .i64 0) w10 from ⟨0, v, by omega, Nat.le_refl _, rfl, HV0.out, HS10.out⟩)
  go_loopw [25] (fun i wr => RotFrom w vb m t v q i wr) (fun i _ => q - (intOf i).toNat)
  case atStart => exact HST.out
  case round =>
    clear HST
    obtain ⟨k, now, hk, hvn, rfl, hvk, hsin⟩ := hrel
    obtain ⟨_, _, _, hw1, hw2⟩ := id hvk
    have HVK := Lib.hid hvk
    have HSN := Lib.hid hsin
    clear hvk hsin
    by_cases hlt : k < q
    · have hki : (k : Int) < (q : Int) := by omega
      by_cases h255 : now = 255
      · have HR := Lib.hid (sRotate_no HSN.out h255)
        subst h255
        go_wp2_with fail
        refine HR.out.mono ?_
        rintro e w4 ⟨rfl, rfl⟩
        go_wp2_with fail
        go_roundw
        case rel => exact ⟨k + 1, 255, by omega, hvn, by go_num, HVK.out, HSN.out⟩
        case measure => simp [intOf]; omega
      · have HR := Lib.hid (sRotate_yes HSN.out (by omega))
        go_wp2_with fail
        refine HR.out.mono ?_
        rintro e w4 ⟨rfl, hs4⟩
        have HS4 := Lib.hid hs4
        clear hs4
        go_wp2_with fail
        go_roundw
        case rel => exact ⟨k + 1, now + 1, by omega, by omega, by go_num, ⟨HVK.out.1, HVK.out.2.1, HVK.out.2.2.1, by omega, by omega⟩, HS4.out⟩
        case measure => simp [intOf]; omega
    · obtain rfl : k = q := by omega
      have hee : ((⟨#[]⟩ : ByteArray).toList == (⟨#[]⟩ : ByteArray).toList) = true := by simp
      go_wp2_with fail
      go_ret
      exact ⟨rfl, HSN.out.2.2⟩
set_option maxRecDepth 100000 in
set_option maxHeartbeats 8000000 in
theorem VaultBack_yes_no (A : Option Addr) (n c : Nat) (m : List UInt8) (t v : Nat) (s : ByteArray) (times : Int) (u : ByteArray) (w : World) (hr : Reads w w.heap.size 1 A n (bv m)) (hok : vOk m t v = true) (hs : s.size ≤ maxLen) (hu : u.size ≤ maxLen) (ht : Tab w) (hp : panB s.data.toList = true) (hq : ¬ vbE m t v u.data.toList = 0) :
    Calls Tryz.prog 7 #[.slice A n c, .int .i64 t, .int .i64 v, .string s, .int .i64 times, .string u] w fun e w' => e = .returned (.bool true) ∧ Below w.heap.size w w' := by
  have HOK := Lib.hid hok
  have hv0 := (VOk.of_new hok).1
  rw [Int.toNat_natCast, Int.toNat_natCast] at hv0
  obtain ⟨_, _, _, hn1, hn2⟩ := id hv0
  have HV0 := Lib.hid hv0
  have HNEW := Lib.hid (fun w1 (hb : Below w.heap.size w w1) => New_vau m A n c w.heap.size t v w1 (hr.below hb) hb.size (ht.below hb))
  have HIS := Lib.hid (fun w => Is_any s w hs)
  rw [hp] at HIS
  have HP := Lib.hid hp
  have hss : (s.toList == s.toList) = true := by simp
  obtain ⟨q, hq31, hqe⟩ := v_and (a := times) (m := 7) (by decide)
  rw [show ((7 : Nat) : Int) = 7 from rfl] at hqe
  obtain ⟨x, x', hx, hxd, hx1, hr1, hx2⟩ := vt_split (m := m) (t := t) (now := v) hp hn1 hn2
  have HXD := Lib.hid hxd
  have HX30 := Lib.hid (show x.size ≤ maxLen by unfold maxLen; omega)
  have HR1 := Lib.hid hr1
  clear hxd hr1 hx hx1 hx2
  obtain ⟨p, hpe⟩ : ∃ p : ByteArray, p = ⟨(vbS m t v u.data.toList).toArray⟩ := ⟨_, rfl⟩
  obtain ⟨er, her⟩ : ∃ er, er = vbE m t v u.data.toList := ⟨_, rfl⟩
  have HR2 := Lib.hid (show vbR m t v u.data.toList = .returned (.tuple #[.string p, .int .i64 er]) by unfold vbR; rw [hpe, her])
  have hb0 : (er == 0) = false := beq_eq_false_iff_ne.2 (by rw [her]; exact hq)
  clear hpe her hq
  clear hok hr hv0 hp
  go_enter Tryz.func7, Tryz.ntmps7
  go_wp2_with fail
  refine (small14_any _ ht).mono ?_
  rintro e w1 ⟨rfl, hb1⟩
  have HB1 := Lib.hid hb1
  clear hb1
  go_wp2_with fail
  refine (HNEW.out w1 HB1.out).mono ?_
  rintro e w2 ⟨hb2, ⟨h0, _⟩ | ⟨_, vb, rfl, hvb, hva⟩⟩
  · rw [HOK.out] at h0; cases h0
  rw [Int.toNat_natCast, Int.toNat_natCast] at hva
  have HS2 := Lib.hid (sin_new (w0 := w) HB1.out hb2 hvb hva)
  clear hb2 hva hvb
  go_wp2_with fail
  refine (sToken HS2.out HV0.out ht s hs).mono ?_
  rw [HR1.out]
  rintro e w3 ⟨rfl, h3⟩
  have HS3 := Lib.hid h3
  clear h3
  go_wp2_with fail
  refine (HIS.out _).mono ?_
  rintro e w4 ⟨rfl, hb4⟩
  have HS4 := Lib.hid (HS3.out.below hb4)
  clear hb4
  go_wp2_with fail
  refine (sBack HS4.out HV0.out ht u hu).mono ?_
  rw [HR2.out]
  rintro e w5 ⟨rfl, h5⟩
  have HS5 := Lib.hid h5
  clear h5
  go_wp2_with fail
  have HST := Lib.hid (show RotFrom w vb m t v q (.int .i64 0) w5 from ⟨0, v, by omega, Nat.le_refl _, rfl, HV0.out, HS5.out⟩)
  go_loopw [25] (fun i wr => RotFrom w vb m t v q i wr) (fun i _ => q - (intOf i).toNat)
  case atStart => exact HST.out
  case round =>
    clear HST
    obtain ⟨k, now, hk, hvn, rfl, hvk, hsin⟩ := hrel
    obtain ⟨_, _, _, hw1, hw2⟩ := id hvk
    have HVK := Lib.hid hvk
    have HSN := Lib.hid hsin
    clear hvk hsin
    by_cases hlt : k < q
    · have hki : (k : Int) < (q : Int) := by omega
      by_cases h255 : now = 255
      · have HR := Lib.hid (sRotate_no HSN.out h255)
        subst h255
        go_wp2_with fail
        refine HR.out.mono ?_
        rintro e w4 ⟨rfl, rfl⟩
        go_wp2_with fail
        go_roundw
        case rel => exact ⟨k + 1, 255, by omega, hvn, by go_num, HVK.out, HSN.out⟩
        case measure => simp [intOf]; omega
      · have HR := Lib.hid (sRotate_yes HSN.out (by omega))
        go_wp2_with fail
        refine HR.out.mono ?_
        rintro e w4 ⟨rfl, hs4⟩
        have HS4 := Lib.hid hs4
        clear hs4
        go_wp2_with fail
        go_roundw
        case rel => exact ⟨k + 1, now + 1, by omega, by omega, by go_num, ⟨HVK.out.1, HVK.out.2.1, HVK.out.2.2.1, by omega, by omega⟩, HS4.out⟩
        case measure => simp [intOf]; omega
    · obtain rfl : k = q := by omega
      obtain ⟨r1, y2, d2, hy2, r2, r3, r4⟩ := back_all (m := m) (t := t) (v := v) (now := now) HP.out hn1 hvn hw2 HXD.out
      have R1 := Lib.hid r1
      have R2 := Lib.hid r2
      have R3 := Lib.hid r3
      have R4 := Lib.hid (fun w (h : Tab w) => show Calls Tryz.prog 14 #[.string y2] w (fun e w' => e = .returned (.tuple #[.string d2, .int .i64 now, .int .i64 0]) ∧ Below w.heap.size w w') by
        have h := Split_any y2 w (by unfold maxLen; omega) h
        rw [r4] at h
        exact h)
      have HY2 := Lib.hid (show y2.size ≤ maxLen by unfold maxLen; omega)
      clear r1 r2 r3 r4
      go_wp2_with fail
      refine (sBack HSN.out HVK.out ht x HX30.out).mono ?_
      rw [R1.out]
      rintro e w11 ⟨rfl, h11⟩
      have HS11 := Lib.hid h11
      clear h11
      go_wp2_with fail
      refine (sRenew HS11.out HVK.out ht x HX30.out).mono ?_
      rw [R2.out]
      rintro e w12 ⟨rfl, h12⟩
      have HS12 := Lib.hid h12
      clear h12
      go_wp2_with fail
      refine (sBack HS12.out HVK.out ht y2 HY2.out).mono ?_
      rw [R3.out]
      rintro e w13 ⟨rfl, h13⟩
      have HS13 := Lib.hid h13
      clear h13
      go_wp2_with fail
      refine (R4.out _ (HS13.out.tab ht)).mono ?_
      rintro e w14 ⟨rfl, hb14⟩
      have HS14 := Lib.hid (HS13.out.below hb14)
      clear hb14
      go_wp2_with fail
      refine (sVersion HS14.out).mono ?_
      rintro e w15 ⟨rfl, rfl⟩
      go_wp2_with fail
      go_ret
      exact ⟨rfl, HS14.out.2.2⟩
set_option maxRecDepth 100000 in
set_option maxHeartbeats 8000000 in
theorem VaultBack_yes_now (A : Option Addr) (n c : Nat) (m : List UInt8) (t v : Nat) (s : ByteArray) (times : Int) (u : ByteArray) (w : World) (hr : Reads w w.heap.size 1 A n (bv m)) (hok : vOk m t v = true) (hs : s.size ≤ maxLen) (hu : u.size ≤ maxLen) (ht : Tab w) (hp : panB s.data.toList = true) (hq : vbE m t v u.data.toList = 0 ∧ splV u.data.toList = v) :
    Calls Tryz.prog 7 #[.slice A n c, .int .i64 t, .int .i64 v, .string s, .int .i64 times, .string u] w fun e w' => e = .returned (.bool true) ∧ Below w.heap.size w w' := by
  have HOK := Lib.hid hok
  have hv0 := (VOk.of_new hok).1
  rw [Int.toNat_natCast, Int.toNat_natCast] at hv0
  obtain ⟨_, _, _, hn1, hn2⟩ := id hv0
  have HV0 := Lib.hid hv0
  have HNEW := Lib.hid (fun w1 (hb : Below w.heap.size w w1) => New_vau m A n c w.heap.size t v w1 (hr.below hb) hb.size (ht.below hb))
  have HIS := Lib.hid (fun w => Is_any s w hs)
  rw [hp] at HIS
  have HP := Lib.hid hp
  have hss : (s.toList == s.toList) = true := by simp
  obtain ⟨q, hq31, hqe⟩ := v_and (a := times) (m := 7) (by decide)
  rw [show ((7 : Nat) : Int) = 7 from rfl] at hqe
  obtain ⟨x, x', hx, hxd, hx1, hr1, hx2⟩ := vt_split (m := m) (t := t) (now := v) hp hn1 hn2
  have HXD := Lib.hid hxd
  have HX30 := Lib.hid (show x.size ≤ maxLen by unfold maxLen; omega)
  have HR1 := Lib.hid hr1
  clear hxd hr1 hx hx1 hx2
  obtain ⟨hq0, hqv⟩ := hq
  obtain ⟨k1, k2, k3, k4, k5, k6⟩ := back_tok hq0
  have hl19 := back_len (m := m) (t := t) (now := v) (l := u.data.toList)
  have hsk := spl_yes (vbE_zero hq0).1
  obtain ⟨p, hpe⟩ : ∃ p : ByteArray, p = ⟨(vbS m t v u.data.toList).toArray⟩ := ⟨_, rfl⟩
  have hpd : p.data.toList = vbS m t v u.data.toList := by rw [hpe]
  have hp19 : p.size ≤ 19 := by rw [← size_toList, hpd]; exact hl19
  have hpm : p.size ≤ maxLen := by unfold maxLen; omega
  have HR2 := Lib.hid (show vbR m t v u.data.toList = .returned (.tuple #[.string p, .int .i64 0]) by unfold vbR; rw [hpe, hq0])
  have HISP := Lib.hid (fun w => Is_any p w hpm)
  rw [hpd, k1] at HISP
  obtain ⟨y, y', hy1, hyd, hy2, hr3, hy3⟩ := vt_split (m := m) (t := t) (now := v) k1 hn1 hn2
  have HR3 := Lib.hid (show vtR m t v p.data.toList = .returned (.tuple #[.string y, .int .i64 0]) by rw [hpd]; exact hr3)
  obtain ⟨sv, hsv⟩ : ∃ sv, sv = splV u.data.toList := ⟨_, rfl⟩
  obtain ⟨ss, hse⟩ : ∃ ss : ByteArray, ss = ⟨(splS u.data.toList).toArray⟩ := ⟨_, rfl⟩
  have HSPU := Lib.hid (fun w (h : Tab w) => show Calls Tryz.prog 14 #[.string u] w (fun e w' => e = .returned (.tuple #[.string ss, .int .i64 sv, .int .i64 0]) ∧ Below w.heap.size w w') by
    have h := Split_any u w hu h
    unfold splR at h
    rw [hsk.1, ← hsv, ← hse] at h
    exact h)
  obtain ⟨mp, hmp⟩ : ∃ mp : ByteArray, mp = ⟨(maskS p.data.toList).toArray⟩ := ⟨_, rfl⟩
  obtain ⟨mu, hmu⟩ : ∃ mu : ByteArray, mu = ⟨(maskS u.data.toList).toArray⟩ := ⟨_, rfl⟩
  have HMP := Lib.hid (fun w h => Mask_any p w hpm h)
  have HMU := Lib.hid (fun w h => Mask_any u w hu h)
  rw [← hmp] at HMP
  rw [← hmu] at HMU
  have hml : p.size ≤ mu.size := by rw [hmu, len_arr, ← size_toList, hpd]; exact k6
  have hpi : (p.size : Int) ≤ (mu.size : Int) := by omega
  have hcut : mu.extract 0 p.size = mp := by
    rw [hmp, hpd, k5]
    refine sub_str mu 0 p.size _ ?_
    rw [hmu, List.drop_zero, Nat.sub_zero, ← size_toList p, hpd]
  have hmm : (mp.toList != mp.toList) = false := by simp
  have hsvv : sv = (v : Int) := by rw [hsv, hqv]
  have hyu : y = u := ByteArray.ext (Array.toList_inj.1 (by rw [hyd]; exact k4 hqv))
  rw [hyu] at HR3
  rw [hsvv] at HSPU
  clear hyu hsvv
  clear hq0 hqv k1 k2 k3 k4 k5 k6 hl19 hsk hpe hpd hyd hr3 hse hmp hmu hsv hy1 hy2 hy3
  clear hok hr hv0 hp
  go_enter Tryz.func7, Tryz.ntmps7
  go_wp2_with fail
  refine (small14_any _ ht).mono ?_
  rintro e w1 ⟨rfl, hb1⟩
  have HB1 := Lib.hid hb1
  clear hb1
  go_wp2_with fail
  refine (HNEW.out w1 HB1.out).mono ?_
  rintro e w2 ⟨hb2, ⟨h0, _⟩ | ⟨_, vb, rfl, hvb, hva⟩⟩
  · rw [HOK.out] at h0; cases h0
  rw [Int.toNat_natCast, Int.toNat_natCast] at hva
  have HS2 := Lib.hid (sin_new (w0 := w) HB1.out hb2 hvb hva)
  clear hb2 hva hvb
  go_wp2_with fail
  refine (sToken HS2.out HV0.out ht s hs).mono ?_
  rw [HR1.out]
  rintro e w3 ⟨rfl, h3⟩
  have HS3 := Lib.hid h3
  clear h3
  go_wp2_with fail
  refine (HIS.out _).mono ?_
  rintro e w4 ⟨rfl, hb4⟩
  have HS4 := Lib.hid (HS3.out.below hb4)
  clear hb4
  go_wp2_with fail
  refine (sBack HS4.out HV0.out ht u hu).mono ?_
  rw [HR2.out]
  rintro e w5 ⟨rfl, h5⟩
  have HS5 := Lib.hid h5
  clear h5
  go_wp2_with fail
  refine (HSPU.out _ (HS5.out.tab ht)).mono ?_
  rintro e w6 ⟨rfl, hb6⟩
  have HS6 := Lib.hid (HS5.out.below hb6)
  clear hb6
  go_wp2_with fail
  refine (sToken HS6.out HV0.out ht p hpm).mono ?_
  rw [HR3.out]
  rintro e w7 ⟨rfl, h7⟩
  have HS7 := Lib.hid h7
  clear h7
  go_wp2_with fail
  refine (HISP.out _).mono ?_
  rintro e w8 ⟨rfl, hb8⟩
  have HS8 := Lib.hid (HS7.out.below hb8)
  clear hb8
  go_wp2_with fail
  refine (HMP.out _ (HS8.out.tab ht)).mono ?_
  rintro e w9 ⟨rfl, hb9⟩
  have HS9 := Lib.hid (HS8.out.below hb9)
  clear hb9
  go_wp2_with fail
  refine (HMU.out _ (HS9.out.tab ht)).mono ?_
  rintro e w10 ⟨rfl, hb10⟩
  have HS10 := Lib.hid (HS9.out.below hb10)
  clear hb10
  go_wp2_with fail
  clear hcut hmm hml hpi
  have HST := Lib.hid (show RotFrom w vb m t v q (.int .i64 0) w10 from ⟨0, v, by omega, Nat.le_refl _, rfl, HV0.out, HS10.out⟩)
  go_loopw [25] (fun i wr => RotFrom w vb m t v q i wr) (fun i _ => q - (intOf i).toNat)
  case atStart => exact HST.out
  case round =>
    clear HST
    obtain ⟨k, now, hk, hvn, rfl, hvk, hsin⟩ := hrel
    obtain ⟨_, _, _, hw1, hw2⟩ := id hvk
    have HVK := Lib.hid hvk
    have HSN := Lib.hid hsin
    clear hvk hsin
    by_cases hlt : k < q
    · have hki : (k : Int) < (q : Int) := by omega
      by_cases h255 : now = 255
      · have HR := Lib.hid (sRotate_no HSN.out h255)
        subst h255
        go_wp2_with fail
        refine HR.out.mono ?_
        rintro e w4 ⟨rfl, rfl⟩
        go_wp2_with fail
        go_roundw
        case rel => exact ⟨k + 1, 255, by omega, hvn, by go_num, HVK.out, HSN.out⟩
        case measure => simp [intOf]; omega
      · have HR := Lib.hid (sRotate_yes HSN.out (by omega))
        go_wp2_with fail
        refine HR.out.mono ?_
        rintro e w4 ⟨rfl, hs4⟩
        have HS4 := Lib.hid hs4
        clear hs4
        go_wp2_with fail
        go_roundw
        case rel => exact ⟨k + 1, now + 1, by omega, by omega, by go_num, ⟨HVK.out.1, HVK.out.2.1, HVK.out.2.2.1, by omega, by omega⟩, HS4.out⟩
        case measure => simp [intOf]; omega
    · obtain rfl : k = q := by omega
      obtain ⟨r1, y2, d2, hy2, r2, r3, r4⟩ := back_all (m := m) (t := t) (v := v) (now := now) HP.out hn1 hvn hw2 HXD.out
      have R1 := Lib.hid r1
      have R2 := Lib.hid r2
      have R3 := Lib.hid r3
      have R4 := Lib.hid (fun w (h : Tab w) => show Calls Tryz.prog 14 #[.string y2] w (fun e w' => e = .returned (.tuple #[.string d2, .int .i64 now, .int .i64 0]) ∧ Below w.heap.size w w') by
        have h := Split_any y2 w (by unfold maxLen; omega) h
        rw [r4] at h
        exact h)
      have HY2 := Lib.hid (show y2.size ≤ maxLen by unfold maxLen; omega)
      clear r1 r2 r3 r4
      go_wp2_with fail
      refine (sBack HSN.out HVK.out ht x HX30.out).mono ?_
      rw [R1.out]
      rintro e w11 ⟨rfl, h11⟩
      have HS11 := Lib.hid h11
      clear h11
      go_wp2_with fail
      refine (sRenew HS11.out HVK.out ht x HX30.out).mono ?_
      rw [R2.out]
      rintro e w12 ⟨rfl, h12⟩
      have HS12 := Lib.hid h12
      clear h12
      go_wp2_with fail
      refine (sBack HS12.out HVK.out ht y2 HY2.out).mono ?_
      rw [R3.out]
      rintro e w13 ⟨rfl, h13⟩
      have HS13 := Lib.hid h13
      clear h13
      go_wp2_with fail
      refine (R4.out _ (HS13.out.tab ht)).mono ?_
      rintro e w14 ⟨rfl, hb14⟩
      have HS14 := Lib.hid (HS13.out.below hb14)
      clear hb14
      go_wp2_with fail
      refine (sVersion HS14.out).mono ?_
      rintro e w15 ⟨rfl, rfl⟩
      go_wp2_with fail
      go_ret
      exact ⟨rfl, HS14.out.2.2⟩
set_option maxRecDepth 100000 in
set_option maxHeartbeats 8000000 in
theorem VaultBack_yes_old (A : Option Addr) (n c : Nat) (m : List UInt8) (t v : Nat) (s : ByteArray) (times : Int) (u : ByteArray) (w : World) (hr : Reads w w.heap.size 1 A n (bv m)) (hok : vOk m t v = true) (hs : s.size ≤ maxLen) (hu : u.size ≤ maxLen) (ht : Tab w) (hp : panB s.data.toList = true) (hq : vbE m t v u.data.toList = 0 ∧ ¬ splV u.data.toList = v) :
    Calls Tryz.prog 7 #[.slice A n c, .int .i64 t, .int .i64 v, .string s, .int .i64 times, .string u] w fun e w' => e = .returned (.bool true) ∧ Below w.heap.size w w' := by
  have HOK := Lib.hid hok
  have hv0 := (VOk.of_new hok).1
  rw [Int.toNat_natCast, Int.toNat_natCast] at hv0
  obtain ⟨_, _, _, hn1, hn2⟩ := id hv0
  have HV0 := Lib.hid hv0
  have HNEW := Lib.hid (fun w1 (hb : Below w.heap.size w w1) => New_vau m A n c w.heap.size t v w1 (hr.below hb) hb.size (ht.below hb))
  have HIS := Lib.hid (fun w => Is_any s w hs)
  rw [hp] at HIS
  have HP := Lib.hid hp
  have hss : (s.toList == s.toList) = true := by simp
  obtain ⟨q, hq31, hqe⟩ := v_and (a := times) (m := 7) (by decide)
  rw [show ((7 : Nat) : Int) = 7 from rfl] at hqe
  obtain ⟨x, x', hx, hxd, hx1, hr1, hx2⟩ := vt_split (m := m) (t := t) (now := v) hp hn1 hn2
  have HXD := Lib.hid hxd
  have HX30 := Lib.hid (show x.size ≤ maxLen by unfold maxLen; omega)
  have HR1 := Lib.hid hr1
  clear hxd hr1 hx hx1 hx2
  obtain ⟨hq0, hqv⟩ := hq
  obtain ⟨k1, k2, k3, k4, k5, k6⟩ := back_tok hq0
  have hl19 := back_len (m := m) (t := t) (now := v) (l := u.data.toList)
  have hsk := spl_yes (vbE_zero hq0).1
  obtain ⟨p, hpe⟩ : ∃ p : ByteArray, p = ⟨(vbS m t v u.data.toList).toArray⟩ := ⟨_, rfl⟩
  have hpd : p.data.toList = vbS m t v u.data.toList := by rw [hpe]
  have hp19 : p.size ≤ 19 := by rw [← size_toList, hpd]; exact hl19
  have hpm : p.size ≤ maxLen := by unfold maxLen; omega
  have HR2 := Lib.hid (show vbR m t v u.data.toList = .returned (.tuple #[.string p, .int .i64 0]) by unfold vbR; rw [hpe, hq0])
  have HISP := Lib.hid (fun w => Is_any p w hpm)
  rw [hpd, k1] at HISP
  obtain ⟨y, y', hy1, hyd, hy2, hr3, hy3⟩ := vt_split (m := m) (t := t) (now := v) k1 hn1 hn2
  have HR3 := Lib.hid (show vtR m t v p.data.toList = .returned (.tuple #[.string y, .int .i64 0]) by rw [hpd]; exact hr3)
  obtain ⟨sv, hsv⟩ : ∃ sv, sv = splV u.data.toList := ⟨_, rfl⟩
  obtain ⟨ss, hse⟩ : ∃ ss : ByteArray, ss = ⟨(splS u.data.toList).toArray⟩ := ⟨_, rfl⟩
  have HSPU := Lib.hid (fun w (h : Tab w) => show Calls Tryz.prog 14 #[.string u] w (fun e w' => e = .returned (.tuple #[.string ss, .int .i64 sv, .int .i64 0]) ∧ Below w.heap.size w w') by
    have h := Split_any u w hu h
    unfold splR at h
    rw [hsk.1, ← hsv, ← hse] at h
    exact h)
  obtain ⟨mp, hmp⟩ : ∃ mp : ByteArray, mp = ⟨(maskS p.data.toList).toArray⟩ := ⟨_, rfl⟩
  obtain ⟨mu, hmu⟩ : ∃ mu : ByteArray, mu = ⟨(maskS u.data.toList).toArray⟩ := ⟨_, rfl⟩
  have HMP := Lib.hid (fun w h => Mask_any p w hpm h)
  have HMU := Lib.hid (fun w h => Mask_any u w hu h)
  rw [← hmp] at HMP
  rw [← hmu] at HMU
  have hml : p.size ≤ mu.size := by rw [hmu, len_arr, ← size_toList, hpd]; exact k6
  have hpi : (p.size : Int) ≤ (mu.size : Int) := by omega
  have hcut : mu.extract 0 p.size = mp := by
    rw [hmp, hpd, k5]
    refine sub_str mu 0 p.size _ ?_
    rw [hmu, List.drop_zero, Nat.sub_zero, ← size_toList p, hpd]
  have hmm : (mp.toList != mp.toList) = false := by simp
  have hse1 : (sv == (v : Int)) = false := by rw [hsv]; exact beq_eq_false_iff_ne.2 hqv
  clear hq0 hqv k1 k2 k3 k4 k5 k6 hl19 hsk hpe hpd hyd hr3 hse hmp hmu hsv hy1 hy2 hy3
  clear hok hr hv0 hp
  go_enter Tryz.func7, Tryz.ntmps7
  go_wp2_with fail
  refine (small14_any _ ht).mono ?_
  rintro e w1 ⟨rfl, hb1⟩
  have HB1 := Lib.hid hb1
  clear hb1
  go_wp2_with fail
  refine (HNEW.out w1 HB1.out).mono ?_
  rintro e w2 ⟨hb2, ⟨h0, _⟩ | ⟨_, vb, rfl, hvb, hva⟩⟩
  · rw [HOK.out] at h0; cases h0
  rw [Int.toNat_natCast, Int.toNat_natCast] at hva
  have HS2 := Lib.hid (sin_new (w0 := w) HB1.out hb2 hvb hva)
  clear hb2 hva hvb
  go_wp2_with fail
  refine (sToken HS2.out HV0.out ht s hs).mono ?_
  rw [HR1.out]
  rintro e w3 ⟨rfl, h3⟩
  have HS3 := Lib.hid h3
  clear h3
  go_wp2_with fail
  refine (HIS.out _).mono ?_
  rintro e w4 ⟨rfl, hb4⟩
  have HS4 := Lib.hid (HS3.out.below hb4)
  clear hb4
  go_wp2_with fail
  refine (sBack HS4.out HV0.out ht u hu).mono ?_
  rw [HR2.out]
  rintro e w5 ⟨rfl, h5⟩
  have HS5 := Lib.hid h5
  clear h5
  go_wp2_with fail
  refine (HSPU.out _ (HS5.out.tab ht)).mono ?_
  rintro e w6 ⟨rfl, hb6⟩
  have HS6 := Lib.hid (HS5.out.below hb6)
  clear hb6
  go_wp2_with fail
  refine (sToken HS6.out HV0.out ht p hpm).mono ?_
  rw [HR3.out]
  rintro e w7 ⟨rfl, h7⟩
  have HS7 := Lib.hid h7
  clear h7
  go_wp2_with fail
  refine (HISP.out _).mono ?_
  rintro e w8 ⟨rfl, hb8⟩
  have HS8 := Lib.hid (HS7.out.below hb8)
  clear hb8
  go_wp2_with fail
  refine (HMP.out _ (HS8.out.tab ht)).mono ?_
  rintro e w9 ⟨rfl, hb9⟩
  have HS9 := Lib.hid (HS8.out.below hb9)
  clear hb9
  go_wp2_with fail
  refine (HMU.out _ (HS9.out.tab ht)).mono ?_
  rintro e w10 ⟨rfl, hb10⟩
  have HS10 := Lib.hid (HS9.out.below hb10)
  clear hb10
  go_wp2_with fail
  clear hcut hmm hml hpi hse1
  have HST := Lib.hid (show RotFrom w vb m t v q (.int .i64 0) w10 from ⟨0, v, by omega, Nat.le_refl _, rfl, HV0.out, HS10.out⟩)
  go_loopw [25] (fun i wr => RotFrom w vb m t v q i wr) (fun i _ => q - (intOf i).toNat)
  case atStart => exact HST.out
  case round =>
    clear HST
    obtain ⟨k, now, hk, hvn, rfl, hvk, hsin⟩ := hrel
    obtain ⟨_, _, _, hw1, hw2⟩ := id hvk
    have HVK := Lib.hid hvk
    have HSN := Lib.hid hsin
    clear hvk hsin
    by_cases hlt : k < q
    · have hki : (k : Int) < (q : Int) := by omega
      by_cases h255 : now = 255
      · have HR := Lib.hid (sRotate_no HSN.out h255)
        subst h255
        go_wp2_with fail
        refine HR.out.mono ?_
        rintro e w4 ⟨rfl, rfl⟩
        go_wp2_with fail
        go_roundw
        case rel => exact ⟨k + 1, 255, by omega, hvn, by go_num, HVK.out, HSN.out⟩
        case measure => simp [intOf]; omega
      · have HR := Lib.hid (sRotate_yes HSN.out (by omega))
        go_wp2_with fail
        refine HR.out.mono ?_
        rintro e w4 ⟨rfl, hs4⟩
        have HS4 := Lib.hid hs4
        clear hs4
        go_wp2_with fail
        go_roundw
        case rel => exact ⟨k + 1, now + 1, by omega, by omega, by go_num, ⟨HVK.out.1, HVK.out.2.1, HVK.out.2.2.1, by omega, by omega⟩, HS4.out⟩
        case measure => simp [intOf]; omega
    · obtain rfl : k = q := by omega
      obtain ⟨r1, y2, d2, hy2, r2, r3, r4⟩ := back_all (m := m) (t := t) (v := v) (now := now) HP.out hn1 hvn hw2 HXD.out
      have R1 := Lib.hid r1
      have R2 := Lib.hid r2
      have R3 := Lib.hid r3
      have R4 := Lib.hid (fun w (h : Tab w) => show Calls Tryz.prog 14 #[.string y2] w (fun e w' => e = .returned (.tuple #[.string d2, .int .i64 now, .int .i64 0]) ∧ Below w.heap.size w w') by
        have h := Split_any y2 w (by unfold maxLen; omega) h
        rw [r4] at h
        exact h)
      have HY2 := Lib.hid (show y2.size ≤ maxLen by unfold maxLen; omega)
      clear r1 r2 r3 r4
      go_wp2_with fail
      refine (sBack HSN.out HVK.out ht x HX30.out).mono ?_
      rw [R1.out]
      rintro e w11 ⟨rfl, h11⟩
      have HS11 := Lib.hid h11
      clear h11
      go_wp2_with fail
      refine (sRenew HS11.out HVK.out ht x HX30.out).mono ?_
      rw [R2.out]
      rintro e w12 ⟨rfl, h12⟩
      have HS12 := Lib.hid h12
      clear h12
      go_wp2_with fail
      refine (sBack HS12.out HVK.out ht y2 HY2.out).mono ?_
      rw [R3.out]
      rintro e w13 ⟨rfl, h13⟩
      have HS13 := Lib.hid h13
      clear h13
      go_wp2_with fail
      refine (R4.out _ (HS13.out.tab ht)).mono ?_
      rintro e w14 ⟨rfl, hb14⟩
      have HS14 := Lib.hid (HS13.out.below hb14)
      clear hb14
      go_wp2_with fail
      refine (sVersion HS14.out).mono ?_
      rintro e w15 ⟨rfl, rfl⟩
      go_wp2_with fail
      go_ret
      exact ⟨rfl, HS14.out.2.2⟩
theorem VaultBack_walk (A : Option Addr) (n c : Nat) (m : List UInt8) (t0 v0 : Int) (s : ByteArray) (times : Int) (u : ByteArray) (w : World) (hr : Reads w w.heap.size 1 A n (bv m)) (_hc : n ≤ c ∧ c ≤ 140737488351232) (_h1 : (Lit.int .i64 t0).wf = true) (_h2 : (Lit.int .i64 v0).wf = true) (hs : s.size ≤ maxLen) (_h4 : (Lit.int .i64 times).wf = true) (hu : u.size ≤ maxLen) (ht : Tab w) :
    Calls Tryz.prog 7 #[.slice A n c, .int .i64 t0, .int .i64 v0, .string s, .int .i64 times, .string u] w fun e w' => e = .returned (.bool true) ∧ Below w.heap.size w w' := by
  cases hok : vOk m t0 v0 with
  | false => exact VaultBack_no A n c m t0 v0 s times u w hr hok ht
  | true =>
    obtain ⟨_, h1, h2⟩ := VOk.of_new hok
    obtain ⟨t, rfl⟩ := Int.eq_ofNat_of_zero_le h1
    obtain ⟨v, rfl⟩ := Int.eq_ofNat_of_zero_le h2
    by_cases hq : vbE m t v u.data.toList = 0
    · by_cases hqv : splV u.data.toList = v
      · cases hp : panB s.data.toList with
        | false => exact VaultBack_no_now A n c m t v s times u w hr hok hs hu ht hp ⟨hq, hqv⟩
        | true => exact VaultBack_yes_now A n c m t v s times u w hr hok hs hu ht hp ⟨hq, hqv⟩
      · cases hp : panB s.data.toList with
        | false => exact VaultBack_no_old A n c m t v s times u w hr hok hs hu ht hp ⟨hq, hqv⟩
        | true => exact VaultBack_yes_old A n c m t v s times u w hr hok hs hu ht hp ⟨hq, hqv⟩
    · cases hp : panB s.data.toList with
      | false => exact VaultBack_no_no A n c m t v s times u w hr hok hs hu ht hp hq
      | true => exact VaultBack_yes_no A n c m t v s times u w hr hok hs hu ht hp hq
end Go.Proofs.YtogpnlfbdhddmaaGreatDoor
