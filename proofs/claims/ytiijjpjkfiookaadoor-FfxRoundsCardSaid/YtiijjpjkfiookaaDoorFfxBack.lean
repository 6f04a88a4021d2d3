/- THE WALK of the law FfxBack. -/
import Derived.Test.YtiijjpjkfiookaaDoorFfx7
namespace Go.Proofs.YtiijjpjkfiookaaDoor
open Go.RowKit

theorem str_beq {a b : ByteArray} : (a.toList == b.toList) = decide (a.data.toList = b.data.toList) := by
  rw [Lib.toList_data, Lib.toList_data]
  by_cases h : a.data.toList = b.data.toList
  · rw [h, decide_eq_true rfl]; simp
  · rw [decide_eq_false h]; simpa using h
theorem arr_data (l : List UInt8) : (⟨l.toArray⟩ : ByteArray).data.toList = l := by simp
theorem encR_ok {key tw l : List UInt8} (h : nmE l = 0) : encR key tw l = encT key tw l := if_pos h
theorem decR_ok {key tw l : List UInt8} (h : nmE l = 0) : decR key tw l = decT key tw l := if_pos h
set_option maxRecDepth 100000 in
set_option maxHeartbeats 8000000 in
theorem FfxBack_no (A : Option Addr) (n c : Nat) (key : List UInt8) (T : Option Addr) (m d : Nat) (tw : List UInt8) (s t : ByteArray) (w : World) (hrk : Reads w w.heap.size 1 A n (bv key)) (hrt : Reads w w.heap.size 1 T m (bv tw)) (hd : m ≤ 140737488355328) (hbad : ¬ cipE key tw = 0) :
    Calls Tryd.prog 9 #[.slice A n c, .slice T m d, .string s, .string t] w fun e w' => e = .returned (.bool true) ∧ Below w.heap.size w w' := by
  have HNW := Lib.hid (fun w1 (hb : Below w.heap.size w w1) => New_cip key tw A n c T m d w.heap.size w1 (hrk.below hb) (hrt.below hb) hb.size hd)
  have hml : tw.length = m := by have := hrt.1; rw [length_bv] at this; omega
  by_cases hk : key.length = 16 ∨ key.length = 32
  · by_cases h16 : tw.length ≤ 16
    · exact absurd (cipE_ok hk h16) hbad
    · have HE := Lib.hid (cipE_long hk h16)
      have hm16 : (16 : Int) < (m : Int) := by omega
      have HBAD := Lib.hid hbad
      clear hrk hrt hbad hml hk h16
      go_enter Tryd.func9, Tryd.ntmps9
      go_wp2_with fail
      refine (small10_any _).mono ?_
      rintro e w1 ⟨rfl, hb1⟩
      have HB1 := Lib.hid hb1
      have HN2 := Lib.hid (HNW.out w1 hb1)
      clear hb1
      go_wp2_with fail
      refine HN2.out.mono ?_
      rintro e w2 ⟨hb2, ⟨_, rfl⟩ | ⟨h0, _⟩⟩
      rotate_left
      · exact absurd h0 HBAD.out
      have HB2 := Lib.hid (thenB HB1.out hb2)
      clear hb2
      rw [HE.out]
      go_wp2_with fail
      go_ret
      exact ⟨rfl, HB2.out⟩
  · have HE := Lib.hid (cipE_key (tw := tw) hk)
    have HBAD := Lib.hid hbad
    clear hrk hrt hbad hml hk
    go_enter Tryd.func9, Tryd.ntmps9
    go_wp2_with fail
    refine (small10_any _).mono ?_
    rintro e w1 ⟨rfl, hb1⟩
    have HB1 := Lib.hid hb1
    have HN2 := Lib.hid (HNW.out w1 hb1)
    clear hb1
    go_wp2_with fail
    refine HN2.out.mono ?_
    rintro e w2 ⟨hb2, ⟨_, rfl⟩ | ⟨h0, _⟩⟩
    rotate_left
    · exact absurd h0 HBAD.out
    have HB2 := Lib.hid (thenB HB1.out hb2)
    clear hb2
    rw [HE.out]
    go_wp2_with fail
    go_ret
    exact ⟨rfl, HB2.out⟩
set_option maxRecDepth 100000 in
set_option maxHeartbeats 8000000 in
theorem FfxBack_yes (A : Option Addr) (n c : Nat) (key : List UInt8) (T : Option Addr) (m d : Nat) (tw : List UInt8) (s t : ByteArray) (w : World) (hrk : Reads w w.heap.size 1 A n (bv key)) (hrt : Reads w w.heap.size 1 T m (bv tw)) (hd : m ≤ 140737488355328) (hok : cipE key tw = 0) (hs : s.size ≤ maxLen) (ht : t.size ≤ maxLen) :
    Calls Tryd.prog 9 #[.slice A n c, .slice T m d, .string s, .string t] w fun e w' => e = .returned (.bool true) ∧ Below w.heap.size w w' := by
  have HNW := Lib.hid (fun w1 (hb : Below w.heap.size w w1) => New_cip key tw A n c T m d w.heap.size w1 (hrk.below hb) (hrt.below hb) hb.size hd)
  obtain ⟨hk, h16⟩ := cipE_zero hok
  have HK := Lib.hid hk
  have HOK := Lib.hid hok
  have HENC := Lib.hid (fun cb X s w h hs => FEncrypt_any cb X key tw s w h hk h16 hs)
  have HDEC := Lib.hid (fun cb X s w h hs => FDecrypt_any cb X key tw s w h hk h16 hs)
  have HNM1 := Lib.hid (fun w => numerals_any s w hs)
  have HNM2 := Lib.hid (fun w => numerals_any t w ht)
  obtain ⟨ls, hls⟩ : ∃ ls, ls = s.data.toList := ⟨_, rfl⟩
  obtain ⟨lt, hlt⟩ : ∃ lt, lt = t.data.toList := ⟨_, rfl⟩
  rw [← hls] at HNM1
  rw [← hlt] at HNM2
  obtain ⟨fs, hfs⟩ : ∃ fs, fs = nmE ls := ⟨_, rfl⟩
  obtain ⟨ft, hft⟩ : ∃ ft, ft = nmE lt := ⟨_, rfl⟩
  have HLS := Lib.hid hls
  have HLT := Lib.hid hlt
  have HFS := Lib.hid hfs
  have HFT := Lib.hid hft
  have HS := Lib.hid hs
  have HT := Lib.hid ht
  have HB8 := Lib.hid (show (ft == 0) = nmB lt by
    unfold nmB; rw [← hft]
    by_cases h : ft = 0
    · rw [h]; rfl
    · rw [decide_eq_false h]; exact beq_eq_false_iff_ne.2 h)
  clear hrk hrt hok hk h16 hls hlt hfs hft hs ht
  by_cases hf : fs = 0
  · have HN1 := Lib.hid (show nmB ls = true from nmB_yes (by rw [← HFS.out]; exact hf))
    have hz : nmE ls = 0 := by rw [← HFS.out]; exact hf
    have hde := dec_encT key tw hz
    have hed := enc_decT key tw hz
    obtain ⟨xs, hxs⟩ : ∃ xs : ByteArray, xs = ⟨(encT key tw ls).toArray⟩ := ⟨_, rfl⟩
    obtain ⟨ds, hds⟩ : ∃ ds : ByteArray, ds = ⟨(decT key tw ls).toArray⟩ := ⟨_, rfl⟩
    obtain ⟨ys, hys⟩ : ∃ ys : ByteArray, ys = ⟨(encR key tw lt).toArray⟩ := ⟨_, rfl⟩
    have hxd : xs.data.toList = encT key tw ls := by rw [hxs]
    have hdd : ds.data.toList = decT key tw ls := by rw [hds]
    have hyd : ys.data.toList = encR key tw lt := by rw [hys]
    have hzx := size_toList xs
    have hzd := size_toList ds
    have hzs := size_toList s
    rw [hxd, hde.2.2] at hzx
    rw [hdd, hed.2.2] at hzd
    rw [← HLS.out] at hzs
    have hn32 := (nmE_zero hz).2.1
    have hse : (⟨ls.toArray⟩ : ByteArray) = s := ByteArray.ext (Array.toList_inj.1 (by rw [arr_data, HLS.out]))
    have HXS := Lib.hid hxs
    have HYS := Lib.hid hys
    have hbss : (s.toList == s.toList) = true := by simp
    have hxm : xs.size ≤ maxLen := by unfold maxLen; omega
    have hdm : ds.size ≤ maxLen := by unfold maxLen; omega
    have HDX := Lib.hid (fun cb X w h => by
      have h1 := HDEC.out cb X xs w h hxm
      rw [hxd, decR_ok hde.2.1, hde.1] at h1
      unfold EncR at h1
      rw [hde.2.1, hse] at h1
      exact h1)
    have HDS2 := Lib.hid (fun cb X w h => by
      have h1 := HDEC.out cb X s w h HS.out
      rw [← HLS.out, decR_ok hz] at h1
      unfold EncR at h1
      rw [hz, ← hds] at h1
      exact h1)
    have HED := Lib.hid (fun cb X w h => by
      have h1 := HENC.out cb X ds w h hdm
      rw [hdd, encR_ok hed.2.1, hed.1] at h1
      unfold EncR at h1
      rw [hed.2.1, hse] at h1
      exact h1)
    have HNMX := Lib.hid (fun w => by
      have h1 := numerals_any xs w hxm
      rw [hxd, nmB_yes hde.2.1] at h1
      exact h1)
    have hsx : ((xs.size : Int) == (s.size : Int)) = true := by simp; omega
    have hsd : ((ds.size : Int) == (s.size : Int)) = true := by simp; omega
    have hst : nmB lt = true → (xs.toList == ys.toList) = (s.toList == t.toList) := fun hb => by
      have hzt : nmE lt = 0 := by unfold nmB at hb; exact of_decide_eq_true hb
      rw [str_beq, str_beq, hxd, hyd, ← HLS.out, ← HLT.out, encR_ok hzt]
      by_cases he : ls = lt
      · rw [he]; simp
      · rw [decide_eq_false he, decide_eq_false (fun e => he (enc_inj key tw hz hzt e))]
    have HST := Lib.hid hst
    obtain ⟨bx, hbx⟩ : ∃ bx, bx = (s.toList == t.toList) := ⟨_, rfl⟩
    obtain ⟨by', hby⟩ : ∃ by', by' = (xs.toList == ys.toList) := ⟨_, rfl⟩
    have HBX := Lib.hid (show nmB lt = true → by' = bx by rw [hbx, hby]; exact hst)
    rw [HN1.out] at HNM1
    have hb8 := HB8.out
    generalize nmB lt = bt at HNM2 hb8 HBX
    have hbx' := hbx.symm
    have hby' := hby.symm
    clear hst hde hed hxd hdd hyd hzx hzd hzs hn32 hse hxm hdm hz hxs hds hys hbx hby HST HB8
    go_enter Tryd.func9, Tryd.ntmps9
    go_wp2_with fail
    refine (small10_any _).mono ?_
    rintro e w1 ⟨rfl, hb1⟩
    have HB1 := Lib.hid hb1
    have HN2 := Lib.hid (HNW.out w1 hb1)
    clear hb1
    go_wp2_with fail
    refine HN2.out.mono ?_
    rintro e w2 ⟨hb2, ⟨hno, _⟩ | ⟨_, cb, rfl, hcb, hcip⟩⟩
    · exact absurd HOK.out hno
    have HB2 := Lib.hid (thenB HB1.out hb2)
    have HC3 := Lib.hid (HENC.out cb _ s w2 hcip HS.out)
    clear hb2 hcip
    go_wp2_with fail
    refine HC3.out.mono ?_
    rintro e w3 ⟨rfl, hco⟩
    obtain ⟨X2, hc2, hnx⟩ := hco.next
    have HNX := Lib.hid hnx
    have HC4 := Lib.hid (HENC.out cb _ t w3 hc2 HT.out)
    rw [← HLS.out, ← HFS.out, encR_ok (by rw [← HFS.out]; exact hf), ← HXS.out, hf]
    clear hco hc2 hnx
    go_wp2_with fail
    refine HC4.out.mono ?_
    rintro e w4 ⟨rfl, hco⟩
    have hac := HNX.out w4 hco
    obtain ⟨X4, hc4, hnx4⟩ := hac.next
    have HNX4 := Lib.hid hnx4
    have HC5 := Lib.hid (HDX.out cb X4 w4 hc4)
    rw [← HLT.out, ← HFT.out, ← HYS.out]
    clear hco hac hc4 hnx4
    go_wp2_with fail
    refine (HNM1.out _).mono ?_
    rintro e w5 ⟨rfl, rfl⟩
    go_wp2_with fail
    refine (HNM2.out _).mono ?_
    rintro e w5 ⟨rfl, rfl⟩
    go_wp2_with fail
    refine HC5.out.mono ?_
    rintro e w5 ⟨rfl, hco⟩
    have hac := HNX4.out w5 hco
    obtain ⟨X5, hc5, hnx5⟩ := hac.next
    have HNX5 := Lib.hid hnx5
    have HC6 := Lib.hid (HDS2.out cb X5 w5 hc5)
    clear hco hac hc5 hnx5
    go_wp2_with fail
    refine HC6.out.mono ?_
    rintro e w6 ⟨rfl, hco⟩
    have hac := HNX5.out w6 hco
    obtain ⟨X6, hc6, hnx6⟩ := hac.next
    have HNX6 := Lib.hid hnx6
    have HC7 := Lib.hid (HED.out cb X6 w6 hc6)
    clear hco hac hc6 hnx6
    go_wp2_with fail
    refine HC7.out.mono ?_
    rintro e w7 ⟨rfl, hco⟩
    obtain ⟨X7, _, _, hg⟩ := HNX6.out w7 hco
    have HBF := Lib.hid (HB2.out.trans (hg.below (B := w.heap.size) (by have := HB2.out.size; omega) (fun k _ hx => by have h9 : w1.heap.size ≤ k := hx; have := HB1.out.size; omega)))
    clear hco hg
    go_wp2_with fail
    refine (HNMX.out _).mono ?_
    rintro e w8 ⟨rfl, rfl⟩
    cases bt with
    | true =>
      have hxy := HBX.out rfl
      subst hxy
      go_wp2_with fail
      go_ret
      exact ⟨by simp, HBF.out⟩
    | false =>
      go_wp2_with fail
      go_ret
      exact ⟨by simp, HBF.out⟩
  · have HN1 := Lib.hid (show nmB ls = false from nmB_no (by rw [← HFS.out]; exact hf))
    have HER := Lib.hid (show encR key tw ls = [] from if_neg (by rw [← HFS.out]; exact hf))
    have hfz : (fs == 0) = false := beq_eq_false_iff_ne.2 hf
    rw [HN1.out] at HNM1
    generalize nmB lt = bt at HNM2 HB8
    have hb8 := HB8.out
    go_enter Tryd.func9, Tryd.ntmps9
    go_wp2_with fail
    refine (small10_any _).mono ?_
    rintro e w1 ⟨rfl, hb1⟩
    have HB1 := Lib.hid hb1
    have HN2 := Lib.hid (HNW.out w1 hb1)
    clear hb1
    go_wp2_with fail
    refine HN2.out.mono ?_
    rintro e w2 ⟨hb2, ⟨hno, _⟩ | ⟨_, cb, rfl, hcb, hcip⟩⟩
    · exact absurd HOK.out hno
    have HB2 := Lib.hid (thenB HB1.out hb2)
    have hs1 := HB1.out.size
    have HC3 := Lib.hid (HENC.out cb _ s w2 hcip HS.out)
    clear hb2 hcip
    go_wp2_with fail
    refine HC3.out.mono ?_
    rintro e w3 ⟨rfl, hco⟩
    obtain ⟨X2, hc2, hnx⟩ := hco.next
    have HNX := Lib.hid hnx
    have HC4 := Lib.hid (HENC.out cb _ t w3 hc2 HT.out)
    rw [← HLS.out, ← HFS.out, HER.out]
    clear hco hc2 hnx
    go_wp2_with fail
    refine HC4.out.mono ?_
    rintro e w4 ⟨rfl, hco⟩
    obtain ⟨X3, _, _, hg⟩ := HNX.out w4 hco
    have HBF := Lib.hid (HB2.out.trans (hg.below (B := w.heap.size) (by have := HB2.out.size; omega) (fun k _ hx => by have h9 : w1.heap.size ≤ k := hx; omega)))
    rw [← HLT.out, ← HFT.out]
    generalize encR key tw lt = yt
    clear hco hg
    go_wp2_with fail
    refine (HNM1.out _).mono ?_
    rintro e w5 ⟨rfl, rfl⟩
    go_wp2_with fail
    refine (HNM2.out _).mono ?_
    rintro e w5 ⟨rfl, rfl⟩
    go_wp2_with fail
    go_ret
    exact ⟨rfl, HBF.out⟩
theorem FfxBack_walk (A : Option Addr) (n c : Nat) (key : List UInt8) (T : Option Addr) (m d : Nat) (tw : List UInt8) (s t : ByteArray) (w : World) (hrk : Reads w w.heap.size 1 A n (bv key)) (_hc : n ≤ c ∧ c ≤ 140737488351232) (hrt : Reads w w.heap.size 1 T m (bv tw)) (hd : m ≤ d ∧ d ≤ 140737488351232) (hs : s.size ≤ maxLen) (ht : t.size ≤ maxLen) :
    Calls Tryd.prog 9 #[.slice A n c, .slice T m d, .string s, .string t] w fun e w' => e = .returned (.bool true) ∧ Below w.heap.size w w' := by
  by_cases h : cipE key tw = 0
  · exact FfxBack_yes A n c key T m d tw s t w hrk hrt (by omega) h hs ht
  · exact FfxBack_no A n c key T m d tw s t w hrk hrt (by omega) h
end Go.Proofs.YtiijjpjkfiookaaDoor
