/- THE WALKS of ffx: Decrypt, Mask. -/
import Derived.Test.YtiijjpjkfiookaaDoorFfx4
namespace Go.Proofs.YtiijjpjkfiookaaDoor
open Go.RowKit

set_option maxRecDepth 100000 in
set_option maxHeartbeats 4000000 in
theorem FDecrypt_any (cb : Nat) (X : Nat → Prop) (key tw : List UInt8) (s : ByteArray) (w : World) (h : CipAt w cb X key tw) (hk : key.length = 16 ∨ key.length = 32) (ht : tw.length ≤ 16) (hs : s.size ≤ maxLen) :
    Calls Tryd.prog 33 #[.pointer (some ⟨cb, 0, none⟩), .string s] w (EncR cb X key tw s.data.toList (decR key tw s.data.toList) w) := by
  have hsz : s.data.toList.length = s.size := size_toList s
  have HH := Lib.hid (fun w => halves_any s w hs)
  have H := Lib.hid h
  have HK := Lib.hid hk
  clear h hk
  obtain ⟨l, hl⟩ : ∃ l, l = s.data.toList := ⟨_, rfl⟩
  rw [← hl] at hsz HH ⊢
  clear hl
  by_cases hne : nmE l = 0
  · obtain ⟨h6, h32, hd⟩ := nmE_zero hne
    have HNE := Lib.hid hne
    have HV := Lib.hid (vals_in hd)
    have HSZ := Lib.hid hsz
    have hs6 : 6 ≤ s.size := by omega
    have hs32 : s.size ≤ 32 := by omega
    clear hne hd hsz
    go_enter Tryd.func33, Tryd.ntmps33
    go_wp2_with fail
    refine (HH.out _).mono ?_
    rintro e w1 ⟨⟨a, b, rfl, hab⟩, rfl⟩
    obtain ⟨rfl, rfl⟩ := hab HNE.out
    rw [HNE.out]
    have HST : Hid (BackRel w cb X key tw l (.int .i64 ((valD (l.take (l.length / 2)) : Nat) : Int)) (.int .i64 ((valD (l.drop (l.length / 2)) : Nat) : Int)) (.int .i64 9) 10 w) := Lib.hid ⟨0, by omega, rfl, rfl, rfl, rfl, CipOut.refl_ H.out⟩
    clear hab
    generalize hva : valD (l.take (l.length / 2)) = va at HST ⊢
    generalize hvb : valD (l.drop (l.length / 2)) = vb at HST ⊢
    have HVA := Lib.hid hva
    have HVB := Lib.hid hvb
    clear hva hvb
    go_wp2_with fail
    go_loopg [6, 7, 10] 10 (fun gg s6 s7 s10 wx => BackRel w cb X key tw l s6 s7 s10 gg wx)
    case atStart => exact HST.out
    case round =>
      clear HST
      obtain ⟨i, hi, hgg, rfl, rfl, rfl, hco⟩ := hrel
      have HGG := Lib.hid hgg
      clear hgg
      have hin := dec_in (f := maskV key tw l.length) (in_ten.2 HV.out) i hi
      obtain ⟨q, hq⟩ : ∃ q, q = decAt (maskV key tw l.length) l.length (valD (l.take (l.length / 2))) (valD (l.drop (l.length / 2))) i := ⟨_, rfl⟩
      rw [← hq] at hin ⊢
      have HQ := Lib.hid hq
      have HIN := Lib.hid hin
      clear hq hin
      by_cases hlt : i < 10
      · obtain ⟨X2, hc2, hnx⟩ := hco.next
        have hm2 := pow_half (n := l.length) (i := 10 - i) h32
        have hq2 := HIN.out.1
        have hpa : 10 ^ halfN l.length (10 - i + 1) = 10 ^ halfN l.length (9 - i) := by rw [half_par (show (10 - i + 1) % 2 = (9 - i) % 2 by omega)]
        have hq1 : q.2 < 10 ^ halfN l.length (9 - i) := by rw [← hpa]; exact HIN.out.2
        obtain ⟨j9, hj9⟩ : ∃ j9, j9 = 9 - i := ⟨_, rfl⟩
        have hji : (9 : Int) - (i : Int) = (j9 : Int) := by omega
        obtain ⟨mv, hmv⟩ : ∃ mv, mv = maskV key tw l.length (9 - i) q.1 := ⟨_, rfl⟩
        have HMV := Lib.hid hmv
        have HMK := Lib.hid (show Calls Tryd.prog 46 #[.pointer (some ⟨cb, 0, none⟩), .int .i64 (s.size : Nat), .int .i64 (j9 : Nat), .int .i64 (q.1 : Nat)] wr (fun e w' => e = .returned (.int .i64 mv) ∧ CipOut cb X2 key tw wr w') from by
          rw [← HSZ.out, hmv]
          rw [hj9]; exact mask_any cb X2 key tw l.length (9 - i) q.1 wr hc2 HK.out ht h6 h32 (by omega) (by omega))
        have HNX := Lib.hid hnx
        have HHF := Lib.hid (fun w => half_any l.length j9 w (by omega) (by omega))
        have HAD := Lib.hid (fun w => Sub_any (q.2 : Int) (maskV key tw l.length (9 - i) q.1 : Nat) (halfN l.length (9 - i) : Nat) w)
        rw [sub_half h6 h32 hq1 (mask_lt _ _ _ _ _), ← hmv, HSZ.out, ← hj9] at HAD
        rw [HSZ.out] at HHF
        have HJ9 := Lib.hid hj9
        rw [hji]
        clear hc2 hnx hco hm2 hq2 hmv hpa hq1 hj9
        go_wp2_with fail
        refine HMK.out.mono ?_
        rintro e w2 ⟨rfl, hc3⟩
        have HC3 := Lib.hid (HNX.out _ hc3)
        clear hc3
        obtain ⟨hv, hhv⟩ : ∃ hv, hv = halfN s.size j9 := ⟨_, rfl⟩
        rw [← hhv] at HAD HHF
        obtain ⟨av, hav⟩ : ∃ av, av = (q.2 + 10 ^ hv - mv) % 10 ^ hv := ⟨_, rfl⟩
        rw [← hav] at HAD
        have HAV := Lib.hid (show av = (q.2 + 10 ^ halfN l.length (9 - i) - maskV key tw l.length (9 - i) q.1) % 10 ^ halfN l.length (9 - i) by rw [hav, HMV.out, hhv, HSZ.out, HJ9.out])
        clear hav hhv
        go_wp2_with fail
        refine (HHF.out _).mono ?_
        rintro e w3 ⟨rfl, rfl⟩
        go_wp2_with fail
        refine (HAD.out _).mono ?_
        rintro e w4 ⟨rfl, hb4⟩
        have HNE2 : Hid (BackRel w cb X key tw l (.int .i64 (av : Nat)) (.int .i64 (q.1 : Nat)) (.int .i64 ((j9 : Int) - 1)) (9 - i) w4) := Lib.hid ⟨i + 1, by omega, by omega, by congr 1; omega, by rw [HAV.out, HQ.out]; rfl, by rw [HQ.out]; rfl, HC3.out.more hb4⟩
        clear hb4
        go_wp2_with fail
        go_roundg (9 - i)
        case measure => have := HGG.out; omega
        case rel => exact HNE2.out
      · obtain rfl : i = 10 := by omega
        have HCO := Lib.hid hco
        have HJ := Lib.hid (fun w => join_any l.length q w h6 h32 (by have h := HIN.out; exact h))
        rw [HSZ.out] at HJ
        have HER := Lib.hid (show decR key tw l = joinT s.size q by unfold decR decT; rw [if_pos HNE.out, ← HQ.out, HSZ.out])
        clear hco
        go_wp2_with fail
        refine (HJ.out _).mono ?_
        rintro e w2 ⟨rfl, hb2⟩
        have HB2 := Lib.hid hb2
        clear hb2
        go_wp2_with fail
        go_ret2
        exact ⟨by rw [HER.out, HNE.out]; rfl, HCO.out.more HB2.out⟩
  · have HER := Lib.hid (show decR key tw l = [] from if_neg hne)
    obtain ⟨er, her⟩ : ∃ er, er = nmE l := ⟨_, rfl⟩
    have hne2 : ¬ er = 0 := by rw [her]; exact hne
    have HE := Lib.hid her
    clear hne her hsz
    go_enter Tryd.func33, Tryd.ntmps33
    go_wp2_with fail
    refine (HH.out _).mono ?_
    rintro e w1 ⟨⟨a, b, rfl, _⟩, rfl⟩
    rw [← HE.out]
    go_wp2_with fail
    go_ret2
    exact ⟨by rw [HER.out, HE.out]; rfl, CipOut.refl_ H.out⟩
end Go.Proofs.YtiijjpjkfiookaaDoor
