/- THE WALKS of Mask of ffx, where it refuses; of the reference's Mask; of the law FfxMasks. -/
import Derived.Test.YtiijjpjkfiookaaGreatDoorHFfxM
import Derived.Test.YtiijjpjkfiookaaGreatDoorGFW
namespace Go.Proofs.YtiijjpjkfiookaaGreatDoor
open Go.RowKit

/-- What a Mask may be asked. -/
def mskOk (n i x : Int) : Prop := 6 ≤ n ∧ n ≤ 32 ∧ 0 ≤ i ∧ i ≤ 9 ∧ 0 ≤ x ∧ x < (10 ^ halfN n.toNat (i.toNat + 1) : Nat)
set_option maxRecDepth 100000 in
set_option maxHeartbeats 4000000 in
theorem Mask_no (cb : Nat) (n i x : Int) (w : World) (h : ¬ mskOk n i x) :
    Calls Tryz.prog 15 #[.pointer (some ⟨cb, 0, none⟩), .int .i64 n, .int .i64 i, .int .i64 x] w fun e w' => e = .returned (.tuple #[.int .i64 0, .int .i64 1]) ∧ Below w.heap.size w w' := by
  by_cases hn : 6 ≤ n ∧ n ≤ 32
  · have HM := Lib.hid (fun w => may_any n w)
    rw [show fmayB n = true from decide_eq_true hn] at HM
    by_cases hi0 : i < 0
    · clear h hn
      go_enter Tryz.func15, Tryz.ntmps15
      go_wp2_with fail
      refine (HM.out _).mono ?_
      rintro e w1 ⟨rfl, rfl⟩
      go_wp2_with fail
      go_ret2
      exact ⟨rfl, Below.refl _ _⟩
    by_cases hi9 : 10 ≤ i
    · clear h hn
      go_enter Tryz.func15, Tryz.ntmps15
      go_wp2_with fail
      refine (HM.out _).mono ?_
      rintro e w1 ⟨rfl, rfl⟩
      go_wp2_with fail
      go_ret2
      exact ⟨rfl, Below.refl _ _⟩
    by_cases hx0 : x < 0
    · clear h hn
      go_enter Tryz.func15, Tryz.ntmps15
      go_wp2_with fail
      refine (HM.out _).mono ?_
      rintro e w1 ⟨rfl, rfl⟩
      go_wp2_with fail
      go_ret2
      exact ⟨rfl, Below.refl _ _⟩
    obtain ⟨n, rfl⟩ := Int.eq_ofNat_of_zero_le (show 0 ≤ n by omega)
    obtain ⟨i, rfl⟩ := Int.eq_ofNat_of_zero_le (show 0 ≤ i by omega)
    obtain ⟨x, rfl⟩ := Int.eq_ofNat_of_zero_le (show 0 ≤ x by omega)
    have hbig : 10 ^ halfN n (i + 1) ≤ x := by
      by_cases hh : 10 ^ halfN n (i + 1) ≤ x
      · exact hh
      · exact absurd ⟨by omega, by omega, by omega, by omega, by omega, by rw [Int.toNat_natCast, Int.toNat_natCast]; omega⟩ h
    have h6 : 6 ≤ n := by omega
    have h32 : n ≤ 32 := by omega
    have HHF := Lib.hid (fun w => half_any n (i + 1) w (by omega) (by omega))
    have HPW := Lib.hid (fun w => Power_any (halfN n (i + 1) : Nat) w)
    rw [half_powV h6 h32] at HPW
    obtain ⟨hf, hhf⟩ : ∃ hf, hf = halfN n (i + 1) := ⟨_, rfl⟩
    rw [← hhf] at HHF HPW hbig
    obtain ⟨P, hP⟩ : ∃ P, P = 10 ^ hf := ⟨_, rfl⟩
    rw [← hP] at HPW hbig
    have hi1 : ((i + 1 : Nat) : Int) = (i : Int) + 1 := by omega
    rw [hi1] at HHF
    have hxp : (P : Int) ≤ (x : Int) := by omega
    have hi10 : (i : Int) < 10 := by omega
    clear h hn hhf hP hi1 hbig
    go_enter Tryz.func15, Tryz.ntmps15
    go_wp2_with fail
    refine (HM.out _).mono ?_
    rintro e w1 ⟨rfl, rfl⟩
    go_wp2_with fail
    refine (HHF.out _).mono ?_
    rintro e w1 ⟨rfl, rfl⟩
    go_wp2_with fail
    refine (HPW.out _).mono ?_
    rintro e w1 ⟨rfl, hb1⟩
    have HB1 := Lib.hid hb1
    clear hb1
    go_wp2_with fail
    go_ret2
    exact ⟨rfl, HB1.out⟩
  · have HM := Lib.hid (fun w => may_any n w)
    rw [show fmayB n = false from decide_eq_false hn] at HM
    clear h hn
    go_enter Tryz.func15, Tryz.ntmps15
    go_wp2_with fail
    refine (HM.out _).mono ?_
    rintro e w1 ⟨rfl, rfl⟩
    go_wp2_with fail
    go_ret2
    exact ⟨rfl, Below.refl _ _⟩
set_option maxRecDepth 100000 in
set_option maxHeartbeats 4000000 in
theorem rMask_no (cb : Nat) (n i x : Int) (w : World) (h : ¬ mskOk n i x) :
    Calls Tryz.prog 16 #[.pointer (some ⟨cb, 0, none⟩), .int .i64 n, .int .i64 i, .int .i64 x] w fun e w' => e = .returned (.tuple #[.int .i64 0, .int .i64 1]) ∧ Below w.heap.size w w' := by
  by_cases hn1 : n < 6
  · clear h
    go_enter Tryz.func16, Tryz.ntmps16
    go_wp2_with fail
    go_ret2
    exact ⟨rfl, Below.refl _ _⟩
  by_cases hn2 : 32 < n
  · clear h
    go_enter Tryz.func16, Tryz.ntmps16
    go_wp2_with fail
    go_ret2
    exact ⟨rfl, Below.refl _ _⟩
  by_cases hi0 : i < 0
  · clear h
    go_enter Tryz.func16, Tryz.ntmps16
    go_wp2_with fail
    go_ret2
    exact ⟨rfl, Below.refl _ _⟩
  by_cases hi9 : 9 < i
  · clear h
    go_enter Tryz.func16, Tryz.ntmps16
    go_wp2_with fail
    go_ret2
    exact ⟨rfl, Below.refl _ _⟩
  by_cases hx0 : x < 0
  · clear h
    go_enter Tryz.func16, Tryz.ntmps16
    go_wp2_with fail
    go_ret2
    exact ⟨rfl, Below.refl _ _⟩
  obtain ⟨n, rfl⟩ := Int.eq_ofNat_of_zero_le (show 0 ≤ n by omega)
  obtain ⟨i, rfl⟩ := Int.eq_ofNat_of_zero_le (show 0 ≤ i by omega)
  obtain ⟨x, rfl⟩ := Int.eq_ofNat_of_zero_le (show 0 ≤ x by omega)
  have hbig : 10 ^ halfN n (i + 1) ≤ x := by
    by_cases hh : 10 ^ halfN n (i + 1) ≤ x
    · exact hh
    · exact absurd ⟨by omega, by omega, by omega, by omega, by omega, by rw [Int.toNat_natCast, Int.toNat_natCast]; omega⟩ h
  have h6 : 6 ≤ n := by omega
  have h32 : n ≤ 32 := by omega
  have HHF := Lib.hid (fun w => rdigits_any n (i + 1) w (by omega) (by omega))
  have HPW := Lib.hid (fun w => rPower_any (halfN n (i + 1) : Nat) w)
  rw [half_powV h6 h32] at HPW
  obtain ⟨hf, hhf⟩ : ∃ hf, hf = halfN n (i + 1) := ⟨_, rfl⟩
  rw [← hhf] at HHF HPW hbig
  obtain ⟨P, hP⟩ : ∃ P, P = 10 ^ hf := ⟨_, rfl⟩
  rw [← hP] at HPW hbig
  have hi1 : ((i + 1 : Nat) : Int) = (i : Int) + 1 := by omega
  rw [hi1] at HHF
  have hxp : (P : Int) ≤ (x : Int) := by omega
  have hi10 : (i : Int) < 10 := by omega
  clear h hhf hP hi1 hbig
  go_enter Tryz.func16, Tryz.ntmps16
  go_wp2_with fail
  refine (HHF.out _).mono ?_
  rintro e w1 ⟨rfl, rfl⟩
  go_wp2_with fail
  refine (HPW.out _).mono ?_
  rintro e w1 ⟨rfl, rfl⟩
  go_wp2_with fail
  go_ret2
  exact ⟨rfl, Below.refl _ _⟩
set_option maxRecDepth 100000 in
set_option maxHeartbeats 4000000 in
theorem rMask_yes (cb B U : Nat) (key tw : List UInt8) (n i x : Nat) (w : World) (h : RCipAt w cb B U key tw) (hk : key.length = 16 ∨ key.length = 32) (ht : tw.length ≤ 16) (h6 : 6 ≤ n) (h32 : n ≤ 32) (hi : i ≤ 9) (hx : x < 10 ^ halfN n (i + 1)) :
    Calls Tryz.prog 16 #[.pointer (some ⟨cb, 0, none⟩), .int .i64 n, .int .i64 i, .int .i64 x] w fun e w' => e = .returned (.tuple #[.int .i64 (maskV key tw n i x : Nat), .int .i64 0]) ∧ Below w.heap.size w w' := by
  have HMK := Lib.hid (rmask_any cb B U key tw n i x w h hk ht h6 h32 hi)
  have HHF := Lib.hid (fun w => rdigits_any n (i + 1) w (by omega) (by omega))
  have HPW := Lib.hid (fun w => rPower_any (halfN n (i + 1) : Nat) w)
  rw [half_powV h6 h32] at HPW
  obtain ⟨hf, hhf⟩ : ∃ hf, hf = halfN n (i + 1) := ⟨_, rfl⟩
  rw [← hhf] at HHF HPW hx
  obtain ⟨P, hP⟩ : ∃ P, P = 10 ^ hf := ⟨_, rfl⟩
  rw [← hP] at HPW hx
  have hi1 : ((i + 1 : Nat) : Int) = (i : Int) + 1 := by omega
  rw [hi1] at HHF
  have hxp : (x : Int) < (P : Int) := by omega
  have hi0 : ¬ (i : Int) < 0 := by omega
  have hi9 : ¬ (9 : Int) < (i : Int) := by omega
  have hx0 : ¬ (x : Int) < 0 := by omega
  have hn6 : ¬ (n : Int) < 6 := by omega
  have hn32 : ¬ (32 : Int) < (n : Int) := by omega
  clear h hk ht hhf hP hi1
  go_enter Tryz.func16, Tryz.ntmps16
  go_wp2_with fail
  refine (HHF.out _).mono ?_
  rintro e w1 ⟨rfl, rfl⟩
  go_wp2_with fail
  refine (HPW.out _).mono ?_
  rintro e w1 ⟨rfl, rfl⟩
  go_wp2_with fail
  refine HMK.out.mono ?_
  rintro e w2 ⟨rfl, hb2⟩
  have HB2 := Lib.hid hb2
  clear hb2
  go_wp2_with fail
  go_ret2
  exact ⟨rfl, HB2.out⟩
set_option maxRecDepth 100000 in
set_option maxHeartbeats 8000000 in
theorem FfxMasks_walk (A : Option Addr) (kn kc : Nat) (key : List UInt8) (T : Option Addr) (tn tc : Nat) (tw : List UInt8) (n i x : Int) (w : World) (hrk : Reads w w.heap.size 1 A kn (bv key)) (hc : kn ≤ kc ∧ kc ≤ 140737488351232) (hrt : Reads w w.heap.size 1 T tn (bv tw)) (hd : tn ≤ tc ∧ tc ≤ 140737488351232) (_h1 : (Lit.int .i64 n).wf = true) (_h2 : (Lit.int .i64 i).wf = true) (_h3 : (Lit.int .i64 x).wf = true) :
    Calls Tryz.prog 4 #[.slice A kn kc, .slice T tn tc, .int .i64 n, .int .i64 i, .int .i64 x] w fun e w' => e = .returned (.bool true) ∧ Below w.heap.size w w' := by
  obtain ⟨hc1, hc2⟩ := hc
  obtain ⟨hd1, hd2⟩ := hd
  have HNW := Lib.hid (fun w1 (hb : Below w.heap.size w w1) => New_cip key tw A kn kc T tn tc w.heap.size w1 (hrk.below hb) (hrt.below hb) hb.size (by omega))
  have HNR := Lib.hid (fun w1 (hb : Below w.heap.size w w1) => rNew10_any key tw A T kn kc tn tc w1 ((hrk.below hb).more hb.size) hc1 (by omega) ((hrt.below hb).more hb.size))
  clear hrk hrt
  by_cases hok : cipE key tw = 0
  · obtain ⟨hk, h16⟩ := cipE_zero hok
    have HOK := Lib.hid hok
    have HK := Lib.hid hk
    clear hok hk
    have HM : ∃ r : Int, ∃ er : Int, (∀ (cb : Nat) (X : Nat → Prop) (w1 : World), CipAt w1 cb X key tw → Calls Tryz.prog 15 #[.pointer (some ⟨cb, 0, none⟩), .int .i64 n, .int .i64 i, .int .i64 x] w1 fun e w' => e = .returned (.tuple #[.int .i64 r, .int .i64 er]) ∧ CipOut cb X key tw w1 w') ∧
        ∀ (cb B U : Nat) (w1 : World), RCipAt w1 cb B U key tw → Calls Tryz.prog 16 #[.pointer (some ⟨cb, 0, none⟩), .int .i64 n, .int .i64 i, .int .i64 x] w1 fun e w' => e = .returned (.tuple #[.int .i64 r, .int .i64 er]) ∧ Below w1.heap.size w1 w' := by
      by_cases h : mskOk n i x
      · obtain ⟨a1, a2, a3, a4, a5, a6⟩ := h
        obtain ⟨n, rfl⟩ := Int.eq_ofNat_of_zero_le (show 0 ≤ n by omega)
        obtain ⟨i, rfl⟩ := Int.eq_ofNat_of_zero_le a3
        obtain ⟨x, rfl⟩ := Int.eq_ofNat_of_zero_le a5
        rw [Int.toNat_natCast, Int.toNat_natCast] at a6
        exact ⟨_, _, fun cb X w1 h1 => Mask_yes cb X key tw n i x w1 h1 HK.out h16 (by omega) (by omega) (by omega) (by omega), fun cb B U w1 h1 => rMask_yes cb B U key tw n i x w1 h1 HK.out h16 (by omega) (by omega) (by omega) (by omega)⟩
      · exact ⟨0, 1, fun cb X w1 h1 => (Mask_no cb n i x w1 h).mono fun e w' ⟨he, hb⟩ => ⟨he, (CipOut.refl_ h1).more hb⟩, fun cb B U w1 _ => rMask_no cb n i x w1 h⟩
    obtain ⟨r, er, hm1, hm2⟩ := HM
    have HM1 := Lib.hid hm1
    have HM2 := Lib.hid hm2
    clear hm1 hm2
    go_enter Tryz.func4, Tryz.ntmps4
    go_wp2_with fail
    refine (small10_any _).mono ?_
    rintro e w1 ⟨rfl, hb1⟩
    have HB1 := Lib.hid hb1
    clear hb1
    go_wp2_with fail
    refine (HNW.out w1 HB1.out).mono ?_
    rintro e w2 ⟨hb2, ⟨h0, _⟩ | ⟨_, cb, rfl, hcb, hcip⟩⟩
    · exact absurd HOK.out h0
    have HB2 := Lib.hid (thenB HB1.out hb2)
    have HC2 := Lib.hid hcip
    have hs2 := hb2.size
    have hs1 := HB1.out.size
    clear hb2 hcip
    go_wp2_with fail
    refine (HNR.out w2 HB2.out).mono ?_
    rintro e w3 ⟨hb3, ⟨h0, _⟩ | ⟨_, rb, rfl, hrc⟩⟩
    · exact absurd HOK.out h0
    have HB3 := Lib.hid (thenB HB2.out hb3)
    have HC3 := Lib.hid (HC2.out.within.below hb3 (Nat.le_refl _))
    have HR3 := Lib.hid hrc
    have hs3 := hb3.size
    clear hb3 hrc
    go_wp2_with fail
    refine (HM1.out cb _ w3 HC3.out).mono ?_
    rintro e w4 ⟨rfl, hco⟩
    obtain ⟨_, _, _, hg4⟩ := hco
    have HR4 := Lib.hid (HR3.out.keep hg4 (fun k hk1 hk2 h => by have := h.2; omega))
    have HB4 := Lib.hid (HB3.out.trans (hg4.below (B := w.heap.size) HB3.out.size (fun k _ h => by have h1 : w1.heap.size ≤ k := h.1; omega)))
    clear hg4
    go_wp2_with fail
    refine (HM2.out rb _ _ w4 HR4.out).mono ?_
    rintro e w5 ⟨rfl, hb5⟩
    have HB5 := Lib.hid (thenB HB4.out hb5)
    clear hb5
    go_wp2_with fail
    go_ret
    exact ⟨rfl, HB5.out⟩
  · have HOK := Lib.hid hok
    obtain ⟨er, her⟩ : ∃ er, er = cipE key tw := ⟨_, rfl⟩
    have hnb : (er != 0) = true := bne_iff_ne.2 (by rw [her]; exact hok)
    have HER := Lib.hid her
    clear hok her
    go_enter Tryz.func4, Tryz.ntmps4
    go_wp2_with fail
    refine (small10_any _).mono ?_
    rintro e w1 ⟨rfl, hb1⟩
    have HB1 := Lib.hid hb1
    clear hb1
    go_wp2_with fail
    refine (HNW.out w1 HB1.out).mono ?_
    rintro e w2 ⟨hb2, ⟨_, rfl⟩ | ⟨h0, _⟩⟩
    · have HB2 := Lib.hid (thenB HB1.out hb2)
      rw [← HER.out]
      clear hb2
      go_wp2_with fail
      refine (HNR.out w2 HB2.out).mono ?_
      rintro e w3 ⟨hb3, ⟨_, rfl⟩ | ⟨h0, _⟩⟩
      · have HB3 := Lib.hid (thenB HB2.out hb3)
        rw [← HER.out]
        clear hb3
        go_wp2_with fail
        go_ret
        exact ⟨rfl, HB3.out⟩
      · exact absurd h0 HOK.out
    · exact absurd h0 HOK.out
end Go.Proofs.YtiijjpjkfiookaaGreatDoor
