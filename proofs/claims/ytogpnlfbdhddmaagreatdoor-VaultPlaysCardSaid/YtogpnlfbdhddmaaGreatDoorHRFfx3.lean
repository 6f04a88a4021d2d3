/- THE WALKS of the reference of ffx: New, numerals, Encrypt, Decrypt. -/
import Derived.Test.YtogpnlfbdhddmaaGreatDoorHRFfx2
import Derived.Test.YtogpnlfbdhddmaaGreatDoorGDig
namespace Go.Proofs.YtogpnlfbdhddmaaGreatDoor
open Go.RowKit

/-! ### New -/
/-- A new cipher of the reference, in new blocks, or what is wrong. -/
def RNewCip (key tw : List UInt8) (w : World) (e : Ending) (w' : World) : Prop :=
  Below w.heap.size w w' ∧ ((cipE key tw ≠ 0 ∧ e = .returned (.tuple #[.pointer none, .int .i64 (cipE key tw)])) ∨
    (cipE key tw = 0 ∧ ∃ cb, e = .returned (.tuple #[.pointer (some ⟨cb, 0, none⟩), .int .i64 0]) ∧ RCipAt w' cb w.heap.size w'.heap.size key tw))
set_option maxRecDepth 100000 in
set_option maxHeartbeats 4000000 in
theorem rNew10_any (key tw : List UInt8) (KA TA : Option Addr) (kn kc tn tc : Nat) (w : World) (hrk : Reads w w.heap.size 1 KA kn (bv key)) (hkc : kn ≤ kc) (hkm : kc ≤ 9223372036854775807) (hrt : Reads w w.heap.size 1 TA tn (bv tw)) :
    Calls Tryz.prog 77 #[.slice KA kn kc, .slice TA tn tc] w (RNewCip key tw w) := by
  have hkn : key.length = kn := by have := hrk.1; rw [length_bv] at this; omega
  have htn : tw.length = tn := by have := hrt.1; rw [length_bv] at this; omega
  obtain ⟨i0, hi0, hz0, hz1, hz2⟩ := info_parts byte_info
  by_cases hk : key.length = 16 ∨ key.length = 32
  · have HN := Lib.hid (rNew04_any key KA kn kc w hk hrk hkc hkm)
    have HRT := Lib.hid hrt
    have HTN := Lib.hid htn
    by_cases ht : tn ≤ 16
    · have hd : decide ((16 : Int) < (tn : Int)) = false := decide_eq_false (by omega)
      have HE := Lib.hid (cipE_ok hk (by omega : tw.length ≤ 16))
      clear hrk hrt hkn htn hk
      go_enter Tryz.func77, Tryz.ntmps77
      go_wp2_with fail
      refine HN.out.mono ?_
      rintro e w1 ⟨kb, rfl, hkey, hb1⟩
      have HKEY := Lib.hid hkey
      have HB1 := Lib.hid hb1
      have hs1 := hb1.size
      clear hkey hb1
      go_wp2_with (at_builtin; refine wpList_append_row rfl (.tmp 19) (.tmp 20) rfl Tryz.underlying27 hi0 hz0 hz1 hz2 rfl (by decide) rfl (Row.lit w1 #[] 5 (n := 0) (base := w1.heap.size) (size := 1) rfl (Nat.le_refl _) (by unfold maxLen; omega)) rfl ((HRT.out.below HB1.out).below (((Below.refl w1.heap.size w1).alloc (Nat.le_refl _) _).mono (by omega))) (bv_one _) (by unfold maxLen; omega) (by omega) (by simp) ?_; intro A2 c2 w2 hrow2 hgr2 hat2; have HB2 : Hid (Below w1.heap.size w1 w2) := Lib.hid (((Below.refl _ _).alloc (Nat.le_refl _) _).grown hgr2 (by simp) (fun k hk => by simp at hk; omega)); have HR2 : Hid (Row w2 w1.heap.size 1 A2 tn c2 (bv tw)) := Lib.hid (by rw [Nat.zero_add] at hrow2; exact hrow2); clear hrow2 hgr2 hat2)
      try rw [Nat.zero_add]
      go_ret2
      have hs2 := HB2.out.size
      have hk2 := (HKEY.out.new HB2.out).new ((Below.refl w2.heap.size w2).alloc (Nat.le_refl _) (.cells #[.pointer (some ⟨kb, 0, none⟩), .slice A2 tn c2] 166))
      refine ⟨(thenB HB1.out HB2.out).alloc (by omega) _, .inr ⟨HE.out, w2.heap.size, rfl, kb, hk2.wide (Nat.le_refl _) (by simp; omega) (Nat.le_refl _), by omega, by simp, A2, c2, by rw [HTN.out]; exact Blk.new _ _ _, by rw [HTN.out]; exact (HR2.out.mono hs1).alloc _, fun ad e => ?_⟩⟩
      have := (HR2.out.lt ad e).2
      simp; omega
    · have hd : decide ((16 : Int) < (tn : Int)) = true := decide_eq_true (by omega)
      have HE := Lib.hid (cipE_long hk (by omega : ¬ tw.length ≤ 16))
      clear hrk hrt hkn htn hk
      go_enter Tryz.func77, Tryz.ntmps77
      go_wp2_with fail
      refine HN.out.mono ?_
      rintro e w1 ⟨kb, rfl, hkey, hb1⟩
      have HB1 := Lib.hid hb1
      clear hkey hb1
      go_wp2_with fail
      go_ret2
      exact ⟨HB1.out, .inl ⟨by rw [HE.out]; decide, by rw [HE.out]; rfl⟩⟩
  · have HN := Lib.hid (rNew04_no KA kn kc w (by omega))
    have HE := Lib.hid (cipE_key (tw := tw) hk)
    clear hrk hrt hkn htn hk
    go_enter Tryz.func77, Tryz.ntmps77
    go_wp2_with fail
    refine HN.out.mono ?_
    rintro e w1 ⟨rfl, rfl⟩
    go_wp2_with fail
    go_ret2
    exact ⟨Below.refl _ _, .inl ⟨by rw [HE.out]; decide, by rw [HE.out]; rfl⟩⟩
/-! ### numerals -/
theorem rnumerals_any (s : ByteArray) (w : World) (hs : s.size ≤ maxLen) : Calls Tryz.prog 109 #[.string s] w fun e w' => e = .returned (.int .i64 (nmE s.data.toList)) ∧ Below w.heap.size w w' := by
  have hsz := size_toList s
  by_cases h6 : s.size < 6
  · have HE := Lib.hid (nmE_arg (l := s.data.toList) (by omega))
    have t1 : (s.size : Int) < 6 := by omega
    clear hsz
    go_enter Tryz.func109, Tryz.ntmps109
    go_wp2_with fail
    go_ret
    exact ⟨by rw [HE.out]; rfl, Below.refl _ _⟩
  · by_cases h32 : 32 < s.size
    · have HE := Lib.hid (nmE_arg (l := s.data.toList) (by omega))
      have t1 : ¬ (s.size : Int) < 6 := by omega
      have t2 : (32 : Int) < (s.size : Int) := by omega
      clear hsz
      go_enter Tryz.func109, Tryz.ntmps109
      go_wp2_with fail
      go_ret
      exact ⟨by rw [HE.out]; rfl, Below.refl _ _⟩
    · have HE := Lib.hid (show nmE s.data.toList = lookE s.data.toList by
        cases hd : s.data.toList.all isDig with
        | true => rw [nmE_ok (by omega) hd, lookE_ok.2 ⟨hd, by omega⟩]
        | false => rw [nmE_form (by omega) hd, lookE_form hd])
      have t1 : ¬ (s.size : Int) < 6 := by omega
      have t2 : ¬ (32 : Int) < (s.size : Int) := by omega
      have HP := Lib.hid (fun w => rPack_any s w hs)
      generalize lookE s.data.toList = er at *
      clear hsz
      go_enter Tryz.func109, Tryz.ntmps109
      go_wp2_with fail
      refine (HP.out _).mono ?_
      rintro e w1 ⟨A, n, c, rfl, _, hb1⟩
      go_wp2_with fail
      go_ret
      exact ⟨by rw [HE.out]; rfl, hb1⟩
/-! ### Encrypt, Decrypt -/
theorem rnum_text {v m : Nat} (h1 : 1 ≤ m) (h2 : m ≤ 16) (h : v < 10 ^ m) : numR (⟨(textD v m).toArray⟩ : ByteArray).data.toList = .returned (.tuple #[.int .i64 v, .int .i64 0]) := by
  show numR (textD v m) = _
  have hv : valD (textD v m) = v := by rw [val_textD, Nat.mod_eq_of_lt h]
  have hp16 : 10 ^ m ≤ 10 ^ 16 := Nat.pow_le_pow_right (by decide) h2
  refine numR_ok (numE_ok (lookE_textD (by omega)) (fun e => ?_) (by rw [hv]; omega)) (by rw [hv])
  have := length_textD v m
  rw [e] at this
  simp at this
  omega
theorem rtext_of {v m : Nat} (h1 : 1 ≤ m) (h2 : m ≤ 16) (h : v < 10 ^ m) : Ending.returned (.tuple #[.string ⟨(textV (v : Int) (m : Int)).toArray⟩, .int .i64 (textE (v : Int) (m : Int))]) = .returned (.tuple #[.string ⟨(textD v m).toArray⟩, .int .i64 0]) := by
  have he : textE (v : Int) (m : Int) = 0 := textE_ok (by omega) (by rw [Int.toNat_natCast, Int.toNat_natCast, Nat.div_eq_of_lt h]; decide)
  rw [textV_ok he, he, Int.toNat_natCast, Int.toNat_natCast]
/-- Behind i rounds of the reference. -/
def REncStep (w : World) (f : Nat → Nat → Nat) (n va vb : Nat) (s8 s9 s10 : Value) (wr : World) : Prop :=
  ∃ i : Nat, i ≤ 10 ∧ s10 = .int .i64 i ∧ s8 = .string ⟨(textD (encAt f n va vb i).1 (halfN n i)).toArray⟩ ∧ s9 = .string ⟨(textD (encAt f n va vb i).2 (halfN n (i + 1))).toArray⟩ ∧ Below w.heap.size w wr
/-- Behind k rounds of the way back. -/
def RDecStep (w : World) (f : Nat → Nat → Nat) (n va vb : Nat) (s8 s9 s10 : Value) (wr : World) : Prop :=
  ∃ k : Nat, k ≤ 10 ∧ s10 = .int .i64 (9 - (k : Int)) ∧ s8 = .string ⟨(textD (decAt f n va vb k).1 (halfN n (10 - k))).toArray⟩ ∧ s9 = .string ⟨(textD (decAt f n va vb k).2 (halfN n (11 - k))).toArray⟩ ∧ Below w.heap.size w wr
theorem half_pos {n i : Nat} (h6 : 6 ≤ n) (h32 : n ≤ 32) : 1 ≤ halfN n i ∧ halfN n i ≤ 16 := by unfold halfN; omega
theorem rcut_strs {s : ByteArray} {u : Nat} (hu : u = s.data.toList.length / 2) (hd : s.data.toList.all isDig = true) :
    s.extract 0 u = ⟨(textD (valD (s.data.toList.take (s.data.toList.length / 2))) u).toArray⟩ ∧ s.extract u s.size = ⟨(textD (valD (s.data.toList.drop (s.data.toList.length / 2))) (s.data.toList.length - u)).toArray⟩ := by
  have hsz := size_toList s
  have h1 : (s.data.toList.take (s.data.toList.length / 2)).all isDig = true ∧ (s.data.toList.drop (s.data.toList.length / 2)).all isDig = true := by
    have h := hd
    rw [← List.take_append_drop (s.data.toList.length / 2) s.data.toList, List.all_append, Bool.and_eq_true] at h
    exact h
  have e1 := textD_val _ h1.1
  have e2 := textD_val _ h1.2
  rw [List.length_take, Nat.min_eq_left (by omega), ← hu] at e1
  rw [List.length_drop, ← hu] at e2
  rw [← hu, e1, e2]
  refine ⟨ByteArray.ext (Array.toList_inj.1 ?_), ByteArray.ext (Array.toList_inj.1 ?_)⟩
  · simp [ByteArray.data_extract, Array.toList_extract, List.extract]
  · simp [ByteArray.data_extract, Array.toList_extract, List.extract]
    rw [List.take_of_length_le (by simp [hsz])]
set_option maxRecDepth 100000 in
set_option maxHeartbeats 8000000 in
theorem rFEncrypt_any (cb B U : Nat) (key tw : List UInt8) (s : ByteArray) (w : World) (h : RCipAt w cb B U key tw) (hk : key.length = 16 ∨ key.length = 32) (ht : tw.length ≤ 16) (hs : s.size ≤ maxLen) :
    Calls Tryz.prog 79 #[.pointer (some ⟨cb, 0, none⟩), .string s] w fun e w' => e = .returned (.tuple #[.string ⟨(encR key tw s.data.toList).toArray⟩, .int .i64 (nmE s.data.toList)]) ∧ Below w.heap.size w w' := by
  have hsz := size_toList s
  have HNM := Lib.hid (fun w => rnumerals_any s w hs)
  by_cases hne : nmE s.data.toList = 0
  · obtain ⟨h6, h32, hd⟩ := nmE_zero hne
    have HNE := Lib.hid hne
    obtain ⟨u, hu⟩ : ∃ u, u = s.data.toList.length / 2 := ⟨_, rfl⟩
    obtain ⟨hA, hB⟩ := rcut_strs hu hd
    have hin := vals_in hd
    obtain ⟨va, hva⟩ : ∃ va, va = valD (s.data.toList.take (s.data.toList.length / 2)) := ⟨_, rfl⟩
    obtain ⟨vb, hvb⟩ : ∃ vb, vb = valD (s.data.toList.drop (s.data.toList.length / 2)) := ⟨_, rfl⟩
    obtain ⟨n, hn⟩ : ∃ n, n = s.size := ⟨_, rfl⟩
    rw [← hva] at hA hin
    rw [← hvb] at hB hin
    rw [hsz, ← hn] at hin hB hu h6 h32
    have HEND := Lib.hid (show ∀ p : Nat × Nat, encAt (maskV key tw n) n va vb 10 = p → encR key tw s.data.toList = joinT n p from fun p hp => by
      unfold encR encT
      rw [if_pos HNE.out, hsz, ← hn]
      rw [hsz, ← hn] at hva hvb
      rw [← hva, ← hvb, hp])
    have HIN := Lib.hid (fun i => enc_in (f := maskV key tw n) hin i)
    have q0 : ((n : Nat) : Int).tdiv 2 = (u : Int) := by rw [Int.tdiv_eq_ediv_of_nonneg (by omega)]; omega
    have q1 : (n : Int) / 2 = (u : Int) := by omega
    have q2 : (u : Int) ≤ (n : Int) := by omega
    have q3 : (0 : Int) ≤ (u : Int) := by omega
    have h0 : halfN n 0 = u := by rw [half0, hu]
    have h1 : halfN n (0 + 1) = n - u := by rw [half1, hu]
    obtain ⟨a0, ha0⟩ : ∃ a0 : ByteArray, a0 = ⟨(textD va u).toArray⟩ := ⟨_, rfl⟩
    obtain ⟨b0, hb0⟩ : ∃ b0 : ByteArray, b0 = ⟨(textD vb (n - u)).toArray⟩ := ⟨_, rfl⟩
    rw [← ha0] at hA
    rw [← hb0] at hB
    have HST := Lib.hid (show REncStep w (maskV key tw n) n va vb (.string a0) (.string b0) (.int .i64 0) w from ⟨0, by omega, rfl, by rw [h0, ha0]; rfl, by rw [h1, hb0]; rfl, Below.refl _ _⟩)
    have HCIP := Lib.hid h
    have HKL := Lib.hid hk
    have hsz2 : s.size = n := hn.symm
    clear h hk hva hvb hin h0 h1 ha0 hb0 hsz hd hne hn hu
    go_enter Tryz.func79, Tryz.ntmps79
    go_wp2_with fail
    refine (HNM.out _).mono ?_
    rw [HNE.out]
    rintro e w1 ⟨rfl, hb1⟩
    have HST1 := Lib.hid (show REncStep w (maskV key tw n) n va vb (.string a0) (.string b0) (.int .i64 0) w1 from by
      obtain ⟨i, r1, r2, r3, r4, r5⟩ := HST.out
      exact ⟨i, r1, r2, r3, r4, hb1⟩)
    clear hb1 HST
    go_wp2_with fail
    clear hsz2 hA hB q0 q1 q2 q3
    go_loopw [8, 9, 10] (fun s8 s9 s10 wx => REncStep w (maskV key tw n) n va vb s8 s9 s10 wx) (fun _ _ i _ => 10 - (intOf i).toNat)
    case atStart => exact HST1.out
    case round =>
      clear HST1
      obtain ⟨i, hi, rfl, rfl, rfl, hb⟩ := hrel
      have HB := Lib.hid hb
      have hin := HIN.out i
      obtain ⟨p, hp⟩ : ∃ p, p = encAt (maskV key tw n) n va vb i := ⟨_, rfl⟩
      rw [← hp] at hin ⊢
      obtain ⟨p1, p2⟩ := p
      obtain ⟨hi1, hi2⟩ := hin
      simp only at hi1 hi2 ⊢
      have hp1 := half_pos (n := n) (i := i) h6 h32
      have hp2 := half_pos (n := n) (i := i + 1) h6 h32
      have N1 := rnum_text hp1.1 hp1.2 hi1
      have N2 := rnum_text hp2.1 hp2.2 hi2
      obtain ⟨sa, hsa⟩ : ∃ sa : ByteArray, sa = ⟨(textD p1 (halfN n i)).toArray⟩ := ⟨_, rfl⟩
      obtain ⟨sb', hsb⟩ : ∃ sb' : ByteArray, sb' = ⟨(textD p2 (halfN n (i + 1))).toArray⟩ := ⟨_, rfl⟩
      rw [← hsa] at N1 ⊢
      rw [← hsb] at N2 ⊢
      have hla : sa.size ≤ 16 := by rw [hsa, ← size_toList]; show (textD p1 (halfN n i)).length ≤ 16; rw [length_textD]; exact hp1.2
      have hlb : sb'.size ≤ 16 := by rw [hsb, ← size_toList]; show (textD p2 (halfN n (i + 1))).length ≤ 16; rw [length_textD]; exact hp2.2
      have HSA := Lib.hid hsa
      have HSB := Lib.hid hsb
      have HPE := Lib.hid hp
      by_cases hlt : i < 10
      · have hli : (i : Int) < 10 := by omega
        have HD := Lib.hid (fun w => rdigits_any n i w (by omega) (by omega))
        have HN1 := Lib.hid (fun w => rNumber_any sa w (by unfold maxLen; omega))
        rw [N1] at HN1
        have HN2 := Lib.hid (fun w => rNumber_any sb' w (by unfold maxLen; omega))
        rw [N2] at HN2
        have HMK := Lib.hid (rmask_any cb B U key tw n i p2 wr (HCIP.out.keep (Grew.of_below hb (S := fun k => w.heap.size ≤ k) fun _ _ h => h) (fun k _ hk2 h => by have := HCIP.out.top; omega)) HKL.out ht h6 h32 (by omega))
        have HAD := Lib.hid (fun w => rAdd_any (p1 : Int) (maskV key tw n i p2 : Nat) (halfN n i : Nat) w)
        rw [add_half h6 h32 hi1 (mask_lt key tw n i p2)] at HAD
        have hvl : (p1 + maskV key tw n i p2) % 10 ^ halfN n i < 10 ^ halfN n i := Nat.mod_lt _ (pow_pos' _)
        obtain ⟨v, hv⟩ : ∃ v, v = (p1 + maskV key tw n i p2) % 10 ^ halfN n i := ⟨_, rfl⟩
        rw [← hv] at HAD hvl
        have hv16 : v < 10 ^ 16 := Nat.lt_of_lt_of_le hvl (Nat.pow_le_pow_right (by decide) hp1.2)
        have HTX := Lib.hid (fun w => rText_any (v : Int) (halfN n i : Nat) w (by omega))
        rw [rtext_of hp1.1 hp1.2 hvl] at HTX
        obtain ⟨sv, hsv⟩ : ∃ sv : ByteArray, sv = ⟨(textD v (halfN n i)).toArray⟩ := ⟨_, rfl⟩
        rw [← hsv] at HTX
        have HFN := Lib.hid (show ∀ w', Below w.heap.size w w' → REncStep w (maskV key tw n) n va vb (.string sb') (.string sv) (.int .i64 ((i : Int) + 1)) w' from fun w' hb' => by
          have hst : encAt (maskV key tw n) n va vb (i + 1) = (p2, v) := by
            show ((encAt (maskV key tw n) n va vb i).2, ((encAt (maskV key tw n) n va vb i).1 + maskV key tw n i (encAt (maskV key tw n) n va vb i).2) % 10 ^ halfN n i) = _
            rw [← HPE.out, hv]
          exact ⟨i + 1, by omega, by go_num, by rw [hst, HSB.out], by rw [hst, half_two, hsv], hb'⟩)
        clear hb hi1 hi2 hp1 hp2 N1 N2 hsa hsb hp hvl hv16 hv hsv hla hlb
        generalize maskV key tw n i p2 = mv at HMK HAD
        generalize halfN n i = hh at HD HAD HTX
        go_wp2_with fail
        refine (HD.out _).mono ?_
        rintro e w2 ⟨rfl, rfl⟩
        go_wp2_with fail
        refine (HN1.out _).mono ?_
        rintro e w2 ⟨rfl, rfl⟩
        go_wp2_with fail
        refine (HN2.out _).mono ?_
        rintro e w2 ⟨rfl, rfl⟩
        go_wp2_with fail
        refine HMK.out.mono ?_
        rintro e w2 ⟨rfl, hb2⟩
        have HB2 := Lib.hid (HB.out.trans (hb2.mono HB.out.size))
        clear hb2
        go_wp2_with fail
        refine (HAD.out _).mono ?_
        rintro e w3 ⟨rfl, rfl⟩
        go_wp2_with fail
        refine (HTX.out _).mono ?_
        rintro e w3 ⟨rfl, hb3⟩
        have HB3 := Lib.hid (HB2.out.trans (hb3.mono HB2.out.size))
        clear hb3
        go_wp2_with fail
        go_roundw
        case rel => exact HFN.out _ HB3.out
        case measure => simp [intOf]; omega
      · obtain rfl : i = 10 := by omega
        have HE := HEND.out (p1, p2) (by rw [← HPE.out])
        have HSUM := Lib.hid (show (⟨(encR key tw s.data.toList).toArray⟩ : ByteArray) = sa ++ sb' by
          rw [HE, hsa, hsb, str_add, half_par (i := 10) (j := 0) rfl, half_par (i := 10 + 1) (j := 1) rfl, half0, half1]; rfl)
        clear hb hi1 hi2 hp1 hp2 N1 N2 hsa hsb hp HE
        go_wp2_with fail
        go_ret2
        exact ⟨by rw [HSUM.out, HNE.out]; rfl, HB.out⟩
  · have HE := Lib.hid (show encR key tw s.data.toList = [] from if_neg hne)
    obtain ⟨er, her⟩ : ∃ er, er = nmE s.data.toList := ⟨_, rfl⟩
    rw [← her] at HNM hne ⊢
    have hb0 : (er != 0) = true := bne_iff_ne.2 hne
    clear h hk hne her hsz
    go_enter Tryz.func79, Tryz.ntmps79
    go_wp2_with fail
    refine (HNM.out _).mono ?_
    rintro e w1 ⟨rfl, hb1⟩
    have HB1 := Lib.hid hb1
    clear hb1
    go_wp2_with fail
    go_ret2
    exact ⟨by rw [HE.out]; rfl, HB1.out⟩
set_option maxRecDepth 100000 in
set_option maxHeartbeats 8000000 in
theorem rFDecrypt_any (cb B U : Nat) (key tw : List UInt8) (s : ByteArray) (w : World) (h : RCipAt w cb B U key tw) (hk : key.length = 16 ∨ key.length = 32) (ht : tw.length ≤ 16) (hs : s.size ≤ maxLen) :
    Calls Tryz.prog 78 #[.pointer (some ⟨cb, 0, none⟩), .string s] w fun e w' => e = .returned (.tuple #[.string ⟨(decR key tw s.data.toList).toArray⟩, .int .i64 (nmE s.data.toList)]) ∧ Below w.heap.size w w' := by
  have hsz := size_toList s
  have HNM := Lib.hid (fun w => rnumerals_any s w hs)
  by_cases hne : nmE s.data.toList = 0
  · obtain ⟨h6, h32, hd⟩ := nmE_zero hne
    have HNE := Lib.hid hne
    obtain ⟨u, hu⟩ : ∃ u, u = s.data.toList.length / 2 := ⟨_, rfl⟩
    obtain ⟨hA, hB⟩ := rcut_strs hu hd
    have hin := vals_in hd
    obtain ⟨va, hva⟩ : ∃ va, va = valD (s.data.toList.take (s.data.toList.length / 2)) := ⟨_, rfl⟩
    obtain ⟨vb, hvb⟩ : ∃ vb, vb = valD (s.data.toList.drop (s.data.toList.length / 2)) := ⟨_, rfl⟩
    obtain ⟨n, hn⟩ : ∃ n, n = s.size := ⟨_, rfl⟩
    rw [← hva] at hA hin
    rw [← hvb] at hB hin
    rw [hsz, ← hn] at hin hB hu h6 h32
    have HEND := Lib.hid (show ∀ p : Nat × Nat, decAt (maskV key tw n) n va vb 10 = p → decR key tw s.data.toList = joinT n p from fun p hp => by
      unfold decR decT
      rw [if_pos HNE.out, hsz, ← hn]
      rw [hsz, ← hn] at hva hvb
      rw [← hva, ← hvb, hp])
    have HIN := Lib.hid (fun k (hk : k ≤ 10) => dec_in (f := maskV key tw n) (in_ten.2 hin) k hk)
    have q0 : ((n : Nat) : Int).tdiv 2 = (u : Int) := by rw [Int.tdiv_eq_ediv_of_nonneg (by omega)]; omega
    have q1 : (n : Int) / 2 = (u : Int) := by omega
    have q2 : (u : Int) ≤ (n : Int) := by omega
    have q3 : (0 : Int) ≤ (u : Int) := by omega
    have h0 : halfN n (10 - 0) = u := by rw [half_par (i := 10 - 0) (j := 0) rfl, half0, hu]
    have h1 : halfN n (11 - 0) = n - u := by rw [half_par (i := 11 - 0) (j := 1) rfl, half1, hu]
    obtain ⟨a0, ha0⟩ : ∃ a0 : ByteArray, a0 = ⟨(textD va u).toArray⟩ := ⟨_, rfl⟩
    obtain ⟨b0, hb0⟩ : ∃ b0 : ByteArray, b0 = ⟨(textD vb (n - u)).toArray⟩ := ⟨_, rfl⟩
    rw [← ha0] at hA
    rw [← hb0] at hB
    have HST := Lib.hid (show RDecStep w (maskV key tw n) n va vb (.string a0) (.string b0) (.int .i64 9) w from ⟨0, by omega, rfl, by rw [h0, ha0]; rfl, by rw [h1, hb0]; rfl, Below.refl _ _⟩)
    have HCIP := Lib.hid h
    have HKL := Lib.hid hk
    have hsz2 : s.size = n := hn.symm
    clear h hk hva hvb hin h0 h1 ha0 hb0 hsz hd hne hn hu
    go_enter Tryz.func78, Tryz.ntmps78
    go_wp2_with fail
    refine (HNM.out _).mono ?_
    rw [HNE.out]
    rintro e w1 ⟨rfl, hb1⟩
    have HST1 := Lib.hid (show RDecStep w (maskV key tw n) n va vb (.string a0) (.string b0) (.int .i64 9) w1 from by
      obtain ⟨i, r1, r2, r3, r4, r5⟩ := HST.out
      exact ⟨i, r1, r2, r3, r4, hb1⟩)
    clear hb1 HST
    go_wp2_with fail
    clear hsz2 hA hB q0 q1 q2 q3
    go_loopw [8, 9, 10] (fun s8 s9 s10 wx => RDecStep w (maskV key tw n) n va vb s8 s9 s10 wx) (fun _ _ i _ => (intOf i + 1).toNat)
    case atStart => exact HST1.out
    case round =>
      clear HST1
      obtain ⟨k, hk10, rfl, rfl, rfl, hb⟩ := hrel
      have HB := Lib.hid hb
      have hin := HIN.out k hk10
      obtain ⟨p, hp⟩ : ∃ p, p = decAt (maskV key tw n) n va vb k := ⟨_, rfl⟩
      rw [← hp] at hin ⊢
      obtain ⟨p1, p2⟩ := p
      obtain ⟨hi1, hi2⟩ := hin
      simp only at hi1 hi2 ⊢
      rw [show 10 - k + 1 = 11 - k by omega] at hi2
      have hp1 := half_pos (n := n) (i := 10 - k) h6 h32
      have hp2 := half_pos (n := n) (i := 11 - k) h6 h32
      have N1 := rnum_text hp1.1 hp1.2 hi1
      have N2 := rnum_text hp2.1 hp2.2 hi2
      obtain ⟨sa, hsa⟩ : ∃ sa : ByteArray, sa = ⟨(textD p1 (halfN n (10 - k))).toArray⟩ := ⟨_, rfl⟩
      obtain ⟨sb', hsb⟩ : ∃ sb' : ByteArray, sb' = ⟨(textD p2 (halfN n (11 - k))).toArray⟩ := ⟨_, rfl⟩
      rw [← hsa] at N1 ⊢
      rw [← hsb] at N2 ⊢
      have hla : sa.size ≤ 16 := by rw [hsa, ← size_toList]; show (textD p1 (halfN n (10 - k))).length ≤ 16; rw [length_textD]; exact hp1.2
      have hlb : sb'.size ≤ 16 := by rw [hsb, ← size_toList]; show (textD p2 (halfN n (11 - k))).length ≤ 16; rw [length_textD]; exact hp2.2
      have HSA := Lib.hid hsa
      have HSB := Lib.hid hsb
      have HPE := Lib.hid hp
      by_cases hlt : k < 10
      · obtain ⟨i, hie⟩ : ∃ i, i = 9 - k := ⟨_, rfl⟩
        have e9 : (9 : Int) - (k : Int) = (i : Int) := by omega
        have hh : halfN n (11 - k) = halfN n i := half_par (by omega)
        rw [hh] at hi2 hp2
        have HIE := Lib.hid hie
        rw [e9]
        have HD := Lib.hid (fun w => rdigits_any n i w (by omega) (by omega))
        have HN1 := Lib.hid (fun w => rNumber_any sa w (by unfold maxLen; omega))
        rw [N1] at HN1
        have HN2 := Lib.hid (fun w => rNumber_any sb' w (by unfold maxLen; omega))
        rw [N2] at HN2
        have HMK := Lib.hid (rmask_any cb B U key tw n i p1 wr (HCIP.out.keep (Grew.of_below hb (S := fun k => w.heap.size ≤ k) fun _ _ h => h) (fun k _ hk2 h => by have := HCIP.out.top; omega)) HKL.out ht h6 h32 (by omega))
        have HAD := Lib.hid (fun w => rSub_any (p2 : Int) (maskV key tw n i p1 : Nat) (halfN n i : Nat) w)
        rw [sub_half h6 h32 hi2 (mask_lt key tw n i p1)] at HAD
        have hvl : (p2 + 10 ^ halfN n i - maskV key tw n i p1) % 10 ^ halfN n i < 10 ^ halfN n i := Nat.mod_lt _ (pow_pos' _)
        obtain ⟨v, hv⟩ : ∃ v, v = (p2 + 10 ^ halfN n i - maskV key tw n i p1) % 10 ^ halfN n i := ⟨_, rfl⟩
        rw [← hv] at HAD hvl
        have hv16 : v < 10 ^ 16 := Nat.lt_of_lt_of_le hvl (Nat.pow_le_pow_right (by decide) hp2.2)
        have HTX := Lib.hid (fun w => rText_any (v : Int) (halfN n i : Nat) w (by omega))
        rw [rtext_of hp2.1 hp2.2 hvl] at HTX
        obtain ⟨sv, hsv⟩ : ∃ sv : ByteArray, sv = ⟨(textD v (halfN n i)).toArray⟩ := ⟨_, rfl⟩
        rw [← hsv] at HTX
        have HFN := Lib.hid (show ∀ w', Below w.heap.size w w' → RDecStep w (maskV key tw n) n va vb (.string sv) (.string sa) (.int .i64 ((i : Int) - 1)) w' from fun w' hb' => by
          have hst : decAt (maskV key tw n) n va vb (k + 1) = (v, p1) := by
            show (((decAt (maskV key tw n) n va vb k).2 + 10 ^ halfN n (9 - k) - maskV key tw n (9 - k) (decAt (maskV key tw n) n va vb k).1) % 10 ^ halfN n (9 - k), (decAt (maskV key tw n) n va vb k).1) = _
            rw [← HPE.out, ← HIE.out, hv]
          refine ⟨k + 1, by omega, by congr 1; have := HIE.out; omega, ?_, ?_, hb'⟩
          · rw [hst, hsv]
            show Value.string ⟨(textD v (halfN n i)).toArray⟩ = Value.string ⟨(textD v (halfN n (10 - (k + 1)))).toArray⟩
            rw [show 10 - (k + 1) = i by have := HIE.out; omega]
          · rw [hst, HSA.out]
            show Value.string ⟨(textD p1 (halfN n (10 - k))).toArray⟩ = Value.string ⟨(textD p1 (halfN n (11 - (k + 1)))).toArray⟩
            rw [show 11 - (k + 1) = 10 - k by omega])
        have hi0 : (0 : Int) ≤ (i : Int) := by omega
        have hi9 : (i : Int) ≤ 9 := by omega
        have HK10 := Lib.hid hk10
        clear hb hi1 hi2 hp1 hp2 N1 N2 hsa hsb hp hvl hv16 hv hsv hla hlb e9 hie hk10 hlt hh
        generalize maskV key tw n i p1 = mv at HMK HAD
        generalize halfN n i = hh at HD HAD HTX
        go_wp2_with fail
        refine (HD.out _).mono ?_
        rintro e w2 ⟨rfl, rfl⟩
        go_wp2_with fail
        refine (HN2.out _).mono ?_
        rintro e w2 ⟨rfl, rfl⟩
        go_wp2_with fail
        refine (HN1.out _).mono ?_
        rintro e w2 ⟨rfl, rfl⟩
        go_wp2_with fail
        refine HMK.out.mono ?_
        rintro e w2 ⟨rfl, hb2⟩
        have HB2 := Lib.hid (HB.out.trans (hb2.mono HB.out.size))
        clear hb2
        go_wp2_with fail
        refine (HAD.out _).mono ?_
        rintro e w3 ⟨rfl, rfl⟩
        go_wp2_with fail
        refine (HTX.out _).mono ?_
        rintro e w3 ⟨rfl, hb3⟩
        have HB3 := Lib.hid (HB2.out.trans (hb3.mono HB2.out.size))
        clear hb3
        go_wp2_with fail
        go_roundw
        case rel => exact HFN.out _ HB3.out
        case measure => simp [intOf] <;> omega
      · obtain rfl : k = 10 := by omega
        have HE := HEND.out (p1, p2) (by rw [← HPE.out])
        have HSUM := Lib.hid (show (⟨(decR key tw s.data.toList).toArray⟩ : ByteArray) = sa ++ sb' by
          rw [HE, hsa, hsb, str_add, half_par (i := 10 - 10) (j := 0) rfl, half_par (i := 11 - 10) (j := 1) rfl, half0, half1]; rfl)
        have t9 : (9 : Int) - ((10 : Nat) : Int) = -1 := by decide
        rw [t9]
        clear hb hi1 hi2 hp1 hp2 N1 N2 hsa hsb hp HE t9
        go_wp2_with fail
        go_ret2
        exact ⟨by rw [HSUM.out, HNE.out]; rfl, HB.out⟩
  · have HE := Lib.hid (show decR key tw s.data.toList = [] from if_neg hne)
    obtain ⟨er, her⟩ : ∃ er, er = nmE s.data.toList := ⟨_, rfl⟩
    rw [← her] at HNM hne ⊢
    have hb0 : (er != 0) = true := bne_iff_ne.2 hne
    clear h hk hne her hsz
    go_enter Tryz.func78, Tryz.ntmps78
    go_wp2_with fail
    refine (HNM.out _).mono ?_
    rintro e w1 ⟨rfl, hb1⟩
    have HB1 := Lib.hid hb1
    clear hb1
    go_wp2_with fail
    go_ret2
    exact ⟨by rw [HE.out]; rfl, HB1.out⟩
end Go.Proofs.YtogpnlfbdhddmaaGreatDoor
