/- THE WALK of the reference's tag. -/
import Derived.Test.YtbjlmodabiadfaaHRefSha4
import Derived.Test.YtbjlmodabiadfaaHMacHalves
import Derived.Test.YtbjlmodabiadfaaGMem
import Derived.Deep.DeepCutAuto
namespace Go.Proofs.Ytbjlmodabiadfaa
open Go.RowKit

/-- The key, or its digest, in a row. -/
def RKeyRel (w : World) (kk : List UInt8) (s5 : Value) (wx : World) : Prop := ∃ A c, s5 = .slice A kk.length c ∧ Row wx w.heap.size 1 A kk.length c (bv kk) ∧ Below w.heap.size w wx
/-- .. with noughts behind it. -/
def RNoughtRel (w : World) (kk : List UInt8) (g : Nat) (s5 : Value) (wx : World) : Prop :=
  ∃ (i m : Nat) (A : Option Addr) (c : Nat), g = 64 - m ∧ m ≤ 64 ∧ Hid (m = kk.length + i) ∧ s5 = .slice A m c ∧ Row wx w.heap.size 1 A m c (bv (kk ++ List.replicate i 0)) ∧ Below w.heap.size w wx
theorem rnought_next {w wr w2 : World} {kk : List UInt8} {i m c c2 : Nat} {A A2 : Option Addr} {o : Obj} (hm : Hid (m = kk.length + i)) (hlt : m < 64) (hrow : Row wr w.heap.size 1 A m c (bv (kk ++ List.replicate i 0))) (hb : Below w.heap.size w wr)
    (hr2 : Row w2 w.heap.size 1 A2 (m + 1) c2 (bv (kk ++ List.replicate i 0) ++ [.int .u8 0])) (hg : (wr.alloc o).grownBy w2 (A.map (·.block))) : RNoughtRel w kk (64 - (m + 1)) (.slice A2 (m + 1) c2) w2 :=
  ⟨i + 1, m + 1, A2, c2, rfl, hlt, Lib.hid (by have := hm.out; omega), rfl, by
    have e : bv (kk ++ List.replicate (i + 1) 0) = bv (kk ++ List.replicate i 0) ++ [.int .u8 0] := by
      rw [List.replicate_succ', ← List.append_assoc, bv_append]; rfl
    rw [e]; exact hr2, below_append hb hb.size hrow hg⟩
/-- i places of the halves are made. -/
def RHalfRel (w : World) (kb : List UInt8) (s6 s7 s8 : Value) (wx : World) : Prop :=
  ∃ (i : Nat) (A B : Option Addr) (c d : Nat), i ≤ 64 ∧ s8 = .int .i64 i ∧ s6 = .slice A i c ∧ s7 = .slice B i d ∧ Row wx w.heap.size 1 A i c (bv ((kb.take i).map (· ^^^ 54))) ∧ Row wx w.heap.size 1 B i d (bv ((kb.take i).map (· ^^^ 92))) ∧ Apart A B ∧ Below w.heap.size w wx
theorem apart_next {wr : World} {base i d : Nat} {A A' B : Option Addr} {ys : List Value} {o : Obj} (hap : Apart A B) (hy : Row wr base 1 B i d ys) (hat : A' = A ∨ ∃ ad, A' = some ad ∧ (wr.alloc o).heap.size ≤ ad.block) : Apart A' B := by
  intro a b ea eb
  rcases hat with rfl | ⟨ad, e, h⟩
  · exact hap a b ea eb
  · rw [e] at ea
    cases ea
    have := (hy.lt b eb).2
    simp at h
    omega
theorem row_beside {wr w2 : World} {base i d : Nat} {A B : Option Addr} {ys : List Value} {o : Obj} (hap : Apart A B) (hy : Row wr base 1 B i d ys) (hg : (wr.alloc o).grownBy w2 (A.map (·.block))) : Row w2 base 1 B i d ys :=
  (hy.alloc o).grown hg fun ad e h => by
    cases A with
    | none => cases h
    | some a => simp only [Option.map_some, Option.some.injEq] at h; exact hap a ad rfl e h.symm
theorem row_beside0 {wr w2 : World} {base i d : Nat} {A B : Option Addr} {ys : List Value} (hap : Apart A B) (hy : Row wr base 1 B i d ys) (hg : wr.grownBy w2 (A.map (·.block))) : Row w2 base 1 B i d ys :=
  hy.grown hg fun ad e h => by
    cases A with
    | none => cases h
    | some a => simp only [Option.map_some, Option.some.injEq] at h; exact hap a ad rfl e h.symm
theorem half_next (kb : List UInt8) (p : UInt8) (i : Nat) (h : i < kb.length) : bv ((kb.take (i + 1)).map (· ^^^ p)) = bv ((kb.take i).map (· ^^^ p)) ++ [.int .u8 ((kb[i] ^^^ p).toNat : Int)] := by
  rw [List.take_succ_eq_append_getElem h, List.map_append, bv_append]; rfl
set_option maxRecDepth 100000 in
set_option maxHeartbeats 4000000 in
theorem rMac_any (A : Option Addr) (n c B : Nat) (key : List UInt8) (A2 : Option Addr) (n2 c2 : Nat) (b : List UInt8) (w : World) (hr : Reads w B 1 A n (bv key)) (hr2 : Reads w B 1 A2 n2 (bv b)) (hB : B ≤ w.heap.size) (hn : n ≤ 140737488351232) (hn2 : n2 ≤ 70368744177000) :
    Calls Try.prog 22 #[.slice A n c, .slice A2 n2 c2] w (RowOut (macB key b) w) := by
  obtain ⟨i0, hi, hz0, hz1, hz2⟩ := info_parts byte_info
  have hkl : key.length = n := by have := hr.1; rw [length_bv] at this; omega
  have hbl : b.length = n2 := by have := hr2.1; rw [length_bv] at this; omega
  have HKL := Lib.hid hkl
  have HBL := Lib.hid hbl
  have HR := Lib.hid hr
  have HR2 := Lib.hid hr2
  clear hkl hr hr2 hbl
  generalize hkk : (if 64 < key.length then Sha.sum key else key) = kk
  have HKK := Lib.hid hkk
  have hkk64 : kk.length ≤ 64 := by
    rw [← hkk]; split
    · rw [Sha.length_sum]; omega
    · omega
  clear hkk
  go_enter Try.func22, Try.ntmps22
  go_upto_if 14 with (at_builtin; refine wpList_append_row rfl (.tmp 9) (.tmp 10) rfl Try.underlying22 hi hz0 hz1 hz2 rfl (by decide) rfl (Row.lit w #[] 5 (n := 0) (base := w.heap.size) (size := 1) rfl (Nat.le_refl _) (by unfold maxLen; omega)) rfl (HR.out.alloc hB _) (bv_one _) (by unfold maxLen; omega) (by omega) (by simp) ?_; intro A7 c7 w7 hrow7 hgr7 hat7; have HB7 := Lib.hid (show Below w.heap.size w w7 from ((Below.refl _ _).alloc (Nat.le_refl _) _).grown hgr7 (by simp) (fun k hk => by simp at hk; omega)); have HR7 := Lib.hid (show Row w7 w.heap.size 1 A7 n c7 (bv key) from by simpa using hrow7); clear hrow7 hgr7 hat7; have hs7 := HB7.out.size)
  go_cut [5] (fun s5 wx => RKeyRel w kk s5 wx)
  case first =>
    by_cases h64 : 64 < n
    · have hd : decide (64 < (n : Int)) = true := by simp; omega
      have hcall := rsum_any A7 n c7 w7.heap.size key w7 HR7.out.reads (Nat.le_refl _) hn
      rw [show Sha.sum key = kk by rw [← HKK.out, if_pos (by rw [HKL.out]; exact h64)]] at hcall
      have SUMK := Lib.hid hcall
      clear hcall
      go_wp2_with fail
      refine (SUMK.out).mono ?_
      rintro e w1 ⟨A1, c1, rfl, hrow1, hb1⟩
      have HR1 := Lib.hid (show RKeyRel w kk (.slice A1 kk.length c1) w1 from ⟨A1, c1, rfl, hrow1.mono hs7, HB7.out.trans (hb1.mono hs7)⟩)
      clear hrow1 hb1
      go_wp2_with fail
      go_meet
      exact HR1.out
    · have hd : decide (64 < (n : Int)) = false := by simp; omega
      have e : kk = key := by rw [← HKK.out, if_neg (by rw [HKL.out]; exact h64)]
      have HE := Lib.hid e
      clear e
      go_wp2_with fail
      go_meet
      have h := HR7.out
      rw [← HE.out] at h
      have hl : n = kk.length := by have := HKL.out; rw [← HE.out] at this; exact this.symm
      rw [hl] at h ⊢
      exact ⟨A7, c7, rfl, h, HB7.out⟩
  case rest =>
    obtain ⟨A5, c5, rfl, hrow5, hb5⟩ := hcut
    have HKB := Lib.hid (show keyBlock key = kk ++ List.replicate (64 - kk.length) 0 by rw [← HKK.out]; rfl)
    have HROW5 := Lib.hid hrow5
    have HB5 := Lib.hid hb5
    clear hrow5 hb5 HB7 HR7 hs7
    have hs5 := HB5.out.size
    go_wp2_with fail
    go_loopg [5] (64 - kk.length) (fun g s5 wx => RNoughtRel w kk g s5 wx)
    case atStart => exact ⟨0, kk.length, A5, c5, rfl, hkk64, Lib.hid rfl, rfl, by simpa using HROW5.out, HB5.out⟩
    case round =>
      clear HROW5 HB5 hs5
      obtain ⟨i, m, A1, c1, hgk, hm64, hm, rfl, hrow, hbel⟩ := hrel
      have hsz := hbel.size
      have HROW := Lib.hid hrow
      have HBEL := Lib.hid hbel
      clear hrow hbel
      by_cases hlt : m < 64
      · go_wp2_with (at_builtin; refine wpList_append_row rfl (.tmp 20) (.tmp 21) rfl Try.underlying22 hi hz0 hz1 hz2 rfl (by decide) rfl (HROW.out.alloc _) rfl (Reads.lit _ _ _ (n := 1) rfl) (by intro v hv; simp at hv; rcases hv with rfl; rfl) (by unfold maxLen; omega) (by omega) (by simp; omega) ?_; intro A2' c2' w2 hrow2 hgr2 hat2; have HNX := Lib.hid (rnought_next hm hlt HROW.out HBEL.out hrow2 hgr2); clear hrow2 hgr2 hat2)
        go_roundg (64 - (m + 1))
        case measure => omega
        case rel => exact HNX.out
      · obtain rfl : m = 64 := by omega
        obtain ⟨kb, hkb⟩ : ∃ kb, keyBlock key = kb := ⟨_, rfl⟩
        have hkbl : kb.length = 64 := by rw [← hkb, length_keyBlock]
        have hrowk : Row wr w.heap.size 1 A1 64 c1 (bv kb) := by
          rw [← hkb, HKB.out, show 64 - kk.length = i by have := hm.out; omega]; exact HROW.out
        have HKBE := Lib.hid hkb
        obtain ⟨kbb, ko, hA1⟩ := row_some hrowk (by omega)
        subst hA1
        have hkc : ∀ j (hj : j < kb.length), wr.cell? ⟨kbb, ko + j, none⟩ = some (.int .u8 ((kb[j]).toNat : Int)) := fun j hj => hrowk.cell (bv_at kb j hj)
        have hkbb := (hrowk.lt _ rfl).2
        simp only at hkbb
        have HKC := Lib.hid hkc
        clear hkb hrowk hkc HROW
        go_wp2_with fail
        go_loopw [6, 7, 8] (fun s6 s7 s8 wx => RHalfRel wr kb s6 s7 s8 wx) (fun _ _ i _ => 64 - (intOf i).toNat)
        case atStart => exact ⟨0, none, none, 0, 0, by omega, rfl, rfl, rfl, Row.nil_ _ _ _, Row.nil_ _ _ _, (fun a b e => by cases e), Below.refl _ _⟩
        case round =>
          obtain ⟨j, A6, A7', c6, c7', hj, rfl, rfl, rfl, hx, hy, hap, hbel⟩ := hrel
          have hsz6 := hbel.size
          have HX := Lib.hid hx
          have HY := Lib.hid hy
          have HAP := Lib.hid hap
          have HBEL6 := Lib.hid hbel
          by_cases hlj : j < 64
          · have d0 : wr.cell? ⟨kbb, ko + j, none⟩ = some (.int .u8 ((kb[j]'(by omega)).toNat : Int)) := (hbel.cell (p := ⟨kbb, ko + j, none⟩) hkbb).trans (HKC.out j (by omega))
            have HD := Lib.hid (HKC.out j (by omega))
            have HNX := Lib.hid (half_next kb 54 j (by omega))
            have HNY := Lib.hid (half_next kb 92 j (by omega))
            have e1 := oct_xor (kb[j]'(by omega)) 54
            have e2 := oct_xor (kb[j]'(by omega)) 92
            rw [show ((54 : UInt8).toNat : Int) = 54 from rfl] at e1
            rw [show ((92 : UInt8).toNat : Int) = 92 from rfl] at e2
            generalize ((kb[j]'(by omega) ^^^ 54).toNat : Int) = z1 at e1 HNX
            generalize ((kb[j]'(by omega) ^^^ 92).toNat : Int) = z2 at e2 HNY
            generalize ((kb[j]'(by omega)).toNat : Int) = z0 at e1 e2 d0 HD
            clear hx hy hap hbel
            go_wp2_with (at_builtin; first
              | (refine wpList_append_row rfl (.tmp 27) (.tmp 33) rfl Try.underlying22 hi hz0 hz1 hz2 rfl (by decide) rfl (HX.out.alloc _) rfl (Reads.lit _ _ _ (n := 1) rfl) (by intro v hv; simp at hv; rcases hv with rfl; rfl) (by unfold maxLen; omega) (by omega) (by simp; omega) ?_; intro A8 c8 w2 hrow2 hgr2 hat2; have HB2 := Lib.hid (below_append HBEL6.out hsz6 HX.out hgr2); have HX2 := Lib.hid hrow2; have HY2 := Lib.hid (row_beside HAP.out HY.out hgr2); have HAP2 := Lib.hid (apart_next HAP.out HY.out hat2); have d2 := (HB2.out.cell (p := ⟨kbb, ko + j, none⟩) hkbb).trans HD.out; have hsz2 := HB2.out.size; clear hrow2 hgr2 hat2 d0)
              | (refine wpList_append_row rfl (.tmp 35) (.tmp 41) rfl Try.underlying22 hi hz0 hz1 hz2 rfl (by decide) rfl (HY2.out.alloc _) rfl (Reads.lit _ _ _ (n := 1) rfl) (by intro v hv; simp at hv; rcases hv with rfl; rfl) (by unfold maxLen; omega) (by omega) (by simp; omega) ?_; intro A9 c9 w3 hrow3 hgr3 hat3; have HB3 := Lib.hid (below_append HB2.out hsz2 HY2.out hgr3); have HY3 := Lib.hid hrow3; have HX3 := Lib.hid (row_beside HAP2.out.symm HX2.out hgr3); have HAP3 := Lib.hid (apart_next HAP2.out.symm HX2.out hat3).symm; clear hrow3 hgr3 hat3))
            go_roundw
            case rel => exact ⟨j + 1, A8, A9, c8, c9, by omega, by go_num, rfl, rfl, by rw [HNX.out]; exact HX3.out, by rw [HNY.out]; exact HY3.out, HAP3.out, HB3.out⟩
            case measure => simp [intOf]; omega
          · obtain rfl : j = 64 := by omega
            have ex : (kb.take 64).map (· ^^^ 54) = halfX key := by rw [List.take_of_length_le (by omega), ← HKBE.out]; rfl
            have ey : (kb.take 64).map (· ^^^ 92) = halfY key := by rw [List.take_of_length_le (by omega), ← HKBE.out]; rfl
            rw [ex] at hx
            rw [ey] at hy
            have HX := Lib.hid hx
            have HY := Lib.hid hy
            have HRB := Lib.hid ((HR2.out.below ((HBEL.out).mono hB)).below (hbel.mono (by omega)))
            have HBW := Lib.hid (HBEL.out.trans (hbel.mono hsz))
            have HBEL6 := Lib.hid hbel
            clear hx hy hap hbel ex ey
            go_wp2_with (at_builtin; (refine wpList_append_row rfl (.tmp 44) (.tmp 45) rfl Try.underlying22 hi hz0 hz1 hz2 rfl (by decide) rfl (HX.out) rfl HRB.out (bv_one _) (by unfold maxLen; omega) (by omega) (by omega) ?_; intro A8 c8 w2 hrow2 hgr2 hat2; have HX2 := Lib.hid hrow2; have HB2 := Lib.hid (HBEL6.out.grown hgr2 hsz6 HX.out.blocks); have HY2 := Lib.hid (row_beside0 HAP.out HY.out hgr2); clear hrow2 hgr2 hat2))
            have hsz2 := HB2.out.size
            have hx2 := HX2.out
            rw [← bv_append] at hx2
            have HS2 := Lib.hid (rsum_any A8 (64 + n2) c8 w2.heap.size (halfX key ++ b) w2 hx2.reads (Nat.le_refl _) (by omega))
            clear hx2
            refine HS2.out.mono ?_
            rintro e w4 ⟨A4, c4, rfl, hrow4, hb4⟩
            rw [Sha.length_sum] at hrow4 ⊢
            have hmac := macB_def key b
            obtain ⟨d, hd⟩ : ∃ d, Sha.sum (halfX key ++ b) = d := ⟨_, rfl⟩
            have hdl : d.length = 32 := by rw [← hd, Sha.length_sum]
            rw [hd] at hrow4 hmac
            have HMAC := Lib.hid hmac
            have HROW4 := Lib.hid hrow4
            have HY4 := Lib.hid (HY2.out.of_block (w' := w4) fun ad e => hb4.block _ (HY2.out.lt ad e).2)
            have HB4 := Lib.hid (HB2.out.trans (hb4.mono hsz2))
            have hsz4 := hb4.size
            clear hrow4 hb4 hd hmac HS2
            go_wp2_with (at_builtin; (refine wpList_append_row rfl (.tmp 43) (.tmp 47) rfl Try.underlying22 hi hz0 hz1 hz2 rfl (by decide) rfl (HY4.out) rfl HROW4.out.reads (bv_one _) (by unfold maxLen; omega) (by omega) (by omega) ?_; intro A8' c8' w5 hrow5 hgr5 hat5; have HX5 := Lib.hid hrow5; have HB5 := Lib.hid (HB4.out.grown hgr5 (by omega) HY4.out.blocks); clear hrow5 hgr5 hat5))
            have hsz5 := HB5.out.size
            have hx5 := HX5.out
            rw [← bv_append] at hx5
            have HS5 := Lib.hid (rsum_any A8' 96 c8' w5.heap.size (halfY key ++ d) w5 hx5.reads (Nat.le_refl _) (by omega))
            clear hx5
            refine HS5.out.mono ?_
            rintro e w6 ⟨A9, c9, rfl, hrow6, hb6⟩
            rw [← HMAC.out] at hrow6 ⊢
            have HB6 := Lib.hid ((HBEL.out.trans (HB5.out.mono hsz)).trans (hb6.mono (by omega)))
            obtain ⟨mm, hmm⟩ : ∃ mm, macB key b = mm := ⟨_, rfl⟩
            rw [hmm] at hrow6 ⊢
            have HMM := Lib.hid hmm
            have HROW6 := Lib.hid hrow6
            clear hrow6 hb6 hmm HS5 HMAC
            go_wp2_with fail
            go_ret
            show RowOut (macB key b) w _ _
            rw [HMM.out]
            exact ⟨A9, c9, rfl, HROW6.out.mono (by omega), HB6.out⟩
end Go.Proofs.Ytbjlmodabiadfaa
