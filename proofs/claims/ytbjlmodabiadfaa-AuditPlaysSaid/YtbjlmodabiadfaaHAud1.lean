/- Audit: records, tags. -/
import Derived.Test.YtbjlmodabiadfaaHMacTags
import Derived.Test.YtbjlmodabiadfaaGMem
namespace Go.Proofs.Ytbjlmodabiadfaa
open Go.RowKit

/-- One record. -/
structure Rec where
  seq : Int
  text : ByteArray
  tag : List UInt8
/-- A record's tag. -/
def tagB (key ahead : List UInt8) (seq : Int) (text : List UInt8) : List UInt8 := macB key (ahead ++ (Sha.eight seq ++ text))
theorem length_tagB (key ahead : List UInt8) (seq : Int) (text : List UInt8) : (tagB key ahead seq text).length = 32 := rfl
theorem eight_zeros (n : Int) (k : Nat) (h : k < 8) : ((Sha.eight n).take k ++ List.replicate (8 - k) 0).set k (Sha.by8 n (56 - 8 * k)) = (Sha.eight n).take (k + 1) ++ List.replicate (8 - (k + 1)) 0 := by
  match k, h with
  | 0, _ => rfl
  | 1, _ => rfl
  | 2, _ => rfl
  | 3, _ => rfl
  | 4, _ => rfl
  | 5, _ => rfl
  | 6, _ => rfl
  | 7, _ => rfl
/-- k bytes stand. -/
def AEightRel (w : World) (n : Int) (s8 : Value) (wr : World) : Prop :=
  ∃ k : Nat, k ≤ 8 ∧ s8 = .int .i64 k ∧ Row wr w.heap.size 1 (some ⟨w.heap.size, 0, none⟩) 8 8 (bv ((Sha.eight n).take k ++ List.replicate (8 - k) 0)) ∧ Below w.heap.size w wr
set_option maxRecDepth 100000 in
set_option maxHeartbeats 4000000 in
theorem aEight_any (n : Int) (w : World) :
    Calls Try.prog 55 #[.int .i64 n] w (RowOut (Sha.eight n) w) := by
  obtain ⟨i0, hi, hz0, hz1, hz2⟩ := info_parts byte_info
  have hmk := fun W => run_make (P := Try.prog) W 22 5 i0 (.int .u8 0) Try.underlying22 hi hz0 .i64 .i64 8 8 (by omega) (by omega) (by rw [hz2]; omega) (by omega)
  rw [hz1, show ((8 : Int)).toNat = 8 by omega, Nat.mul_one] at hmk
  have HROW0 := Lib.hid (made_row w (.int .u8 0) 5 8 8 (by omega) (by unfold maxLen; omega))
  go_enter Try.func55, Try.ntmps55
  go_wp2_with fail
  go_loopw [4, 8] (fun _ s8 wr => AEightRel w n s8 wr) (fun _ i _ => 8 - (intOf i).toNat)
  case atStart => exact ⟨0, by omega, rfl, HROW0.out, (Below.refl _ _).alloc (Nat.le_refl _) _⟩
  case round =>
    clear HROW0
    obtain ⟨k, hk, rfl, hrow, hb⟩ := hrel
    by_cases hlt : k < 8
    · have hset := hrow.set (j := k) (by omega) (.int .u8 ((Sha.by8 n (56 - 8 * k)).toNat : Int))
      rw [← bv_set, eight_zeros n k hlt, Nat.zero_add] at hset
      have hb8 := Sha.by8_toNat n (56 - 8 * k)
      rw [hb8] at hset
      have hcell := (hrow.at_.2.2.1 k (by omega)).1
      have hfree := (hrow.at_.2.2.1 k (by omega)).2
      obtain ⟨u, hu⟩ := Option.isSome_iff_exists.1 hcell
      rw [Nat.zero_add] at hu hfree
      have HSET := Lib.hid hset
      have HB := Lib.hid (hb.setCell (p := ⟨w.heap.size, k, none⟩) (Nat.le_refl _) (.int .u8 (n / (2 : Int) ^ (56 - 8 * k) % 256)))
      have k1 : (0 : Int) ≤ 56 - 8 * (k : Int) := by omega
      have k2 : (56 - 8 * (k : Int)).toNat = 56 - 8 * k := by omega
      clear hrow hb hset hcell hb8
      go_wp2_with fail
      go_roundw
      case rel =>
        exact ⟨k + 1, by omega, by go_num, HSET.out, HB.out⟩
      case measure => simp [intOf]; omega
    · obtain rfl : k = 8 := by omega
      have HROW := Lib.hid hrow
      have HB := Lib.hid hb
      clear hrow hb
      go_wp2_with fail
      go_ret
      exact ⟨_, 8, rfl, HROW.out, HB.out⟩
set_option maxRecDepth 100000 in
set_option maxHeartbeats 4000000 in
theorem aTag_any (A : Option Addr) (n c : Nat) (key : List UInt8) (A2 : Option Addr) (n2 c2 : Nat) (ahead : List UInt8) (seq : Int) (s : ByteArray) (B : Nat) (w : World) (hr : Reads w B 1 A n (bv key)) (hr2 : Reads w B 1 A2 n2 (bv ahead)) (hB : B ≤ w.heap.size) (hn : n ≤ 140737488351232) (h2c : n2 ≤ c2) (hn2 : n2 ≤ 140737488351232) (hs : s.size ≤ 140737488351232) :
    Calls Try.prog 33 #[.slice A n c, .slice A2 n2 c2, .int .i64 seq, .string s] w (RowOut (tagB key ahead seq s.data.toList) w) := by
  have hkl : key.length = n := by have := hr.1; rw [length_bv] at this; omega
  have hal : ahead.length = n2 := by have := hr2.1; rw [length_bv] at this; omega
  obtain ⟨t, ht⟩ : ∃ t, tagB key ahead seq s.data.toList = t := ⟨_, rfl⟩
  have ht2 : macB key [ahead, Sha.eight seq, s.data.toList].flatten = t := by rw [← ht]; simp [tagB]
  have HT := Lib.hid ht
  have HT2 := Lib.hid ht2
  have HR := Lib.hid hr
  have HR2 := Lib.hid hr2
  have HKL := Lib.hid hkl
  have HAL := Lib.hid hal
  have HE := Lib.hid (aEight_any seq w)
  clear hr hr2 hkl hal ht ht2
  go_enter Try.func33, Try.ntmps33
  go_wp2_with fail
  refine HE.out.mono ?_
  rintro e w3 ⟨A3, c3, rfl, hrow3, hb3⟩
  obtain ⟨c4, w4, hrun4, hrow4, hb4⟩ := run_bytes_str (P := Try.prog) Try.underlying9 Try.underlying22 Try.underlying5 s (by unfold maxLen; omega) w3
  have hs3 := hb3.size
  have hs4 := hb4.size
  have hb34 := hb3.trans (hb4.mono hs3)
  have hr3 := hrow3.below hb4 (Nat.le_refl _)
  have hsl : s.data.toList.length = s.size := by rw [← length_bv]; exact length_str s
  have hm := Mac_any key [ahead, Sha.eight seq, s.data.toList] A n c B _ 3 _ (w4.alloc _) ((HR.out.below (hb34.mono hB)).alloc (by omega) _) (by simp; omega) hn
    (Parts.three (t := 22) (R := fun k => k < w4.heap.size) (Part.of_reads (HR2.out.below (hb34.mono hB)) h2c (by omega) (fun k hk => by omega)) (Part.of_row hr3 (by simp [Sha.length_eight]) fun ad e => (hr3.lt ad e).2) (Part.of_row hrow4 hs fun ad e => (hrow4.lt ad e).2) (fun k hk => hk))
    (fun k hk => by simp; omega) (by simp) (by simp [HAL.out, Sha.length_eight]; omega)
  rw [HT2.out] at hm
  have HM := Lib.hid hm
  have HB34 := Lib.hid hb34
  clear hrow3 hb3 hrow4 hb4 hm hb34 hr3 hsl
  go_wp2_with fail
  refine HM.out.mono ?_
  rintro e w5 ⟨A5, c5, rfl, hrow5, hb5⟩
  have HROW5 := Lib.hid hrow5
  have HB5 := Lib.hid ((HB34.out.alloc (by omega) _).trans (hb5.mono (by simp; omega)))
  clear hrow5 hb5 HM
  go_wp2_with fail
  go_ret
  show RowOut (tagB key ahead seq s.data.toList) w _ _
  rw [HT.out]
  exact ⟨A5, c5, rfl, HROW5.out.mono (by simp; omega), HB5.out⟩
set_option maxRecDepth 100000 in
set_option maxHeartbeats 4000000 in
theorem rTag_any (A : Option Addr) (n c : Nat) (key : List UInt8) (A2 : Option Addr) (n2 c2 : Nat) (ahead : List UInt8) (seq : Int) (s : ByteArray) (B : Nat) (w : World) (hr : Reads w B 1 A n (bv key)) (hr2 : Reads w B 1 A2 n2 (bv ahead)) (hB : B ≤ w.heap.size) (hn : n ≤ 70368744177664) (hn2 : n2 ≤ 1000000) (hs : s.size ≤ 1000000) :
    Calls Try.prog 34 #[.slice A n c, .slice A2 n2 c2, .int .i64 seq, .string s] w (RowOut (tagB key ahead seq s.data.toList) w) := by
  have hkl : key.length = n := by have := hr.1; rw [length_bv] at this; omega
  obtain ⟨i0, hi, hz0, hz1, hz2⟩ := info_parts byte_info
  have HR := Lib.hid hr
  have HR2 := Lib.hid hr2
  clear hr hr2
  go_enter Try.func34, Try.ntmps34
  go_wp2_with (at_builtin; refine wpList_append_row rfl (.tmp 10) (.tmp 11) rfl Try.underlying22 hi hz0 hz1 hz2 rfl (by decide) rfl (Row.lit w #[] 5 (n := 0) (base := w.heap.size) (size := 1) rfl (Nat.le_refl _) (by unfold maxLen; omega)) rfl (HR2.out.alloc hB _) (bv_one _) (by unfold maxLen; omega) (by omega) (by simp) ?_; intro A7 c7 w7 hrow7 hgr7 hat7; have HB7 := Lib.hid (show Below w.heap.size w w7 from ((Below.refl _ _).alloc (Nat.le_refl _) _).grown hgr7 (by simp) (fun k hk => by simp at hk; omega)); have HR7 := Lib.hid (show Row w7 w.heap.size 1 A7 n2 c7 (bv ahead) from by simpa using hrow7); clear hrow7 hgr7 hat7)
  have hs7 := HB7.out.size
  refine (rEight_any _ _).mono ?_
  rintro e w8 ⟨A8, c8, rfl, hrow8, hb8⟩
  rw [Sha.length_eight] at hrow8 ⊢
  have hs8 := hb8.size
  have HR8 := Lib.hid hrow8
  have HR78 := Lib.hid (HR7.out.below hb8 (Nat.le_refl _))
  have HB8 := Lib.hid (HB7.out.trans (hb8.mono hs7))
  clear hrow8 hb8 HR7
  go_wp2_with (at_builtin; first
    | (refine wpList_append_row rfl (.tmp 13) (.tmp 15) rfl Try.underlying22 hi hz0 hz1 hz2 rfl (by decide) rfl (HR78.out) rfl (HR8.out.reads) (bv_one _) (by unfold maxLen; omega) (by omega) (by omega) ?_; intro A9 c9 w9 hrow9 hgr9 hat9; have HB9 := Lib.hid (HB8.out.grown hgr9 (by omega) HR78.out.blocks); have HR9 := Lib.hid hrow9; have hs9 := hgr9.size; clear hrow9 hgr9 hat9)
    | (refine wpList_append_row_str rfl (.tmp 18) (.tmp 19) rfl Try.underlying22 Try.underlying9 hi hz0 hz1 hz2 rfl (HR9.out) rfl (by unfold maxLen; omega) (by omega) (by have := HB9.out.size; omega) ?_; intro A10 c10 w10 hrow10 hgr10 hat10; have HB10 := Lib.hid (HB9.out.grown hgr10 (by omega) HR9.out.blocks); have HR10 := Lib.hid hrow10; have hs10 := hgr10.size; clear hrow10 hgr10 hat10))
  have hx := HR10.out
  rw [List.append_assoc, ← bv_append, ← bv_append] at hx
  have hsl : s.data.toList.length = s.size := by rw [← length_bv]; exact length_str s
  have hm := rMac_any A n c w10.heap.size key A10 (n2 + 8 + s.size) c10 (ahead ++ (Sha.eight seq ++ s.data.toList)) w10 ((HR.out.below (HB10.out.mono hB)).more (by omega)) hx.reads (Nat.le_refl _) (by omega) (by omega)
  have HM := Lib.hid (show Calls Try.prog 22 #[.slice A n c, .slice A10 (n2 + 8 + s.size) c10] w10 (RowOut (tagB key ahead seq s.data.toList) w10) from hm)
  clear hx hm hsl
  refine HM.out.mono ?_
  rintro e w11 ⟨A11, c11, rfl, hrow11, hb11⟩
  obtain ⟨t, ht⟩ : ∃ t, tagB key ahead seq s.data.toList = t := ⟨_, rfl⟩
  have HT := Lib.hid ht
  rw [ht] at hrow11 ⊢
  have HR11 := Lib.hid hrow11
  have HB11 := Lib.hid (HB10.out.trans (hb11.mono (by omega)))
  clear hrow11 hb11 HM ht
  go_wp2_with fail
  go_ret
  show RowOut (tagB key ahead seq s.data.toList) w _ _
  rw [HT.out]
  exact ⟨A11, c11, rfl, HR11.out.mono (by omega), HB11.out⟩
end Go.Proofs.Ytbjlmodabiadfaa
