/- THE WALK of the law VaultRotates. -/
import Derived.Test.YtogpnlfbdhddmaaGreatDoorGVault
namespace Go.Proofs.YtogpnlfbdhddmaaGreatDoor
open Go.RowKit

theorem v_and {a : Int} {m : Nat} (hm : m < 4294967296) : ∃ q : Nat, q ≤ m ∧ bits .and .i64 a (m : Int) = (q : Int) := by
  have h1 : (BitVec.ofInt 64 (m : Int)).toNat = m := by rw [BitVec.ofInt_natCast, BitVec.toNat_ofNat]; exact Nat.mod_eq_of_lt (by omega)
  have h2 : (BitVec.ofInt 64 a &&& BitVec.ofInt 64 (m : Int)).toNat ≤ m := by rw [BitVec.toNat_and, h1]; exact Nat.and_le_right
  refine ⟨(BitVec.ofInt 64 a &&& BitVec.ofInt 64 (m : Int)).toNat, h2, ?_⟩
  show IntKind.i64.wrap ((BitVec.ofInt 64 a &&& BitVec.ofInt 64 (m : Int)).toNat : Int) = _
  exact IntWalk.i64_in _ (by omega)
/-- Behind k Rotates. -/
def RotRel (w : World) (vb : Nat) (m : List UInt8) (t q : Nat) (nw i : Value) (wr : World) : Prop :=
  ∃ k now : Nat, k ≤ q ∧ nw = .int .i64 now ∧ i = .int .i64 k ∧ VOk m t now ∧ VauSin w vb m t now wr
set_option maxRecDepth 100000 in
set_option maxHeartbeats 4000000 in
theorem VaultRotates_no (t0 v0 times : Int) (s : ByteArray) (w : World) (hno : vOk (zeros' 20) t0 v0 = false) (ht : Tab w) :
    Calls Tryz.prog 3 #[.int .i64 t0, .int .i64 v0, .int .i64 times, .string s] w fun e w' => e = .returned (.bool true) ∧ Below w.heap.size w w' := by
  have hmk := vmake20
  have HOK := Lib.hid hno
  have HNEW := Lib.hid (fun w1 (h : Tab (w1.alloc (.cells (bv (zeros' 20)).toArray 5))) => New_vau (zeros' 20) (some ⟨w1.heap.size, 0, none⟩) 20 20 (w1.heap.size + 1) t0 v0 (w1.alloc (.cells (bv (zeros' 20)).toArray 5)) (zeros_reads w1 _ 20) (by simp) h)
  clear hno
  generalize zeros' 20 = ms at *
  go_enter Tryz.func3, Tryz.ntmps3
  go_wp2_with fail
  refine (small14_any _ ht).mono ?_
  rintro e w1 ⟨rfl, hb1⟩
  have HB1 := Lib.hid hb1
  have HT1 := Lib.hid (ht.below hb1)
  clear hb1
  go_wp2_with fail
  refine (HNEW.out w1 (HT1.out.below ((Below.refl _ _).alloc (Nat.le_refl _) _))).mono ?_
  rintro e w2 ⟨hb2, ⟨_, rfl⟩ | ⟨h0, _⟩⟩
  · have HB2 := Lib.hid (thenB (HB1.out.alloc HB1.out.size _) hb2)
    clear hb2 hmk
    go_wp2_with fail
    go_ret
    exact ⟨rfl, HB2.out⟩
  · rw [HOK.out] at h0; cases h0
set_option maxRecDepth 100000 in
set_option maxHeartbeats 4000000 in
theorem VaultRotates_yes (t v : Nat) (times : Int) (s : ByteArray) (w : World) (hok : vOk (zeros' 20) t v = true) (hs : s.size ≤ maxLen) (ht : Tab w) :
    Calls Tryz.prog 3 #[.int .i64 t, .int .i64 v, .int .i64 times, .string s] w fun e w' => e = .returned (.bool true) ∧ Below w.heap.size w w' := by
  have hmk := vmake20
  have HOK := Lib.hid hok
  have HV0 := Lib.hid (VOk.of_new hok).1
  rw [Int.toNat_natCast, Int.toNat_natCast] at HV0
  have HNEW := Lib.hid (fun w1 (h : Tab (w1.alloc (.cells (bv (zeros' 20)).toArray 5))) => New_vau (zeros' 20) (some ⟨w1.heap.size, 0, none⟩) 20 20 (w1.heap.size + 1) t v (w1.alloc (.cells (bv (zeros' 20)).toArray 5)) (zeros_reads w1 _ 20) (by simp) h)
  have HIS := Lib.hid (fun w => Is_any s w hs)
  have HSP := Lib.hid (fun (x : ByteArray) w (hx : x.size ≤ 30) (h : Tab w) => Split_any x w (by unfold maxLen; omega) h)
  have HT := Lib.hid ht
  obtain ⟨q, hq31, hq⟩ := v_and (a := times) (m := 31) (by decide)
  rw [show ((31 : Nat) : Int) = 31 from rfl] at hq
  clear hok
  generalize zeros' 20 = ms at *
  go_enter Tryz.func3, Tryz.ntmps3
  go_wp2_with fail
  refine (small14_any _ ht).mono ?_
  rintro e w1 ⟨rfl, hb1⟩
  have HB1 := Lib.hid hb1
  have HT1 := Lib.hid (ht.below hb1)
  clear hb1
  go_wp2_with fail
  refine (HNEW.out w1 (HT1.out.below ((Below.refl _ _).alloc (Nat.le_refl _) _))).mono ?_
  rintro e w2 ⟨hb2, ⟨h0, _⟩ | ⟨_, vb, rfl, hvb, hva⟩⟩
  · rw [HOK.out] at h0; cases h0
  rw [Int.toNat_natCast, Int.toNat_natCast] at hva
  have HST := Lib.hid (show RotRel w vb ms t q (.int .i64 v) (.int .i64 0) w2 from ⟨0, v, by omega, rfl, rfl, HV0.out, sin_new (w0 := w) (HB1.out.alloc HB1.out.size _) hb2 hvb hva⟩)
  clear hb2 hva hmk hvb
  go_wp2_with fail
  go_loopw [12, 13] (fun nw i wr => RotRel w vb ms t q nw i wr) (fun _ i _ => q - (intOf i).toNat)
  case atStart => exact HST.out
  case round =>
    clear HST
    obtain ⟨k, now, hk, rfl, rfl, hvk, hsin⟩ := hrel
    obtain ⟨_, _, _, hn1, hn2⟩ := id hvk
    have HVK := Lib.hid hvk
    have HSN := Lib.hid hsin
    clear hvk hsin
    by_cases hlt : k < q
    · have hki : (k : Int) < (q : Int) := by omega
      by_cases h255 : now = 255
      · have HR := Lib.hid (sRotate_no HSN.out h255)
        have HVS := Lib.hid (sVersion HSN.out)
        subst h255
        go_wp2_with fail
        refine HR.out.mono ?_
        rintro e w4 ⟨rfl, rfl⟩
        go_wp2_with fail
        refine HVS.out.mono ?_
        rintro e w4 ⟨rfl, rfl⟩
        go_wp2_with fail
        go_roundw
        case rel => exact ⟨k + 1, 255, by omega, rfl, by go_num, HVK.out, HSN.out⟩
        case measure => simp [intOf]; omega
      · have HR := Lib.hid (sRotate_yes HSN.out (by omega))
        have n1 : ((now : Int) == 255) = false := beq_eq_false_iff_ne.2 (by omega)
        go_wp2_with fail
        refine HR.out.mono ?_
        rintro e w4 ⟨rfl, hs4⟩
        have HS4 := Lib.hid hs4
        have HVS := Lib.hid (sVersion hs4)
        clear hs4
        go_wp2_with fail
        refine HVS.out.mono ?_
        rintro e w5 ⟨rfl, rfl⟩
        go_wp2_with fail
        go_roundw
        case rel => exact ⟨k + 1, now + 1, by omega, by go_num, by go_num, ⟨HVK.out.1, HVK.out.2.1, HVK.out.2.2.1, by omega, by omega⟩, HS4.out⟩
        case measure => simp [intOf]; omega
    · obtain rfl : k = q := by omega
      have HTK := Lib.hid (sToken HSN.out HVK.out HT.out s hs)
      cases hp : panB s.data.toList with
      | false =>
        have HP := Lib.hid hp
        have HR0 := Lib.hid (vtR_no (m := ms) (t := t) (now := now) hp)
        clear hp
        go_wp2_with fail
        refine HTK.out.mono ?_
        rw [HR0.out]
        rintro e w4 ⟨rfl, hs4⟩
        have HS4 := Lib.hid hs4
        clear hs4
        go_wp2_with fail
        refine (HIS.out _).mono ?_
        rw [HP.out]
        rintro e w5 ⟨rfl, hb5⟩
        have HS5 := Lib.hid (HS4.out.below hb5)
        clear hb5
        go_wp2_with fail
        go_ret
        exact ⟨rfl, HS5.out.2.2⟩
      | true =>
        obtain ⟨x, d, hx, _, _, hr0, hsp⟩ := vt_split (m := ms) (t := t) (now := now) hp hn1 hn2
        have HR0 := Lib.hid hr0
        have HSX := Lib.hid hsp
        clear hp hr0 hsp
        go_wp2_with fail
        refine HTK.out.mono ?_
        rw [HR0.out]
        rintro e w4 ⟨rfl, hs4⟩
        have HS4 := Lib.hid hs4
        clear hs4
        go_wp2_with fail
        refine (HSP.out x _ hx (HS4.out.tab HT.out)).mono ?_
        rw [HSX.out]
        rintro e w5 ⟨rfl, hb5⟩
        have HS5 := Lib.hid (HS4.out.below hb5)
        clear hb5
        go_wp2_with fail
        go_ret
        exact ⟨rfl, HS5.out.2.2⟩
theorem VaultRotates_walk (t0 v0 times : Int) (s : ByteArray) (w : World) (_h1 : (Lit.int .i64 t0).wf = true) (_h2 : (Lit.int .i64 v0).wf = true) (_h3 : (Lit.int .i64 times).wf = true) (hs : s.size ≤ maxLen) (ht : Tab w) :
    Calls Tryz.prog 3 #[.int .i64 t0, .int .i64 v0, .int .i64 times, .string s] w fun e w' => e = .returned (.bool true) ∧ Below w.heap.size w w' := by
  cases hok : vOk (zeros' 20) t0 v0 with
  | false => exact VaultRotates_no t0 v0 times s w hok ht
  | true =>
    obtain ⟨_, h1, h2⟩ := VOk.of_new hok
    obtain ⟨t, rfl⟩ := Int.eq_ofNat_of_zero_le h1
    obtain ⟨v, rfl⟩ := Int.eq_ofNat_of_zero_le h2
    exact VaultRotates_yes t v times s w hok hs ht
end Go.Proofs.YtogpnlfbdhddmaaGreatDoor
