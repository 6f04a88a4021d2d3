/- THE WALKS of the reference of ffx: numbers in bytes, digits. -/
import Derived.Test.YtogpnlfbdhddmaaGreatDoorHRAes8
import Derived.Test.YtogpnlfbdhddmaaGreatDoorGFfx
namespace Go.Proofs.YtogpnlfbdhddmaaGreatDoor
open Go.RowKit

/-- t bytes of a number are written. -/
def RNumRel (w : World) (n k : Nat) (s5 s6 : Value) (wr : World) : Prop :=
  ∃ (t : Nat) (z : Int) (A : Option Addr) (c : Nat), t ≤ k ∧ z = (k : Int) - 1 - (t : Int) ∧ s6 = .int .i64 z ∧ s5 = .slice A t c ∧ Row wr w.heap.size 1 A t c (bv ((numB n k).take t)) ∧ Below w.heap.size w wr
theorem numB_take (n k t : Nat) (h : t < k) : (numB n k).take (t + 1) = (numB n k).take t ++ [UInt8.ofNat (n / 256 ^ (k - 1 - t))] := by
  rw [List.take_add_one, numB]
  simp [h]
theorem pow_8q (q : Nat) : 2 ^ (8 * q) = 256 ^ q := by rw [Nat.pow_mul]
set_option maxRecDepth 100000 in
set_option maxHeartbeats 4000000 in
theorem rbytes_any (n k : Nat) (w : World) (hk : k ≤ 8) : Calls Tryz.prog 147 #[.int .i64 n, .int .i64 k] w (RowOut (numB n k) w) := by
  obtain ⟨i0, hi, hz0, hz1, hz2⟩ := info_parts byte_info
  have HST := Lib.hid (show RNumRel w n k (.slice none 0 0) (.int .i64 ((k : Int) - 1)) w from ⟨0, (k : Int) - 1, none, 0, by omega, by omega, rfl, rfl, Row.nil_ _ _ _, Below.refl _ _⟩)
  have HLN := Lib.hid (length_numB n k)
  go_enter Tryz.func147, Tryz.ntmps147
  go_wp2_with fail
  go_loopw [5, 6] (fun s5 s6 wr => RNumRel w n k s5 s6 wr) (fun _ s6 _ => (intOf s6 + 1).toNat)
  case atStart => exact HST.out
  case round =>
    clear HST
    obtain ⟨t, z, A, c, ht, hz, rfl, rfl, hrow, hb⟩ := hrel
    have hsz := hb.size
    have HROW := Lib.hid hrow
    have HB := Lib.hid hb
    clear hrow hb
    by_cases hlt : t < k
    · obtain ⟨q, hq⟩ : ∃ q, q = k - 1 - t := ⟨_, rfl⟩
      obtain rfl : z = (q : Int) := by omega
      have hq8 : q ≤ 7 := by omega
      have HQ := Lib.hid hq
      have HZ := Lib.hid hz
      have e1 : (8 * (q : Int)).toNat = 8 * q := by omega
      have HX := Lib.hid (show ((n : Int) / 2 ^ (8 * q)) % 256 = ((UInt8.ofNat (n / 256 ^ q)).toNat : Int) by
        rw [u8_nat, show ((2 : Int) ^ (8 * q)) = ((256 ^ q : Nat) : Int) by rw [← pow_8q]; push_cast; rfl]
        omega)
      have h0q : (0 : Int) ≤ (q : Int) := by omega
      clear hq hz
      go_wp2_with (at_builtin; refine wpList_append_row rfl (.tmp 13) (.tmp 19) rfl Tryz.underlying27 hi hz0 hz1 hz2 rfl (by decide) rfl (HROW.out.alloc _) rfl (Reads.lit _ _ _ (n := 1) rfl) (by intro v hv; simp at hv; rcases hv with rfl; rfl) (by unfold maxLen; omega) (by omega) (by simp; omega) ?_; intro A2 c2 w2 hrow2 hgr2 hat2; have HB2 := Lib.hid (below_append HB.out hsz HROW.out hgr2); have HR2 := Lib.hid hrow2; clear hrow2 hgr2 hat2)
      go_roundw
      case rel =>
        have h := HR2.out
        rw [HX.out] at h
        refine ⟨t + 1, (q : Int) - 1, A2, c2, by omega, by have := HZ.out; omega, rfl, rfl, ?_, HB2.out⟩
        rw [numB_take n k t hlt, bv_append, ← HQ.out]
        exact h
      case measure => simp [intOf] <;> omega
    · obtain rfl : t = k := by omega
      have hz1' : z < 0 := by omega
      go_wp2_with fail
      go_ret
      refine ⟨A, c, ?_, ?_, HB.out⟩
      · rw [HLN.out]; rfl
      · have h := HROW.out
        rw [List.take_of_length_le (by rw [HLN.out]; exact Nat.le_refl _)] at h
        rw [HLN.out]; exact h
theorem rdigits_any (n i : Nat) (w : World) (hn : n ≤ 1000) (hi : i ≤ 1000) : Calls Tryz.prog 110 #[.int .i64 n, .int .i64 i] w fun e w' => e = .returned (.int .i64 (halfN n i : Nat)) ∧ w = w' := by
  have hu : (halfN n i : Int) = ((n : Int) + (i : Int) % 2) / 2 := by unfold halfN; omega
  by_cases h : i % 2 = 0
  · have h2 : (i : Int) % 2 = 0 := by omega
    have HF := Lib.hid (show (n : Int) / 2 = (halfN n i : Int) by rw [hu]; omega)
    clear hu h
    go_enter Tryz.func110, Tryz.ntmps110
    go_wp2_with fail
    go_ret
    exact ⟨by rw [← HF.out]; rfl, rfl⟩
  · have h2 : (i : Int) % 2 = 1 := by omega
    have HF := Lib.hid (show (n : Int) - (n : Int) / 2 = (halfN n i : Int) by rw [hu]; omega)
    clear hu h
    go_enter Tryz.func110, Tryz.ntmps110
    go_wp2_with fail
    go_ret
    exact ⟨by rw [← HF.out]; rfl, rfl⟩
end Go.Proofs.YtogpnlfbdhddmaaGreatDoor
