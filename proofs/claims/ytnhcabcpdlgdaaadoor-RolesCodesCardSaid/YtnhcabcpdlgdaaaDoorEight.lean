/- THE WALK of the reference's number of eight bytes, where the mac chain is not there. -/
import Derived.Test.YtnhcabcpdlgdaaaDoorClone
import Derived.Test.YtnhcabcpdlgdaaaDoorShaPure
namespace Go.Proofs.YtnhcabcpdlgdaaaDoor
open Go.RowKit

/-- k bytes of a number are written. -/
def Eight8 (w : World) (n : Int) (d : Int → Nat → Prop) (s3 s4 : Value) (wr : World) : Prop :=
  ∃ (k : Nat) (s : Int) (A : Option Addr) (c : Nat), k ≤ 8 ∧ d s k ∧ s4 = .int .i64 s ∧ s3 = .slice A k c ∧ Row wr w.heap.size 1 A k c (bv ((Sha.eight n).take k)) ∧ Below w.heap.size w wr
theorem eight8_row {w w2 : World} {n : Int} {d : Int → Nat → Prop} {k c2 : Nat} {s : Int} {A2 : Option Addr} (h : k < 8) (hd : d s (k + 1)) (hr : Row w2 w.heap.size 1 A2 (k + 1) c2 (bv ((Sha.eight n).take k) ++ [.int .u8 (n / 2 ^ (56 - 8 * k) % 256)])) (hb : Below w.heap.size w w2) : Eight8 w n d (.slice A2 (k + 1) c2) (.int .i64 s) w2 := by
  refine ⟨k + 1, s, A2, c2, by omega, hd, rfl, rfl, ?_, hb⟩
  rw [Sha.eight_next n k h, bv_append]
  have e : bv [Sha.by8 n (56 - 8 * k)] = [.int .u8 (n / 2 ^ (56 - 8 * k) % 256)] := by simp [bv, Sha.by8_toNat]
  rw [e]
  exact hr

set_option maxRecDepth 100000 in
set_option maxHeartbeats 4000000 in
theorem rEight8_any (n : Int) (w : World) :
    Calls Tryd.prog 53 #[.int .i64 n] w (RowOut (Sha.eight n) w) := by
  obtain ⟨i0, hi, hz0, hz1, hz2⟩ := info_parts byte_info
  go_enter Tryd.func53, Tryd.ntmps53
  go_wp2_with fail
  go_loopw [3, 4] (fun s3 s4 wr => Eight8 w n (fun s k => s = 7 - k) s3 s4 wr) (fun _ s4 _ => (intOf s4 + 1).toNat)
  case atStart => exact ⟨0, 7, none, 0, by omega, rfl, rfl, rfl, Row.nil_ _ _ _, Below.refl _ _⟩
  case round =>
    obtain ⟨k, s, A, c, hk, rfl, rfl, rfl, hrow, hb⟩ := hrel
    have hsz := hb.size
    have HROW := Lib.hid hrow
    have HB := Lib.hid hb
    clear hrow hb
    by_cases hlt : k < 8
    · go_wp2_with (at_builtin; refine wpList_append_row rfl (.tmp 9) (.tmp 15) rfl Tryd.underlying33 hi hz0 hz1 hz2 rfl (by decide) rfl (HROW.out.alloc _) rfl (Reads.lit _ _ _ (n := 1) rfl) (by intro v hv; simp at hv; rcases hv with rfl; rfl) (by unfold maxLen; omega) (by omega) (by simp; omega) ?_; intro A2 c2 w2 hrow2 hgr2 hat2; have HB2 := Lib.hid (below_append HB.out hsz HROW.out hgr2); have HR2 := Lib.hid hrow2; clear hrow2 hgr2 hat2)
      go_roundw
      case rel =>
        have h := HR2.out
        rw [show 8 * (7 - k) = 56 - 8 * k by omega] at h
        exact eight8_row hlt (by omega) h HB2.out
      case measure => simp [intOf]; omega
    · obtain rfl : k = 8 := by omega
      go_wp2_with fail
      go_ret
      exact ⟨A, c, rfl, HROW.out, HB.out⟩
end Go.Proofs.YtnhcabcpdlgdaaaDoor
