/- THE WALKS of the laws of ffx: numerals; FfxAgain. -/
import Derived.Test.YtiijjpjkfiookaaDoorFfx6
namespace Go.Proofs.YtiijjpjkfiookaaDoor
open Go.RowKit

def nmB (l : List UInt8) : Bool := decide (nmE l = 0)
theorem nmB_yes {l : List UInt8} (h : nmE l = 0) : nmB l = true := decide_eq_true h
theorem nmB_no {l : List UInt8} (h : ¬ nmE l = 0) : nmB l = false := decide_eq_false h
theorem nmE_some {l : List UInt8} (h : l.all isDig = false) : ¬ nmE l = 0 := fun h2 => by rw [(nmE_zero h2).2.2] at h; cases h
set_option maxHeartbeats 1000000 in
theorem numerals_any (s : ByteArray) (w : World) (hs : s.size ≤ maxLen) : Calls Tryd.prog 32 #[.string s] w fun e w' => e = .returned (.bool (nmB s.data.toList)) ∧ w = w' := by
  unfold maxLen at hs
  have hsz : s.data.toList.length = s.size := size_toList s
  have HSZ := Lib.hid hsz
  clear hsz
  go_enter Tryd.func32, Tryd.ntmps32
  go_wp2_with fail
  go_loop [3] (fun c => ∃ k : Nat, k ≤ s.size ∧ c = .int .i64 k ∧ (s.data.toList.take k).all isDig = true) (fun i => s.size - (intOf i).toNat)
  case atStart => exact ⟨0, Nat.zero_le _, rfl, rfl⟩
  case round =>
    obtain ⟨k, hk, rfl, hd⟩ := hrel
    have HD := Lib.hid hd; clear hd
    by_cases hlt : k < s.size
    · by_cases h1 : s[k].toNat < 48
      · have HE := Lib.hid (nmB_no (nmE_some (not_all hlt (show isDig s[k] = false by cases e : isDig s[k] with | false => rfl | true => have := isDig_iff.1 e; omega))))
        have h1' : (s[k].toNat : Int) < 48 := by omega
        go_wp2_with fail
        go_ret
        exact ⟨by rw [HE.out]; rfl, rfl⟩
      · by_cases h2 : 57 < s[k].toNat
        · have HE := Lib.hid (nmB_no (nmE_some (not_all hlt (show isDig s[k] = false by cases e : isDig s[k] with | false => rfl | true => have := isDig_iff.1 e; omega))))
          have h1' : ¬ (s[k].toNat : Int) < 48 := by omega
          have h2' : (57 : Int) < (s[k].toNat : Int) := by omega
          go_wp2_with fail
          go_ret
          exact ⟨by rw [HE.out]; rfl, rfl⟩
        · have HN := Lib.hid (all_snoc hlt HD.out (isDig_iff.2 ⟨by omega, by omega⟩))
          have h1' : ¬ (s[k].toNat : Int) < 48 := by omega
          have h2' : ¬ (57 : Int) < (s[k].toNat : Int) := by omega
          go_wp2_with fail
          go_round
          case rel => exact ⟨k + 1, by omega, by go_num, HN.out⟩
          case measure => simp [intOf]; omega
    · have HA := Lib.hid (all_end hk hlt HD.out)
      by_cases h6 : 6 ≤ s.size
      · by_cases h32 : s.size ≤ 32
        · have HE := Lib.hid (nmB_yes (nmE_ok (l := s.data.toList) (by have := HSZ.out; omega) HA.out))
          have h6' : (6 : Int) ≤ (s.size : Int) := by omega
          have h32' : (s.size : Int) ≤ 32 := by omega
          go_wp2_with fail
          go_ret
          exact ⟨by rw [HE.out]; rfl, rfl⟩
        · have HE := Lib.hid (nmB_no (l := s.data.toList) (by rw [nmE_arg (by have := HSZ.out; omega)]; decide))
          have h6' : (6 : Int) ≤ (s.size : Int) := by omega
          have h32' : ¬ (s.size : Int) ≤ 32 := by omega
          go_wp2_with fail
          go_ret
          exact ⟨by rw [HE.out]; rfl, rfl⟩
      · have HE := Lib.hid (nmB_no (l := s.data.toList) (by rw [nmE_arg (by have := HSZ.out; omega)]; decide))
        have h6' : ¬ (6 : Int) ≤ (s.size : Int) := by omega
        go_wp2_with fail
        go_ret
        exact ⟨by rw [HE.out]; rfl, rfl⟩
end Go.Proofs.YtiijjpjkfiookaaDoor
