/- THE WALK of the reference of aes: times 1, 2, 3. -/
import Derived.Test.YtogpnlfbdhddmaaGreatDoorHRAes2
namespace Go.Proofs.YtogpnlfbdhddmaaGreatDoor
open Go.RowKit

theorem xt_big : ∀ t, t < 256 → 255 < 2 * t → (2 * t) ^^^ 283 = (xt (UInt8.ofNat t)).toNat := by decide +kernel
theorem xt_small : ∀ t, t < 256 → ¬ 255 < 2 * t → 2 * t = (xt (UInt8.ofNat t)).toNat := by decide +kernel
theorem xt_yes {t : UInt8} (h : 255 < 2 * t.toNat) : bits .xor .i64 (2 * (t.toNat : Int)) 283 = ((xt t).toNat : Int) := by
  have h1 := xt_big t.toNat t.toNat_lt h
  rw [UInt8.ofNat_toNat] at h1
  have h2 := bx64_xor (a := 2 * t.toNat) (b := 283) (by have := t.toNat_lt; omega) (by decide)
  rw [h1] at h2
  exact h2
theorem xt_no {t : UInt8} (h : ¬ 255 < 2 * t.toNat) : 2 * (t.toNat : Int) = ((xt t).toNat : Int) := by
  have h1 := xt_small t.toNat t.toNat_lt h
  rw [UInt8.ofNat_toNat] at h1
  omega
/-- What n more rounds bring. -/
def fin3 (n : Nat) (p t : UInt8) : UInt8 :=
  match n with
  | 0 => p
  | 1 => p ^^^ t
  | 2 => p ^^^ xt t
  | _ => (p ^^^ t) ^^^ xt t
set_option maxRecDepth 100000 in
set_option maxHeartbeats 4000000 in
theorem rtimes_any (n : Nat) (b : UInt8) (w : World) (hn : n ≤ 3) : Calls Tryz.prog 214 #[.int .i64 n, .int .u8 (b.toNat : Int)] w fun e w' => e = .returned (.int .u8 ((fin3 n 0 b).toNat : Int)) ∧ w = w' := by
  go_enter Tryz.func214, Tryz.ntmps214
  go_wp2_with fail
  go_loop [0, 5, 6] (fun v p t => ∃ (m : Nat) (q s : UInt8), m ≤ 3 ∧ v = .int .i64 m ∧ p = .int .u8 (q.toNat : Int) ∧ t = .int .i64 (s.toNat : Int) ∧ fin3 m q s = fin3 n 0 b) (fun v _ _ => (intOf v).toNat)
  case atStart => exact ⟨n, 0, b, hn, rfl, rfl, by have := b.toNat_lt; rw [show wrap64 (b.toNat : Int) = b.toNat by unfold wrap64; omega], rfl⟩
  case round =>
    obtain ⟨m, q, s, hm, rfl, rfl, rfl, hf⟩ := hrel
    have HF := Lib.hid hf
    clear hf
    have hs := s.toNat_lt
    have e1 : (s.toNat : Int) % 256 = s.toNat := by omega
    have HX := Lib.hid (bx_xor q s)
    obtain rfl | rfl | rfl | rfl : m = 0 ∨ m = 1 ∨ m = 2 ∨ m = 3 := by omega
    · go_wp2_with fail
      go_ret
      exact ⟨by rw [← HF.out]; rfl, rfl⟩
    · by_cases hbig : 255 < 2 * s.toNat
      · have HY := Lib.hid (xt_yes hbig)
        have hb2 : (255 : Int) < 2 * s.toNat := by omega
        go_wp2_with fail
        exact ⟨⟨0, q ^^^ s, xt s, by omega, rfl, by rw [HX.out], by rw [HY.out], HF.out⟩, by decide⟩
      · have HY := Lib.hid (xt_no hbig)
        have hb2 : ¬ (255 : Int) < 2 * s.toNat := by omega
        go_wp2_with fail
        exact ⟨⟨0, q ^^^ s, xt s, by omega, rfl, by rw [HX.out], by rw [HY.out], HF.out⟩, by decide⟩
    · by_cases hbig : 255 < 2 * s.toNat
      · have HY := Lib.hid (xt_yes hbig)
        have hb2 : (255 : Int) < 2 * s.toNat := by omega
        go_wp2_with fail
        exact ⟨⟨1, q, xt s, by omega, rfl, rfl, by rw [HY.out], HF.out⟩, by decide⟩
      · have HY := Lib.hid (xt_no hbig)
        have hb2 : ¬ (255 : Int) < 2 * s.toNat := by omega
        go_wp2_with fail
        exact ⟨⟨1, q, xt s, by omega, rfl, rfl, by rw [HY.out], HF.out⟩, by decide⟩
    · by_cases hbig : 255 < 2 * s.toNat
      · have HY := Lib.hid (xt_yes hbig)
        have hb2 : (255 : Int) < 2 * s.toNat := by omega
        go_wp2_with fail
        exact ⟨⟨1, q ^^^ s, xt s, by omega, rfl, by rw [HX.out], by rw [HY.out], HF.out⟩, by decide⟩
      · have HY := Lib.hid (xt_no hbig)
        have hb2 : ¬ (255 : Int) < 2 * s.toNat := by omega
        go_wp2_with fail
        exact ⟨⟨1, q ^^^ s, xt s, by omega, rfl, by rw [HX.out], by rw [HY.out], HF.out⟩, by decide⟩
end Go.Proofs.YtogpnlfbdhddmaaGreatDoor
