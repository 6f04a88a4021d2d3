/- THE WALKS of mac.Same, mac.eight. -/
import Derived.Test.YtbjlmodabiadfaaHMacMake
namespace Go.Proofs.Ytbjlmodabiadfaa
open Go.RowKit

/-- What parts two texts, so far. -/
def acc (a b : List UInt8) : Nat → UInt8
  | 0 => 0
  | k + 1 => acc a b k ||| (a.getD k 0 ^^^ b.getD k 0)
theorem or_zero {a b : UInt8} : a ||| b = 0 ↔ a = 0 ∧ b = 0 := by
  constructor
  · intro h
    have e : (a ||| b).toNat = 0 := by rw [h]; rfl
    rw [UInt8.toNat_or] at e
    have := Nat.or_eq_zero_iff.1 e
    exact ⟨UInt8.toNat_inj.1 (by simpa using this.1), UInt8.toNat_inj.1 (by simpa using this.2)⟩
  · rintro ⟨rfl, rfl⟩; rfl
theorem xor_zero {a b : UInt8} : a ^^^ b = 0 ↔ a = b := by
  constructor
  · intro h
    have : (a ^^^ b) ^^^ b = 0 ^^^ b := by rw [h]
    simpa [UInt8.xor_assoc] using this
  · rintro rfl; simp
theorem acc_zero (a b : List UInt8) : ∀ k, acc a b k = 0 ↔ ∀ j, j < k → a.getD j 0 = b.getD j 0
  | 0 => by simp [acc]
  | k + 1 => by
    rw [acc, or_zero, acc_zero a b k, xor_zero]
    constructor
    · rintro ⟨h1, h2⟩ j hj
      rcases Nat.lt_or_ge j k with h | h
      · exact h1 j h
      · obtain rfl : j = k := by omega
        exact h2
    · intro h
      exact ⟨fun j hj => h j (by omega), h k (by omega)⟩
theorem acc_eq {a b : List UInt8} (h : a.length = b.length) : ((acc a b a.length).toNat == 0) = (a == b) := by
  rw [Bool.eq_iff_iff, beq_iff_eq, beq_iff_eq]
  have e : (acc a b a.length).toNat = 0 ↔ acc a b a.length = 0 := ⟨fun h => UInt8.toNat_inj.1 (by simpa using h), fun h => by rw [h]; rfl⟩
  rw [e, acc_zero]
  constructor
  · intro hj
    apply List.ext_getElem h
    intro i h1 h2
    have := hj i h1
    simpa [List.getD_eq_getElem?_getD, h1, h2] using this
  · rintro rfl; intro j _; rfl

def SameRel (w : World) (a b : List UInt8) (s5 i : Value) (wr : World) : Prop := ∃ k q : Nat, k ≤ a.length ∧ i = .int .i64 k ∧ s5 = .int .u8 ((acc a b k).toNat : Int) ∧ wr = w.drewN q
theorem or_xor (x a b : UInt8) : bits .or .u8 (x.toNat : Int) (bits .xor .u8 (a.toNat : Int) (b.toNat : Int)) = ((x ||| (a ^^^ b)).toNat : Int) := by
  rw [oct_xor, u8_or_nat _ _ x.toNat_lt (a ^^^ b).toNat_lt, UInt8.toNat_or]

set_option maxRecDepth 100000 in
set_option maxHeartbeats 4000000 in
theorem Same_any (A1 A2 : Option Addr) (n1 n2 c1 c2 B1 B2 : Nat) (a b : List UInt8) (w : World) (h1 : Reads w B1 1 A1 n1 (bv a)) (h2 : Reads w B2 1 A2 n2 (bv b)) (hm : n1 ≤ 9223372036854775807) :
    Calls Try.prog 23 #[.slice A1 n1 c1, .slice A2 n2 c2] w fun e w' => e = .returned (.bool (a == b)) ∧ ∃ q, w' = w.drewN q := by
  have hl1 : a.length = n1 := by have := h1.1; rw [length_bv] at this; omega
  have hl2 : b.length = n2 := by have := h2.1; rw [length_bv] at this; omega
  by_cases hne : n1 = n2
  · have hn : ((n1 : Int) != (n2 : Int)) = false := by simp [hne]
    have HACC := Lib.hid (acc_eq (hl1.trans (hne.trans hl2.symm)))
    have HL1 := Lib.hid hl1
    have HL2 := Lib.hid hl2
    have HNE := Lib.hid hne
    have H1 := Lib.hid h1
    have H2 := Lib.hid h2
    clear hl1 hl2 hne h1 h2
    go_enter Try.func23, Try.ntmps23
    go_wp2_with fail
    go_loopw [5, 6, 14] (fun s5 _ i wr => SameRel w a b s5 i wr) (fun _ _ i _ => n1 - (intOf i).toNat)
    case atStart => exact ⟨0, 0, Nat.zero_le _, rfl, rfl, rfl⟩
    case round =>
      obtain ⟨k, q, hk, rfl, rfl, rfl⟩ := hrel
      have hkn : k ≤ n1 := by have := HL1.out; omega
      clear hk
      by_cases hlt : k < n1
      · obtain ⟨b1, o1, rfl, _, hc1⟩ := H1.out.2 (by omega)
        obtain ⟨b2, o2, rfl, _, hc2⟩ := H2.out.2 (by have := HNE.out; omega)
        have hka : k < a.length := by have := HL1.out; omega
        have hkb : k < b.length := by have := HL2.out; have := HNE.out; omega
        have g1 := hc1 k _ (bv_at a k hka)
        have g2 := hc2 k _ (bv_at b k hkb)
        have hx := or_xor (acc a b k) a[k] b[k]
        have hs : acc a b (k + 1) = acc a b k ||| (a[k] ^^^ b[k]) := by simp [acc, hka, hkb]
        have HS := Lib.hid hs
        have hki : (k : Int) < n1 := by omega
        have hki2 : (k : Int) < n2 := by have := HNE.out; omega
        have hk0 : (0 : Int) ≤ k := by omega
        generalize a[k] = xa at g1 hx HS
        generalize b[k] = xb at g2 hx HS
        generalize acc a b k = x at hx HS ⊢
        clear hs hc1 hc2
        go_wp2_with fail
        go_quiet (fail)
        go_wp2_with fail
        go_roundw
        case rel => exact ⟨k + 1, q + nq, by omega, by go_num, by rw [HS.out, UInt8.toNat_or, UInt8.toNat_xor], rfl⟩
        case measure => simp [intOf]; omega
      · obtain rfl : k = n1 := by omega
        have ha : (((acc a b k).toNat : Int) == 0) = (a == b) := by
          rw [← HACC.out, HL1.out, Bool.eq_iff_iff, beq_iff_eq, beq_iff_eq]
          omega
        generalize (acc a b k).toNat = x at ha ⊢
        have HX := Lib.hid ha
        clear ha
        go_wp2_with fail
        go_ret
        refine ⟨?_, q, rfl⟩
        rw [← HX.out]
        rfl
  · have hn : ((n1 : Int) != (n2 : Int)) = true := by simp; omega
    have hab : (a == b) = false := by
      rw [beq_eq_false_iff_ne]
      rintro rfl
      exact hne (hl1.symm.trans hl2)
    have HAB := Lib.hid hab
    clear hab hl1 hl2 hne h1 h2
    go_enter Try.func23, Try.ntmps23
    go_wp2
    go_ret
    exact ⟨by rw [HAB.out]; rfl, 0, rfl⟩

/-- k bytes of a number are written. -/
def EightRel (w : World) (n : Int) (d : Int → Nat → Prop) (s3 s4 : Value) (wr : World) : Prop :=
  ∃ (k : Nat) (s : Int) (A : Option Addr) (c : Nat), k ≤ 8 ∧ d s k ∧ s4 = .int .i64 s ∧ s3 = .slice A k c ∧ Row wr w.heap.size 1 A k c (bv ((Sha.eight n).take k)) ∧ Below w.heap.size w wr
theorem eight_row {w w2 : World} {n : Int} {d : Int → Nat → Prop} {k c2 : Nat} {s : Int} {A2 : Option Addr} (h : k < 8) (hd : d s (k + 1)) (hr : Row w2 w.heap.size 1 A2 (k + 1) c2 (bv ((Sha.eight n).take k) ++ [.int .u8 (n / 2 ^ (56 - 8 * k) % 256)])) (hb : Below w.heap.size w w2) : EightRel w n d (.slice A2 (k + 1) c2) (.int .i64 s) w2 := by
  refine ⟨k + 1, s, A2, c2, by omega, hd, rfl, rfl, ?_, hb⟩
  rw [Sha.eight_next n k h, bv_append]
  have e : bv [Sha.by8 n (56 - 8 * k)] = [.int .u8 (n / 2 ^ (56 - 8 * k) % 256)] := by simp [bv, Sha.by8_toNat]
  rw [e]
  exact hr

set_option maxRecDepth 100000 in
set_option maxHeartbeats 4000000 in
theorem eight_any (n : Int) (w : World) :
    Calls Try.prog 53 #[.int .i64 n] w (RowOut (Sha.eight n) w) := by
  obtain ⟨i0, hi, hz0, hz1, hz2⟩ := info_parts byte_info
  go_enter Try.func53, Try.ntmps53
  go_wp2_with fail
  go_loopw [3, 4] (fun s3 s4 wr => EightRel w n (fun s k => s = 56 - 8 * k) s3 s4 wr) (fun _ s4 _ => (intOf s4 + 8).toNat)
  case atStart => exact ⟨0, 56, none, 0, by omega, rfl, rfl, rfl, Row.nil_ _ _ _, Below.refl _ _⟩
  case round =>
    obtain ⟨k, s, A, c, hk, rfl, rfl, rfl, hrow, hb⟩ := hrel
    have hsz := hb.size
    have HROW := Lib.hid hrow
    have HB := Lib.hid hb
    clear hrow hb
    by_cases hlt : k < 8
    · go_wp2_with (at_builtin; refine wpList_append_row rfl (.tmp 9) (.tmp 14) rfl Try.underlying22 hi hz0 hz1 hz2 rfl (by decide) rfl (HROW.out.alloc _) rfl (Reads.lit _ _ _ (n := 1) rfl) (by intro v hv; simp at hv; rcases hv with rfl; rfl) (by unfold maxLen; omega) (by omega) (by simp; omega) ?_; intro A2 c2 w2 hrow2 hgr2 hat2; have HB2 := Lib.hid (below_append HB.out hsz HROW.out hgr2); have HR2 := Lib.hid hrow2; clear hrow2 hgr2 hat2)
      go_roundw
      case rel => exact eight_row hlt (by omega) HR2.out HB2.out
      case measure => simp [intOf]; omega
    · obtain rfl : k = 8 := by omega
      go_wp2_with fail
      go_ret
      exact ⟨A, c, rfl, HROW.out, HB.out⟩
set_option maxRecDepth 100000 in
set_option maxHeartbeats 4000000 in
theorem rEight_any (n : Int) (w : World) :
    Calls Try.prog 54 #[.int .i64 n] w (RowOut (Sha.eight n) w) := by
  obtain ⟨i0, hi, hz0, hz1, hz2⟩ := info_parts byte_info
  go_enter Try.func54, Try.ntmps54
  go_wp2_with fail
  go_loopw [3, 4] (fun s3 s4 wr => EightRel w n (fun s k => s = 7 - k) s3 s4 wr) (fun _ s4 _ => (intOf s4 + 1).toNat)
  case atStart => exact ⟨0, 7, none, 0, by omega, rfl, rfl, rfl, Row.nil_ _ _ _, Below.refl _ _⟩
  case round =>
    obtain ⟨k, s, A, c, hk, rfl, rfl, rfl, hrow, hb⟩ := hrel
    have hsz := hb.size
    have HROW := Lib.hid hrow
    have HB := Lib.hid hb
    clear hrow hb
    by_cases hlt : k < 8
    · go_wp2_with (at_builtin; refine wpList_append_row rfl (.tmp 9) (.tmp 15) rfl Try.underlying22 hi hz0 hz1 hz2 rfl (by decide) rfl (HROW.out.alloc _) rfl (Reads.lit _ _ _ (n := 1) rfl) (by intro v hv; simp at hv; rcases hv with rfl; rfl) (by unfold maxLen; omega) (by omega) (by simp; omega) ?_; intro A2 c2 w2 hrow2 hgr2 hat2; have HB2 := Lib.hid (below_append HB.out hsz HROW.out hgr2); have HR2 := Lib.hid hrow2; clear hrow2 hgr2 hat2)
      go_roundw
      case rel =>
        have h := HR2.out
        rw [show 8 * (7 - k) = 56 - 8 * k by omega] at h
        exact eight_row hlt (by omega) h HB2.out
      case measure => simp [intOf]; omega
    · obtain rfl : k = 8 := by omega
      go_wp2_with fail
      go_ret
      exact ⟨A, c, rfl, HROW.out, HB.out⟩
end Go.Proofs.Ytbjlmodabiadfaa
