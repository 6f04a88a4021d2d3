/- THE WALKS of the digest: turning, words. -/
import Derived.Test.YtbjlmodabiadfaaRows
import Derived.Test.YtbjlmodabiadfaaGMem
import Derived.Test.YtbjlmodabiadfaaHShaPure
import Derived.Deep.QuietTactic
import Derived.BigQuiet
import Derived.BigRegion
import Derived.Laws.BitsAllLaws
import Derived.Laws.BitsLemmas
namespace Go.Proofs.Ytbjlmodabiadfaa
open Go.RowKit

theorem mask31 {n : Int} (h1 : 1 ≤ n) (h2 : n ≤ 31) : bits .and .u64 (IntKind.u64.wrap (-n)) 31 = 32 - n := by
  have hw : IntKind.u64.wrap (-n) = ((18446744073709551616 - n.toNat : Nat) : Int) := by
    simp only [IntKind.wrap, IntKind.bits, IntKind.signed]
    simp
    omega
  have e := u64_and_nat (18446744073709551616 - n.toNat) 31 (by omega) (by omega)
  rw [nat_mask5] at e
  rw [hw, show (31 : Int) = ((31 : Nat) : Int) from rfl, e]
  omega
theorem cast_shl (x a : Nat) : (x : Int) * 2 ^ a % 4294967296 = ((x <<< a % 4294967296 : Nat) : Int) := by
  rw [Nat.shiftLeft_eq]; simp
theorem cast_shr (x a : Nat) : (x : Int) / 2 ^ a = ((x >>> a : Nat) : Int) := by
  rw [Nat.shiftRight_eq_div_pow]; simp
theorem ror_or {x a : Nat} (hx : x < 4294967296) : bits .or .u32 ((x : Int) * 2 ^ (32 - a) % 4294967296) ((x : Int) / 2 ^ a) = (Sha.ror x a : Nat) := by
  rw [cast_shl, cast_shr, u32_or_nat _ _ (Nat.mod_lt _ (by omega)) (Sha.lt_shr hx), Nat.or_comm]
  rfl
theorem rotl_any (x : Nat) (n : Int) (w : World) (hx : x < 4294967296) (h1 : 1 ≤ n) (h2 : n ≤ 31) :
    Calls Try.prog 86 #[.int .u32 (x : Int), .int .i64 (-n)] w fun e w' => e = .returned (.int .u32 (Sha.ror x n.toNat)) ∧ w = w' := by
  have hm := mask31 h1 h2
  go_enter Try.func86, Try.ntmps86
  go_wp2
  go_ret
  refine ⟨?_, rfl⟩
  have := ror_or (x := x) (a := n.toNat) hx
  rw [show 32 - n.toNat = (32 - n).toNat by omega] at this
  rw [← this, show (32 - (32 - n)).toNat = n.toNat by omega]
  rfl
theorem right_any (x : Nat) (n : Int) (w : World) (hx : x < 4294967296) (h1 : 1 ≤ n) (h2 : n ≤ 31) :
    Calls Try.prog 80 #[.int .u32 (x : Int), .int .i64 n] w fun e w' => e = .returned (.int .u32 (Sha.ror x n.toNat)) ∧ w' = w := by
  go_enter Try.func80, Try.ntmps80
  go_wp2_with fail
  refine (rotl_any x n w hx h1 h2).mono ?_
  rintro e w' ⟨rfl, rfl⟩
  go_wp2_with fail
  go_ret
  exact ⟨rfl, rfl⟩

theorem word_or (a b c d : UInt8) : bits .or .u32 (bits .or .u32 (bits .or .u32 ((a.toNat : Int) % 4294967296 * 16777216 % 4294967296) ((b.toNat : Int) % 4294967296 * 65536 % 4294967296)) ((c.toNat : Int) % 4294967296 * 256 % 4294967296)) ((d.toNat : Int) % 4294967296) = ((a.toNat * 16777216 + b.toNat * 65536 + c.toNat * 256 + d.toNat : Nat) : Int) := by
  have ha := a.toNat_lt
  have hb := b.toNat_lt
  have hc := c.toNat_lt
  have hd := d.toNat_lt
  rw [show (a.toNat : Int) % 4294967296 * 16777216 % 4294967296 = ((a.toNat * 16777216 : Nat) : Int) by omega, show (b.toNat : Int) % 4294967296 * 65536 % 4294967296 = ((b.toNat * 65536 : Nat) : Int) by omega, show (c.toNat : Int) % 4294967296 * 256 % 4294967296 = ((c.toNat * 256 : Nat) : Int) by omega, show (d.toNat : Int) % 4294967296 = (d.toNat : Int) by omega]
  rw [u32_or_nat _ _ (by omega) (by omega), nat_join 24 _ _ (by omega) (by omega), u32_or_nat _ _ (by omega) (by omega), nat_join 16 _ _ (by omega) (by omega), u32_or_nat _ _ (by omega) (by omega), nat_join 8 _ _ (by omega) (by omega)]
theorem word_any (b o n c : Nat) (x0 x1 x2 x3 : UInt8) (w : World) (hn : 4 ≤ n) (hc : n ≤ maxLen) (h0 : w.cell? ⟨b, o, none⟩ = some (.int .u8 x0.toNat)) (h1 : w.cell? ⟨b, o + 1, none⟩ = some (.int .u8 x1.toNat)) (h2 : w.cell? ⟨b, o + 2, none⟩ = some (.int .u8 x2.toNat)) (h3 : w.cell? ⟨b, o + 3, none⟩ = some (.int .u8 x3.toNat)) :
    Calls Try.prog 79 #[.slice (some ⟨b, o, none⟩) n c] w fun e w' => e = .returned (.int .u32 ((x0.toNat * 16777216 + x1.toNat * 65536 + x2.toNat * 256 + x3.toNat : Nat) : Int)) ∧ ∃ k, w' = w.drewN k := by
  unfold maxLen at hc
  have f0 : (0 : Int) < n := by omega
  have f1 : (1 : Int) < n := by omega
  have f2 : (2 : Int) < n := by omega
  have f3 : (3 : Int) < n := by omega
  go_enter Try.func79, Try.ntmps79
  go_wp2_with fail
  go_quiet (fail)
  go_wp2_with fail
  go_ret
  exact ⟨congrArg (fun z => Ending.returned (.int .u32 z)) (word_or x0 x1 x2 x3), _, rfl⟩
end Go.Proofs.Ytbjlmodabiadfaa
