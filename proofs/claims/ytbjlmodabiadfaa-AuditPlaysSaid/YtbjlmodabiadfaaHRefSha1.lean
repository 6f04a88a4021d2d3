/- THE WALK of the reference's digest: turning, the constants. -/
import Derived.Test.YtbjlmodabiadfaaGMem
import Derived.Test.YtbjlmodabiadfaaHShaWalk
namespace Go.Proofs.Ytbjlmodabiadfaa
open Go.RowKit

theorem ofInt_i64 (a : Nat) (ha : a < 18446744073709551616) : (BitVec.ofInt 64 (a : Int)).toNat = a := by
  rw [BitVec.ofInt_natCast, BitVec.toNat_ofNat]; exact Nat.mod_eq_of_lt (by omega)
theorem i64_or_nat {a b : Nat} (ha : a < 4294967296) (hb : b < 4294967296) : bits .or .i64 (a : Int) (b : Int) = ((a ||| b : Nat) : Int) := by
  have hx : a ||| b < 4294967296 := Sha.lt_or ha hb
  show IntKind.i64.wrap ((BitVec.ofInt 64 (a : Int) ||| BitVec.ofInt 64 (b : Int)).toNat : Int) = _
  rw [BitVec.toNat_or, ofInt_i64 a (by omega), ofInt_i64 b (by omega)]
  exact IntWalk.i64_in _ (by omega)
theorem i64_and_nat {a b : Nat} (ha : a < 4294967296) (hb : b < 4294967296) : bits .and .i64 (a : Int) (b : Int) = ((a &&& b : Nat) : Int) := by
  have hx : a &&& b < 4294967296 := Sha.lt_and hb
  show IntKind.i64.wrap ((BitVec.ofInt 64 (a : Int) &&& BitVec.ofInt 64 (b : Int)).toNat : Int) = _
  rw [BitVec.toNat_and, ofInt_i64 a (by omega), ofInt_i64 b (by omega)]
  exact IntWalk.i64_in _ (by omega)
theorem i64_xor_nat {a b : Nat} (ha : a < 4294967296) (hb : b < 4294967296) : bits .xor .i64 (a : Int) (b : Int) = ((a ^^^ b : Nat) : Int) := by
  have hx : a ^^^ b < 4294967296 := Sha.lt_xor ha hb
  show IntKind.i64.wrap ((BitVec.ofInt 64 (a : Int) ^^^ BitVec.ofInt 64 (b : Int)).toNat : Int) = _
  rw [BitVec.toNat_xor, ofInt_i64 a (by omega), ofInt_i64 b (by omega)]
  exact IntWalk.i64_in _ (by omega)
theorem shl_small {x k : Nat} (hx : x < 4294967296) (hk : k ≤ 31) : x * 2 ^ k < 9223372036854775808 := by
  have h2 : 2 ^ k ≤ 2 ^ 31 := Nat.pow_le_pow_right (by omega) hk
  calc x * 2 ^ k ≤ x * 2 ^ 31 := Nat.mul_le_mul_left _ h2
    _ < 9223372036854775808 := by omega
theorem ror_i64 {x : Nat} {n : Int} (hx : x < 4294967296) (h1 : 1 ≤ n) (h2 : n ≤ 31) : bits .or .i64 ((x : Int) / 2 ^ n.toNat) ((wrap64 ((x : Int) * 2 ^ (32 - n).toNat)).tmod 4294967296) = (Sha.ror x n.toNat : Nat) := by
  have hs := shl_small (k := (32 - n).toNat) hx (by omega)
  have e : (x : Int) * 2 ^ (32 - n).toNat = ((x * 2 ^ (32 - n).toNat : Nat) : Int) := by simp
  rw [show wrap64 ((x : Int) * 2 ^ (32 - n).toNat) = (x : Int) * 2 ^ (32 - n).toNat by unfold wrap64; rw [e]; omega, e, Int.tmod_eq_emod_of_nonneg (by omega), ← e, cast_shl, cast_shr, i64_or_nat (Sha.lt_shr hx) (Nat.mod_lt _ (by omega))]
  unfold Sha.ror
  rw [show (32 - n).toNat = 32 - n.toNat by omega]
set_option maxRecDepth 100000 in
theorem rright_any (x : Nat) (n : Int) (w : World) (hx : x < 4294967296) (h1 : 1 ≤ n) (h2 : n ≤ 31) :
    Calls Try.prog 81 #[.int .i64 (x : Int), .int .i64 n] w fun e w' => e = .returned (.int .i64 (Sha.ror x n.toNat : Nat)) ∧ ∃ k, w' = w.drewN k := by
  have hr := ror_i64 hx h1 h2
  have f1 : (0 : Int) ≤ n := by omega
  have f2 : (0 : Int) ≤ 32 - n := by omega
  go_enter Try.func81, Try.ntmps81
  go_wp2_with fail
  go_quiet (fail)
  go_wp2_with fail
  go_ret
  exact ⟨rfl, _, rfl⟩

/-- Numbers as cells. -/
def iv (l : List Nat) : List Value := l.map fun (x : Nat) => .int .i64 (x : Int)
theorem length_iv (l : List Nat) : (iv l).length = l.length := by simp [iv]
theorem iv_append (a b : List Nat) : iv (a ++ b) = iv a ++ iv b := by simp [iv]
theorem iv_one (l : List Nat) : ∀ u ∈ iv l, u.oneCell' = true := by
  intro u hu
  obtain ⟨x, _, rfl⟩ := List.mem_map.1 hu
  rfl
theorem iv_at (l : List Nat) (j : Nat) (h : j < l.length) : (iv l)[j]? = some (.int .i64 (l.getD j 0 : Nat)) := by
  simp [iv, h, List.getD_eq_getElem?_getD]
theorem int_info : (Try.prog.info? 3).map (fun i => (i.zero, i.size, i.bytes)) = some (some (.int .i64 0), 1, 8) := by kernel_rfl
/-- The call hands back a new row of numbers. -/
def IntsOut (l : List Nat) (w : World) (e : Ending) (w' : World) : Prop :=
  ∃ A c, e = .returned (.slice A l.length c) ∧ Row w' w.heap.size 1 A l.length c (iv l) ∧ Below w.heap.size w w'
set_option maxRecDepth 100000 in
theorem rwords_any (w : World) : Calls Try.prog 68 #[] w (IntsOut Sha.K w) := by
  go_enter Try.func68, Try.ntmps68
  go_wp2_with fail
  go_ret
  exact ⟨_, _, rfl, Row.lit w _ _ rfl (Nat.le_refl _) (by decide), (Below.refl _ _).alloc (Nat.le_refl _) _⟩
set_option maxRecDepth 100000 in
theorem rfirst_any (w : World) : Calls Try.prog 69 #[] w (IntsOut Sha.start.list w) := by
  go_enter Try.func69, Try.ntmps69
  go_wp2_with fail
  go_ret
  exact ⟨_, _, rfl, Row.lit w _ _ rfl (Nat.le_refl _) (by decide), (Below.refl _ _).alloc (Nat.le_refl _) _⟩

end Go.Proofs.Ytbjlmodabiadfaa
