/- THE WALKS of radix: the table of powers. THE WALKS of radix: rests. THE WALKS of radix: how many bytes a power takes. Needs the shelf's contracts of math/bits.Len64 and math/bits.Len (contract.sh, alias Try). THE WALKS of radix: values of digits, digits of values. THE WALKS of radix: sums and differences, of the program and of the reference. -/
import Derived.Test.YtogpnlfbdhddmaaGreatDoorRows
import Derived.Test.YtogpnlfbdhddmaaGreatDoorGMem
import Derived.WalkKit
import Derived.ProofKit
import Derived.Deep.QuietTactic
import Derived.BigQuiet
import Derived.BigRegion
import Derived.Laws.Rows
import Derived.Laws.Tables
import Derived.Laws.CopyRow
import Derived.Deep.WholeRow
import Derived.Lib.Hide
import Derived.Laws.BitsAllLaws
import Derived.Test.YtogpnlfbdhddmaaGreatDoorHBitsLen
import Derived.Test.YtogpnlfbdhddmaaGreatDoorGDig
namespace Go.Proofs.YtogpnlfbdhddmaaGreatDoor
open Go.RowKit

def powZ : Array Value := #[.int .i64 0, .int .i64 0, .int .i64 0, .int .i64 0, .int .i64 0, .int .i64 0, .int .i64 0, .int .i64 0, .int .i64 0, .int .i64 0, .int .i64 0, .int .i64 0, .int .i64 0, .int .i64 0, .int .i64 0, .int .i64 0, .int .i64 0]
def powTab : Array Value := #[.int .i64 1, .int .i64 10, .int .i64 100, .int .i64 1000, .int .i64 10000, .int .i64 100000, .int .i64 1000000, .int .i64 10000000, .int .i64 100000000, .int .i64 1000000000, .int .i64 10000000000, .int .i64 100000000000, .int .i64 1000000000000, .int .i64 10000000000000, .int .i64 100000000000000, .int .i64 1000000000000000, .int .i64 10000000000000000]
/-- Cell j when k powers have been laid. -/
def pwAt (k j : Nat) : Nat := if j ≤ k then 10 ^ j else 0
theorem pow_row (w : World) (T : TypeId) : (w.alloc (.cells powZ T)).rowIs w.heap.size T 17 (fun _ => .int .i64 0) := by
  refine ⟨_, (MapKept.heap_alloc w _).1, rfl, fun i hi => ?_⟩
  have h : powZ = Array.replicate 17 (.int .i64 0) := rfl
  rw [h, Array.getElem?_replicate, if_pos hi]

set_option maxHeartbeats 1000000 in
theorem powers_any (w : World) : Calls Tryz.prog 168 #[] w fun e w' => e = .returned (.agg powTab) ∧ Below w.heap.size w w' := by
  go_enter Tryz.func168, Tryz.ntmps168
  go_wp2_with fail
  go_loopw [3] (fun c wr => ∃ k : Nat, k ≤ 16 ∧ c = .int .i64 k ∧ wr.rowIs w.heap.size 223 17 (fun j => .int .i64 (pwAt k j)) ∧ Below w.heap.size w wr) (fun i _ => 16 - (intOf i).toNat)
  case atStart =>
    refine ⟨0, by omega, rfl, ⟨_, (MapKept.heap_alloc w _).1, rfl, fun i hi => ?_⟩, (Below.refl _ _).alloc (Nat.le_refl _) _⟩
    have : i = 0 ∨ i = 1 ∨ i = 2 ∨ i = 3 ∨ i = 4 ∨ i = 5 ∨ i = 6 ∨ i = 7 ∨ i = 8 ∨ i = 9 ∨ i = 10 ∨ i = 11 ∨ i = 12 ∨ i = 13 ∨ i = 14 ∨ i = 15 ∨ i = 16 := by omega
    rcases this with rfl | rfl | rfl | rfl | rfl | rfl | rfl | rfl | rfl | rfl | rfl | rfl | rfl | rfl | rfl | rfl | rfl <;> rfl
  case round =>
    obtain ⟨k, hk, rfl, hrow, hbel⟩ := hrel
    have HR := Lib.hid hrow
    by_cases hlt : k < 16
    · have hc := hrow.cell (i := k) (by omega)
      rw [show pwAt k k = 10 ^ k from if_pos (Nat.le_refl _)] at hc
      have hc2 := hrow.cell (i := k + 1) (by omega)
      have hf := hrow.frozen (k + 1)
      have hp : 10 ^ k ≤ 10 ^ 15 := Nat.pow_le_pow_right (by decide) (by omega)
      have e15 : (10 : Nat) ^ 15 = 1000000000000000 := by decide
      rw [e15] at hp
      have hps : 10 ^ (k + 1) = 10 ^ k * 10 := Nat.pow_succ ..
      have HPS := Lib.hid hps
      clear hrow e15 hps
      generalize 10 ^ k = q at hp hc HPS
      go_wp2
      go_roundw
      case rel =>
        refine ⟨k + 1, by omega, by go_num, (HR.out.set _ _).congr fun j _ => ?_, hbel.setCell (Nat.le_refl _) _⟩
        by_cases e : j = k + 1
        · rw [if_pos e, e, show pwAt (k + 1) (k + 1) = 10 ^ (k + 1) from if_pos (Nat.le_refl _), HPS.out]; go_num
        · rw [if_neg e]; unfold pwAt; by_cases h2 : j ≤ k
          · rw [if_pos h2, if_pos (by omega)]
          · rw [if_neg h2, if_neg (by omega)]
      case measure => simp [intOf]; omega
    · obtain rfl : k = 16 := by omega
      obtain ⟨cs, hg, hsz, hcs⟩ := hrow
      have hcs' : cs = powTab := by
        apply Array.ext_getElem?
        intro i
        by_cases hi : i < 17
        · rw [hcs i hi]
          have : i = 0 ∨ i = 1 ∨ i = 2 ∨ i = 3 ∨ i = 4 ∨ i = 5 ∨ i = 6 ∨ i = 7 ∨ i = 8 ∨ i = 9 ∨ i = 10 ∨ i = 11 ∨ i = 12 ∨ i = 13 ∨ i = 14 ∨ i = 15 ∨ i = 16 := by omega
          rcases this with rfl | rfl | rfl | rfl | rfl | rfl | rfl | rfl | rfl | rfl | rfl | rfl | rfl | rfl | rfl | rfl | rfl <;> rfl
        · rw [Array.getElem?_eq_none (by omega), Array.getElem?_eq_none (by show 17 ≤ i; omega)]
      subst hcs'
      clear hcs hsz
      go_wp2_with (first | (refine wpList_load_row rfl 223 _ rfl _ rfl 223 powTab (0, 0) _ hg Tryz.underlying223 rfl (by kernel_rfl) ?_) | (refine wpList_store_row rfl 223 _ _ rfl _ powTab rfl rfl 223 powTab hg (by kernel_rfl) rfl (by kernel_rfl) ?_))
      rw [setRow_self _ _ _ _ _ hg]
      exact bodyPost_ret (results_cell_row (P := Tryz.prog) (by rfl) _ _ w.heap.size 223 powTab (0, 0) _ (by rfl) hg Tryz.underlying223 rfl (by kernel_rfl)) rfl ⟨rfl, hbel⟩

/-- A power of ten, or 0. -/
def powV (n : Int) : Int := if 1 ≤ n ∧ n ≤ 16 then ((10 ^ n.toNat : Nat) : Int) else 0
theorem powV_no {n : Int} (h : ¬ (1 ≤ n ∧ n ≤ 16)) : powV n = 0 := if_neg h
theorem powV_ok {k : Nat} (h1 : 1 ≤ k) (h2 : k ≤ 16) : powV k = ((10 ^ k : Nat) : Int) := by
  unfold powV; rw [if_pos (by omega), Int.toNat_natCast]
theorem ret_i {k : IntKind} {a b : Int} (h : a = b) : Ending.returned (.int k a) = .returned (.int k b) := by rw [h]
theorem powTab_at {k : Nat} (h : k ≤ 16) : powTab[k]? = some (.int .i64 ((10 ^ k : Nat) : Int)) := by
  have : k = 0 ∨ k = 1 ∨ k = 2 ∨ k = 3 ∨ k = 4 ∨ k = 5 ∨ k = 6 ∨ k = 7 ∨ k = 8 ∨ k = 9 ∨ k = 10 ∨ k = 11 ∨ k = 12 ∨ k = 13 ∨ k = 14 ∨ k = 15 ∨ k = 16 := by omega
  rcases this with rfl | rfl | rfl | rfl | rfl | rfl | rfl | rfl | rfl | rfl | rfl | rfl | rfl | rfl | rfl | rfl | rfl <;> rfl

set_option maxHeartbeats 1000000 in
theorem Power_any (n : Int) (w : World) : Calls Tryz.prog 128 #[.int .i64 n] w fun e w' => e = .returned (.int .i64 (powV n)) ∧ Below w.heap.size w w' := by
  by_cases h1 : n < 1
  · have hv := Lib.hid (powV_no (n := n) (by omega))
    go_enter Tryz.func128, Tryz.ntmps128
    go_wp2_with fail
    go_ret
    exact ⟨ret_i hv.out.symm, Below.refl _ _⟩
  by_cases h2 : 16 < n
  · have hv := Lib.hid (powV_no (n := n) (by omega))
    go_enter Tryz.func128, Tryz.ntmps128
    go_wp2_with fail
    go_ret
    exact ⟨ret_i hv.out.symm, Below.refl _ _⟩
  obtain ⟨k, rfl⟩ : ∃ k : Nat, n = k := ⟨n.toNat, by omega⟩
  have hv := Lib.hid (powV_ok (k := k) (by omega) (by omega))
  have ht := Lib.hid (powTab_at (k := k) (by omega))
  have hk : k < 17 := by omega
  go_enter Tryz.func128, Tryz.ntmps128
  go_wp2_with fail
  refine (powers_any _).mono ?_
  rintro e w1 ⟨rfl, hb1⟩
  have hc : (w1.alloc (.cells powTab 223)).cell? ⟨w1.heap.size, k, none⟩ = some (.int .i64 ((10 ^ k : Nat) : Int)) := by
    rw [cell_of_row _ _ _ _ _ _ (heap_alloc_new w1 _)]; exact ht.out
  go_wp2_with (refine wpList_store_row rfl 223 _ _ rfl _ powTab rfl rfl 223 powZ (heap_alloc_new _ _) (by kernel_rfl) rfl (by kernel_rfl) ?_; simp only [World.setRow_alloc_new])
  go_ret
  exact ⟨ret_i hv.out.symm, hb1.alloc hb1.size _⟩

set_option maxHeartbeats 1000000 in
theorem rPower_any (n : Int) (w : World) : Calls Tryz.prog 145 #[.int .i64 n] w fun e w' => e = .returned (.int .i64 (powV n)) ∧ w = w' := by
  by_cases h1 : n < 1
  · have hv := Lib.hid (powV_no (n := n) (by omega))
    go_enter Tryz.func145, Tryz.ntmps145
    go_wp2_with fail
    go_ret
    exact ⟨ret_i hv.out.symm, rfl⟩
  by_cases h2 : 16 < n
  · have hv := Lib.hid (powV_no (n := n) (by omega))
    go_enter Tryz.func145, Tryz.ntmps145
    go_wp2_with fail
    go_ret
    exact ⟨ret_i hv.out.symm, rfl⟩
  obtain ⟨k, rfl⟩ : ∃ k : Nat, n = k := ⟨n.toNat, by omega⟩
  have hv := Lib.hid (powV_ok (k := k) (by omega) (by omega))
  have hk : k < 17 := by omega
  go_enter Tryz.func145, Tryz.ntmps145
  go_wp2_with fail
  go_loop [3, 4] (fun p c => ∃ j q : Nat, j ≤ k ∧ c = .int .i64 j ∧ p = .int .i64 q ∧ q = 10 ^ j) (fun _ i => k - (intOf i).toNat)
  case atStart => exact ⟨0, 1, by omega, rfl, rfl, rfl⟩
  case round =>
    obtain ⟨j, q, hj, rfl, rfl, hq⟩ := hrel
    have HQ := Lib.hid hq
    by_cases hlt : j < k
    · have hp : 10 ^ j ≤ 10 ^ 15 := Nat.pow_le_pow_right (by decide) (by omega)
      have e15 : (10 : Nat) ^ 15 = 1000000000000000 := by decide
      rw [e15, ← hq] at hp
      clear e15 hq
      go_wp2
      go_round
      case rel => exact ⟨j + 1, 10 * q, by omega, by go_num, by go_num, by rw [HQ.out, Nat.pow_succ]; omega⟩
      case measure => simp [intOf]; omega
    · obtain rfl : j = k := by omega
      clear hq
      go_wp2
      go_ret
      exact ⟨ret_i (by rw [hv.out, HQ.out]), rfl⟩
end Go.Proofs.YtogpnlfbdhddmaaGreatDoor
namespace Go.Proofs.YtogpnlfbdhddmaaGreatDoor
open Go.RowKit

/-- The rest of big-endian bytes. -/
def restD (p : Nat) (l : List UInt8) : Nat := l.foldl (fun r c => (256 * r + c.toNat) % p) 0
theorem restD_snoc (p : Nat) (l : List UInt8) (c : UInt8) : restD p (l ++ [c]) = (256 * restD p l + c.toNat) % p := by simp [restD]
theorem restD_lt {p : Nat} (hp : 0 < p) (l : List UInt8) : restD p l < p := by
  rcases List.eq_nil_or_concat l with h | ⟨l', c, h⟩
  · subst h; exact hp
  · subst h; rw [List.concat_eq_append, restD_snoc]; exact Nat.mod_lt _ hp
def restR (l : List UInt8) (k : Int) : Ending := if powV k = 0 then .returned (.tuple #[.int .i64 0, .int .i64 1]) else if 64 < l.length then .returned (.tuple #[.int .i64 0, .int .i64 2]) else .returned (.tuple #[.int .i64 (restD (powV k).toNat l), .int .i64 0])
theorem restR_no {l : List UInt8} {k : Int} (h : powV k = 0) : restR l k = .returned (.tuple #[.int .i64 0, .int .i64 1]) := if_pos h
theorem restR_long {l : List UInt8} {k : Int} (h : ¬ powV k = 0) (h2 : 64 < l.length) : restR l k = .returned (.tuple #[.int .i64 0, .int .i64 2]) := by unfold restR; rw [if_neg h, if_pos h2]
theorem restR_ok {l : List UInt8} {k : Int} {p : Nat} (h : powV k = p) (hp : 0 < p) (h2 : ¬ 64 < l.length) : restR l k = .returned (.tuple #[.int .i64 (restD p l), .int .i64 0]) := by
  unfold restR; rw [if_neg (by omega), if_neg h2, h, Int.toNat_natCast]
theorem powV_range (k : Int) : powV k = 0 ∨ ∃ p : Nat, powV k = p ∧ 0 < p ∧ p ≤ 10000000000000000 := by
  by_cases h : 1 ≤ k ∧ k ≤ 16
  · obtain ⟨m, rfl⟩ : ∃ m : Nat, k = m := ⟨k.toNat, by omega⟩
    have h1 : 10 ^ m ≤ 10 ^ 16 := Nat.pow_le_pow_right (by decide) (by omega)
    have e : (10 : Nat) ^ 16 = 10000000000000000 := by decide
    exact .inr ⟨10 ^ m, powV_ok (by omega) (by omega), Nat.pow_pos (by decide), by omega⟩
  · exact .inl (powV_no h)

set_option maxHeartbeats 1000000 in
theorem rRest_any (A : Option Addr) (n c B : Nat) (l : List UInt8) (k : Int) (w : World) (hr : Reads w B 1 A n (bv l)) (_hnc : n ≤ c) :
    Calls Tryz.prog 149 #[.slice A n c, .int .i64 k] w fun e w' => e = restR l k ∧ w = w' := by
  have hll : l.length = n := by have := hr.1; rw [length_bv] at this; omega
  rcases powV_range k with hp | ⟨p, hp, hp0, hp9⟩
  · have HE := Lib.hid (restR_no (l := l) hp)
    go_enter Tryz.func149, Tryz.ntmps149
    go_wp2_with fail
    refine (rPower_any k _).mono ?_
    rw [hp]
    rintro e w1 ⟨rfl, rfl⟩
    go_wp2_with fail
    go_ret2
    exact ⟨HE.out.symm, rfl⟩
  by_cases h64 : (64 : Int) < n
  · have HE := Lib.hid (restR_long (l := l) (k := k) (by omega) (by omega))
    have hpi : ¬ (p : Int) = 0 := by omega
    go_enter Tryz.func149, Tryz.ntmps149
    go_wp2_with fail
    refine (rPower_any k _).mono ?_
    rw [hp]
    rintro e w1 ⟨rfl, rfl⟩
    go_wp2_with fail
    go_ret2
    exact ⟨HE.out.symm, rfl⟩
  have HE := Lib.hid (restR_ok (l := l) hp hp0 (by omega))
  have HR := Lib.hid hr
  have hpi : ¬ (p : Int) = 0 := by omega
  clear hr
  go_enter Tryz.func149, Tryz.ntmps149
  go_wp2_with fail
  refine (rPower_any k _).mono ?_
  rw [hp]
  rintro e w1 ⟨rfl, rfl⟩
  go_wp2_with fail
  go_loop [7, 8] (fun r i => ∃ j q : Nat, j ≤ n ∧ i = .int .i64 j ∧ r = .int .i64 q ∧ q < p ∧ q = restD p (l.take j)) (fun _ i => n - (intOf i).toNat)
  case atStart => exact ⟨0, 0, by omega, rfl, rfl, hp0, rfl⟩
  case round =>
    obtain ⟨j, q, hj, rfl, rfl, hqp, hq⟩ := hrel
    have HQ := Lib.hid hq; clear hq
    by_cases hlt : j < n
    · obtain ⟨b, o, rfl, -, hcell⟩ := HR.out.2 (by omega)
      have hc := hcell j (.int .u8 ((l[j]'(by omega)).toNat : Int)) (by simp [bv, show j < l.length by omega])
      have hb := (l[j]'(by omega)).toNat_lt
      have HT := Lib.hid (List.take_succ_eq_append_getElem (show j < l.length by omega))
      have hml := Nat.mod_lt (256 * q + (l[j]'(by omega)).toNat) hp0
      clear hcell
      go_wp2
      go_round
      case rel => exact ⟨j + 1, (256 * q + (l[j]'(by omega)).toNat) % p, by omega, by go_num, by go_num, hml, by rw [HT.out, restD_snoc, HQ.out]⟩
      case measure => simp [intOf]; omega
    · have hall : l.take j = l := List.take_of_length_le (by omega)
      have HA := Lib.hid hall; clear hall
      go_wp2
      go_ret2
      exact ⟨by rw [HE.out, HQ.out, HA.out]; rfl, rfl⟩
set_option maxHeartbeats 1000000 in
theorem Rest_any (A : Option Addr) (n c B : Nat) (l : List UInt8) (k : Int) (w : World) (hr : Reads w B 1 A n (bv l)) (hB : B ≤ w.heap.size) (_hnc : n ≤ c) :
    Calls Tryz.prog 98 #[.slice A n c, .int .i64 k] w fun e w' => e = restR l k ∧ Below w.heap.size w w' := by
  have hll : l.length = n := by have := hr.1; rw [length_bv] at this; omega
  rcases powV_range k with hp | ⟨p, hp, hp0, hp9⟩
  · have HE := Lib.hid (restR_no (l := l) hp)
    go_enter Tryz.func98, Tryz.ntmps98
    go_wp2_with fail
    refine (Power_any k _).mono ?_
    rw [hp]
    rintro e w1 ⟨rfl, hb1⟩
    go_wp2_with fail
    go_ret2
    exact ⟨HE.out.symm, hb1⟩
  by_cases h64 : (64 : Int) < n
  · have HE := Lib.hid (restR_long (l := l) (k := k) (by omega) (by omega))
    have hpi : ¬ (p : Int) = 0 := by omega
    go_enter Tryz.func98, Tryz.ntmps98
    go_wp2_with fail
    refine (Power_any k _).mono ?_
    rw [hp]
    rintro e w1 ⟨rfl, hb1⟩
    go_wp2_with fail
    go_ret2
    exact ⟨HE.out.symm, hb1⟩
  have HE := Lib.hid (restR_ok (l := l) hp hp0 (by omega))
  have HR := Lib.hid hr
  have hpi : ¬ (p : Int) = 0 := by omega
  clear hr
  go_enter Tryz.func98, Tryz.ntmps98
  go_wp2_with fail
  refine (Power_any k _).mono ?_
  rw [hp]
  rintro e w1 ⟨rfl, hb1⟩
  have hb2 := hb1.mono hB
  go_wp2_with fail
  go_loop [7, 21] (fun r i => ∃ j q : Nat, j ≤ n ∧ i = .int .i64 j ∧ r = .int .u64 q ∧ q < p ∧ q = restD p (l.take j)) (fun _ i => n - (intOf i).toNat)
  case atStart => exact ⟨0, 0, by omega, rfl, rfl, hp0, rfl⟩
  case round =>
    obtain ⟨j, q, hj, rfl, rfl, hqp, hq⟩ := hrel
    have HQ := Lib.hid hq; clear hq
    by_cases hlt : j < n
    · obtain ⟨b, o, rfl, -, hcell⟩ := (HR.out.below hb2).2 (by omega)
      have hc := hcell j (.int .u8 ((l[j]'(by omega)).toNat : Int)) (by simp [bv, show j < l.length by omega])
      have hb := (l[j]'(by omega)).toNat_lt
      have HT := Lib.hid (List.take_succ_eq_append_getElem (show j < l.length by omega))
      have hml := Nat.mod_lt (256 * q + (l[j]'(by omega)).toNat) hp0
      clear hcell
      have hor : bits .or .u64 ((q * 256 : Nat) : Int) (((l[j]'(by omega)).toNat : Nat) : Int) = ((256 * q + (l[j]'(by omega)).toNat : Nat) : Int) := by
        rw [u64_or_nat _ _ (by omega) (by omega), nat_join 8 _ _ (by omega) (by omega), Nat.mul_comm]
      have hor2 : bits .or .u64 ((q : Int) * 256) ((l[j]'(by omega)).toNat : Int) = 256 * (q : Int) + (l[j]'(by omega)).toNat := by
        rw [show (q : Int) * 256 = ((q * 256 : Nat) : Int) by omega, hor]; omega
      go_wp2
      go_round
      case rel => exact ⟨j + 1, (256 * q + (l[j]'(by omega)).toNat) % p, by omega, by go_num, by go_num, hml, by rw [HT.out, restD_snoc, HQ.out]⟩
      case measure => simp [intOf]; omega
    · have hall : l.take j = l := List.take_of_length_le (by omega)
      have HA := Lib.hid hall; clear hall
      go_wp2
      go_ret2
      exact ⟨by rw [HE.out, HQ.out, HA.out]; rfl, hb1⟩
end Go.Proofs.YtogpnlfbdhddmaaGreatDoor
namespace Go.Proofs.YtogpnlfbdhddmaaGreatDoor
open Go.RowKit

/-- How many bytes a number takes. -/
def cntB (q : Nat) : Nat := (Lib.bitLen q + 7) / 8
theorem cntB_zero : cntB 0 = 0 := by decide
theorem cntB_step {q : Nat} (h : 0 < q) (h2 : q < 18446744073709551616) : cntB q = 1 + cntB (q / 256) := by
  unfold cntB
  rcases Nat.lt_or_ge q 256 with h3 | h3
  · have h4 := Lib.bitLen_le8 ⟨q, h3⟩
    have h5 := Lib.bitLen_half q (by omega) (by omega)
    rw [show q / 256 = 0 by omega]
    have h6 : Lib.bitLen 0 = 0 := by decide
    simp only at h4
    omega
  · rw [Lib.bitLen_shift8 q h3 h2]; omega
def widV (n : Int) : Int := if 1 ≤ n ∧ n ≤ 16 then (cntB (10 ^ n.toNat - 1) : Int) else 0
theorem widV_no {n : Int} (h : ¬ (1 ≤ n ∧ n ≤ 16)) : widV n = 0 := if_neg h
theorem widV_ok {k : Nat} (h1 : 1 ≤ k) (h2 : k ≤ 16) : widV k = (cntB (10 ^ k - 1) : Int) := by
  unfold widV; rw [if_pos (by omega), Int.toNat_natCast]
theorem pow_le16 {k : Nat} (h : k ≤ 16) : 1 ≤ 10 ^ k ∧ 10 ^ k ≤ 10000000000000000 := by
  have h1 : 10 ^ k ≤ 10 ^ 16 := Nat.pow_le_pow_right (by decide) h
  have e : (10 : Nat) ^ 16 = 10000000000000000 := by decide
  exact ⟨Nat.one_le_pow _ _ (by decide), by omega⟩
theorem bitLen_le {q : Nat} (_h : q < 10000000000000000) : Lib.bitLen q ≤ 64 := by
  have a : ∀ (f x : Nat), Lib.bitLenAux f x ≤ f := by
    intro f
    induction f with
    | zero => intro x; simp [Lib.bitLenAux]
    | succ f ih =>
      intro x
      have := ih (x / 2)
      simp only [Lib.bitLenAux]
      split <;> omega
  exact a 64 q

set_option maxHeartbeats 1000000 in
theorem Width_any (n : Int) (w : World) : Calls Tryz.prog 94 #[.int .i64 n] w fun e w' => e = .returned (.int .i64 (widV n)) ∧ Below w.heap.size w w' := by
  by_cases h : 1 ≤ n ∧ n ≤ 16
  · obtain ⟨k, rfl⟩ : ∃ k : Nat, n = k := ⟨n.toNat, by omega⟩
    have hv := Lib.hid (widV_ok (k := k) (by omega) (by omega))
    have hp := powV_ok (k := k) (by omega) (by omega)
    have hq := pow_le16 (k := k) (by omega)
    go_enter Tryz.func94, Tryz.ntmps94
    go_wp2_with fail
    refine (Power_any _ _).mono ?_
    rintro e w1 ⟨rfl, hb1⟩
    rw [hp]
    have hq1 := Lib.hid (rfl : 10 ^ k - 1 = 10 ^ k - 1)
    generalize hQ : 10 ^ k = q at hq hv hq1 hp
    obtain ⟨r, rfl⟩ : ∃ r, q = r + 1 := ⟨q - 1, by omega⟩
    rw [Nat.add_sub_cancel] at hv
    have hbl := bitLen_le (q := r) (by omega)
    have hbi : (Lib.bitLen r : Int) ≤ 64 := by omega
    have hne : ¬ ((r + 1 : Nat) : Int) = 0 := by omega
    have hsub : ((r + 1 : Nat) : Int) - 1 = r := by omega
    have hw1 : IntKind.i64.wrap (((r + 1 : Nat) : Int) - 1) = r := by rw [hsub]; exact IntWalk.i64_in _ (by omega)
    clear hQ hq1 hsub
    go_wp2_with fail
    refine (Tryz.bits_Len (r : Int) w1 (by omega) (by omega)).mono ?_
    rintro e w' ⟨rfl, rfl⟩
    rw [Int.toNat_natCast]
    go_wp2_with fail
    go_ret
    exact ⟨ret_i (by rw [hv.out]; unfold cntB; omega), hb1⟩
  · have hv := Lib.hid (widV_no h)
    have hp := powV_no h
    clear h
    go_enter Tryz.func94, Tryz.ntmps94
    go_wp2_with fail
    refine (Power_any _ _).mono ?_
    rintro e w1 ⟨rfl, hb1⟩
    rw [hp]
    go_wp2_with fail
    go_ret
    exact ⟨ret_i hv.out.symm, hb1⟩

set_option maxHeartbeats 1000000 in
theorem rWidth_any (n : Int) (w : World) : Calls Tryz.prog 146 #[.int .i64 n] w fun e w' => e = .returned (.int .i64 (widV n)) ∧ w = w' := by
  by_cases h : 1 ≤ n ∧ n ≤ 16
  · obtain ⟨k, rfl⟩ : ∃ k : Nat, n = k := ⟨n.toNat, by omega⟩
    have hv := Lib.hid (widV_ok (k := k) (by omega) (by omega))
    have hp := powV_ok (k := k) (by omega) (by omega)
    have hq := pow_le16 (k := k) (by omega)
    go_enter Tryz.func146, Tryz.ntmps146
    go_wp2_with fail
    refine (rPower_any _ _).mono ?_
    rintro e w1 ⟨rfl, rfl⟩
    rw [hp]
    generalize hQ : 10 ^ k = q at hq hv hp
    obtain ⟨r, rfl⟩ : ∃ r, q = r + 1 := ⟨q - 1, by omega⟩
    rw [Nat.add_sub_cancel] at hv
    clear hQ hp
    go_wp2_with fail
    go_loop [3, 4] (fun c p => ∃ j q : Nat, c = .int .i64 j ∧ p = .int .i64 q ∧ q ≤ r ∧ j ≤ 64 ∧ j + cntB q = cntB r ∧ cntB r ≤ 64) (fun _ p => (intOf p).toNat)
    case atStart => exact ⟨0, r, rfl, by go_num, Nat.le_refl _, by omega, by omega, by unfold cntB; have := bitLen_le (q := r) (by omega); omega⟩
    case round =>
      obtain ⟨j, q, rfl, rfl, hqr, hj, hs, hs2⟩ := hrel
      by_cases hlt : 0 < q
      · have hst := cntB_step hlt (by omega)
        go_wp2
        go_round
        case rel => exact ⟨j + 1, q / 256, by go_num, by go_num, by omega, by omega, by omega, hs2⟩
        case measure => simp [intOf]; omega
      · obtain rfl : q = 0 := by omega
        rw [cntB_zero] at hs
        go_wp2
        go_ret
        exact ⟨ret_i (by rw [hv.out]; omega), rfl⟩
  · have hv := Lib.hid (widV_no h)
    have hp := powV_no h
    clear h
    go_enter Tryz.func146, Tryz.ntmps146
    go_wp2_with fail
    refine (rPower_any _ _).mono ?_
    rintro e w1 ⟨rfl, rfl⟩
    rw [hp]
    go_wp2_with fail
    go_loop [3, 4] (fun c p => c = .int .i64 0 ∧ p = .int .i64 (-1)) (fun _ p => 0)
    case atStart => exact ⟨rfl, rfl⟩
    case round =>
      obtain ⟨rfl, rfl⟩ := hrel
      go_wp2
      go_ret
      exact ⟨ret_i hv.out.symm, rfl⟩
end Go.Proofs.YtogpnlfbdhddmaaGreatDoor
namespace Go.Proofs.YtogpnlfbdhddmaaGreatDoor
open Go.RowKit

/-- What Value answers. -/
def valR (l : List UInt8) : Ending := if l = [] then .returned (.tuple #[.int .i64 0, .int .i64 1]) else if 16 < l.length then .returned (.tuple #[.int .i64 0, .int .i64 2]) else numR l
theorem valR_nil {l : List UInt8} (h : l = []) : valR l = .returned (.tuple #[.int .i64 0, .int .i64 1]) := if_pos h
theorem valR_long {l : List UInt8} (h : 16 < l.length) : valR l = .returned (.tuple #[.int .i64 0, .int .i64 2]) := by
  unfold valR; rw [if_neg (by intro e; rw [e] at h; simp at h), if_pos h]
theorem valR_num {l : List UInt8} (h : l ≠ []) (h2 : ¬ 16 < l.length) : valR l = numR l := by
  unfold valR; rw [if_neg h, if_neg h2]

set_option maxHeartbeats 400000 in
theorem Value_any (s : ByteArray) (w : World) (hs : s.size ≤ maxLen) : Calls Tryz.prog 92 #[.string s] w fun e w' => e = valR s.data.toList ∧ w = w' := by
  by_cases h : s.data.toList = []
  · have hy := isEmpty_yes h
    have HE := Lib.hid (valR_nil h); clear h
    go_enter Tryz.func92, Tryz.ntmps92
    go_wp2_with fail
    go_ret2
    exact ⟨HE.out.symm, rfl⟩
  have hy := isEmpty_no h
  by_cases h2 : (16 : Int) < s.size
  · have HE := Lib.hid (valR_long (l := s.data.toList) (by rw [size_toList]; omega)); clear h
    go_enter Tryz.func92, Tryz.ntmps92
    go_wp2_with fail
    go_ret2
    exact ⟨HE.out.symm, rfl⟩
  have HE := Lib.hid (valR_num h (by rw [size_toList]; omega)); clear h
  go_enter Tryz.func92, Tryz.ntmps92
  go_wp2_with fail
  refine (Number_any s _ hs).mono ?_
  rintro e w' ⟨rfl, rfl⟩
  unfold numR
  go_wp2_with fail
  go_ret2
  exact ⟨HE.out.symm, rfl⟩

/-- What Digits answers. -/
def inB (n k : Int) : Bool := decide (0 ≤ n ∧ n < powV k)
def digE (n k : Int) : Int := if inB n k = true then textE n k else 1
def digS (n k : Int) : List UInt8 := if inB n k = true then textV n k else []
def digR (n k : Int) : Ending := .returned (.tuple #[.string ⟨(digS n k).toArray⟩, .int .i64 (digE n k)])
theorem digR_no {n k : Int} (h : inB n k = false) : digR n k = .returned (.tuple #[.string ⟨#[]⟩, .int .i64 1]) := by
  unfold digR digS digE; rw [h]; rfl
theorem digR_ok {n k : Int} (h : inB n k = true) : digR n k = .returned (.tuple #[.string ⟨(textV n k).toArray⟩, .int .i64 (textE n k)]) := by
  unfold digR digS digE; rw [if_pos h, if_pos h]

set_option maxHeartbeats 400000 in
theorem Digits_any (n k : Int) (w : World) (h63 : n ≤ 9223372036854775807) : Calls Tryz.prog 99 #[.int .i64 n, .int .i64 k] w fun e w' => e = digR n k ∧ Below w.heap.size w w' := by
  by_cases h1 : n < 0
  · have HE := Lib.hid (digR_no (n := n) (k := k) (decide_eq_false (by omega)))
    go_enter Tryz.func99, Tryz.ntmps99
    go_wp2_with fail
    refine (Power_any k _).mono ?_
    rintro e w1 ⟨rfl, hb1⟩
    generalize powV k = p
    go_wp2_with fail
    go_ret2
    exact ⟨HE.out.symm, hb1⟩
  by_cases h2 : powV k ≤ n
  · have HE := Lib.hid (digR_no (n := n) (k := k) (decide_eq_false (by omega)))
    go_enter Tryz.func99, Tryz.ntmps99
    go_wp2_with fail
    refine (Power_any k _).mono ?_
    rintro e w1 ⟨rfl, hb1⟩
    generalize powV k = p at h2
    go_wp2_with fail
    go_ret2
    exact ⟨HE.out.symm, hb1⟩
  have HE := Lib.hid (digR_ok (n := n) (k := k) (decide_eq_true (by omega)))
  go_enter Tryz.func99, Tryz.ntmps99
  go_wp2_with fail
  refine (Power_any k _).mono ?_
  rintro e w1 ⟨rfl, hb1⟩
  generalize powV k = p at h2
  go_wp2_with fail
  refine (Text_any n k _ h63).mono ?_
  rintro e w2 ⟨rfl, hb2⟩
  go_wp2_with fail
  go_ret2
  exact ⟨HE.out.symm, thenB hb1 hb2⟩

set_option maxHeartbeats 400000 in
theorem in_any (n k : Int) (w : World) : Calls Tryz.prog 144 #[.int .i64 n, .int .i64 k] w fun e w' => e = .returned (.bool (inB n k)) ∧ w = w' := by
  by_cases h1 : n < 0
  · have HE := Lib.hid (show inB n k = false from decide_eq_false (by omega))
    go_enter Tryz.func144, Tryz.ntmps144
    go_wp2_with fail
    go_ret
    exact ⟨by rw [HE.out]; rfl, rfl⟩
  have HE := Lib.hid (show inB n k = decide (n < powV k) by unfold inB; simp; omega)
  go_enter Tryz.func144, Tryz.ntmps144
  go_wp2_with fail
  refine (rPower_any k _).mono ?_
  rintro e w1 ⟨rfl, rfl⟩
  generalize powV k = p at HE
  go_wp2_with fail
  go_ret
  exact ⟨by rw [HE.out]; rfl, rfl⟩

end Go.Proofs.YtogpnlfbdhddmaaGreatDoor
namespace Go.Proofs.YtogpnlfbdhddmaaGreatDoor
open Go.RowKit

/-- Both below the power. -/
def bothB (a b k : Int) : Bool := inB a k && inB b k
theorem bothB_yes {a b k : Int} (h : bothB a b k = true) : 0 ≤ a ∧ a < powV k ∧ 0 ≤ b ∧ b < powV k := by
  unfold bothB inB at h; simp at h; omega
theorem bothB_mk {a b k : Int} (h1 : 0 ≤ a) (h2 : a < powV k) (h3 : 0 ≤ b) (h4 : b < powV k) : bothB a b k = true := by
  unfold bothB inB; simp; omega
theorem bothB_no {a b k : Int} (h : a < 0 ∨ b < 0 ∨ powV k ≤ a ∨ powV k ≤ b) : bothB a b k = false := by
  cases e : bothB a b k with
  | false => rfl
  | true => have := bothB_yes e; omega
theorem bothB_comm (a b k : Int) : bothB b a k = bothB a b k := by unfold bothB; exact Bool.and_comm _ _
theorem powV_le (k : Int) : powV k ≤ 10000000000000000 := by
  by_cases h : 1 ≤ k ∧ k ≤ 16
  · obtain ⟨m, rfl⟩ : ∃ m : Nat, k = m := ⟨k.toNat, by omega⟩
    have h1 : 10 ^ m ≤ 10 ^ 16 := Nat.pow_le_pow_right (by decide) (by omega)
    have e : (10 : Nat) ^ 16 = 10000000000000000 := by decide
    rw [powV_ok (by omega) (by omega)]; omega
  · rw [powV_no h]; omega
/-- Sums and differences. -/
def addV (a b k : Int) : Int := (a + b) % powV k
def subV (a b k : Int) : Int := (a - b + powV k) % powV k
def addR (a b k : Int) : Ending := if bothB a b k = true then .returned (.tuple #[.int .i64 (addV a b k), .int .i64 0]) else .returned (.tuple #[.int .i64 0, .int .i64 1])
def subR (a b k : Int) : Ending := if bothB a b k = true then .returned (.tuple #[.int .i64 (subV a b k), .int .i64 0]) else .returned (.tuple #[.int .i64 0, .int .i64 1])
theorem addR_yes {a b k : Int} (h : bothB a b k = true) : addR a b k = .returned (.tuple #[.int .i64 (addV a b k), .int .i64 0]) := if_pos h
theorem addR_no {a b k : Int} (h : bothB a b k = false) : addR a b k = .returned (.tuple #[.int .i64 0, .int .i64 1]) := if_neg (by rw [h]; decide)
theorem subR_yes {a b k : Int} (h : bothB a b k = true) : subR a b k = .returned (.tuple #[.int .i64 (subV a b k), .int .i64 0]) := if_pos h
theorem subR_no {a b k : Int} (h : bothB a b k = false) : subR a b k = .returned (.tuple #[.int .i64 0, .int .i64 1]) := if_neg (by rw [h]; decide)
theorem mod_low {x p : Int} (h0 : 0 ≤ x) (h : x < p) : x % p = x := Int.emod_eq_of_lt h0 h
theorem mod_high {x p : Int} (h0 : p ≤ x) (h : x < 2 * p) : x % p = x - p := by
  rw [show x = (x - p) + p by omega, Int.add_emod_right, Int.emod_eq_of_lt (by omega) (by omega)]; omega
theorem addV_low {a b k : Int} (h : bothB a b k = true) (h2 : a < powV k - b) : addV a b k = a + b := by
  have := bothB_yes h; exact mod_low (by omega) (by omega)
theorem addV_high {a b k : Int} (h : bothB a b k = true) (h2 : powV k - b ≤ a) : addV a b k = a - (powV k - b) := by
  have := bothB_yes h; unfold addV; rw [mod_high (by omega) (by omega)]; omega
theorem subV_low {a b k : Int} (h : bothB a b k = true) (h2 : a < b) : subV a b k = a + (powV k - b) := by
  have := bothB_yes h; unfold subV; rw [mod_low (by omega) (by omega)]; omega
theorem subV_high {a b k : Int} (h : bothB a b k = true) (h2 : b ≤ a) : subV a b k = a - b := by
  have := bothB_yes h; unfold subV; rw [mod_high (by omega) (by omega)]; omega
theorem addV_in {a b k : Int} (h : bothB a b k = true) : 0 ≤ addV a b k ∧ addV a b k < powV k := by
  have := bothB_yes h; exact ⟨Int.emod_nonneg _ (by omega), Int.emod_lt_of_pos _ (by omega)⟩
theorem addV_comm (a b k : Int) : addV b a k = addV a b k := by unfold addV; rw [Int.add_comm]
theorem addV_assoc (a b c k : Int) : addV a (addV b c k) k = addV (addV a b k) c k := by
  unfold addV; rw [Int.add_emod_emod, Int.emod_add_emod, Int.add_assoc]
theorem sub_add {a b k : Int} (h : bothB a b k = true) : subV (addV a b k) b k = a := by
  have h1 := bothB_yes h
  have h2 := addV_in h
  have h3 : bothB (addV a b k) b k = true := bothB_mk h2.1 h2.2 (by omega) (by omega)
  by_cases h4 : a < powV k - b
  · have e := addV_low h h4
    rw [subV_high h3 (by omega)]; omega
  · have e := addV_high h (by omega)
    rw [subV_low h3 (by omega)]; omega

set_option maxHeartbeats 400000 in
theorem both_any (a b k : Int) (w : World) : Calls Tryz.prog 93 #[.int .i64 a, .int .i64 b, .int .i64 k] w fun e w' => e = .returned (.tuple #[.int .i64 (powV k), .bool (bothB a b k)]) ∧ Below w.heap.size w w' := by
  by_cases h1 : a < 0
  · have HE := Lib.hid (bothB_no (a := a) (b := b) (k := k) (by omega))
    go_enter Tryz.func93, Tryz.ntmps93
    go_wp2_with fail
    refine (Power_any k _).mono ?_
    rintro e w1 ⟨rfl, hb1⟩
    generalize hq : powV k = p
    have HP := Lib.hid hq
    clear hq
    go_wp2_with fail
    go_ret2
    exact ⟨by rw [HE.out, HP.out]; first | done | rfl, hb1⟩
  by_cases h2 : b < 0
  · have HE := Lib.hid (bothB_no (a := a) (b := b) (k := k) (by omega))
    go_enter Tryz.func93, Tryz.ntmps93
    go_wp2_with fail
    refine (Power_any k _).mono ?_
    rintro e w1 ⟨rfl, hb1⟩
    generalize hq : powV k = p
    have HP := Lib.hid hq
    clear hq
    go_wp2_with fail
    go_ret2
    exact ⟨by rw [HE.out, HP.out]; first | done | rfl, hb1⟩
  by_cases h3 : powV k ≤ a
  · have HE := Lib.hid (bothB_no (a := a) (b := b) (k := k) (by omega))
    go_enter Tryz.func93, Tryz.ntmps93
    go_wp2_with fail
    refine (Power_any k _).mono ?_
    rintro e w1 ⟨rfl, hb1⟩
    generalize hq : powV k = p at h3 ⊢
    have HP := Lib.hid hq
    clear hq
    go_wp2_with fail
    go_ret2
    exact ⟨by rw [HE.out, HP.out]; first | done | rfl, hb1⟩
  by_cases h4 : powV k ≤ b
  · have HE := Lib.hid (bothB_no (a := a) (b := b) (k := k) (by omega))
    go_enter Tryz.func93, Tryz.ntmps93
    go_wp2_with fail
    refine (Power_any k _).mono ?_
    rintro e w1 ⟨rfl, hb1⟩
    generalize hq : powV k = p at h3 h4 ⊢
    have HP := Lib.hid hq
    clear hq
    have hdb : decide (b < p) = false := decide_eq_false (by omega)
    go_wp2_with fail
    go_ret2
    exact ⟨by rw [HE.out, HP.out]; first | done | rfl, hb1⟩
  have HE := Lib.hid (bothB_mk (a := a) (b := b) (k := k) (by omega) (by omega) (by omega) (by omega))
  go_enter Tryz.func93, Tryz.ntmps93
  go_wp2_with fail
  refine (Power_any k _).mono ?_
  rintro e w1 ⟨rfl, hb1⟩
  generalize hq : powV k = p at h3 h4 ⊢
  have HP := Lib.hid hq
  clear hq
  have hdb : decide (b < p) = true := decide_eq_true (by omega)
  go_wp2_with fail
  go_ret2
  exact ⟨by rw [HE.out, HP.out]; first | done | rfl, hb1⟩

set_option maxHeartbeats 400000 in
theorem Add_any (a b k : Int) (w : World) : Calls Tryz.prog 62 #[.int .i64 a, .int .i64 b, .int .i64 k] w fun e w' => e = addR a b k ∧ Below w.heap.size w w' := by
  cases h : bothB a b k with
  | false =>
    have HE := Lib.hid (addR_no h)
    go_enter Tryz.func62, Tryz.ntmps62
    go_wp2_with fail
    refine (both_any a b k _).mono ?_
    rw [h]
    rintro e w1 ⟨rfl, hb1⟩
    generalize powV k = p
    go_wp2_with fail
    go_ret2
    exact ⟨HE.out.symm, hb1⟩
  | true =>
    have hp := powV_le k
    obtain ⟨h1, h2, h3, h4⟩ := bothB_yes h
    by_cases hs : a < powV k - b
    · have HE := Lib.hid (addR_yes h)
      have HV := Lib.hid (addV_low h hs)
      go_enter Tryz.func62, Tryz.ntmps62
      go_wp2_with fail
      refine (both_any a b k _).mono ?_
      rw [h]
      rintro e w1 ⟨rfl, hb1⟩
      clear h
      generalize powV k = p at h2 h4 hp hs
      go_wp2_with fail
      go_ret2
      exact ⟨by rw [HE.out, HV.out]; first | done | rfl, hb1⟩
    · have HE := Lib.hid (addR_yes h)
      have HV := Lib.hid (addV_high h (by omega))
      go_enter Tryz.func62, Tryz.ntmps62
      go_wp2_with fail
      refine (both_any a b k _).mono ?_
      rw [h]
      rintro e w1 ⟨rfl, hb1⟩
      clear h
      generalize powV k = p at h2 h4 hp hs HV
      go_wp2_with fail
      go_ret2
      exact ⟨by rw [HE.out, HV.out]; first | done | rfl, hb1⟩

set_option maxHeartbeats 400000 in
theorem Sub_any (a b k : Int) (w : World) : Calls Tryz.prog 80 #[.int .i64 a, .int .i64 b, .int .i64 k] w fun e w' => e = subR a b k ∧ Below w.heap.size w w' := by
  cases h : bothB a b k with
  | false =>
    have HE := Lib.hid (subR_no h)
    go_enter Tryz.func80, Tryz.ntmps80
    go_wp2_with fail
    refine (both_any a b k _).mono ?_
    rw [h]
    rintro e w1 ⟨rfl, hb1⟩
    generalize powV k = p
    go_wp2_with fail
    go_ret2
    exact ⟨HE.out.symm, hb1⟩
  | true =>
    have hp := powV_le k
    obtain ⟨h1, h2, h3, h4⟩ := bothB_yes h
    by_cases hs : a < b
    · have HE := Lib.hid (subR_yes h)
      have HV := Lib.hid (subV_low h hs)
      go_enter Tryz.func80, Tryz.ntmps80
      go_wp2_with fail
      refine (both_any a b k _).mono ?_
      rw [h]
      rintro e w1 ⟨rfl, hb1⟩
      clear h
      generalize powV k = p at h2 h4 hp HV
      go_wp2_with fail
      go_ret2
      exact ⟨by rw [HE.out, HV.out]; first | done | rfl, hb1⟩
    · have HE := Lib.hid (subR_yes h)
      have HV := Lib.hid (subV_high h (by omega))
      go_enter Tryz.func80, Tryz.ntmps80
      go_wp2_with fail
      refine (both_any a b k _).mono ?_
      rw [h]
      rintro e w1 ⟨rfl, hb1⟩
      clear h
      generalize powV k = p at h2 h4 hp
      go_wp2_with fail
      go_ret2
      exact ⟨by rw [HE.out, HV.out]; first | done | rfl, hb1⟩

theorem bothB_and (a b k : Int) : bothB a b k = (inB a k && inB b k) := rfl
set_option maxHeartbeats 400000 in
theorem rAdd_any (a b k : Int) (w : World) : Calls Tryz.prog 114 #[.int .i64 a, .int .i64 b, .int .i64 k] w fun e w' => e = addR a b k ∧ w = w' := by
  have hba := bothB_and a b k
  cases h : bothB a b k with
  | false =>
    have HE := Lib.hid (addR_no h)
    rw [h] at hba
    cases ha : inB a k with
    | false =>
      have HA := Lib.hid ha
      clear hba h ha
      go_enter Tryz.func114, Tryz.ntmps114
      go_wp2_with fail
      refine (in_any a k _).mono ?_
      rw [HA.out]
      rintro e w1 ⟨rfl, rfl⟩
      go_wp2_with fail
      refine (in_any b k _).mono ?_
      rintro e w1 ⟨rfl, rfl⟩
      generalize inB b k = q
      go_wp2_with fail
      go_ret2
      exact ⟨HE.out.symm, rfl⟩
    | true =>
      have hb : inB b k = false := by rw [ha] at hba; simpa using hba.symm
      have HA := Lib.hid ha
      have HB := Lib.hid hb
      clear hba h ha hb
      go_enter Tryz.func114, Tryz.ntmps114
      go_wp2_with fail
      refine (in_any a k _).mono ?_
      rw [HA.out]
      rintro e w1 ⟨rfl, rfl⟩
      go_wp2_with fail
      refine (in_any b k _).mono ?_
      rw [HB.out]
      rintro e w1 ⟨rfl, rfl⟩
      go_wp2_with fail
      go_ret2
      exact ⟨HE.out.symm, rfl⟩
  | true =>
    have hp := powV_le k
    obtain ⟨h1, h2, h3, h4⟩ := bothB_yes h
    rw [h] at hba
    have ha : inB a k = true := by cases e : inB a k with
      | true => rfl
      | false => rw [e] at hba; cases hba
    have hb : inB b k = true := by rw [ha] at hba; simpa using hba.symm
    have HA := Lib.hid ha
    have HB := Lib.hid hb
    clear hba ha hb
    have HE := Lib.hid (addR_yes h)
    have HV := Lib.hid (show addV a b k = (a + b) % powV k from rfl)
    clear h
    go_enter Tryz.func114, Tryz.ntmps114
    go_wp2_with fail
    refine (in_any a k _).mono ?_
    rw [HA.out]
    rintro e w1 ⟨rfl, rfl⟩
    go_wp2_with fail
    refine (in_any b k _).mono ?_
    rw [HB.out]
    rintro e w1 ⟨rfl, rfl⟩
    go_wp2_with fail
    refine (rPower_any k _).mono ?_
    rintro e w1 ⟨rfl, rfl⟩
    generalize powV k = p at h2 h4 hp HV
    have hp0 : 0 < p := by omega
    go_wp2_with fail
    go_ret2
    exact ⟨by rw [HE.out, HV.out]; first | done | rfl, rfl⟩

set_option maxHeartbeats 400000 in
theorem rSub_any (a b k : Int) (w : World) : Calls Tryz.prog 111 #[.int .i64 a, .int .i64 b, .int .i64 k] w fun e w' => e = subR a b k ∧ w = w' := by
  have hba := bothB_and a b k
  cases h : bothB a b k with
  | false =>
    have HE := Lib.hid (subR_no h)
    rw [h] at hba
    cases ha : inB a k with
    | false =>
      have HA := Lib.hid ha
      clear hba h ha
      go_enter Tryz.func111, Tryz.ntmps111
      go_wp2_with fail
      refine (in_any a k _).mono ?_
      rw [HA.out]
      rintro e w1 ⟨rfl, rfl⟩
      go_wp2_with fail
      refine (in_any b k _).mono ?_
      rintro e w1 ⟨rfl, rfl⟩
      generalize inB b k = q
      go_wp2_with fail
      go_ret2
      exact ⟨HE.out.symm, rfl⟩
    | true =>
      have hb : inB b k = false := by rw [ha] at hba; simpa using hba.symm
      have HA := Lib.hid ha
      have HB := Lib.hid hb
      clear hba h ha hb
      go_enter Tryz.func111, Tryz.ntmps111
      go_wp2_with fail
      refine (in_any a k _).mono ?_
      rw [HA.out]
      rintro e w1 ⟨rfl, rfl⟩
      go_wp2_with fail
      refine (in_any b k _).mono ?_
      rw [HB.out]
      rintro e w1 ⟨rfl, rfl⟩
      go_wp2_with fail
      go_ret2
      exact ⟨HE.out.symm, rfl⟩
  | true =>
    have hp := powV_le k
    obtain ⟨h1, h2, h3, h4⟩ := bothB_yes h
    rw [h] at hba
    have ha : inB a k = true := by cases e : inB a k with
      | true => rfl
      | false => rw [e] at hba; cases hba
    have hb : inB b k = true := by rw [ha] at hba; simpa using hba.symm
    have HA := Lib.hid ha
    have HB := Lib.hid hb
    clear hba ha hb
    have HE := Lib.hid (subR_yes h)
    have HV := Lib.hid (show subV a b k = (a - b + powV k) % powV k from rfl)
    clear h
    go_enter Tryz.func111, Tryz.ntmps111
    go_wp2_with fail
    refine (in_any a k _).mono ?_
    rw [HA.out]
    rintro e w1 ⟨rfl, rfl⟩
    go_wp2_with fail
    refine (in_any b k _).mono ?_
    rw [HB.out]
    rintro e w1 ⟨rfl, rfl⟩
    go_wp2_with fail
    refine (rPower_any k _).mono ?_
    rintro e w1 ⟨rfl, rfl⟩
    go_wp2_with fail
    refine (rPower_any k _).mono ?_
    rintro e w1 ⟨rfl, rfl⟩
    generalize powV k = p at h2 h4 hp HV
    have hp0 : 0 < p := by omega
    go_wp2_with fail
    go_ret2
    exact ⟨by rw [HE.out, HV.out]; first | done | rfl, rfl⟩
end Go.Proofs.YtogpnlfbdhddmaaGreatDoor
