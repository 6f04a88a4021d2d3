/- THE WALKS of digits: the text of a number. -/
import Derived.Test.YtiijjpjkfiookaaDoorDigPack
namespace Go.Proofs.YtiijjpjkfiookaaDoor
open Go.RowKit
theorem ret_str {k : IntKind} {a b : List UInt8} {c d : Int} (h : a = b) (h' : c = d) : Ending.returned (.tuple #[.string ⟨a.toArray⟩, .int k c]) = .returned (.tuple #[.string ⟨b.toArray⟩, .int k d]) := by rw [h, h']
/-- Cell j of the text when k digits have been laid. -/
def txAt (n w k j : Nat) : Nat := if w - k ≤ j ∧ j < w then 48 + n / 10 ^ (w - 1 - j) % 10 else 0
theorem tx_zero (n w j : Nat) : txAt n w 0 j = 0 := by unfold txAt; rw [if_neg (by omega)]
theorem tx_hit (n w k : Nat) (hk : k < w) : txAt n w (k + 1) (w - 1 - k) = 48 + n / 10 ^ k % 10 := by
  unfold txAt; rw [if_pos (by omega), show w - 1 - (w - 1 - k) = k by omega]
theorem tx_other (n w k j : Nat) (_hk : k < w) (hj : j ≠ w - 1 - k) : txAt n w (k + 1) j = txAt n w k j := by
  unfold txAt
  by_cases h : w - k ≤ j ∧ j < w
  · rw [if_pos h, if_pos (by omega)]
  · rw [if_neg h, if_neg (by omega)]
theorem tx_end (n w : Nat) : bv (textD n w) = (List.range w).map fun j => Value.int .u8 (txAt n w w j) := by
  unfold bv textD
  rw [List.map_map]
  refine List.map_congr_left fun j hj => ?_
  have hj' := List.mem_range.1 hj
  simp only [Function.comp]
  unfold txAt
  rw [sg_toNat (by omega), if_pos (by omega)]
theorem nineteen (w : World) (T : TypeId) : (w.alloc (.cells #[.int .u8 0, .int .u8 0, .int .u8 0, .int .u8 0, .int .u8 0, .int .u8 0, .int .u8 0, .int .u8 0, .int .u8 0, .int .u8 0, .int .u8 0, .int .u8 0, .int .u8 0, .int .u8 0, .int .u8 0, .int .u8 0, .int .u8 0, .int .u8 0, .int .u8 0] T)).rowIs w.heap.size T 19 (fun _ => .int .u8 0) := by
  refine ⟨_, (MapKept.heap_alloc w _).1, rfl, fun i hi => ?_⟩
  have h : (#[.int .u8 0, .int .u8 0, .int .u8 0, .int .u8 0, .int .u8 0, .int .u8 0, .int .u8 0, .int .u8 0, .int .u8 0, .int .u8 0, .int .u8 0, .int .u8 0, .int .u8 0, .int .u8 0, .int .u8 0, .int .u8 0, .int .u8 0, .int .u8 0, .int .u8 0] : Array Value) = Array.replicate 19 (.int .u8 0) := rfl
  rw [h, Array.getElem?_replicate, if_pos hi]

set_option maxHeartbeats 1000000 in
theorem Text_in (n wd : Int) (w : World) (h : ¬ (n < 0 ∨ wd < 1 ∨ 19 < wd)) (h63 : n ≤ 9223372036854775807) :
    Calls Tryd.prog 37 #[.int .i64 n, .int .i64 wd] w fun e w' => e = .returned (.tuple #[.string ⟨(textV n wd).toArray⟩, .int .i64 (textE n wd)]) ∧ Below w.heap.size w w' := by
  obtain ⟨m, rfl⟩ : ∃ m : Nat, n = m := ⟨n.toNat, by omega⟩
  obtain ⟨v, rfl⟩ : ∃ v : Nat, wd = v := ⟨wd.toNat, by omega⟩
  have h1 : 0 ≤ (m : Int) := by omega
  have h2 : 1 ≤ (v : Int) := by omega
  have h3 : (v : Int) ≤ 19 := by omega
  have H := Lib.hid h; clear h
  go_enter Tryd.func37, Tryd.ntmps37
  go_wp2_with fail
  go_loopw [0, 19] (fun n c wr => ∃ k q : Nat, k ≤ v ∧ c = .int .i64 k ∧ n = .int .i64 q ∧ q ≤ m ∧ q = m / 10 ^ k ∧ wr.rowIs w.heap.size 71 19 (fun j => .int .u8 (txAt m v k j)) ∧ Below w.heap.size w wr) (fun _ i _ => v - (intOf i).toNat)
  case atStart => exact ⟨0, m, by omega, rfl, rfl, Nat.le_refl _, by simp, (nineteen w _).congr fun j _ => by rw [tx_zero]; rfl, (Below.refl _ _).alloc (Nat.le_refl _) _⟩
  case round =>
    obtain ⟨k, q, hk, rfl, rfl, hqm, hq, hrow, hbel⟩ := hrel
    have HQ := Lib.hid hq; clear hq
    have HR := Lib.hid hrow
    by_cases hlt : k < v
    · have hc := hrow.cell (i := v - 1 - k) (by omega)
      have hf := hrow.frozen (v - 1 - k)
      clear hrow
      go_wp2
      go_roundw
      case rel =>
        refine ⟨k + 1, q / 10, by omega, by go_num, by go_num, Nat.le_trans (Nat.div_le_self _ _) hqm, by rw [HQ.out, div_pow_succ], (HR.out.set _ _).congr fun j _ => ?_, hbel.setCell (Nat.le_refl _) _⟩
        by_cases e : j = v - 1 - k
        · rw [if_pos e, e, tx_hit _ _ _ hlt, ← HQ.out]; congr 1
        · rw [if_neg e, tx_other _ _ _ _ hlt e]
      case measure => simp [intOf]; omega
    · obtain rfl : k = v := by omega
      clear hrow
      have hcv := run_conv_bytes (P := Tryd.prog) Tryd.underlying32 Tryd.underlying5 Tryd.underlying9 (cap := 19) (l := textD m k)
        (((Row.of_rowIs (base := 0) HR.out (by omega) (by unfold maxLen; omega)).reads.take (k := k) (by omega)).congr_ (by
          rw [tx_end, Nat.mul_one, ← List.map_take, List.take_range, Nat.min_eq_left (by omega)]))
      by_cases hz : 0 < q
      · have he := Lib.hid (textE_num H.out (by rw [Int.toNat_natCast, Int.toNat_natCast, ← HQ.out]; exact hz))
        go_wp2
        go_ret2
        exact ⟨ret_str (by rw [textV_no (by rw [he.out]; decide)]) he.out.symm, hbel⟩
      · have he := Lib.hid (textE_ok H.out (by rw [Int.toNat_natCast, Int.toNat_natCast, ← HQ.out]; exact hz))
        go_wp2
        go_ret2
        exact ⟨ret_str (by rw [textV_ok he.out]; simp) he.out.symm, hbel⟩

theorem Text_any (n wd : Int) (w : World) (h63 : n ≤ 9223372036854775807) :
    Calls Tryd.prog 37 #[.int .i64 n, .int .i64 wd] w fun e w' => e = .returned (.tuple #[.string ⟨(textV n wd).toArray⟩, .int .i64 (textE n wd)]) ∧ Below w.heap.size w w' := by
  by_cases h : n < 0 ∨ wd < 1 ∨ 19 < wd
  · have he := Lib.hid (textE_arg h)
    by_cases h1 : n < 0
    · clear h
      go_enter Tryd.func37, Tryd.ntmps37
      go_wp2_with fail
      go_ret2
      exact ⟨ret_str (a := []) (by rw [textV_no (by rw [he.out]; decide)]) he.out.symm, Below.refl _ _⟩
    · by_cases h2 : wd < 1
      · clear h
        go_enter Tryd.func37, Tryd.ntmps37
        go_wp2_with fail
        go_ret2
        exact ⟨ret_str (a := []) (by rw [textV_no (by rw [he.out]; decide)]) he.out.symm, Below.refl _ _⟩
      · have h3 : 19 < wd := by omega
        clear h
        go_enter Tryd.func37, Tryd.ntmps37
        go_wp2_with fail
        go_ret2
        exact ⟨ret_str (a := []) (by rw [textV_no (by rw [he.out]; decide)]) he.out.symm, Below.refl _ _⟩
  · exact Text_in n wd w h h63
end Go.Proofs.YtiijjpjkfiookaaDoor
