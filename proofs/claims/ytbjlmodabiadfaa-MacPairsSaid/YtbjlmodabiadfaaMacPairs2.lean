/- THE WALK of the law MacPairs, joined. -/
import Derived.Test.YtbjlmodabiadfaaMacPairs
namespace Go.Proofs.Ytbjlmodabiadfaa
open Go.RowKit

set_option maxRecDepth 100000 in
set_option maxHeartbeats 4000000 in
theorem MacPairs_out (A : Option Addr) (n c : Nat) (A2 : Option Addr) (n2 c2 : Nat) (A3 : Option Addr) (n3 c3 : Nat) (A4 : Option Addr) (n4 c4 : Nat) (w : World) (hout : ¬ (n ≤ 4096 ∧ n2 ≤ 4096 ∧ n4 ≤ 4096)) :
    Calls Try.prog 6 #[.slice A n c, .slice A2 n2 c2, .slice A3 n3 c3, .slice A4 n4 c4] w fun e w' => e = .returned (.bool true) ∧ Below w.heap.size w w' := by
  have hs := Lib.hid (small06_any w)
  have HO := Lib.hid hout
  clear hout
  go_enter Try.func6, Try.ntmps6
  go_wp2_with fail
  refine hs.out.mono ?_
  rintro e w1 ⟨rfl, hb1⟩
  have HB1 := Lib.hid hb1
  clear hb1 hs
  go_wp2_with fail
  all_goals first
    | (go_ret; exact ⟨rfl, HB1.out⟩)
    | (exfalso; have := HO.out; omega)

theorem MacPairs_walk (A : Option Addr) (n c : Nat) (k1 : List UInt8) (A2 : Option Addr) (n2 c2 : Nat) (k2 : List UInt8) (A3 : Option Addr) (n3 c3 : Nat) (L : List (List UInt8)) (A4 : Option Addr) (n4 c4 : Nat) (b : List UInt8) (w : World) (h1 : Reads w w.heap.size 1 A n (bv k1)) (h1c : n ≤ c ∧ c ≤ 140737488351232) (h2 : Reads w w.heap.size 1 A2 n2 (bv k2)) (h2c : n2 ≤ c2 ∧ c2 ≤ 140737488351232)
    (e3 : L.length = n3) (h3 : Parts w (· < w.heap.size) A3 L) (_h3c : n3 ≤ c3 ∧ c3 ≤ 140737488351232 ∧ ∀ s ∈ L, s.length ≤ 140737488351232) (h4 : Reads w w.heap.size 1 A4 n4 (bv b)) (h4c : n4 ≤ c4 ∧ c4 ≤ 140737488351232) :
    Calls Try.prog 6 #[.slice A n c, .slice A2 n2 c2, .slice A3 n3 c3, .slice A4 n4 c4] w fun e w' => e = .returned (.bool true) ∧ Below w.heap.size w w' := by
  by_cases hin : n ≤ 4096 ∧ n2 ≤ 4096 ∧ n4 ≤ 4096
  · exact MacPairs_in A n c k1 A2 n2 c2 k2 A3 n3 c3 L A4 n4 c4 b w h1 h1c.1 h2 h2c.1 e3 h3 h4 h4c.1 hin.1 hin.2.1 hin.2.2
  · exact MacPairs_out A n c A2 n2 c2 A3 n3 c3 A4 n4 c4 w hin
end Go.Proofs.Ytbjlmodabiadfaa
