/- THE WALK of the law MacFolds, joined. -/
import Derived.Test.YtbjlmodabiadfaaMacFolds
namespace Go.Proofs.Ytbjlmodabiadfaa
open Go.RowKit

set_option maxRecDepth 100000 in
set_option maxHeartbeats 4000000 in
theorem MacFolds_out (A : Option Addr) (n c : Nat) (A4 : Option Addr) (n4 c4 : Nat) (w : World) (hout : ¬ (n ≤ 4096 ∧ n4 ≤ 8)) :
    Calls Try.prog 7 #[.slice A n c, .slice A4 n4 c4] w fun e w' => e = .returned (.bool true) ∧ Below w.heap.size w w' := by
  have hs := Lib.hid (small06_any w)
  have HO := Lib.hid hout
  clear hout
  go_enter Try.func7, Try.ntmps7
  go_wp2_with fail
  refine hs.out.mono ?_
  rintro e w1 ⟨rfl, hb1⟩
  have HB1 := Lib.hid hb1
  clear hb1 hs
  go_wp2_with fail
  all_goals first
    | (go_ret; exact ⟨rfl, HB1.out⟩)
    | (exfalso; have := HO.out; omega)

theorem MacFolds_walk (A : Option Addr) (n c : Nat) (k : List UInt8) (A4 : Option Addr) (n4 c4 : Nat) (L : List ByteArray) (w : World) (h1 : Reads w w.heap.size 1 A n (bv k)) (h1c : n ≤ c ∧ c ≤ 140737488351232)
    (e4 : L.length = n4) (h4 : Strs w (· < w.heap.size) A4 L) (_h4c : n4 ≤ c4 ∧ c4 ≤ 140737488351232 ∧ ∀ s ∈ L, s.size ≤ 140737488351232) :
    Calls Try.prog 7 #[.slice A n c, .slice A4 n4 c4] w fun e w' => e = .returned (.bool true) ∧ Below w.heap.size w w' := by
  by_cases hin : n ≤ 4096 ∧ n4 ≤ 8
  · exact MacFolds_in A n c k A4 n4 c4 L w h1 h1c.1 e4 h4 hin.1 hin.2
  · exact MacFolds_out A n c A4 n4 c4 w hin
end Go.Proofs.Ytbjlmodabiadfaa
