/- THE WALK of the law MacTags, joined. -/
import Derived.Test.YtbjlmodabiadfaaMacTags
namespace Go.Proofs.Ytbjlmodabiadfaa
open Go.RowKit

set_option maxRecDepth 100000 in
set_option maxHeartbeats 4000000 in
theorem MacTags_out (A : Option Addr) (n c : Nat) (A2 : Option Addr) (n2 c2 : Nat) (A3 : Option Addr) (n3 c3 : Nat) (w : World) (hout : ¬ (n ≤ 4096 ∧ n2 ≤ 4096 ∧ n3 ≤ 4096)) :
    Calls Try.prog 3 #[.slice A n c, .slice A2 n2 c2, .slice A3 n3 c3] w fun e w' => e = .returned (.bool true) ∧ Below w.heap.size w w' := by
  have hs := Lib.hid (small06_any w)
  have HO := Lib.hid hout
  clear hout
  go_enter Try.func3, Try.ntmps3
  go_wp2_with fail
  refine hs.out.mono ?_
  rintro e w1 ⟨rfl, hb1⟩
  have HB1 := Lib.hid hb1
  clear hb1 hs
  go_wp2_with fail
  all_goals first
    | (go_ret; exact ⟨rfl, HB1.out⟩)
    | (exfalso; have := HO.out; omega)

theorem MacTags_walk (A : Option Addr) (n c : Nat) (key : List UInt8) (A2 : Option Addr) (n2 c2 : Nat) (a : List UInt8) (A3 : Option Addr) (n3 c3 : Nat) (b : List UInt8) (w : World) (h1 : Reads w w.heap.size 1 A n (bv key)) (_h1c : n ≤ c ∧ c ≤ 140737488351232)
    (h2 : Reads w w.heap.size 1 A2 n2 (bv a)) (h2c : n2 ≤ c2 ∧ c2 ≤ 140737488351232) (h3 : Reads w w.heap.size 1 A3 n3 (bv b)) (h3c : n3 ≤ c3 ∧ c3 ≤ 140737488351232) :
    Calls Try.prog 3 #[.slice A n c, .slice A2 n2 c2, .slice A3 n3 c3] w fun e w' => e = .returned (.bool true) ∧ Below w.heap.size w w' := by
  by_cases hin : n ≤ 4096 ∧ n2 ≤ 4096 ∧ n3 ≤ 4096
  · exact MacTags_in A n c key A2 n2 c2 a A3 n3 c3 b w h1 h2 h2c.1 h3 h3c.1 hin.1 hin.2.1 hin.2.2
  · exact MacTags_out A n c A2 n2 c2 A3 n3 c3 w hin
end Go.Proofs.Ytbjlmodabiadfaa
