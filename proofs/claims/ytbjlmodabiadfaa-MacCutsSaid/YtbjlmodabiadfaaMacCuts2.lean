/- THE WALK of the law MacCuts, joined. -/
import Derived.Test.YtbjlmodabiadfaaMacCuts
namespace Go.Proofs.Ytbjlmodabiadfaa
open Go.RowKit

set_option maxRecDepth 100000 in
set_option maxHeartbeats 4000000 in
theorem MacCuts_out (A : Option Addr) (n c : Nat) (A2 : Option Addr) (n2 c2 : Nat) (at_ q : Int) (A4 : Option Addr) (n4 c4 : Nat) (to_ : Int) (w : World) (hout : ¬ (n ≤ 4096 ∧ n2 ≤ 4096 ∧ n4 ≤ 8 ∧ 0 ≤ at_ ∧ at_ ≤ n2 ∧ 0 ≤ to_ ∧ to_ ≤ n4)) :
    Calls Try.prog 8 #[.slice A n c, .slice A2 n2 c2, .int .i64 at_, .int .i64 q, .slice A4 n4 c4, .int .i64 to_] w fun e w' => e = .returned (.bool true) ∧ Below w.heap.size w w' := by
  have hs := Lib.hid (small06_any w)
  have HO := Lib.hid hout
  clear hout
  go_enter Try.func8, Try.ntmps8
  go_wp2_with fail
  refine hs.out.mono ?_
  rintro e w1 ⟨rfl, hb1⟩
  have HB1 := Lib.hid hb1
  clear hb1 hs
  go_wp2_with fail
  all_goals first
    | (go_ret; exact ⟨rfl, HB1.out⟩)
    | (exfalso; have := HO.out; omega)

theorem MacCuts_walk (A : Option Addr) (n c : Nat) (k : List UInt8) (A2 : Option Addr) (n2 c2 : Nat) (b : List UInt8) (at_ q : Int) (A4 : Option Addr) (n4 c4 : Nat) (L : List ByteArray) (to_ : Int) (w : World) (h1 : Reads w w.heap.size 1 A n (bv k)) (h1c : n ≤ c ∧ c ≤ 140737488351232) (h2 : Reads w w.heap.size 1 A2 n2 (bv b)) (h2c : n2 ≤ c2 ∧ c2 ≤ 140737488351232)
    (_hat : (Lit.int .i64 at_).wf) (_hq : (Lit.int .i64 q).wf) (e4 : L.length = n4) (h4 : Strs w (· < w.heap.size) A4 L) (h4c : n4 ≤ c4 ∧ c4 ≤ 140737488351232 ∧ ∀ s ∈ L, s.size ≤ 140737488351232) (_hto : (Lit.int .i64 to_).wf) :
    Calls Try.prog 8 #[.slice A n c, .slice A2 n2 c2, .int .i64 at_, .int .i64 q, .slice A4 n4 c4, .int .i64 to_] w fun e w' => e = .returned (.bool true) ∧ Below w.heap.size w w' := by
  by_cases hin : n ≤ 4096 ∧ n2 ≤ 4096 ∧ n4 ≤ 8 ∧ 0 ≤ at_ ∧ at_ ≤ n2 ∧ 0 ≤ to_ ∧ to_ ≤ n4
  · obtain ⟨g1, g2, g3, g4, g5, g6, g7⟩ := hin
    obtain ⟨a', rfl⟩ := Int.eq_ofNat_of_zero_le g4
    obtain ⟨t', rfl⟩ := Int.eq_ofNat_of_zero_le g6
    exact MacCuts_in A n c k A2 n2 c2 b a' q A4 n4 c4 L t' w h1 h1c.1 h2 h2c.1 e4 h4 h4c.1 g1 g2 g3 (by omega) (by omega)
  · exact MacCuts_out A n c A2 n2 c2 at_ q A4 n4 c4 to_ w hin
end Go.Proofs.Ytbjlmodabiadfaa
