/- PLAIN: a number's digits, one by one. -/
import Derived.Test.YtnhcabcpdlgdaaaDoorDigPure
import Derived.Lib.ItoaNum
namespace Go.Proofs.YtnhcabcpdlgdaaaDoor

/-! ### a number's digits -/
def dec (n : Nat) : List UInt8 := Go.Lib.decDigits n
theorem dec_one {n : Nat} (h : n < 10) : dec n = [sg n] := Go.Lib.decDigits_one h
theorem dec_more {n : Nat} (h : ¬ n < 10) : dec n = dec (n / 10) ++ [sg (n % 10)] := by
  unfold dec
  rw [Go.Lib.decDigits, dif_neg h]
  rfl
end Go.Proofs.YtnhcabcpdlgdaaaDoor
