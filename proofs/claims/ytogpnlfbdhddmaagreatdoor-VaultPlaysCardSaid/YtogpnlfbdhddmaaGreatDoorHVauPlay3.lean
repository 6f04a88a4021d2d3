/- VaultPlays, as its law asks for it. -/
import Derived.Test.YtogpnlfbdhddmaaGreatDoorHVauPlay2
namespace Go.Proofs.YtogpnlfbdhddmaaGreatDoor
open Go.RowKit
theorem VaultPlays_law (A : Option Addr) (n c : Nat) (m : List UInt8) (t v : Int) (A3 : Option Addr) (N c3 : Nat) (L : List VAct) (w : World) (hrk : Reads w w.heap.size 1 A n (bv m)) (hc : n ≤ c ∧ c ≤ 140737488351232) (_h1 : (Lit.int .i64 t).wf = true) (_h2 : (Lit.int .i64 v).wf = true) (hL : L.length = N) (hact : Acts w A3 L)
    (hN : N ≤ c3 ∧ c3 ≤ 140737488351232 ∧ ∀ r ∈ L, -9223372036854775808 ≤ r.kind ∧ r.kind ≤ 9223372036854775807 ∧ -9223372036854775808 ≤ r.num ∧ r.num ≤ 9223372036854775807 ∧ r.text.size ≤ 140737488351232) (ht : Tab w) :
    Calls Tryz.prog 5 #[.slice A n c, .int .i64 t, .int .i64 v, .slice A3 N c3] w fun e w' => e = .returned (.bool true) ∧ Below w.heap.size w w' :=
  VaultPlays_walk A n c m t v A3 N c3 L w hrk hc hL hact ⟨hN.1, hN.2.1⟩ (fun r hr => by
    obtain ⟨a1, a2, a3, a4, a5⟩ := hN.2.2 r hr
    exact ⟨a1, a2, a3, a4, by unfold maxLen; omega⟩) ht
end Go.Proofs.YtogpnlfbdhddmaaGreatDoor
