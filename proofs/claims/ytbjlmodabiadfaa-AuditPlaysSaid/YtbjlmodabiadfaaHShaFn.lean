/- THE WALK of sha.Sum. -/
import Derived.Test.YtbjlmodabiadfaaHShaSum
namespace Go.Proofs.Ytbjlmodabiadfaa
open Go.RowKit

set_option maxHeartbeats 1000000 in
theorem sSum_any (L : List (List UInt8)) (PA : Option Addr) (pc : Nat) (R : Nat → Prop) (w : World) (hp : Parts w R PA L) (hR : ∀ k, R k → k < w.heap.size) (hlen : L.length ≤ 140737488351232) (hsum : L.flatten.length ≤ 1152921504606846976) :
    Calls Try.prog 24 #[.slice PA L.length pc] w fun e w' => RowOut (Sha.sum L.flatten) w e w' := by
  have HP := Lib.hid hp
  have HR := Lib.hid hR
  clear hp hR
  go_enter Try.func24, Try.ntmps24
  go_wp2_with fail
  refine (New_any w).mono ?_
  rintro e w1 ⟨rfl, hh, hb1, hs1⟩
  have HH := Lib.hid (hh (fun _ => False))
  clear hh
  generalize hn : w1.heap.size - 1 = hb at HH
  have hhb : hb < w1.heap.size := HH.out.lt
  have hbn : w.heap.size ≤ hb := by omega
  have HB1 := Lib.hid hb1
  clear hb1 hn
  go_wp2_with fail
  refine (Write_any hb (fun _ => False) [] L PA pc R w1 0 HH.out (HP.out.keep fun k hk => HB1.out.block k (HR.out k hk)) (fun k hk => by have := HR.out k hk; exact ⟨by omega, by omega, fun h => h⟩) hlen (by omega)).mono ?_
  rintro e w2 ⟨rfl, hh2, hg2⟩
  rw [List.nil_append, Nat.zero_add] at hh2
  have HH2 := Lib.hid hh2
  have HG2 := Lib.hid hg2
  clear hh2 hg2
  go_wp2_with fail
  refine (HSum_any hb _ L.flatten w2 HH2.out hsum).mono ?_
  rintro e w3 ⟨A, c, rfl, hrow, hb3⟩
  have HROW := Lib.hid hrow
  have HB3 := Lib.hid hb3
  clear hrow hb3
  go_wp2_with fail
  go_ret
  have hb2 : Below w.heap.size w w2 := HB1.out.trans (HG2.out.below (by omega) fun k _ hk => by rcases hk with rfl | hk; exact hbn; exact hk.elim)
  exact ⟨A, c, rfl, HROW.out.mono hb2.size, hb2.trans (HB3.out.mono hb2.size)⟩
end Go.Proofs.Ytbjlmodabiadfaa
