/- THE WALK of the laws' small case of ffx. -/
import Derived.Test.YtiijjpjkfiookaaDoorFfx5
import Derived.Test.YtiijjpjkfiookaaDoorFfxS
import Derived.Lib.SmallJoins
import Derived.Lib.SlBytesConst
namespace Go.Proofs.YtiijjpjkfiookaaDoor
open Go.RowKit

theorem reads_mark (w : World) (l : List UInt8) (t : TypeId) (fr : Nat × Nat) (C : Array Value) (g n : Nat) (hg : g = w.heap.size) (hC : C.toList = bv l) (hn : l.length = n) : Reads (w.alloc (.cells C t fr)) (g + 1) 1 (some ⟨g, 0, none⟩) n (bv l) := by
  subst hg
  refine ⟨by rw [length_bv]; omega, fun _ => ⟨_, 0, rfl, by omega, fun j u hu => ?_⟩⟩
  rw [Nat.zero_add, ← hu, ← hC, Array.getElem?_toList]
  exact World.cell?_alloc_mark w C t fr j
set_option maxRecDepth 100000 in
set_option maxHeartbeats 4000000 in
theorem small10_any (w : World) : Calls Tryd.prog 29 #[] w fun e w' => e = .returned (.bool true) ∧ Below w.heap.size w w' := by
  have kc := fun (W : World) (C : Array Value) (n c g : Nat) (hg : g = W.heap.size) => Go.Joins.run_convert_bytes_const_at (P := Tryd.prog) W 32 5 C n c g hg Tryd.underlying32 Tryd.underlying5
  have hr1 := reads_mark w smK 5 (16, 17) #[.int .u8 43, .int .u8 126, .int .u8 21, .int .u8 22, .int .u8 40, .int .u8 174, .int .u8 210, .int .u8 166, .int .u8 171, .int .u8 247, .int .u8 21, .int .u8 136, .int .u8 9, .int .u8 207, .int .u8 79, .int .u8 60] w.heap.size 16 rfl rfl rfl
  have HNW := Lib.hid (New_cip smK [] (some ⟨w.heap.size, 0, none⟩) 16 16 none 0 0 (w.heap.size + 1) (w.alloc (.cells #[.int .u8 43, .int .u8 126, .int .u8 21, .int .u8 22, .int .u8 40, .int .u8 174, .int .u8 210, .int .u8 166, .int .u8 171, .int .u8 247, .int .u8 21, .int .u8 136, .int .u8 9, .int .u8 207, .int .u8 79, .int .u8 60] 5 (16, 17))) hr1 (Reads.nil_) (by simp) (by decide))
  clear hr1
  go_enter Tryd.func29, Tryd.ntmps29
  go_wp2_with fail
  clear kc
  refine HNW.out.mono ?_
  rintro e w1 ⟨hb1, ⟨hne, _⟩ | ⟨_, cb, rfl, hcb, hcip⟩⟩
  · exact absurd (cipE_ok (.inl rfl) (by decide)) hne
  have HB1 := Lib.hid (((Below.refl w.heap.size w).alloc (Nat.le_refl _) _).trans (hb1.mono (by simp)))
  have HEN := Lib.hid (FEncrypt_any cb _ smK [] ⟨#[48, 49, 50, 51, 52, 53, 54, 55, 56, 57]⟩ w1 hcip (.inl rfl) (by decide) (by decide))
  rw [show (⟨#[48, 49, 50, 51, 52, 53, 54, 55, 56, 57]⟩ : ByteArray).data.toList = smA from rfl, small_enc.2] at HEN
  clear hb1 hcip
  go_wp2_with fail
  refine HEN.out.mono ?_
  rintro e w2 ⟨rfl, hco⟩
  obtain ⟨X2, hc2, hnx⟩ := hco.next
  have HDE := Lib.hid (FDecrypt_any cb X2 smK [] ⟨smB.toArray⟩ w2 hc2 (.inl rfl) (by decide) (by decide))
  rw [show (⟨smB.toArray⟩ : ByteArray).data.toList = smB from rfl, small_dec.2] at HDE
  have HNX := Lib.hid hnx
  clear hco hc2 hnx
  rw [small_enc.1]
  go_wp2_with fail
  refine HDE.out.mono ?_
  rintro e w3 ⟨rfl, hco3⟩
  obtain ⟨X3, q1, q2, q3⟩ := HNX.out _ hco3
  rw [small_dec.1]
  have hbf : Below w.heap.size w w3 := HB1.out.trans (q3.below (B := w.heap.size) (by have := HB1.out.size; omega) (fun k hk hx => by
    have h9 : (w.alloc (.cells #[.int .u8 43, .int .u8 126, .int .u8 21, .int .u8 22, .int .u8 40, .int .u8 174, .int .u8 210, .int .u8 166, .int .u8 171, .int .u8 247, .int .u8 21, .int .u8 136, .int .u8 9, .int .u8 207, .int .u8 79, .int .u8 60] 5 (16, 17))).heap.size ≤ k := hx
    simp at h9; omega))
  have HBF := Lib.hid hbf
  clear q1 q2 q3 hbf hco3 X3
  have b1 : ((⟨smB.toArray⟩ : ByteArray) == ⟨#[50, 52, 51, 51, 52, 55, 55, 52, 56, 52]⟩) = true := by decide
  have b2 : ((⟨smA.toArray⟩ : ByteArray) == ⟨#[48, 49, 50, 51, 52, 53, 54, 55, 56, 57]⟩) = true := by decide
  go_wp2_with fail
  go_ret
  exact ⟨rfl, HBF.out⟩
end Go.Proofs.YtiijjpjkfiookaaDoor
