/- PLAIN: the small case of FF1, reckoned. -/
import Derived.Test.YtiijjpjkfiookaaDoorFfxP
namespace Go.Proofs.YtiijjpjkfiookaaDoor

def smK : List UInt8 := [0x2b, 0x7e, 0x15, 0x16, 0x28, 0xae, 0xd2, 0xa6, 0xab, 0xf7, 0x15, 0x88, 0x09, 0xcf, 0x4f, 0x3c]
def smA : List UInt8 := [48, 49, 50, 51, 52, 53, 54, 55, 56, 57]
def smB : List UInt8 := [50, 52, 51, 51, 52, 55, 55, 52, 56, 52]
theorem enc_step {f : Nat → Nat → Nat} {n a b i x y m z : Nat} (h : encAt f n a b i = (x, y)) (hm : f i y = m) (hz : (x + m) % 10 ^ halfN n i = z) : encAt f n a b (i + 1) = (y, z) := by
  show ((encAt f n a b i).2, ((encAt f n a b i).1 + f i (encAt f n a b i).2) % 10 ^ halfN n i) = _
  rw [h]
  show (y, (x + f i y) % 10 ^ halfN n i) = _
  rw [hm, hz]
set_option maxRecDepth 100000 in
theorem sm0 : maskV smK [] 10 0 56789 = 60536 := by decide +kernel
set_option maxRecDepth 100000 in
theorem sm1 : maskV smK [] 10 1 61770 = 55248 := by decide +kernel
set_option maxRecDepth 100000 in
theorem sm2 : maskV smK [] 10 2 12037 = 94867 := by decide +kernel
set_option maxRecDepth 100000 in
theorem sm3 : maskV smK [] 10 3 56637 = 82370 := by decide +kernel
set_option maxRecDepth 100000 in
theorem sm4 : maskV smK [] 10 4 94407 = 87727 := by decide +kernel
set_option maxRecDepth 100000 in
theorem sm5 : maskV smK [] 10 5 44364 = 90358 := by decide +kernel
set_option maxRecDepth 100000 in
theorem sm6 : maskV smK [] 10 6 84765 = 39560 := by decide +kernel
set_option maxRecDepth 100000 in
theorem sm7 : maskV smK [] 10 7 83924 = 48570 := by decide +kernel
set_option maxRecDepth 100000 in
theorem sm8 : maskV smK [] 10 8 33335 = 40410 := by decide +kernel
set_option maxRecDepth 100000 in
theorem sm9 : maskV smK [] 10 9 24334 = 44149 := by decide +kernel
theorem sm_enc : encAt (maskV smK [] 10) 10 1234 56789 10 = (24334, 77484) := by
  have h0 : encAt (maskV smK [] 10) 10 1234 56789 0 = (1234, 56789) := rfl
  have h1 := enc_step h0 sm0 (z := 61770) (by decide)
  have h2 := enc_step h1 sm1 (z := 12037) (by decide)
  have h3 := enc_step h2 sm2 (z := 56637) (by decide)
  have h4 := enc_step h3 sm3 (z := 94407) (by decide)
  have h5 := enc_step h4 sm4 (z := 44364) (by decide)
  have h6 := enc_step h5 sm5 (z := 84765) (by decide)
  have h7 := enc_step h6 sm6 (z := 83924) (by decide)
  have h8 := enc_step h7 sm7 (z := 33335) (by decide)
  have h9 := enc_step h8 sm8 (z := 24334) (by decide)
  have h10 := enc_step h9 sm9 (z := 77484) (by decide)
  exact h10
theorem small_enc : nmE smA = 0 ∧ encR smK [] smA = smB := by
  have h : nmE smA = 0 := by decide
  refine ⟨h, ?_⟩
  unfold encR encT
  rw [if_pos h, show smA.length = 10 from rfl, show valD (smA.take (10 / 2)) = 1234 from by decide, show valD (smA.drop (10 / 2)) = 56789 from by decide, sm_enc]
  decide
theorem small_dec : nmE smB = 0 ∧ decR smK [] smB = smA := by
  have h := dec_encT smK [] small_enc.1
  have he : encT smK [] smA = smB := by
    have := small_enc.2
    unfold encR at this
    rwa [if_pos small_enc.1] at this
  rw [he] at h
  exact ⟨h.2.1, by unfold decR; rw [if_pos h.2.1]; exact h.1⟩
end Go.Proofs.YtiijjpjkfiookaaDoor
