/- THE WALKS of the small case of the laws of roles, and of the laws RolesNone, RolesHides. -/
import Derived.Test.YtnhcabcpdlgdaaaDoorAdm4
import Derived.Test.YtnhcabcpdlgdaaaDoorAdm5
namespace Go.Proofs.YtnhcabcpdlgdaaaDoor
open Go.RowKit

def a0 : Adm := ⟨2, 4, 1, 7, ⟨#[52, 49, 49, 49]⟩, 0, 0, 0, 0⟩
theorem a0_err : a0.err = 0 := by decide
theorem a0_len : a0.bytes.length = 47 := rfl
theorem a0_out : a0.out = a0.bytes := if_pos a0_err
theorem a0_wf : a0.Wf := by constructor <;> first | (simp only [fits, a0]; omega) | decide
theorem a0_note : (⟨(noteL a0).toArray⟩ : ByteArray) = ⟨#[97, 100, 109, 105, 110, 32, 50, 32, 52, 32, 52, 49, 49, 49]⟩ := by
  have e2 : dec 2 = [50] := dec_one (by decide)
  have e4 : dec 4 = [52] := dec_one (by decide)
  have h : noteL a0 = headS ++ (dec 2 ++ (32 :: (dec 4 ++ [32, 52, 49, 49, 49]))) := rfl
  rw [h, e2, e4]; rfl
theorem bytes_small (w : World) : Calls Tryd.prog 33 #[.agg #[.int .i64 2, .int .i64 4, .int .i64 1, .int .i64 7, .string ⟨#[52, 49, 49, 49]⟩, .int .i64 0, .int .i64 0, .int .i64 0, .int .i64 0]] w
    fun e w' => ∃ A c, e = .returned (.tuple #[.slice A 47 c, .int .i64 0]) ∧ Row w' w.heap.size 1 A 47 c (bv a0.bytes) ∧ Below w.heap.size w w' := by
  refine (Bytes_any a0 w a0_wf).mono ?_
  rintro e w' ⟨A, c, rfl, hr, hb⟩
  rw [a0_out, a0_len] at hr
  exact ⟨A, c, by rw [a0_out, a0_len, a0_err], hr, hb⟩
theorem parse_small (A : Option Addr) (c B : Nat) (w : World) (hr : Reads w B 1 A 47 (bv a0.bytes)) (hB : B ≤ w.heap.size) (hc : 47 ≤ c ∧ c ≤ 9223372036854775807) :
    Calls Tryd.prog 34 #[.slice A 47 c] w fun e w' => e = .returned (.tuple #[.agg #[.int .i64 2, .int .i64 4, .int .i64 1, .int .i64 7, .string ⟨#[52, 49, 49, 49]⟩, .int .i64 0, .int .i64 0, .int .i64 0, .int .i64 0], .int .i64 0]) ∧ Below w.heap.size w w' := by
  have h := Parse_any A 47 c B a0.bytes w hr hB hc
  obtain ⟨h1, h2⟩ := parse_bytes a0_wf a0_err
  rw [h1, h2] at h
  exact h
theorem note_small (w : World) (ht : Tab w) : Calls Tryd.prog 30 #[.agg #[.int .i64 2, .int .i64 4, .int .i64 1, .int .i64 7, .string ⟨#[52, 49, 49, 49]⟩, .int .i64 0, .int .i64 0, .int .i64 0, .int .i64 0]] w
    fun e w' => e = .returned (.string ⟨#[97, 100, 109, 105, 110, 32, 50, 32, 52, 32, 52, 49, 49, 49]⟩) ∧ Below w.heap.size w w' := by
  have h := Note_any a0 w a0_wf ht
  rw [a0_note] at h
  exact h
theorem may_28 (w : World) : Calls Tryd.prog 26 #[.int .i64 2, .int .i64 8] w fun e w' => e = .returned (.bool true) ∧ Below w.heap.size w w' := May_any 2 8 w
theorem may_38 (w : World) : Calls Tryd.prog 26 #[.int .i64 3, .int .i64 8] w fun e w' => e = .returned (.bool false) ∧ Below w.heap.size w w' := May_any 3 8 w

set_option maxRecDepth 100000 in
set_option maxHeartbeats 4000000 in
theorem small23_any (w : World) (ht : Tab w) : Calls Tryd.prog 25 #[] w fun e w' => e = .returned (.bool true) ∧ Below w.heap.size w w' := by
  have hq := fun w => eqAdmV 2 4 1 7 ⟨#[52, 49, 49, 49]⟩ 0 0 0 0 2 4 1 7 ⟨#[52, 49, 49, 49]⟩ 0 0 0 0 w
  rw [show (Adm.mk 2 4 1 7 ⟨#[52, 49, 49, 49]⟩ 0 0 0 0).same (Adm.mk 2 4 1 7 ⟨#[52, 49, 49, 49]⟩ 0 0 0 0) = true from same_iff.2 rfl] at hq
  have HT := Lib.hid ht
  clear ht
  go_enter Tryd.func25, Tryd.ntmps25
  go_wp2_with fail
  refine (bytes_small _).mono ?_
  rintro e w1 ⟨A, c, rfl, hr, hb⟩
  have hc := hr.2
  have HR := Lib.hid hr
  obtain ⟨hat, hs1, hbw⟩ := adm_box (a := a0) hb
  have HAT1 := Lib.hid hat
  have HB1 := Lib.hid hbw
  clear hr hb hat hbw
  go_wp2_with fail
  refine (parse_small A c w1.heap.size w1 HR.out.reads (Nat.le_refl _) ⟨hc.1, by have := hc.2.1; unfold maxLen at this; exact this⟩).mono ?_
  rintro e w2 ⟨rfl, hb2⟩
  have hs2 := hb2.size
  have HAT2 := Lib.hid (HAT1.out.below hb2 hs1)
  have HB2 := Lib.hid (HB1.out.trans (hb2.mono HB1.out.size))
  clear hb2 HAT1 hc
  go_wp2_with fail
  refine (may_28 _).mono ?_
  rintro e w3 ⟨rfl, hb3⟩
  have h3 := adm_box (a := a0) hb3
  have HAT3 := Lib.hid (HAT2.out.below h3.2.2 (by omega))
  have HCT3 := Lib.hid h3.1
  have HB3 := Lib.hid (HB2.out.trans (h3.2.2.mono HB2.out.size))
  have hs3 := h3.2.1
  clear hb3 h3 HAT2
  go_wp2_with fail
  refine (may_38 _).mono ?_
  rintro e w4 ⟨rfl, hb4⟩
  have HAT4 := Lib.hid (HAT3.out.below hb4 (by omega))
  have HCT4 := Lib.hid (HCT3.out.below hb4 hs3)
  have HB4 := Lib.hid (HB3.out.trans (hb4.mono HB3.out.size))
  clear hb4 HAT3 HCT3
  obtain ⟨c0, c1, c2, c3, c4, c5, c6, c7, c8⟩ := HAT4.out
  obtain ⟨d0, d1, d2, d3, d4, d5, d6, d7, d8⟩ := HCT4.out
  simp only [a0] at c0 d0 c1 d1 c2 d2 c3 d3 c4 d4 c5 d5 c6 d6 c7 d7 c8 d8
  go_wp2_with fail
  refine (note_small _ (HT.out.below HB4.out)).mono ?_
  rintro e w5 ⟨rfl, hb5⟩
  have HB5 := Lib.hid (HB4.out.trans (hb5.mono HB4.out.size))
  clear hb5
  go_wp2_with fail
  go_ret
  exact ⟨rfl, HB5.out⟩
end Go.Proofs.YtnhcabcpdlgdaaaDoor
