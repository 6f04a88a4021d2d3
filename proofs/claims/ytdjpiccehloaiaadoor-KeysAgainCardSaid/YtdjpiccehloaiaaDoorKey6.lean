/- THE WALKS of the small case of the laws of keys, and of the law KeysNames. -/
import Derived.Test.YtdjpiccehloaiaaDoorKey5
namespace Go.Proofs.YtdjpiccehloaiaaDoor
open Go.RowKit

theorem make16 (w : World) : (Instr.makeSlice 22 (.int .i64 16) (.int .i64 16)).run Tryd.prog w = .ok (.slice (some ⟨w.heap.size, 0, none⟩) 16 16) (w.alloc (.cells (bv (zeros 16)).toArray 5)) := by kernel_rfl
theorem keyOk_one : keyOk 1 1 1 = true := by decide
theorem keyOk_zero : keyOk 0 1 1 = false := by decide
set_option maxRecDepth 100000 in
set_option maxHeartbeats 4000000 in
theorem small13_any (w : World) (ht : Tab w) : Calls Tryd.prog 7 #[] w fun e w' => e = .returned (.bool true) ∧ Below w.heap.size w w' := by
  have hmk := make16
  have hrd : Reads (w.alloc (.cells (bv (zeros 16)).toArray 5)) (w.heap.size + 1) 1 (some ⟨w.heap.size, 0, none⟩) 16 (bv (zeros 16)) := by
    have := Reads.lit (size := 1) (n := 16) w (bv (zeros 16)).toArray 5 rfl
    simpa using this
  have HNR := Lib.hid (New_ring (zeros 16) _ 16 16 _ _ hrd (by simp) (by omega) (by omega))
  have HB0 := Lib.hid (show Below w.heap.size w (w.alloc (.cells (bv (zeros 16)).toArray 5)) from (Below.refl _ _).alloc (Nat.le_refl _) _)
  clear hrd
  go_enter Tryd.func7, Tryd.ntmps7
  go_wp2_with fail
  generalize (w.alloc (.cells (bv (zeros 16)).toArray 5)) = w0 at HNR HB0 ⊢
  refine HNR.out.mono ?_
  rintro e w1 ⟨rb, rfl, hrb, hring, hb1⟩
  have HRING := Lib.hid hring
  have HB1 := Lib.hid (HB0.out.trans (hb1.mono HB0.out.size))
  have hs1 := HB1.out.size
  have hs0 := HB0.out.size
  clear hring hb1 hmk HNR
  go_wp2_with fail
  have hk := Key_yes rb _ (zeros 16) 1 1 1 w1 HRING.out (by simp [zeros]) keyOk_one (ht.below HB1.out)
  refine hk.mono ?_
  rintro e w2 ⟨X2, hX2, hring2, hg2, ⟨h0, _⟩ | ⟨_, A, c, rfl, hrow, _⟩⟩
  · exact absurd h0 (by decide)
  have HRING2 := Lib.hid hring2
  have HG2 := Lib.hid (HB1.out.trans (hg2.below (B := w.heap.size) hs1 fun k _ hk => by omega))
  clear hk hrow hring2 hg2 hX2
  go_wp2_with fail
  refine (Key_no rb _ (zeros 16) 0 1 1 w2 HRING2.out keyOk_zero).mono ?_
  rintro e w3 ⟨X3, hX3, hring3, hg3, ⟨_, rfl⟩ | ⟨h0, _⟩⟩
  rotate_left
  · exact absurd h0 (by decide)
  have HG3 := Lib.hid (HG2.out.trans (hg3.below (B := w.heap.size) HG2.out.size fun k _ hk => by omega))
  clear hX3 hring3 hg3
  go_wp2_with fail
  refine (Name_any _ _).mono ?_
  rw [show nameS 4 = ⟨#[97, 117, 100, 105, 116]⟩ from rfl, show nameB 4 = true from rfl]
  rintro e w4 ⟨rfl, hb4⟩
  have HB4 := Lib.hid (thenB HG3.out hb4)
  clear hb4
  go_wp2_with fail
  go_ret
  exact ⟨rfl, HB4.out⟩

theorem name_inj {a b : Int} (ha : 1 ≤ a ∧ a ≤ 4) (hb : 1 ≤ b ∧ b ≤ 4) : ((nameS a).toList == (nameS b).toList) = (a == b) := by
  have hc : a = 1 ∨ a = 2 ∨ a = 3 ∨ a = 4 := by omega
  have hd : b = 1 ∨ b = 2 ∨ b = 3 ∨ b = 4 := by omega
  rcases hc with rfl | rfl | rfl | rfl <;> rcases hd with rfl | rfl | rfl | rfl <;> decide +kernel
theorem name_ne {a : Int} (ha : 1 ≤ a ∧ a ≤ 4) : (nameS a).toList.isEmpty = false := by
  have hc : a = 1 ∨ a = 2 ∨ a = 3 ∨ a = 4 := by omega
  rcases hc with rfl | rfl | rfl | rfl <;> decide +kernel
set_option maxRecDepth 100000 in
set_option maxHeartbeats 4000000 in
theorem KeysNames_walk (a b : Int) (w : World) (_h1 : (Lit.int .i64 a).wf = true) (_h2 : (Lit.int .i64 b).wf = true) (ht : Tab w) : Calls Tryd.prog 6 #[.int .i64 a, .int .i64 b] w fun e w' => e = .returned (.bool true) ∧ Below w.heap.size w w' := by
  by_cases ha : 1 ≤ a ∧ a ≤ 4
  · have d1 : decide (1 ≤ a) = true := decide_eq_true ha.1
    have d2 : decide (a ≤ 4) = true := decide_eq_true ha.2
    have HA := Lib.hid (nameB_iff.2 ha)
    have hne := name_ne ha
    by_cases hb : 1 ≤ b ∧ b ≤ 4
    · have HB := Lib.hid (nameB_iff.2 hb)
      have hin := name_inj ha hb
      obtain ⟨s, hs⟩ : ∃ s, s = nameS a := ⟨_, rfl⟩
      obtain ⟨t, htt⟩ : ∃ t, t = nameS b := ⟨_, rfl⟩
      obtain ⟨q, hq⟩ : ∃ q, (a == b) = q := ⟨_, rfl⟩
      rw [← hs] at hne
      rw [← hs, ← htt, hq] at hin
      have HS := Lib.hid hs
      have HT := Lib.hid htt
      clear ha hb hs htt
      go_enter Tryd.func6, Tryd.ntmps6
      go_wp2_with fail
      refine (small13_any _ ht).mono ?_
      rintro e w1 ⟨rfl, hb1⟩
      go_wp2_with fail
      refine (Name_any _ _).mono ?_
      rw [HA.out, ← HS.out]
      rintro e w2 ⟨rfl, hb2⟩
      go_wp2_with fail
      refine (Name_any _ _).mono ?_
      rw [HB.out, ← HT.out]
      rintro e w3 ⟨rfl, hb3⟩
      go_wp2_with fail
      go_ret
      exact ⟨rfl, thenB hb1 (thenB hb2 hb3)⟩
    · have HB := Lib.hid (nameB_no hb)
      obtain ⟨s, hs⟩ : ∃ s, s = nameS a := ⟨_, rfl⟩
      rw [← hs] at hne
      have HS := Lib.hid hs
      clear ha hb hs
      go_enter Tryd.func6, Tryd.ntmps6
      go_wp2_with fail
      refine (small13_any _ ht).mono ?_
      rintro e w1 ⟨rfl, hb1⟩
      go_wp2_with fail
      refine (Name_any _ _).mono ?_
      rw [HA.out, ← HS.out]
      rintro e w2 ⟨rfl, hb2⟩
      go_wp2_with fail
      refine (Name_any _ _).mono ?_
      rw [HB.out]
      generalize nameS b = t
      rintro e w3 ⟨rfl, hb3⟩
      go_wp2_with fail
      go_ret
      exact ⟨rfl, thenB hb1 (thenB hb2 hb3)⟩
  · have HA := Lib.hid (nameB_no ha)
    have HS := Lib.hid (nameS_no ha)
    by_cases h1 : 1 ≤ a
    · have d1 : decide (1 ≤ a) = true := decide_eq_true h1
      have d2 : decide (a ≤ 4) = false := decide_eq_false (by omega)
      clear ha
      go_enter Tryd.func6, Tryd.ntmps6
      go_wp2_with fail
      refine (small13_any _ ht).mono ?_
      rintro e w1 ⟨rfl, hb1⟩
      go_wp2_with fail
      refine (Name_any _ _).mono ?_
      rw [HA.out, HS.out]
      rintro e w2 ⟨rfl, hb2⟩
      go_wp2_with fail
      refine (Name_any _ _).mono ?_
      generalize nameS b = t
      generalize nameB b = u
      rintro e w3 ⟨rfl, hb3⟩
      go_wp2_with fail
      go_ret
      exact ⟨rfl, thenB hb1 (thenB hb2 hb3)⟩
    · have d1 : decide (1 ≤ a) = false := decide_eq_false h1
      clear ha
      go_enter Tryd.func6, Tryd.ntmps6
      go_wp2_with fail
      refine (small13_any _ ht).mono ?_
      rintro e w1 ⟨rfl, hb1⟩
      go_wp2_with fail
      refine (Name_any _ _).mono ?_
      rw [HA.out, HS.out]
      rintro e w2 ⟨rfl, hb2⟩
      go_wp2_with fail
      refine (Name_any _ _).mono ?_
      generalize nameS b = t
      generalize nameB b = u
      rintro e w3 ⟨rfl, hb3⟩
      go_wp2_with fail
      go_ret
      exact ⟨rfl, thenB hb1 (thenB hb2 hb3)⟩
end Go.Proofs.YtdjpiccehloaiaaDoor
