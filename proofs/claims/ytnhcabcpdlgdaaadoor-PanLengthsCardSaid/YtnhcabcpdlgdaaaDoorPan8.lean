/- THE WALKS of the small case of the laws of pan, and of the laws PanCuts, PanTokens. -/
import Derived.Test.YtnhcabcpdlgdaaaDoorPan7
namespace Go.Proofs.YtnhcabcpdlgdaaaDoor
open Go.RowKit

theorem sm1 : cutR (⟨#[52, 49, 49, 49, 49, 49, 57, 57, 57, 57, 57, 57, 49, 49, 49, 49]⟩ : ByteArray).data.toList = .returned (.tuple #[.string ⟨#[52, 49, 49, 49, 49, 49]⟩, .string ⟨#[57, 57, 57, 57, 57, 57]⟩, .string ⟨#[49, 49, 49, 49]⟩, .int .i64 0]) := by
  rw [cutR_yes (by decide +kernel)]
  rfl
theorem sm2 : tokR (⟨#[52, 49, 49, 49, 49, 49, 57, 57, 57, 57, 57, 57, 49, 49, 49, 49]⟩ : ByteArray).data.toList 2 = .returned (.tuple #[.string ⟨#[52, 49, 49, 49, 49, 49, 57, 57, 57, 57, 57, 57, 49, 49, 49, 49, 46, 50]⟩, .int .i64 0]) := by
  have e : tokE (⟨#[52, 49, 49, 49, 49, 49, 57, 57, 57, 57, 57, 57, 49, 49, 49, 49]⟩ : ByteArray).data.toList 2 = 0 := tokE_ok (by decide +kernel) (by decide)
  unfold tokR
  rw [tokS_ok e, e, dec_one (by decide)]
  rfl
theorem sm3 : panB (⟨#[52, 49, 49, 49, 49, 49, 49, 49, 49, 49, 49, 49, 49, 49, 49, 49]⟩ : ByteArray).data.toList = true := by decide +kernel
theorem sm4 : maskS (⟨#[52, 49, 49, 49, 49, 49, 57, 57, 57, 57, 57, 57, 49, 49, 49, 49, 46, 50]⟩ : ByteArray).data.toList = [52, 49, 49, 49, 49, 49, 42, 42, 42, 42, 42, 42, 49, 49, 49, 49, 46, 50] := by
  have e := tok_split (l := (⟨#[52, 49, 49, 49, 49, 49, 57, 57, 57, 57, 57, 57, 49, 49, 49, 49]⟩ : ByteArray).data.toList) (v := 2) (tokE_ok (by decide +kernel) (by decide))
  have e2 : tokS (⟨#[52, 49, 49, 49, 49, 49, 57, 57, 57, 57, 57, 57, 49, 49, 49, 49]⟩ : ByteArray).data.toList 2 = (⟨#[52, 49, 49, 49, 49, 49, 57, 57, 57, 57, 57, 57, 49, 49, 49, 49, 46, 50]⟩ : ByteArray).data.toList := by
    rw [tokS_ok (tokE_ok (by decide +kernel) (by decide)), dec_one (by decide)]; rfl
  rw [e2] at e
  rw [mask_split e.1, e.2.1, e.2.2, dec_one (by decide)]
  unfold maskOf
  rw [binP_yes (by decide +kernel), midP_yes (by decide +kernel), lastP_yes (by decide +kernel)]
  rfl
set_option maxRecDepth 100000 in
set_option maxHeartbeats 4000000 in
theorem small11_any (w : World) (ht : Tab w) : Calls Tryd.prog 14 #[] w fun e w' => e = .returned (.bool true) ∧ Below w.heap.size w w' := by
  go_enter Tryd.func14, Tryd.ntmps14
  go_wp2_with fail
  refine (Cut_any _ _ (by unfold maxLen; decide)).mono ?_
  rw [sm1]
  rintro e w1 ⟨rfl, hb1⟩
  go_wp2_with fail
  refine (Token_any _ _ _ (by unfold maxLen; decide) (ht.below hb1)).mono ?_
  rw [sm2]
  rintro e w2 ⟨rfl, hb2⟩
  have hb12 := thenB hb1 hb2
  go_wp2_with fail
  refine (Is_any _ _ (by unfold maxLen; decide)).mono ?_
  rw [sm3]
  rintro e w3 ⟨rfl, hb3⟩
  have hb13 := thenB hb12 hb3
  go_wp2_with fail
  refine (Mask_any _ _ (by unfold maxLen; decide) (ht.below hb13)).mono ?_
  rw [sm4]
  rintro e w4 ⟨rfl, hb4⟩
  go_wp2_with fail
  go_ret
  exact ⟨rfl, thenB hb13 hb4⟩

set_option maxRecDepth 100000 in
set_option maxHeartbeats 4000000 in
theorem PanCuts_walk (s : ByteArray) (w : World) (hs : s.size ≤ maxLen) (ht : Tab w) : Calls Tryd.prog 3 #[.string s] w fun e w' => e = .returned (.bool true) ∧ Below w.heap.size w w' := by
  obtain ⟨a, b, c, er, hr⟩ : ∃ (a b c : ByteArray) (er : Int), cutR s.data.toList = .returned (.tuple #[.string a, .string b, .string c, .int .i64 er]) := ⟨_, _, _, _, rfl⟩
  have HR := Lib.hid hr
  obtain ⟨q, hq⟩ : ∃ q : Bool, panB s.data.toList = q := ⟨_, rfl⟩
  obtain ⟨m, hm⟩ : ∃ m : ByteArray, (⟨(maskS s.data.toList).toArray⟩ : ByteArray) = m := ⟨_, rfl⟩
  have HQ := Lib.hid hq
  have HM := Lib.hid hm
  clear hr hq hm
  go_enter Tryd.func3, Tryd.ntmps3
  go_wp2_with fail
  refine (small11_any _ ht).mono ?_
  rintro e w1 ⟨rfl, hb1⟩
  go_wp2_with fail
  refine (Cut_any _ _ hs).mono ?_
  rw [HR.out]
  rintro e w2 ⟨rfl, hb2⟩
  have hb12 := thenB hb1 hb2
  go_wp2_with fail
  refine (rCut_any _ _ hs).mono ?_
  rw [HR.out]
  rintro e w3 ⟨rfl, hb3⟩
  have hb13 := thenB hb12 hb3
  go_wp2_with fail
  refine (Is_any _ _ hs).mono ?_
  rw [HQ.out]
  rintro e w4 ⟨rfl, hb4⟩
  have hb14 := thenB hb13 hb4
  go_wp2_with fail
  refine (rIs_any _ _ hs).mono ?_
  rw [HQ.out]
  rintro e w5 ⟨rfl, hb5⟩
  have hb15 := thenB hb14 hb5
  go_wp2_with fail
  refine (Mask_any _ _ hs (ht.below hb15)).mono ?_
  rw [HM.out]
  rintro e w6 ⟨rfl, hb6⟩
  have hb16 := thenB hb15 hb6
  go_wp2_with fail
  refine (rMask_any _ _ hs).mono ?_
  rw [HM.out]
  rintro e w7 ⟨rfl, hb7⟩
  go_wp2_with fail
  go_ret
  exact ⟨rfl, thenB hb16 hb7⟩

set_option maxRecDepth 100000 in
set_option maxHeartbeats 4000000 in
theorem PanTokens_walk (s : ByteArray) (v : Int) (t : ByteArray) (w : World) (hs : s.size ≤ maxLen) (_hv : (Lit.int .i64 v).wf = true) (hts : t.size ≤ maxLen) (ht : Tab w) : Calls Tryd.prog 4 #[.string s, .int .i64 v, .string t] w fun e w' => e = .returned (.bool true) ∧ Below w.heap.size w w' := by
  obtain ⟨x, er, hr⟩ : ∃ (x : ByteArray) (er : Int), tokR s.data.toList v = .returned (.tuple #[.string x, .int .i64 er]) := ⟨_, _, rfl⟩
  obtain ⟨p, n, eg, hp⟩ : ∃ (p : ByteArray) (n eg : Int), splR t.data.toList = .returned (.tuple #[.string p, .int .i64 n, .int .i64 eg]) := ⟨_, _, _, rfl⟩
  have HR := Lib.hid hr
  have HP := Lib.hid hp
  clear hr hp
  go_enter Tryd.func4, Tryd.ntmps4
  go_wp2_with fail
  refine (small11_any _ ht).mono ?_
  rintro e w1 ⟨rfl, hb1⟩
  go_wp2_with fail
  refine (Token_any _ _ _ hs (ht.below hb1)).mono ?_
  rw [HR.out]
  rintro e w2 ⟨rfl, hb2⟩
  have hb12 := thenB hb1 hb2
  go_wp2_with fail
  refine (rToken_any _ _ _ hs).mono ?_
  rw [HR.out]
  rintro e w3 ⟨rfl, hb3⟩
  have hb13 := thenB hb12 hb3
  go_wp2_with fail
  refine (Split_any _ _ hts (ht.below hb13)).mono ?_
  rw [HP.out]
  rintro e w4 ⟨rfl, hb4⟩
  have hb14 := thenB hb13 hb4
  go_wp2_with fail
  refine (rSplit_any _ _ hts).mono ?_
  rw [HP.out]
  rintro e w5 ⟨rfl, hb5⟩
  go_wp2_with fail
  go_ret
  exact ⟨rfl, thenB hb14 hb5⟩
end Go.Proofs.YtnhcabcpdlgdaaaDoor
