/- THE WALKS of ffx: New, halves, join, Encrypt, Decrypt. -/
import Derived.Test.YtiijjpjkfiookaaDoorFfx3
import Derived.Test.YtiijjpjkfiookaaDoorRadVal
import Derived.Test.YtiijjpjkfiookaaDoorRadAdd
namespace Go.Proofs.YtiijjpjkfiookaaDoor
open Go.RowKit

theorem CipOut.next {cb : Nat} {X : Nat → Prop} {key tw : List UInt8} {w w1 : World} (h : CipOut cb X key tw w w1) : ∃ X2 : Nat → Prop, CipAt w1 cb X2 key tw ∧ ∀ w2, CipOut cb X2 key tw w1 w2 → CipOut cb X key tw w w2 := by
  obtain ⟨X2, h1, h2, h3⟩ := h
  refine ⟨X2, h2, fun w2 ⟨X3, k1, k2, k3⟩ => ⟨X3, fun k hk => ?_, k2, h3.then_ k3 fun k hk hx => ?_⟩⟩
  · have hs := h3.size
    rcases k1 k hk with h4 | h4
    · rcases h1 k h4.1 with h5 | h5
      · exact .inl h5
      · exact .inr h5
    · exact .inr (by omega)
  · rcases h1 k hx with h5 | h5
    · exact h5.1
    · omega
theorem CipOut.refl_ {cb : Nat} {X : Nat → Prop} {key tw : List UInt8} {w : World} (h : CipAt w cb X key tw) : CipOut cb X key tw w w := ⟨fun k => X k ∧ k < w.heap.size, fun _ hk => .inl hk, h.within, Grew.refl _ _⟩
theorem CipOut.more {cb : Nat} {X : Nat → Prop} {key tw : List UInt8} {w w1 w2 : World} (h : CipOut cb X key tw w w1) (hb : Below w1.heap.size w1 w2) : CipOut cb X key tw w w2 := by
  obtain ⟨X2, h1, h2, h3⟩ := h
  exact ⟨X2, h1, h2.below hb (Nat.le_refl _), h3.trans (Grew.of_new hb)⟩

/-! ### New -/
def cipE (key tw : List UInt8) : Int := if key.length = 16 ∨ key.length = 32 then (if tw.length ≤ 16 then 0 else 2) else 1
theorem cipE_key {key tw : List UInt8} (h : ¬ (key.length = 16 ∨ key.length = 32)) : cipE key tw = 1 := if_neg h
theorem cipE_long {key tw : List UInt8} (h : key.length = 16 ∨ key.length = 32) (h2 : ¬ tw.length ≤ 16) : cipE key tw = 2 := by unfold cipE; rw [if_pos h, if_neg h2]
theorem cipE_ok {key tw : List UInt8} (h : key.length = 16 ∨ key.length = 32) (h2 : tw.length ≤ 16) : cipE key tw = 0 := by unfold cipE; rw [if_pos h, if_pos h2]
theorem cipE_zero {key tw : List UInt8} (h : cipE key tw = 0) : (key.length = 16 ∨ key.length = 32) ∧ tw.length ≤ 16 := by
  unfold cipE at h
  split at h
  · split at h
    · exact ⟨by assumption, by assumption⟩
    · simp at h
  · simp at h
/-- A new cipher, in new blocks, or what is wrong. -/
def NewCip (key tw : List UInt8) (w : World) (e : Ending) (w' : World) : Prop :=
  Below w.heap.size w w' ∧ ((cipE key tw ≠ 0 ∧ e = .returned (.tuple #[.pointer none, .int .i64 (cipE key tw)])) ∨
    (cipE key tw = 0 ∧ ∃ cb, e = .returned (.tuple #[.pointer (some ⟨cb, 0, none⟩), .int .i64 0]) ∧ w.heap.size ≤ cb ∧ CipAt w' cb (fun k => w.heap.size ≤ k) key tw))
set_option maxRecDepth 100000 in
set_option maxHeartbeats 4000000 in
theorem New_cip (key tw : List UInt8) (A : Option Addr) (n c : Nat) (T : Option Addr) (m d B : Nat) (w : World) (hr : Reads w B 1 A n (bv key)) (ht : Reads w B 1 T m (bv tw)) (hB : B ≤ w.heap.size) (hm : m ≤ 140737488355328) : Calls Tryd.prog 30 #[.slice A n c, .slice T m d] w (NewCip key tw w) := by
  have hn : key.length = n := by have := hr.1; rw [length_bv] at this; omega
  have hml : tw.length = m := by have := ht.1; rw [length_bv] at this; omega
  by_cases hk : key.length = 16 ∨ key.length = 32
  · have HNK := Lib.hid (aNew_key key A n c B w hr hB hk)
    have HT := Lib.hid ht
    have HML := Lib.hid hml
    by_cases h16 : m ≤ 16
    · have hd : decide ((16 : Int) < (m : Int)) = false := decide_eq_false (by omega)
      have HE := Lib.hid (cipE_ok hk (by omega : tw.length ≤ 16))
      clear hr ht hn hml hk
      go_enter Tryd.func30, Tryd.ntmps30
      go_wp2_with fail
      refine HNK.out.mono ?_
      rintro e w1 ⟨kb, rfl, hkb, hkey, hb1⟩
      have hs1 := hb1.size
      have HCL := Lib.hid (bClone_any T m d B tw w1 (HT.out.below (hb1.mono hB)) (by omega) (by omega))
      have HKEY := Lib.hid hkey
      have HB1 := Lib.hid hb1
      clear hkey hb1
      go_wp2_with fail
      refine HCL.out.mono ?_
      rintro e w2 ⟨A2, c2, rfl, hrow, hb2⟩
      have HROW := Lib.hid hrow
      have HB2 := Lib.hid hb2
      have hs2 := hb2.size
      clear hrow hb2
      go_wp2_with fail
      go_ret2
      have hkl := HKEY.out.lt
      have hk2 := (HKEY.out.below HB2.out (Nat.le_refl _)).within
      refine ⟨(HB1.out.trans (HB2.out.mono hs1)).alloc (by omega) _, .inr ⟨HE.out, w2.heap.size, by rfl, by omega, kb, A2, c2, Blk.new _ _ _, (HROW.out.mono (Nat.zero_le _)).alloc _, fun ad e => ?_, (hk2.below ((Below.refl w2.heap.size w2).alloc (Nat.le_refl _) _) (Nat.le_refl _)).mono fun k _ hx => hx.1, hkb, by omega⟩⟩
      have := HROW.out.lt ad e
      exact ⟨by omega, by omega, by omega⟩
    · have hd : decide ((16 : Int) < (m : Int)) = true := decide_eq_true (by omega)
      have HE := Lib.hid (cipE_long hk (by omega : ¬ tw.length ≤ 16))
      clear hr ht hn hml hk
      go_enter Tryd.func30, Tryd.ntmps30
      go_wp2_with fail
      refine HNK.out.mono ?_
      rintro e w1 ⟨kb, rfl, hkb, hkey, hb1⟩
      have HB1 := Lib.hid hb1
      clear hkey hb1
      go_wp2_with fail
      go_ret2
      exact ⟨HB1.out, .inl ⟨by rw [HE.out]; decide, by rw [HE.out]; rfl⟩⟩
  · have HNK := Lib.hid (aNew_no key A n c w hn hk)
    have HE := Lib.hid (cipE_key (tw := tw) hk)
    clear hr ht hn hml hk
    go_enter Tryd.func30, Tryd.ntmps30
    go_wp2_with fail
    refine HNK.out.mono ?_
    rintro e w1 ⟨rfl, rfl⟩
    go_wp2_with fail
    go_ret2
    exact ⟨Below.refl _ _, .inl ⟨by rw [HE.out]; decide, by rw [HE.out]; rfl⟩⟩

/-! ### halves, join -/
theorem numR_dig {l : List UInt8} (h : l.all isDig = true) (h1 : 1 ≤ l.length) (h16 : l.length ≤ 16) : valR l = .returned (.tuple #[.int .i64 (valD l), .int .i64 0]) := by
  have hl : lookE l = 0 := lookE_ok.2 ⟨h, by omega⟩
  have hv := val_lt l h
  have hp : 10 ^ l.length ≤ 10 ^ 16 := Nat.pow_le_pow_right (by decide) h16
  have e16 : (10 : Nat) ^ 16 = 10000000000000000 := by decide
  have hne : l ≠ [] := by intro e; rw [e] at h1; simp at h1
  rw [valR_num hne (by omega)]
  unfold numR
  have he := numE_ok hl hne (by omega)
  rw [numV_ok he, he]
theorem numR_bad {l : List UInt8} (h : l.all isDig = false) (h1 : 1 ≤ l.length) (h16 : l.length ≤ 16) : valR l = .returned (.tuple #[.int .i64 0, .int .i64 4]) := by
  have hl := lookE_form h
  have hne : l ≠ [] := by intro e; rw [e] at h1; simp at h1
  rw [valR_num hne (by omega)]
  unfold numR
  have he : numE l = 4 := by rw [numE_look (by rw [hl]; decide), hl]
  rw [numV_no (by rw [he]; decide), he]
/-- What halves answers. -/
def HalvesOut (l : List UInt8) (e : Ending) : Prop := ∃ a b : Int, e = .returned (.tuple #[.int .i64 a, .int .i64 b, .int .i64 (nmE l)]) ∧ (nmE l = 0 → a = (valD (l.take (l.length / 2)) : Nat) ∧ b = (valD (l.drop (l.length / 2)) : Nat))
set_option maxRecDepth 100000 in
set_option maxHeartbeats 2000000 in
theorem halves_any (s : ByteArray) (w : World) (hs : s.size ≤ maxLen) : Calls Tryd.prog 45 #[.string s] w fun e w' => HalvesOut s.data.toList e ∧ w = w' := by
  have hsz : s.data.toList.length = s.size := size_toList s
  by_cases hl : s.size < 6 ∨ 32 < s.size
  · have HE := Lib.hid (nmE_arg (l := s.data.toList) (by omega))
    have hm : mayB (s.size : Int) = false := decide_eq_false (by omega)
    have HM := Lib.hid (fun w => may_any (s.size : Int) w)
    rw [hm] at HM
    clear hm hsz
    go_enter Tryd.func45, Tryd.ntmps45
    go_wp2_with fail
    refine (HM.out _).mono ?_
    rintro e w1 ⟨rfl, rfl⟩
    go_wp2_with fail
    go_ret3
    exact ⟨⟨0, 0, by rw [HE.out]; rfl, fun h => by rw [HE.out] at h; cases h⟩, rfl⟩
  · have hm : mayB (s.size : Int) = true := decide_eq_true (by omega)
    have HM := Lib.hid (fun w => may_any (s.size : Int) w)
    rw [hm] at HM
    obtain ⟨u, hu⟩ : ∃ u, u = s.size / 2 := ⟨_, rfl⟩
    have q0 : ((s.size : Nat) : Int).tdiv 2 = (u : Int) := by rw [Int.tdiv_eq_ediv_of_nonneg (by omega)]; omega
    have q1 : (s.size : Int) / 2 = (u : Int) := by omega
    have q2 : (u : Int) ≤ (s.size : Int) := by omega
    have q3 : (0 : Int) ≤ (u : Int) := by omega
    obtain ⟨sa, hsa⟩ : ∃ sa, sa = s.extract 0 u := ⟨_, rfl⟩
    obtain ⟨sb', hsb⟩ : ∃ sb', sb' = s.extract u s.size := ⟨_, rfl⟩
    have hda : sa.data.toList = s.data.toList.take (s.data.toList.length / 2) := by
      rw [hsa, hsz, ← hu]; simp [ByteArray.data_extract, Array.toList_extract, List.extract]
    have hdb : sb'.data.toList = s.data.toList.drop (s.data.toList.length / 2) := by
      rw [hsb, hsz, ← hu]; simp [ByteArray.data_extract, Array.toList_extract, List.extract]
      rw [List.take_of_length_le (by simp [hsz])]
    have hla : (s.data.toList.take (s.data.toList.length / 2)).length = u := by rw [List.length_take]; omega
    have hlb : (s.data.toList.drop (s.data.toList.length / 2)).length = s.size - u := by rw [List.length_drop]; omega
    have hall : s.data.toList.all isDig = ((s.data.toList.take (s.data.toList.length / 2)).all isDig && (s.data.toList.drop (s.data.toList.length / 2)).all isDig) := by
      rw [← List.all_append, List.take_append_drop]
    have hza : sa.size ≤ maxLen := by rw [← size_toList, hda, hla]; omega
    have hzb : sb'.size ≤ maxLen := by rw [← size_toList, hdb, hlb]; omega
    have hV1 := fun w => Value_any sa w hza
    have hV2 := fun w => Value_any sb' w hzb
    rw [hda] at hV1
    rw [hdb] at hV2
    have HA := Lib.hid hsa
    have HB := Lib.hid hsb
    cases h1 : (s.data.toList.take (s.data.toList.length / 2)).all isDig with
    | true =>
      rw [numR_dig h1 (by omega) (by omega)] at hV1
      cases h2 : (s.data.toList.drop (s.data.toList.length / 2)).all isDig with
      | true =>
        rw [numR_dig h2 (by omega) (by omega)] at hV2
        have HE := Lib.hid (nmE_ok (l := s.data.toList) (by omega) (by rw [hall, h1, h2]; rfl))
        rw [hsa] at hV1
        rw [hsb] at hV2
        obtain ⟨va, hva⟩ : ∃ va, va = valD (s.data.toList.take (s.data.toList.length / 2)) := ⟨_, rfl⟩
        rw [← hva] at hV1
        obtain ⟨vb, hvb⟩ : ∃ vb, vb = valD (s.data.toList.drop (s.data.toList.length / 2)) := ⟨_, rfl⟩
        rw [← hvb] at hV2
        have HVA := Lib.hid hva
        have HVB := Lib.hid hvb
        have HV1 := Lib.hid hV1
        have HV2 := Lib.hid hV2
        clear hall h1 h2 hda hdb hla hlb hza hzb hV1 hV2 hsz hm hsa hsb hu hva hvb
        go_enter Tryd.func45, Tryd.ntmps45
        go_wp2_with fail
        refine (HM.out _).mono ?_
        rintro e w1 ⟨rfl, rfl⟩
        go_wp2_with fail
        refine (HV1.out _).mono ?_
        rintro e w1 ⟨rfl, rfl⟩
        go_wp2_with fail
        refine (HV2.out _).mono ?_
        rintro e w1 ⟨rfl, rfl⟩
        go_wp2_with fail
        go_ret3
        exact ⟨⟨va, vb, by rw [HE.out]; rfl, fun _ => ⟨by rw [HVA.out], by rw [HVB.out]⟩⟩, rfl⟩
      | false =>
        rw [numR_bad h2 (by omega) (by omega)] at hV2
        have HE := Lib.hid (nmE_form (l := s.data.toList) (by omega) (by rw [hall, h1, h2]; rfl))
        rw [hsa] at hV1
        rw [hsb] at hV2
        obtain ⟨va, hva⟩ : ∃ va, va = valD (s.data.toList.take (s.data.toList.length / 2)) := ⟨_, rfl⟩
        rw [← hva] at hV1
        have HV1 := Lib.hid hV1
        have HV2 := Lib.hid hV2
        clear hall h1 h2 hda hdb hla hlb hza hzb hV1 hV2 hsz hm hsa hsb hu hva
        go_enter Tryd.func45, Tryd.ntmps45
        go_wp2_with fail
        refine (HM.out _).mono ?_
        rintro e w1 ⟨rfl, rfl⟩
        go_wp2_with fail
        refine (HV1.out _).mono ?_
        rintro e w1 ⟨rfl, rfl⟩
        go_wp2_with fail
        refine (HV2.out _).mono ?_
        rintro e w1 ⟨rfl, rfl⟩
        go_wp2_with fail
        go_ret3
        exact ⟨⟨va, 0, by rw [HE.out]; rfl, fun h => by rw [HE.out] at h; cases h⟩, rfl⟩
    | false =>
      rw [numR_bad h1 (by omega) (by omega)] at hV1
      cases h2 : (s.data.toList.drop (s.data.toList.length / 2)).all isDig with
      | true =>
        rw [numR_dig h2 (by omega) (by omega)] at hV2
        have HE := Lib.hid (nmE_form (l := s.data.toList) (by omega) (by rw [hall, h1, h2]; rfl))
        rw [hsa] at hV1
        rw [hsb] at hV2
        obtain ⟨vb, hvb⟩ : ∃ vb, vb = valD (s.data.toList.drop (s.data.toList.length / 2)) := ⟨_, rfl⟩
        rw [← hvb] at hV2
        have HV1 := Lib.hid hV1
        have HV2 := Lib.hid hV2
        clear hall h1 h2 hda hdb hla hlb hza hzb hV1 hV2 hsz hm hsa hsb hu hvb
        go_enter Tryd.func45, Tryd.ntmps45
        go_wp2_with fail
        refine (HM.out _).mono ?_
        rintro e w1 ⟨rfl, rfl⟩
        go_wp2_with fail
        refine (HV1.out _).mono ?_
        rintro e w1 ⟨rfl, rfl⟩
        go_wp2_with fail
        refine (HV2.out _).mono ?_
        rintro e w1 ⟨rfl, rfl⟩
        go_wp2_with fail
        go_ret3
        exact ⟨⟨0, vb, by rw [HE.out]; rfl, fun h => by rw [HE.out] at h; cases h⟩, rfl⟩
      | false =>
        rw [numR_bad h2 (by omega) (by omega)] at hV2
        have HE := Lib.hid (nmE_form (l := s.data.toList) (by omega) (by rw [hall, h1, h2]; rfl))
        rw [hsa] at hV1
        rw [hsb] at hV2
        have HV1 := Lib.hid hV1
        have HV2 := Lib.hid hV2
        clear hall h1 h2 hda hdb hla hlb hza hzb hV1 hV2 hsz hm hsa hsb hu
        go_enter Tryd.func45, Tryd.ntmps45
        go_wp2_with fail
        refine (HM.out _).mono ?_
        rintro e w1 ⟨rfl, rfl⟩
        go_wp2_with fail
        refine (HV1.out _).mono ?_
        rintro e w1 ⟨rfl, rfl⟩
        go_wp2_with fail
        refine (HV2.out _).mono ?_
        rintro e w1 ⟨rfl, rfl⟩
        go_wp2_with fail
        go_ret3
        exact ⟨⟨0, 0, by rw [HE.out]; rfl, fun h => by rw [HE.out] at h; cases h⟩, rfl⟩
theorem textV_nat {v m : Nat} (h1 : 1 ≤ m) (h2 : m ≤ 16) (h : v < 10 ^ m) : digR (v : Int) (m : Int) = .returned (.tuple #[.string ⟨(textD v m).toArray⟩, .int .i64 0]) := by
  have hp := powV_ok h1 h2
  have hp16 : 10 ^ m ≤ 10 ^ 16 := Nat.pow_le_pow_right (by decide) h2
  have e16 : (10 : Nat) ^ 16 = 10000000000000000 := by decide
  have hin : inB (v : Int) (m : Int) = true := by unfold inB; rw [hp]; exact decide_eq_true ⟨by omega, by exact_mod_cast h⟩
  have hte : textE (v : Int) (m : Int) = 0 := textE_ok (by omega) (by
    rw [Int.toNat_natCast, Int.toNat_natCast, Nat.div_eq_of_lt h]; decide)
  rw [digR_ok hin, textV_ok hte, hte, Int.toNat_natCast, Int.toNat_natCast]
theorem str_add (a b : List UInt8) : (⟨a.toArray⟩ : ByteArray) ++ (⟨b.toArray⟩ : ByteArray) = ⟨(a ++ b).toArray⟩ := by
  apply ByteArray.ext
  simp
set_option maxRecDepth 100000 in
set_option maxHeartbeats 2000000 in
theorem join_any (n : Nat) (p : Nat × Nat) (w : World) (h6 : 6 ≤ n) (h32 : n ≤ 32) (hp : inH n 0 p) : Calls Tryd.prog 48 #[.int .i64 n, .int .i64 p.1, .int .i64 p.2] w fun e w' => e = .returned (.string ⟨(joinT n p).toArray⟩) ∧ Below w.heap.size w w' := by
  obtain ⟨u, hu⟩ : ∃ u, u = n / 2 := ⟨_, rfl⟩
  obtain ⟨v, hv⟩ : ∃ v, v = n - n / 2 := ⟨_, rfl⟩
  have q0 : ((n : Nat) : Int).tdiv 2 = (u : Int) := by rw [Int.tdiv_eq_ediv_of_nonneg (by omega)]; omega
  have q1 : (n : Int) / 2 = (u : Int) := by omega
  have q2 : (n : Int) - (u : Int) = (v : Int) := by omega
  have h1 := hp.1
  have h2 := hp.2
  rw [half0, ← hu] at h1
  rw [half1, ← hv] at h2
  have hb16 : ∀ m x : Nat, m ≤ 16 → x < 10 ^ m → (x : Int) ≤ 9223372036854775807 := fun m x hm hx => by
    have hp16 : 10 ^ m ≤ 10 ^ 16 := Nat.pow_le_pow_right (by decide) hm
    have e16 : (10 : Nat) ^ 16 = 10000000000000000 := by decide
    omega
  have hD1 := fun w => Digits_any (p.1 : Int) (u : Int) w (hb16 u _ (by omega) h1)
  have hD2 := fun w => Digits_any (p.2 : Int) (v : Int) w (hb16 v _ (by omega) h2)
  rw [textV_nat (by omega) (by omega) h1] at hD1
  rw [textV_nat (by omega) (by omega) h2] at hD2
  have HJ := Lib.hid (show joinT n p = textD p.1 u ++ textD p.2 v by rw [hu, hv]; rfl)
  obtain ⟨sA, hsA⟩ : ∃ sA : ByteArray, sA = ⟨(textD p.1 u).toArray⟩ := ⟨_, rfl⟩
  obtain ⟨sB, hsB⟩ : ∃ sB : ByteArray, sB = ⟨(textD p.2 v).toArray⟩ := ⟨_, rfl⟩
  have hzA : sA.size ≤ 16 := by rw [hsA, show (⟨(textD p.1 u).toArray⟩ : ByteArray).size = (textD p.1 u).length from by simp [ByteArray.size], length_textD]; omega
  have hzB : sB.size ≤ 16 := by rw [hsB, show (⟨(textD p.2 v).toArray⟩ : ByteArray).size = (textD p.2 v).length from by simp [ByteArray.size], length_textD]; omega
  rw [← hsA] at hD1
  rw [← hsB] at hD2
  have HD1 := Lib.hid hD1
  have HD2 := Lib.hid hD2
  have HSA := Lib.hid hsA
  have HSB := Lib.hid hsB
  clear hD1 hD2 h1 h2 hb16 hp hu hv hsA hsB
  go_enter Tryd.func48, Tryd.ntmps48
  go_wp2_with fail
  refine (HD1.out _).mono ?_
  rintro e w1 ⟨rfl, hb1⟩
  have HB1 := Lib.hid hb1
  clear hb1
  go_wp2_with fail
  refine (HD2.out _).mono ?_
  rintro e w2 ⟨rfl, hb2⟩
  have HB2 := Lib.hid hb2
  clear hb2
  go_wp2_with fail
  go_ret
  exact ⟨by rw [HJ.out, ← str_add, ← HSA.out, ← HSB.out]; rfl, thenB HB1.out HB2.out⟩

/-! ### Encrypt, Decrypt -/
/-- Behind i rounds. -/
def RoundRel (w : World) (cb : Nat) (X : Nat → Prop) (key tw l : List UInt8) (s6 s7 s22 : Value) (gg : Nat) (wr : World) : Prop :=
  ∃ i : Nat, i ≤ 10 ∧ gg = 10 - i ∧ s22 = .int .i64 i ∧ s6 = .int .i64 ((encAt (maskV key tw l.length) l.length (valD (l.take (l.length / 2))) (valD (l.drop (l.length / 2))) i).1 : Nat) ∧ s7 = .int .i64 ((encAt (maskV key tw l.length) l.length (valD (l.take (l.length / 2))) (valD (l.drop (l.length / 2))) i).2 : Nat) ∧ CipOut cb X key tw w wr
/-- Behind k rounds of the way back. -/
def BackRel (w : World) (cb : Nat) (X : Nat → Prop) (key tw l : List UInt8) (s6 s7 s10 : Value) (gg : Nat) (wr : World) : Prop :=
  ∃ k : Nat, k ≤ 10 ∧ gg = 10 - k ∧ s10 = .int .i64 (9 - (k : Int)) ∧ s6 = .int .i64 ((decAt (maskV key tw l.length) l.length (valD (l.take (l.length / 2))) (valD (l.drop (l.length / 2))) k).1 : Nat) ∧ s7 = .int .i64 ((decAt (maskV key tw l.length) l.length (valD (l.take (l.length / 2))) (valD (l.drop (l.length / 2))) k).2 : Nat) ∧ CipOut cb X key tw w wr
theorem pow_half {n i : Nat} (h32 : n ≤ 32) : 10 ^ halfN n i ≤ 10000000000000000 := by
  have hp16 : 10 ^ halfN n i ≤ 10 ^ 16 := Nat.pow_le_pow_right (by decide) (by unfold halfN; omega)
  have e16 : (10 : Nat) ^ 16 = 10000000000000000 := by decide
  omega
theorem half_powV {n i : Nat} (h6 : 6 ≤ n) (h32 : n ≤ 32) : powV (halfN n i : Nat) = ((10 ^ halfN n i : Nat) : Int) := powV_ok (by unfold halfN; omega) (by unfold halfN; omega)
theorem add_half {n i a m : Nat} (h6 : 6 ≤ n) (h32 : n ≤ 32) (ha : a < 10 ^ halfN n i) (hm : m < 10 ^ halfN n i) : addR (a : Int) (m : Int) (halfN n i : Nat) = .returned (.tuple #[.int .i64 (((a + m) % 10 ^ halfN n i : Nat) : Int), .int .i64 0]) := by
  have hp := half_powV (i := i) h6 h32
  rw [addR_yes (bothB_mk (by omega) (by rw [hp]; exact_mod_cast ha) (by omega) (by rw [hp]; exact_mod_cast hm))]
  unfold addV
  rw [hp]
  simp
theorem sub_half {n i a m : Nat} (h6 : 6 ≤ n) (h32 : n ≤ 32) (ha : a < 10 ^ halfN n i) (hm : m < 10 ^ halfN n i) : subR (a : Int) (m : Int) (halfN n i : Nat) = .returned (.tuple #[.int .i64 (((a + 10 ^ halfN n i - m) % 10 ^ halfN n i : Nat) : Int), .int .i64 0]) := by
  have hp := half_powV (i := i) h6 h32
  rw [subR_yes (bothB_mk (by omega) (by rw [hp]; exact_mod_cast ha) (by omega) (by rw [hp]; exact_mod_cast hm))]
  unfold subV
  rw [hp]
  generalize 10 ^ halfN n i = P at ha hm
  rw [show (a : Int) - (m : Int) + (P : Int) = ((a + P - m : Nat) : Int) by omega]
  rfl
/-- What Encrypt answers. -/
def EncR (cb : Nat) (X : Nat → Prop) (key tw l out : List UInt8) (w : World) (e : Ending) (w' : World) : Prop := e = .returned (.tuple #[.string ⟨out.toArray⟩, .int .i64 (nmE l)]) ∧ CipOut cb X key tw w w'
set_option maxRecDepth 100000 in
set_option maxHeartbeats 4000000 in
theorem FEncrypt_any (cb : Nat) (X : Nat → Prop) (key tw : List UInt8) (s : ByteArray) (w : World) (h : CipAt w cb X key tw) (hk : key.length = 16 ∨ key.length = 32) (ht : tw.length ≤ 16) (hs : s.size ≤ maxLen) :
    Calls Tryd.prog 31 #[.pointer (some ⟨cb, 0, none⟩), .string s] w (EncR cb X key tw s.data.toList (encR key tw s.data.toList) w) := by
  have hsz : s.data.toList.length = s.size := size_toList s
  have HH := Lib.hid (fun w => halves_any s w hs)
  have H := Lib.hid h
  have HK := Lib.hid hk
  clear h hk
  obtain ⟨l, hl⟩ : ∃ l, l = s.data.toList := ⟨_, rfl⟩
  rw [← hl] at hsz HH ⊢
  clear hl
  by_cases hne : nmE l = 0
  · obtain ⟨h6, h32, hd⟩ := nmE_zero hne
    have HNE := Lib.hid hne
    have HV := Lib.hid (vals_in hd)
    have HSZ := Lib.hid hsz
    have hs6 : 6 ≤ s.size := by omega
    have hs32 : s.size ≤ 32 := by omega
    clear hne hd hsz
    go_enter Tryd.func31, Tryd.ntmps31
    go_wp2_with fail
    refine (HH.out _).mono ?_
    rintro e w1 ⟨⟨a, b, rfl, hab⟩, rfl⟩
    obtain ⟨rfl, rfl⟩ := hab HNE.out
    rw [HNE.out]
    have HST : Hid (RoundRel w cb X key tw l (.int .i64 ((valD (l.take (l.length / 2)) : Nat) : Int)) (.int .i64 ((valD (l.drop (l.length / 2)) : Nat) : Int)) (.int .i64 0) 10 w) := Lib.hid ⟨0, by omega, rfl, rfl, rfl, rfl, CipOut.refl_ H.out⟩
    clear hab
    generalize hva : valD (l.take (l.length / 2)) = va at HST ⊢
    generalize hvb : valD (l.drop (l.length / 2)) = vb at HST ⊢
    have HVA := Lib.hid hva
    have HVB := Lib.hid hvb
    clear hva hvb
    go_wp2_with fail
    go_loopg [6, 7, 10, 22] 10 (fun gg s6 s7 _ s22 wx => RoundRel w cb X key tw l s6 s7 s22 gg wx)
    case atStart => exact HST.out
    case round =>
      clear HST
      obtain ⟨i, hi, hgg, rfl, rfl, rfl, hco⟩ := hrel
      have HGG := Lib.hid hgg
      clear hgg
      have hin := enc_in (f := maskV key tw l.length) HV.out i
      obtain ⟨q, hq⟩ : ∃ q, q = encAt (maskV key tw l.length) l.length (valD (l.take (l.length / 2))) (valD (l.drop (l.length / 2))) i := ⟨_, rfl⟩
      rw [← hq] at hin ⊢
      have HQ := Lib.hid hq
      have HIN := Lib.hid hin
      clear hq hin
      by_cases hlt : i < 10
      · obtain ⟨X2, hc2, hnx⟩ := hco.next
        have hm2 := pow_half (n := l.length) (i := i + 1) h32
        have hq2 := HIN.out.2
        obtain ⟨mv, hmv⟩ : ∃ mv, mv = maskV key tw l.length i q.2 := ⟨_, rfl⟩
        have HMV := Lib.hid hmv
        have HMK := Lib.hid (show Calls Tryd.prog 46 #[.pointer (some ⟨cb, 0, none⟩), .int .i64 (s.size : Nat), .int .i64 i, .int .i64 (q.2 : Nat)] wr (fun e w' => e = .returned (.int .i64 mv) ∧ CipOut cb X2 key tw wr w') from by
          rw [← HSZ.out, hmv]
          exact mask_any cb X2 key tw l.length i q.2 wr hc2 HK.out ht h6 h32 (by omega) (by omega))
        have HNX := Lib.hid hnx
        have HHF := Lib.hid (fun w => half_any l.length i w (by omega) (by omega))
        have HAD := Lib.hid (fun w => Add_any (q.1 : Int) (maskV key tw l.length i q.2 : Nat) (halfN l.length i : Nat) w)
        rw [add_half h6 h32 HIN.out.1 (mask_lt _ _ _ _ _), ← hmv, HSZ.out] at HAD
        rw [HSZ.out] at HHF
        clear hc2 hnx hco hm2 hq2 hmv
        go_wp2_with fail
        refine HMK.out.mono ?_
        rintro e w2 ⟨rfl, hc3⟩
        have HC3 := Lib.hid (HNX.out _ hc3)
        clear hc3
        obtain ⟨hv, hhv⟩ : ∃ hv, hv = halfN s.size i := ⟨_, rfl⟩
        rw [← hhv] at HAD HHF
        obtain ⟨av, hav⟩ : ∃ av, av = (q.1 + mv) % 10 ^ hv := ⟨_, rfl⟩
        rw [← hav] at HAD
        have HAV := Lib.hid (show av = (q.1 + maskV key tw l.length i q.2) % 10 ^ halfN l.length i by rw [hav, HMV.out, hhv, HSZ.out])
        clear hav hhv
        go_wp2_with fail
        refine (HHF.out _).mono ?_
        rintro e w3 ⟨rfl, rfl⟩
        go_wp2_with fail
        refine (HAD.out _).mono ?_
        rintro e w4 ⟨rfl, hb4⟩
        have HNE2 : Hid (RoundRel w cb X key tw l (.int .i64 (q.2 : Nat)) (.int .i64 (av : Nat)) (.int .i64 ((i : Int) + 1)) (9 - i) w4) := Lib.hid ⟨i + 1, by omega, by omega, by go_num, by rw [HQ.out]; rfl, by rw [HAV.out, HQ.out]; rfl, HC3.out.more hb4⟩
        clear hb4
        go_wp2_with fail
        go_roundg (9 - i)
        case measure => have := HGG.out; omega
        case rel => exact HNE2.out
      · obtain rfl : i = 10 := by omega
        have HCO := Lib.hid hco
        have HJ := Lib.hid (fun w => join_any l.length q w h6 h32 (in_ten.1 HIN.out))
        rw [HSZ.out] at HJ
        have HER := Lib.hid (show encR key tw l = joinT s.size q by unfold encR encT; rw [if_pos HNE.out, ← HQ.out, HSZ.out])
        clear hco
        go_wp2_with fail
        refine (HJ.out _).mono ?_
        rintro e w2 ⟨rfl, hb2⟩
        have HB2 := Lib.hid hb2
        clear hb2
        go_wp2_with fail
        go_ret2
        exact ⟨by rw [HER.out, HNE.out]; rfl, HCO.out.more HB2.out⟩
  · have HER := Lib.hid (show encR key tw l = [] from if_neg hne)
    obtain ⟨er, her⟩ : ∃ er, er = nmE l := ⟨_, rfl⟩
    have hne2 : ¬ er = 0 := by rw [her]; exact hne
    have HE := Lib.hid her
    clear hne her hsz
    go_enter Tryd.func31, Tryd.ntmps31
    go_wp2_with fail
    refine (HH.out _).mono ?_
    rintro e w1 ⟨⟨a, b, rfl, _⟩, rfl⟩
    rw [← HE.out]
    go_wp2_with fail
    go_ret2
    exact ⟨by rw [HER.out, HE.out]; rfl, CipOut.refl_ H.out⟩
end Go.Proofs.YtiijjpjkfiookaaDoor
