/- THE WALK of the law VaultApart. -/
import Derived.Test.YtogpnlfbdhddmaaGreatDoorGVault
import Derived.Test.YtogpnlfbdhddmaaGreatDoorGPan
namespace Go.Proofs.YtogpnlfbdhddmaaGreatDoor
open Go.RowKit

theorem vbeq {a b : ByteArray} : (a.toList == b.toList) = decide (a.data.toList = b.data.toList) := by
  rw [Lib.toList_data, Lib.toList_data]
  by_cases h : a.data.toList = b.data.toList
  · rw [h, decide_eq_true rfl]; simp
  · rw [decide_eq_false h]; simpa using h
set_option maxRecDepth 100000 in
set_option maxHeartbeats 4000000 in
theorem VaultApart_no (A : Option Addr) (n c : Nat) (m : List UInt8) (t0 v0 : Int) (s t : ByteArray) (w : World) (hr : Reads w w.heap.size 1 A n (bv m)) (hno : vOk m t0 v0 = false) (ht : Tab w) :
    Calls Tryz.prog 6 #[.slice A n c, .int .i64 t0, .int .i64 v0, .string s, .string t] w fun e w' => e = .returned (.bool true) ∧ Below w.heap.size w w' := by
  have HOK := Lib.hid hno
  have HNEW := Lib.hid (fun w1 (hb : Below w.heap.size w w1) => New_vau m A n c w.heap.size t0 v0 w1 (hr.below hb) hb.size (ht.below hb))
  clear hno hr
  go_enter Tryz.func6, Tryz.ntmps6
  go_wp2_with fail
  refine (small14_any _ ht).mono ?_
  rintro e w1 ⟨rfl, hb1⟩
  have HB1 := Lib.hid hb1
  clear hb1
  go_wp2_with fail
  refine (HNEW.out w1 HB1.out).mono ?_
  rintro e w2 ⟨hb2, ⟨_, rfl⟩ | ⟨h0, _⟩⟩
  · have HB2 := Lib.hid (thenB HB1.out hb2)
    clear hb2
    go_wp2_with fail
    go_ret
    exact ⟨rfl, HB2.out⟩
  · rw [HOK.out] at h0; cases h0
set_option maxRecDepth 100000 in
set_option maxHeartbeats 4000000 in
theorem VaultApart_bad (A : Option Addr) (n c : Nat) (m : List UInt8) (t v : Nat) (s u : ByteArray) (w : World) (hr : Reads w w.heap.size 1 A n (bv m)) (hok : vOk m t v = true) (hs : s.size ≤ maxLen) (hu : u.size ≤ maxLen) (ht : Tab w) (hbad : panB s.data.toList = false ∨ panB u.data.toList = false) :
    Calls Tryz.prog 6 #[.slice A n c, .int .i64 t, .int .i64 v, .string s, .string u] w fun e w' => e = .returned (.bool true) ∧ Below w.heap.size w w' := by
  have HOK := Lib.hid hok
  have HV0 := Lib.hid (VOk.of_new hok).1
  rw [Int.toNat_natCast, Int.toNat_natCast] at HV0
  have HNEW := Lib.hid (fun w1 (hb : Below w.heap.size w w1) => New_vau m A n c w.heap.size t v w1 (hr.below hb) hb.size (ht.below hb))
  have HR : ∀ l, (panB l = false ∧ vtR m t v l = .returned (.tuple #[.string ⟨#[]⟩, .int .i64 10])) ∨ (panB l = true ∧ ∃ x : ByteArray, vtR m t v l = .returned (.tuple #[.string x, .int .i64 0])) := fun l => by
    cases h : panB l with
    | false => exact .inl ⟨rfl, vtR_no h⟩
    | true => exact .inr ⟨rfl, ⟨(vtS m t v l).toArray⟩, by unfold vtR; rw [vtE_yes h]⟩
  have H1 := HR s.data.toList
  have H2 := HR u.data.toList
  clear hok hr HR
  rcases H1 with ⟨_, h1⟩ | ⟨p1, x, h1⟩
  · rcases H2 with ⟨_, h2⟩ | ⟨p2, y, h2⟩
    all_goals
      have HR1 := Lib.hid h1
      have HR2 := Lib.hid h2
      clear h1 h2 hbad
      go_enter Tryz.func6, Tryz.ntmps6
      go_wp2_with fail
      refine (small14_any _ ht).mono ?_
      rintro e w1 ⟨rfl, hb1⟩
      have HB1 := Lib.hid hb1
      clear hb1
      go_wp2_with fail
      refine (HNEW.out w1 HB1.out).mono ?_
      rintro e w2 ⟨hb2, ⟨h0, _⟩ | ⟨_, vb, rfl, hvb, hva⟩⟩
      · rw [HOK.out] at h0; cases h0
      rw [Int.toNat_natCast, Int.toNat_natCast] at hva
      have HS2 := Lib.hid (sin_new (w0 := w) HB1.out hb2 hvb hva)
      clear hb2 hva hvb
      go_wp2_with fail
      refine (sToken HS2.out HV0.out ht s hs).mono ?_
      rw [HR1.out]
      rintro e w3 ⟨rfl, h3⟩
      have HS3 := Lib.hid h3
      clear h3
      go_wp2_with fail
      refine (sToken HS3.out HV0.out ht u hu).mono ?_
      rw [HR2.out]
      rintro e w4 ⟨rfl, h4⟩
      have HS4 := Lib.hid h4
      clear h4
      go_wp2_with fail
      go_ret
      exact ⟨rfl, HS4.out.2.2⟩
  · rcases H2 with ⟨_, h2⟩ | ⟨p2, y, h2⟩
    · have HR1 := Lib.hid h1
      have HR2 := Lib.hid h2
      clear h1 h2 hbad p1
      go_enter Tryz.func6, Tryz.ntmps6
      go_wp2_with fail
      refine (small14_any _ ht).mono ?_
      rintro e w1 ⟨rfl, hb1⟩
      have HB1 := Lib.hid hb1
      clear hb1
      go_wp2_with fail
      refine (HNEW.out w1 HB1.out).mono ?_
      rintro e w2 ⟨hb2, ⟨h0, _⟩ | ⟨_, vb, rfl, hvb, hva⟩⟩
      · rw [HOK.out] at h0; cases h0
      rw [Int.toNat_natCast, Int.toNat_natCast] at hva
      have HS2 := Lib.hid (sin_new (w0 := w) HB1.out hb2 hvb hva)
      clear hb2 hva hvb
      go_wp2_with fail
      refine (sToken HS2.out HV0.out ht s hs).mono ?_
      rw [HR1.out]
      rintro e w3 ⟨rfl, h3⟩
      have HS3 := Lib.hid h3
      clear h3
      go_wp2_with fail
      refine (sToken HS3.out HV0.out ht u hu).mono ?_
      rw [HR2.out]
      rintro e w4 ⟨rfl, h4⟩
      have HS4 := Lib.hid h4
      clear h4
      go_wp2_with fail
      go_ret
      exact ⟨rfl, HS4.out.2.2⟩
    · rcases hbad with h | h
      · rw [p1] at h; cases h
      · rw [p2] at h; cases h
set_option maxRecDepth 100000 in
set_option maxHeartbeats 4000000 in
theorem VaultApart_good (A : Option Addr) (n c : Nat) (m : List UInt8) (t v : Nat) (s u : ByteArray) (w : World) (hr : Reads w w.heap.size 1 A n (bv m)) (hok : vOk m t v = true) (hs : s.size ≤ maxLen) (hu : u.size ≤ maxLen) (ht : Tab w) (hp : panB s.data.toList = true) (hq : panB u.data.toList = true) :
    Calls Tryz.prog 6 #[.slice A n c, .int .i64 t, .int .i64 v, .string s, .string u] w fun e w' => e = .returned (.bool true) ∧ Below w.heap.size w w' := by
  have HOK := Lib.hid hok
  have hv0 := (VOk.of_new hok).1
  rw [Int.toNat_natCast, Int.toNat_natCast] at hv0
  obtain ⟨_, _, _, hn1, hn2⟩ := id hv0
  have HV0 := Lib.hid hv0
  have HNEW := Lib.hid (fun w1 (hb : Below w.heap.size w w1) => New_vau m A n c w.heap.size t v w1 (hr.below hb) hb.size (ht.below hb))
  obtain ⟨x, d, hx, hxd, hdd, hr1, hsp⟩ := vt_split (m := m) (t := t) (now := v) hp hn1 hn2
  obtain ⟨y, _, _, hyd, _, hr2, _⟩ := vt_split (m := m) (t := t) (now := v) hq hn1 hn2
  have hsh := pan_shaped hp
  have hh := hid_parts hsh (vKey m t v)
  have hdl : d.size = s.size := by rw [← size_toList, hdd, hh.2.2.2.2, size_toList]
  have hdl2 : ((d.size : Int) == (s.size : Int)) = true := by simp [hdl]
  have hdm : d.size ≤ maxLen := by rw [hdl]; exact hs
  have HSH := Lib.hid (fun w => show Calls Tryz.prog 26 #[.string d] w (fun e w' => e = .returned (.bool true) ∧ Below w.heap.size w w') by
    have h := rShaped_any d w hdm
    rw [hdd, hh.1] at h
    exact h)
  obtain ⟨mk, hmk⟩ : ∃ mk : ByteArray, mk = ⟨(maskS s.data.toList).toArray⟩ := ⟨_, rfl⟩
  have HM1 := Lib.hid (fun w (h : Tab w) => show Calls Tryz.prog 27 #[.string d] w (fun e w' => e = .returned (.string mk) ∧ Below w.heap.size w w') by
    have h := Mask_any d w hdm h
    rw [hdd, mask_hid hsh, ← hmk] at h
    exact h)
  have HM2 := Lib.hid (fun w (h : Tab w) => show Calls Tryz.prog 27 #[.string s] w (fun e w' => e = .returned (.string mk) ∧ Below w.heap.size w w') by
    have h := Mask_any s w hs h
    rw [← hmk] at h
    exact h)
  obtain ⟨b, hb⟩ : ∃ b, b = (s.toList == u.toList) := ⟨_, rfl⟩
  have hbx : (x.toList == y.toList) = b := by
    rw [hb, vbeq, vbeq, hxd, hyd]
    by_cases he : s.data.toList = u.data.toList
    · rw [he]; simp
    · rw [decide_eq_false he, decide_eq_false (fun e => he (tok_inj hp hq hn1 hn2 e))]
  have hbs := hb.symm
  have HR1 := Lib.hid hr1
  have HR2 := Lib.hid hr2
  have HSP := Lib.hid (fun w (h : Tab w) => show Calls Tryz.prog 14 #[.string x] w (fun e w' => e = .returned (.tuple #[.string d, .int .i64 v, .int .i64 0]) ∧ Below w.heap.size w w') by
    have h := Split_any x w (by unfold maxLen; omega) h
    rw [hsp] at h
    exact h)
  clear hok hr hv0 hx hxd hdd hr1 hsp hyd hr2 hsh hh hdl hdm hmk hb hp hq
  go_enter Tryz.func6, Tryz.ntmps6
  go_wp2_with fail
  refine (small14_any _ ht).mono ?_
  rintro e w1 ⟨rfl, hb1⟩
  have HB1 := Lib.hid hb1
  clear hb1
  go_wp2_with fail
  refine (HNEW.out w1 HB1.out).mono ?_
  rintro e w2 ⟨hb2, ⟨h0, _⟩ | ⟨_, vb, rfl, hvb, hva⟩⟩
  · rw [HOK.out] at h0; cases h0
  rw [Int.toNat_natCast, Int.toNat_natCast] at hva
  have HS2 := Lib.hid (sin_new (w0 := w) HB1.out hb2 hvb hva)
  clear hb2 hva hvb
  go_wp2_with fail
  refine (sToken HS2.out HV0.out ht s hs).mono ?_
  rw [HR1.out]
  rintro e w3 ⟨rfl, h3⟩
  have HS3 := Lib.hid h3
  clear h3
  go_wp2_with fail
  refine (sToken HS3.out HV0.out ht u hu).mono ?_
  rw [HR2.out]
  rintro e w4 ⟨rfl, h4⟩
  have HS4 := Lib.hid h4
  clear h4
  go_wp2_with fail
  refine (HSP.out _ (HS4.out.tab ht)).mono ?_
  rintro e w5 ⟨rfl, hb5⟩
  have HS5 := Lib.hid (HS4.out.below hb5)
  clear hb5
  go_wp2_with fail
  refine (HSH.out _).mono ?_
  rintro e w6 ⟨rfl, hb6⟩
  have HS6 := Lib.hid (HS5.out.below hb6)
  clear hb6
  go_wp2_with fail
  refine (HM1.out _ (HS6.out.tab ht)).mono ?_
  rintro e w7 ⟨rfl, hb7⟩
  have HS7 := Lib.hid (HS6.out.below hb7)
  clear hb7
  go_wp2_with fail
  refine (HM2.out _ (HS7.out.tab ht)).mono ?_
  rintro e w8 ⟨rfl, hb8⟩
  have HS8 := Lib.hid (HS7.out.below hb8)
  clear hb8
  go_wp2_with fail
  go_ret
  exact ⟨rfl, HS8.out.2.2⟩
theorem VaultApart_walk (A : Option Addr) (n c : Nat) (m : List UInt8) (t0 v0 : Int) (s u : ByteArray) (w : World) (hr : Reads w w.heap.size 1 A n (bv m)) (_hc : n ≤ c ∧ c ≤ 140737488351232) (_h1 : (Lit.int .i64 t0).wf = true) (_h2 : (Lit.int .i64 v0).wf = true) (hs : s.size ≤ maxLen) (hu : u.size ≤ maxLen) (ht : Tab w) :
    Calls Tryz.prog 6 #[.slice A n c, .int .i64 t0, .int .i64 v0, .string s, .string u] w fun e w' => e = .returned (.bool true) ∧ Below w.heap.size w w' := by
  cases hok : vOk m t0 v0 with
  | false => exact VaultApart_no A n c m t0 v0 s u w hr hok ht
  | true =>
    obtain ⟨_, h1, h2⟩ := VOk.of_new hok
    obtain ⟨t, rfl⟩ := Int.eq_ofNat_of_zero_le h1
    obtain ⟨v, rfl⟩ := Int.eq_ofNat_of_zero_le h2
    cases hp : panB s.data.toList with
    | false => exact VaultApart_bad A n c m t v s u w hr hok hs hu ht (.inl hp)
    | true =>
      cases hq : panB u.data.toList with
      | false => exact VaultApart_bad A n c m t v s u w hr hok hs hu ht (.inr hq)
      | true => exact VaultApart_good A n c m t v s u w hr hok hs hu ht hp hq
end Go.Proofs.YtogpnlfbdhddmaaGreatDoor
