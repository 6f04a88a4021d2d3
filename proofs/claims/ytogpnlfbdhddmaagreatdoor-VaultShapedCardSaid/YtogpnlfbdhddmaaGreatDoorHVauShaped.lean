/- THE WALK of the law VaultShaped. -/
import Derived.Test.YtogpnlfbdhddmaaGreatDoorHVauApart
import Derived.Test.YtogpnlfbdhddmaaGreatDoorHVauRot
namespace Go.Proofs.YtogpnlfbdhddmaaGreatDoor
open Go.RowKit

set_option maxRecDepth 100000 in
set_option maxHeartbeats 4000000 in
theorem VaultShaped_no (t0 : Int) (s : ByteArray) (i k : Int) (w : World) (hno : vOk (zeros' 20) t0 1 = false) (hs : s.size ≤ maxLen) (ht : Tab w) :
    Calls Tryz.prog 4 #[.int .i64 t0, .string s, .int .i64 i, .int .i64 k] w fun e w' => e = .returned (.bool true) ∧ Below w.heap.size w w' := by
  have hmk := vmake20
  have HOK := Lib.hid hno
  have HNEW := Lib.hid (fun w1 (h : Tab (w1.alloc (.cells (bv (zeros' 20)).toArray 5))) => New_vau (zeros' 20) (some ⟨w1.heap.size, 0, none⟩) 20 20 (w1.heap.size + 1) t0 1 (w1.alloc (.cells (bv (zeros' 20)).toArray 5)) (zeros_reads w1 _ 20) (by simp) h)
  have HCUT := Lib.hid (fun w => Cut_any s w hs)
  obtain ⟨f, hf⟩ : ∃ f : Int, f = if shapedB s.data.toList = true then 0 else 10 := ⟨_, rfl⟩
  unfold cutR at HCUT
  rw [← hf] at HCUT
  clear hno hf
  generalize zeros' 20 = ms at *
  go_enter Tryz.func4, Tryz.ntmps4
  go_wp2_with fail
  refine (small14_any _ ht).mono ?_
  rintro e w1 ⟨rfl, hb1⟩
  have HB1 := Lib.hid hb1
  have HT1 := Lib.hid (ht.below hb1)
  clear hb1
  go_wp2_with fail
  refine (HNEW.out w1 (HT1.out.below ((Below.refl _ _).alloc (Nat.le_refl _) _))).mono ?_
  rintro e w2 ⟨hb2, ⟨_, rfl⟩ | ⟨h0, _⟩⟩
  · have HB2 := Lib.hid (thenB (HB1.out.alloc HB1.out.size _) hb2)
    clear hb2 hmk
    go_wp2_with fail
    refine (HCUT.out _).mono ?_
    rintro e w3 ⟨rfl, hb3⟩
    have HB3 := Lib.hid (thenB HB2.out hb3)
    clear hb3
    go_wp2_with fail
    go_ret
    exact ⟨rfl, HB3.out⟩
  · rw [HOK.out] at h0; cases h0
set_option maxRecDepth 100000 in
set_option maxHeartbeats 4000000 in
theorem VaultShaped_bad (t : Nat) (s : ByteArray) (i k : Int) (w : World) (hok : vOk (zeros' 20) t 1 = true) (hs : s.size ≤ maxLen) (ht : Tab w) (hp : panB s.data.toList = false) :
    Calls Tryz.prog 4 #[.int .i64 t, .string s, .int .i64 i, .int .i64 k] w fun e w' => e = .returned (.bool true) ∧ Below w.heap.size w w' := by
  have hmk := vmake20
  have HOK := Lib.hid hok
  have HNEW := Lib.hid (fun w1 (h : Tab (w1.alloc (.cells (bv (zeros' 20)).toArray 5))) => New_vau (zeros' 20) (some ⟨w1.heap.size, 0, none⟩) 20 20 (w1.heap.size + 1) t 1 (w1.alloc (.cells (bv (zeros' 20)).toArray 5)) (zeros_reads w1 _ 20) (by simp) h)
  have HCUT := Lib.hid (fun w => Cut_any s w hs)
  have HIS := Lib.hid (fun w => Is_any s w hs)
  rw [hp] at HIS
  clear hok hp
  generalize zeros' 20 = ms at *
  cases hsh : shapedB s.data.toList with
  | false =>
    have HCR := Lib.hid (cutR_no hsh)
    clear hsh
    go_enter Tryz.func4, Tryz.ntmps4
    go_wp2_with fail
    refine (small14_any _ ht).mono ?_
    rintro e w1 ⟨rfl, hb1⟩
    have HB1 := Lib.hid hb1
    have HT1 := Lib.hid (ht.below hb1)
    clear hb1
    go_wp2_with fail
    refine (HNEW.out w1 (HT1.out.below ((Below.refl _ _).alloc (Nat.le_refl _) _))).mono ?_
    rintro e w2 ⟨hb2, ⟨h0, _⟩ | ⟨_, vb, rfl, hvb, hva⟩⟩
    · rw [HOK.out] at h0; cases h0
    have HB2 := Lib.hid (thenB (HB1.out.alloc HB1.out.size _) hb2)
    clear hb2 hmk hvb hva
    go_wp2_with fail
    refine (HCUT.out _).mono ?_
    rw [HCR.out]
    rintro e w3 ⟨rfl, hb3⟩
    have HB3 := Lib.hid (thenB HB2.out hb3)
    clear hb3
    go_wp2_with fail
    go_ret
    exact ⟨rfl, HB3.out⟩
  | true =>
    have HCR := Lib.hid (cutR_yes hsh)
    clear hsh
    go_enter Tryz.func4, Tryz.ntmps4
    go_wp2_with fail
    refine (small14_any _ ht).mono ?_
    rintro e w1 ⟨rfl, hb1⟩
    have HB1 := Lib.hid hb1
    have HT1 := Lib.hid (ht.below hb1)
    clear hb1
    go_wp2_with fail
    refine (HNEW.out w1 (HT1.out.below ((Below.refl _ _).alloc (Nat.le_refl _) _))).mono ?_
    rintro e w2 ⟨hb2, ⟨h0, _⟩ | ⟨_, vb, rfl, hvb, hva⟩⟩
    · rw [HOK.out] at h0; cases h0
    have HB2 := Lib.hid (thenB (HB1.out.alloc HB1.out.size _) hb2)
    clear hb2 hmk hvb hva
    go_wp2_with fail
    refine (HCUT.out _).mono ?_
    rw [HCR.out]
    rintro e w3 ⟨rfl, hb3⟩
    have HB3 := Lib.hid (thenB HB2.out hb3)
    clear hb3
    go_wp2_with fail
    refine (HIS.out _).mono ?_
    rintro e w4 ⟨rfl, hb4⟩
    have HB4 := Lib.hid (thenB HB3.out hb4)
    clear hb4
    go_wp2_with fail
    go_ret
    exact ⟨rfl, HB4.out⟩
set_option maxRecDepth 100000 in
set_option maxHeartbeats 8000000 in
theorem VaultShaped_good (t : Nat) (s : ByteArray) (i k : Int) (w : World) (hok : vOk (zeros' 20) t 1 = true) (hs : s.size ≤ maxLen) (ht : Tab w) (hp : panB s.data.toList = true) :
    Calls Tryz.prog 4 #[.int .i64 t, .string s, .int .i64 i, .int .i64 k] w fun e w' => e = .returned (.bool true) ∧ Below w.heap.size w w' := by
  have hmk := vmake20
  have HOK := Lib.hid hok
  have hv0 := (VOk.of_new hok).1
  rw [Int.toNat_natCast, show (1 : Int).toNat = 1 from rfl] at hv0
  have HV0 := Lib.hid hv0
  have HNEW := Lib.hid (fun w1 (h : Tab (w1.alloc (.cells (bv (zeros' 20)).toArray 5))) => New_vau (zeros' 20) (some ⟨w1.heap.size, 0, none⟩) 20 20 (w1.heap.size + 1) t 1 (w1.alloc (.cells (bv (zeros' 20)).toArray 5)) (zeros_reads w1 _ 20) (by simp) h)
  have HCUT := Lib.hid (fun w => Cut_any s w hs)
  have HIS := Lib.hid (fun w => Is_any s w hs)
  rw [hp] at HIS
  clear hok hv0
  generalize zeros' 20 = ms at *
  obtain ⟨l, hl⟩ : ∃ l, l = s.data.toList := ⟨_, rfl⟩
  have HLS := Lib.hid hl
  rw [← hl] at HCUT hp
  have hsh := pan_shaped hp
  obtain ⟨p1, p2, p3, p4, p5⟩ := parts_len hsh
  have HCR := Lib.hid (cutR_yes hsh)
  obtain ⟨a, ha⟩ : ∃ a : ByteArray, a = ⟨(binP l).toArray⟩ := ⟨_, rfl⟩
  obtain ⟨b, hb⟩ : ∃ b : ByteArray, b = ⟨(midP l).toArray⟩ := ⟨_, rfl⟩
  obtain ⟨c, hc⟩ : ∃ c : ByteArray, c = ⟨(lastP l).toArray⟩ := ⟨_, rfl⟩
  rw [← ha, ← hb, ← hc] at HCR
  have hbd : b.data.toList = midP l := by rw [hb]
  have hsa : a.size ≤ 6 := by rw [ha, len_arr, p1]; omega
  have hsb : b.size ≤ 9 := by rw [hb, len_arr, p2]; omega
  have hsb6 : 6 ≤ b.size := by rw [hb, len_arr, p2]; omega
  have hsc : c.size ≤ 4 := by rw [hc, len_arr, p3]; omega
  obtain ⟨q1, hq1, hqe1⟩ := v_and (a := i) (m := 1023) (by decide)
  rw [show ((1023 : Nat) : Int) = 1023 from rfl] at hqe1
  obtain ⟨q2, hq2, hqe2⟩ := v_and (a := k) (m := 3) (by decide)
  rw [show ((3 : Nat) : Int) = 3 from rfl] at hqe2
  obtain ⟨X, hX⟩ : ∃ X : Nat, X = q1 % b.size := ⟨_, rfl⟩
  have hXl : X < b.size := by rw [hX]; exact Nat.mod_lt _ (by omega)
  have hXe : (q1 : Int) % (b.size : Int) = (X : Int) := by rw [hX]; exact (Int.natCast_emod _ _).symm
  clear hX
  by_cases hY : X + 2 * q2 < b.size
  · have hpe := pan_exch (x := X) (k := q2) hp (by rw [← hbd, size_toList]; exact hY)
    obtain ⟨Y, hYe⟩ : ∃ Y, Y = X + 2 * q2 := ⟨_, rfl⟩
    rw [← hYe] at hpe hY
    have hYi : (X : Int) + 2 * (q2 : Int) = (Y : Int) := by omega
    have hYlt : (Y : Int) < (b.size : Int) := by omega
    have hXlt : (X : Int) < (b.size : Int) := by omega
    clear hYe
    obtain ⟨d, hd⟩ : ∃ d : ByteArray, d = ⟨(exch (midP l) X Y).toArray⟩ := ⟨_, rfl⟩
    have hds : d.size ≤ 9 := by rw [hd, len_arr, length_exch, ← hbd, size_toList]; omega
    obtain ⟨u, hu⟩ : ∃ u : ByteArray, u = a ++ d ++ c := ⟨_, rfl⟩
    have hud : u.data.toList = binP l ++ exch (midP l) X Y ++ lastP l := by rw [hu, ha, hd, hc, vcat3]
    have hum : u.size ≤ maxLen := by rw [hu]; simp only [ByteArray.size_append]; unfold maxLen; omega
    have HISU := Lib.hid (fun w => Is_any u w hum)
    rw [hud, hpe] at HISU
    obtain ⟨x, _, _, hxd, _, hr1, _⟩ := vt_split (m := ms) (t := t) (now := 1) hp (by decide) (by decide)
    obtain ⟨y, _, _, hyd, _, hr2, _⟩ := vt_split (m := ms) (t := t) (now := 1) hpe (by decide) (by decide)
    obtain ⟨bb, hbb⟩ : ∃ bb, bb = (s.toList == u.toList) := ⟨_, rfl⟩
    have hbx : (x.toList == y.toList) = bb := by
      rw [hbb, vbeq, vbeq, hxd, hyd, ← HLS.out, hud]
      by_cases he : l = binP l ++ exch (midP l) X Y ++ lastP l
      · rw [← he]; simp
      · rw [decide_eq_false he, decide_eq_false (fun e => he (tok_inj hp hpe (by decide) (by decide) e))]
    have hbs := hbb.symm
    have HR1 := Lib.hid (show vtR ms t 1 s.data.toList = .returned (.tuple #[.string x, .int .i64 0]) by rw [← HLS.out]; exact hr1)
    have HR2 := Lib.hid (show vtR ms t 1 u.data.toList = .returned (.tuple #[.string y, .int .i64 0]) by rw [hud]; exact hr2)
    have HD := Lib.hid hd
    have HBD := Lib.hid hbd
    rw [hu] at hbs HISU HR2 hum
    have HUM := Lib.hid hum
    clear hl hp hsh p1 p2 p3 p4 p5 ha hb hc hbd hpe hd hu hud hum hxd hr1 hyd hr2 hbb
    go_enter Tryz.func4, Tryz.ntmps4
    go_wp2_with fail
    refine (small14_any _ ht).mono ?_
    rintro e w1 ⟨rfl, hb1⟩
    have HB1 := Lib.hid hb1
    have HT1 := Lib.hid (ht.below hb1)
    clear hb1
    go_wp2_with fail
    refine (HNEW.out w1 (HT1.out.below ((Below.refl _ _).alloc (Nat.le_refl _) _))).mono ?_
    rintro e w2 ⟨hb2, ⟨h0, _⟩ | ⟨_, vb, rfl, hvb, hva⟩⟩
    · rw [HOK.out] at h0; cases h0
    rw [Int.toNat_natCast, show (1 : Int).toNat = 1 from rfl] at hva
    have HS2 := Lib.hid (sin_new (w0 := w) (HB1.out.alloc HB1.out.size _) hb2 hvb hva)
    clear hb2 hmk hvb hva
    go_wp2_with fail
    refine (HCUT.out _).mono ?_
    rw [HCR.out]
    rintro e w3 ⟨rfl, hb3⟩
    have HS3 := Lib.hid (HS2.out.below hb3)
    clear hb3
    go_wp2_with fail
    refine (HIS.out _).mono ?_
    rintro e w4 ⟨rfl, hb4⟩
    have HS4 := Lib.hid (HS3.out.below hb4)
    clear hb4
    obtain ⟨c5, w5, hrun, hrow, hb5⟩ := run_bytes_str (P := Tryz.prog) Tryz.underlying9 Tryz.underlying27 Tryz.underlying5 b (by unfold maxLen; omega) w4
    have hlb : b.data.toList.length = b.size := size_toList b
    have hXb : X < b.data.toList.length := by omega
    have hYb : Y < b.data.toList.length := by omega
    obtain ⟨vX, hvX⟩ : ∃ vX, vX = b.data.toList[X] := ⟨_, rfl⟩
    obtain ⟨vY, hvY⟩ : ∃ vY, vY = b.data.toList[Y] := ⟨_, rfl⟩
    have c1 := hrow.cell (j := X) (bv_at b.data.toList X hXb)
    have c2 := hrow.cell (j := Y) (bv_at b.data.toList Y hYb)
    have f1 := hrow.free (j := X) (by have := hrow.2.1; omega)
    have f2 := hrow.free (j := Y) (by have := hrow.2.1; omega)
    have r1 := hrow.set (j := X) (by have := hrow.2.1; omega) (.int .u8 (vY.toNat : Int))
    rw [← bv_set] at r1
    have c3 := r1.cell (j := Y) (u := .int .u8 (vY.toNat : Int)) (by
      rw [bv_at _ Y (by rw [List.length_set]; exact hYb)]
      by_cases hxy : X = Y
      · subst hxy; simp
      · rw [List.getElem_set_ne hxy, ← hvY])
    have f3 := r1.free (j := Y) (by have := hrow.2.1; omega)
    have r2 := r1.set (j := Y) (by have := hrow.2.1; omega) (.int .u8 (vX.toNat : Int))
    rw [← bv_set] at r2
    have hex : (b.data.toList.set X vY).set Y vX = exch (midP l) X Y := by
      unfold exch
      rw [← HBD.out, List.getD_eq_getElem?_getD, List.getD_eq_getElem?_getD, List.getElem?_eq_getElem hXb, List.getElem?_eq_getElem hYb, hvX, hvY]; rfl
    rw [hex] at r2
    have hcv := run_conv_bytes (P := Tryz.prog) Tryz.underlying27 Tryz.underlying5 Tryz.underlying9 (cap := c5) r2.reads
    rw [← HD.out] at hcv
    rw [← hvX] at c1
    rw [← hvY] at c2
    rw [Nat.zero_add] at c1 c2 c3 f1 f2 f3 hcv
    rw [Nat.zero_add] at c3 f3 hcv
    have HS6 := Lib.hid (show VauSin w vb ms t 1 ((w5.setCell ⟨w4.heap.size, X, none⟩ (.int .u8 (vY.toNat : Int))).setCell ⟨w4.heap.size, Y, none⟩ (.int .u8 (vX.toNat : Int))) from HS4.out.below ((hb5.setCell (Nat.le_refl _) _).setCell (Nat.le_refl _) _))
    clear hrow hb5 hlb hXb hYb hvX hvY r1 r2 hex
    go_wp2_with fail
    refine (sToken HS6.out HV0.out ht s hs).mono ?_
    rw [HR1.out]
    rintro e w7 ⟨rfl, h7⟩
    have HS7 := Lib.hid h7
    clear h7
    go_wp2_with fail
    refine (sToken HS7.out HV0.out ht _ HUM.out).mono ?_
    rw [HR2.out]
    rintro e w8 ⟨rfl, h8⟩
    have HS8 := Lib.hid h8
    clear h8
    go_wp2_with fail
    refine (HISU.out _).mono ?_
    rintro e w9 ⟨rfl, hb9⟩
    have HS9 := Lib.hid (HS8.out.below hb9)
    clear hb9
    go_wp2_with fail
    go_ret
    exact ⟨rfl, HS9.out.2.2⟩
  · have hYi : (b.size : Int) ≤ (X : Int) + 2 * (q2 : Int) := by omega
    clear hl hp hsh p1 p2 p3 p4 p5 ha hb hc hbd
    go_enter Tryz.func4, Tryz.ntmps4
    go_wp2_with fail
    refine (small14_any _ ht).mono ?_
    rintro e w1 ⟨rfl, hb1⟩
    have HB1 := Lib.hid hb1
    have HT1 := Lib.hid (ht.below hb1)
    clear hb1
    go_wp2_with fail
    refine (HNEW.out w1 (HT1.out.below ((Below.refl _ _).alloc (Nat.le_refl _) _))).mono ?_
    rintro e w2 ⟨hb2, ⟨h0, _⟩ | ⟨_, vb, rfl, hvb, hva⟩⟩
    · rw [HOK.out] at h0; cases h0
    have HB2 := Lib.hid (thenB (HB1.out.alloc HB1.out.size _) hb2)
    clear hb2 hmk hvb hva
    go_wp2_with fail
    refine (HCUT.out _).mono ?_
    rw [HCR.out]
    rintro e w3 ⟨rfl, hb3⟩
    have HB3 := Lib.hid (thenB HB2.out hb3)
    clear hb3
    go_wp2_with fail
    refine (HIS.out _).mono ?_
    rintro e w4 ⟨rfl, hb4⟩
    have HB4 := Lib.hid (thenB HB3.out hb4)
    clear hb4
    obtain ⟨c5, w5, hrun, hrow, hb5⟩ := run_bytes_str (P := Tryz.prog) Tryz.underlying9 Tryz.underlying27 Tryz.underlying5 b (by unfold maxLen; omega) w4
    have HB5 := Lib.hid (thenB HB4.out hb5)
    clear hrow hb5
    go_wp2_with fail
    go_ret
    exact ⟨rfl, HB5.out⟩
theorem VaultShaped_walk (t0 : Int) (s : ByteArray) (i k : Int) (w : World) (_h1 : (Lit.int .i64 t0).wf = true) (hs : s.size ≤ maxLen) (_h2 : (Lit.int .i64 i).wf = true) (_h3 : (Lit.int .i64 k).wf = true) (ht : Tab w) :
    Calls Tryz.prog 4 #[.int .i64 t0, .string s, .int .i64 i, .int .i64 k] w fun e w' => e = .returned (.bool true) ∧ Below w.heap.size w w' := by
  cases hok : vOk (zeros' 20) t0 1 with
  | false => exact VaultShaped_no t0 s i k w hok hs ht
  | true =>
    obtain ⟨_, h1, _⟩ := VOk.of_new hok
    obtain ⟨t, rfl⟩ := Int.eq_ofNat_of_zero_le h1
    cases hp : panB s.data.toList with
    | false => exact VaultShaped_bad t s i k w hok hs ht hp
    | true => exact VaultShaped_good t s i k w hok hs ht hp
end Go.Proofs.YtogpnlfbdhddmaaGreatDoor
