/- THE WALK of roles.Parse. -/
import Derived.Test.YtnhcabcpdlgdaaaDoorAdm4a
namespace Go.Proofs.YtnhcabcpdlgdaaaDoor
open Go.RowKit

set_option maxRecDepth 100000 in
set_option maxHeartbeats 8000000 in
theorem Parse_long (A : Option Addr) (n c B : Nat) (l : List UInt8) (w : World) (hr : Reads w B 1 A n (bv l)) (hB : B ≤ w.heap.size) (hc : n ≤ c ∧ c ≤ 9223372036854775807) (h : 43 ≤ n) :
    Calls Tryd.prog 34 #[.slice A n c] w fun e w' => e = .returned (.tuple #[(parA l).val, .int .i64 (parE l)]) ∧ Below w.heap.size w w' := by
  obtain ⟨hnc, hcc⟩ := hc
  have hl : l.length = n := by have := hr.1; rw [length_bv] at this; omega
  have HR := Lib.hid hr
  obtain ⟨b0, o0, rfl, hb0, hcell⟩ := hr.2 (by omega)
  have HCELL := Lib.hid hcell
  clear hr hcell
  go_enter Tryd.func34, Tryd.ntmps34
  go_wp2_with fail
  go_loopw [13] (fun s wr => ParOuter w l s wr) (fun s _ => 5 - (intOf s).toNat)
  case atStart => exact ⟨0, by omega, rfl, by rw [par_zero]; have h := Blk.new (w.alloc (.cells zeroAdm 38)) 63 #[.int .i64 0, .int .i64 0, .int .i64 0, .int .i64 0, .int .i64 0]; rw [show (w.alloc (.cells zeroAdm 38)).heap.size = w.heap.size + 1 by simp] at h; exact h, (Blk.new _ _ _).alloc _, ((Below.refl _ _).alloc (Nat.le_refl _) _).alloc (by simp) _⟩
  case round =>
    obtain ⟨k, hk5, rfl, hblk, hres, hb⟩ := hrel
    have HBLK := Lib.hid hblk
    have HRES := Lib.hid hres
    have HB := Lib.hid hb
    have hsz := hb.size
    clear hblk hres hb
    by_cases hk : k < 5
    · go_wp2_with fail
      go_loopw [26] (fun s wr => ParInner w l k s wr) (fun s _ => 8 - (intOf s).toNat)
      case atStart => exact ⟨0, by omega, rfl, HBLK.out, HRES.out, HB.out⟩
      case round =>
        clear HBLK HRES HB
        obtain ⟨i, hi8, rfl, hblk, hres, hb⟩ := hrel
        by_cases hi : i < 8
        · have g1 := (hb.cell (p := ⟨b0, o0 + (3 + 8 * k + i), none⟩) (by show b0 < _; omega)).trans (HCELL.out (3 + 8 * k + i) _ (bv_at l _ (by omega)))
          rw [← Nat.add_assoc] at g1
          have g2 := hblk.cell k
          rw [par_at l k i hk] at g2
          have g3 := hblk.frozen k
          have HBLK := Lib.hid hblk
          have HRES := Lib.hid hres
          have HB := Lib.hid hb
          have hsz := hb.size
          clear hblk hres hb
          go_wp2_with fail
          go_roundw
          case rel => exact par_step hk hi (by omega) HBLK.out HRES.out HB.out
          case measure => simp [intOf]; omega
        · obtain rfl : i = 8 := by omega
          rw [par_next l k hk] at hblk
          have HN := Lib.hid (show ParOuter w l (.int .i64 (k + 1)) wr from ⟨k + 1, by omega, by congr 1, hblk, hres, hb⟩)
          clear hblk hres hb
          go_wp2_with fail
          go_roundw
          case rel => exact HN.out
          case measure => simp [intOf]; omega
    · obtain rfl : k = 5 := by omega
      have hlb := hb0
      obtain ⟨x0, hx0, p0, p0'⟩ : ∃ x : Int, ((l.getD 0 0).toNat : Int) = x ∧ 0 ≤ x ∧ x ≤ 255 := ⟨_, rfl, by omega, by have := u8_lt (l.getD 0 0); omega⟩
      obtain ⟨x1, hx1, p1, p1'⟩ : ∃ x : Int, ((l.getD 1 0).toNat : Int) = x ∧ 0 ≤ x ∧ x ≤ 255 := ⟨_, rfl, by omega, by have := u8_lt (l.getD 1 0); omega⟩
      obtain ⟨x2, hx2, p2, p2'⟩ : ∃ x : Int, ((l.getD 2 0).toNat : Int) = x ∧ 0 ≤ x ∧ x ≤ 255 := ⟨_, rfl, by omega, by have := u8_lt (l.getD 2 0); omega⟩
      obtain ⟨y0, hy0⟩ : ∃ y, at8 l 0 = y := ⟨_, rfl⟩
      obtain ⟨y1, hy1⟩ : ∃ y, at8 l 1 = y := ⟨_, rfl⟩
      obtain ⟨y2, hy2⟩ : ∃ y, at8 l 2 = y := ⟨_, rfl⟩
      obtain ⟨y3, hy3⟩ : ∃ y, at8 l 3 = y := ⟨_, rfl⟩
      obtain ⟨y4, hy4⟩ : ∃ y, at8 l 4 = y := ⟨_, rfl⟩
      obtain ⟨s, hs⟩ : ∃ s : ByteArray, ⟨(l.drop 43).toArray⟩ = s := ⟨_, rfl⟩
      have HA := Lib.hid (show admOf l = ⟨x0, x1, x2, y0, s, y1, y2, y3, y4⟩ by unfold admOf; rw [hx0, hx1, hx2, hy0, hy1, hy2, hy3, hy4, hs])
      have g0 := (HB.out.cell (p := ⟨b0, o0 + 0, none⟩) (by show b0 < _; omega)).trans (HCELL.out 0 _ (bv_getD l 0 (by omega)))
      have g1 := (HB.out.cell (p := ⟨b0, o0 + 1, none⟩) (by show b0 < _; omega)).trans (HCELL.out 1 _ (bv_getD l 1 (by omega)))
      have g2 := (HB.out.cell (p := ⟨b0, o0 + 2, none⟩) (by show b0 < _; omega)).trans (HCELL.out 2 _ (bv_getD l 2 (by omega)))
      rw [hx0] at g0
      rw [hx1] at g1
      rw [hx2] at g2
      rw [Nat.add_zero] at g0
      have hblk := HBLK.out
      rw [par_last, hy0, hy1, hy2, hy3, hy4] at hblk
      have k0 : _ = some (Value.int .i64 y0) := hblk.cell 0
      have k1 : _ = some (Value.int .i64 y1) := hblk.cell 1
      have k2 : _ = some (Value.int .i64 y2) := hblk.cell 2
      have k3 : _ = some (Value.int .i64 y3) := hblk.cell 3
      have k4 : _ = some (Value.int .i64 y4) := hblk.cell 4
      have hlw := hblk.lt
      have HS := Lib.hid hs
      have HL := Lib.hid hl
      clear hblk HBLK hx0 hx1 hx2 hy0 hy1 hy2 hy3 hy4 hs
      go_wp2_with fail
      have hg0 : Below wr.heap.size wr wr.drew := (Below.refl _ _).drew
      obtain ⟨F, hF⟩ : ∃ F, F = nthF [eqv (.slice (some ⟨b0, o0, none⟩) n c), eqv (.pointer (some ⟨b0, o0, none⟩)), eqv (.int .u8 x0), eqv (.int .i64 x0), eqv (.slice (some ⟨b0, o0, none⟩) n c), eqv (.pointer (some ⟨b0, o0 + 1, none⟩)), eqv (.int .u8 x1), eqv (.int .i64 x1), eqv (.slice (some ⟨b0, o0, none⟩) n c), eqv (.pointer (some ⟨b0, o0 + 2, none⟩)), eqv (.int .u8 x2), eqv (.int .i64 x2), eqv (.pointer (some ⟨w.heap.size + 1, 0, none⟩)), eqv (.int .i64 y0), eqv (.slice (some ⟨b0, o0, none⟩) n c), BytesV (l.drop 43), eqv (.string s), eqv (.pointer (some ⟨w.heap.size + 1, 1, none⟩)), eqv (.int .i64 y1), eqv (.pointer (some ⟨w.heap.size + 1, 2, none⟩)), eqv (.int .i64 y2), eqv (.pointer (some ⟨w.heap.size + 1, 3, none⟩)), eqv (.int .i64 y3), eqv (.pointer (some ⟨w.heap.size + 1, 4, none⟩)), eqv (.int .i64 y4), eqv (.agg #[.int .i64 y1, .int .i64 y2, .int .i64 y3, .int .i64 y4]), eqv (.agg #[.int .i64 x0, .int .i64 x1, .int .i64 x2, .int .i64 y0, .string s, .int .i64 y1, .int .i64 y2, .int .i64 y3, .int .i64 y4]), NewZ (w.heap.size + 2)] := ⟨_, rfl⟩
      have E0 := Lib.hid (show F 0 = eqv (.slice (some ⟨b0, o0, none⟩) n c) by rw [hF]; rfl)
      have E1 := Lib.hid (show F 1 = eqv (.pointer (some ⟨b0, o0, none⟩)) by rw [hF]; rfl)
      have E2 := Lib.hid (show F 2 = eqv (.int .u8 x0) by rw [hF]; rfl)
      have E3 := Lib.hid (show F 3 = eqv (.int .i64 x0) by rw [hF]; rfl)
      have E4 := Lib.hid (show F 4 = eqv (.slice (some ⟨b0, o0, none⟩) n c) by rw [hF]; rfl)
      have E5 := Lib.hid (show F 5 = eqv (.pointer (some ⟨b0, o0 + 1, none⟩)) by rw [hF]; rfl)
      have E6 := Lib.hid (show F 6 = eqv (.int .u8 x1) by rw [hF]; rfl)
      have E7 := Lib.hid (show F 7 = eqv (.int .i64 x1) by rw [hF]; rfl)
      have E8 := Lib.hid (show F 8 = eqv (.slice (some ⟨b0, o0, none⟩) n c) by rw [hF]; rfl)
      have E9 := Lib.hid (show F 9 = eqv (.pointer (some ⟨b0, o0 + 2, none⟩)) by rw [hF]; rfl)
      have E10 := Lib.hid (show F 10 = eqv (.int .u8 x2) by rw [hF]; rfl)
      have E11 := Lib.hid (show F 11 = eqv (.int .i64 x2) by rw [hF]; rfl)
      have E12 := Lib.hid (show F 12 = eqv (.pointer (some ⟨w.heap.size + 1, 0, none⟩)) by rw [hF]; rfl)
      have E13 := Lib.hid (show F 13 = eqv (.int .i64 y0) by rw [hF]; rfl)
      have E14 := Lib.hid (show F 14 = eqv (.slice (some ⟨b0, o0, none⟩) n c) by rw [hF]; rfl)
      have E15 := Lib.hid (show F 15 = BytesV (l.drop 43) by rw [hF]; rfl)
      have E16 := Lib.hid (show F 16 = eqv (.string s) by rw [hF]; rfl)
      have E17 := Lib.hid (show F 17 = eqv (.pointer (some ⟨w.heap.size + 1, 1, none⟩)) by rw [hF]; rfl)
      have E18 := Lib.hid (show F 18 = eqv (.int .i64 y1) by rw [hF]; rfl)
      have E19 := Lib.hid (show F 19 = eqv (.pointer (some ⟨w.heap.size + 1, 2, none⟩)) by rw [hF]; rfl)
      have E20 := Lib.hid (show F 20 = eqv (.int .i64 y2) by rw [hF]; rfl)
      have E21 := Lib.hid (show F 21 = eqv (.pointer (some ⟨w.heap.size + 1, 3, none⟩)) by rw [hF]; rfl)
      have E22 := Lib.hid (show F 22 = eqv (.int .i64 y3) by rw [hF]; rfl)
      have E23 := Lib.hid (show F 23 = eqv (.pointer (some ⟨w.heap.size + 1, 4, none⟩)) by rw [hF]; rfl)
      have E24 := Lib.hid (show F 24 = eqv (.int .i64 y4) by rw [hF]; rfl)
      have E25 := Lib.hid (show F 25 = eqv (.agg #[.int .i64 y1, .int .i64 y2, .int .i64 y3, .int .i64 y4]) by rw [hF]; rfl)
      have E26 := Lib.hid (show F 26 = eqv (.agg #[.int .i64 x0, .int .i64 x1, .int .i64 x2, .int .i64 y0, .string s, .int .i64 y1, .int .i64 y2, .int .i64 y3, .int .i64 y4]) by rw [hF]; rfl)
      have E27 := Lib.hid (show F 27 = NewZ (w.heap.size + 2) by rw [hF]; rfl)
      have hst : ∀ j v w w', F j v w → Grows w w' → F j v w' := by rw [hF]; exact nth_stable (by repeat (first | exact st_nil | exact st_eqv _ | exact st_any | exact st_bytes _ | exact st_newz _ | refine st_cons ?_ ?_))
      have HST0 := Lib.hid hst
      clear hF hst
      refine wp_region_facts_tail 28 F Grows (fun _ => True) (by kernel_rfl) (by kernel_rfl) (by kernel_rfl) (by decide) grows_refl grows_trans HST0.out (trivial) ?_ ?_
      · intro V; refine ⟨?_, ?_, ?_, ?_, ?_, ?_, ?_, ?_, ?_, ?_, ?_, ?_, ?_, ?_, ?_, ?_, ?_, ?_, ?_, ?_, ?_, ?_, ?_, ?_, ?_, ?_, ?_, ?_, trivial⟩
        · intro wx hg hJ hdep
          clear hdep
          clear hg
          go_wp2_with fail
          exact ⟨rfl, grows_refl _, trivial, by rw [E0.out]; rfl⟩
        · intro wx hg hJ hdep
          have v0 : V 0 = (.slice (some ⟨b0, o0, none⟩) n c) := by have h := hdep 0 rfl; rw [E0.out] at h; exact h
          clear hdep
          clear hg
          go_wp2_with fail
          exact ⟨rfl, grows_refl _, trivial, by rw [E1.out]; rfl⟩
        · intro wx hg hJ hdep
          have v1 : V 1 = (.pointer (some ⟨b0, o0, none⟩)) := by have h := hdep 1 rfl; rw [E1.out] at h; exact h
          clear hdep
          have kk := ((hg0.trans hg).cell (p := ⟨b0, o0, none⟩) (by show b0 < _; omega)).trans g0
          clear hg
          go_wp2_with fail
          exact ⟨rfl, grows_refl _, trivial, by rw [E2.out]; rfl⟩
        · intro wx hg hJ hdep
          have v2 : V 2 = (.int .u8 x0) := by have h := hdep 2 rfl; rw [E2.out] at h; exact h
          clear hdep
          clear hg
          go_wp2_with fail
          exact ⟨rfl, grows_refl _, trivial, by rw [E3.out]; rfl⟩
        · intro wx hg hJ hdep
          clear hdep
          clear hg
          go_wp2_with fail
          exact ⟨rfl, grows_refl _, trivial, by rw [E4.out]; rfl⟩
        · intro wx hg hJ hdep
          have v4 : V 4 = (.slice (some ⟨b0, o0, none⟩) n c) := by have h := hdep 4 rfl; rw [E4.out] at h; exact h
          clear hdep
          clear hg
          go_wp2_with fail
          exact ⟨rfl, grows_refl _, trivial, by rw [E5.out]; rfl⟩
        · intro wx hg hJ hdep
          have v5 : V 5 = (.pointer (some ⟨b0, o0 + 1, none⟩)) := by have h := hdep 5 rfl; rw [E5.out] at h; exact h
          clear hdep
          have kk := ((hg0.trans hg).cell (p := ⟨b0, o0 + 1, none⟩) (by show b0 < _; omega)).trans g1
          clear hg
          go_wp2_with fail
          exact ⟨rfl, grows_refl _, trivial, by rw [E6.out]; rfl⟩
        · intro wx hg hJ hdep
          have v6 : V 6 = (.int .u8 x1) := by have h := hdep 6 rfl; rw [E6.out] at h; exact h
          clear hdep
          clear hg
          go_wp2_with fail
          exact ⟨rfl, grows_refl _, trivial, by rw [E7.out]; rfl⟩
        · intro wx hg hJ hdep
          clear hdep
          clear hg
          go_wp2_with fail
          exact ⟨rfl, grows_refl _, trivial, by rw [E8.out]; rfl⟩
        · intro wx hg hJ hdep
          have v8 : V 8 = (.slice (some ⟨b0, o0, none⟩) n c) := by have h := hdep 8 rfl; rw [E8.out] at h; exact h
          clear hdep
          clear hg
          go_wp2_with fail
          exact ⟨rfl, grows_refl _, trivial, by rw [E9.out]; rfl⟩
        · intro wx hg hJ hdep
          have v9 : V 9 = (.pointer (some ⟨b0, o0 + 2, none⟩)) := by have h := hdep 9 rfl; rw [E9.out] at h; exact h
          clear hdep
          have kk := ((hg0.trans hg).cell (p := ⟨b0, o0 + 2, none⟩) (by show b0 < _; omega)).trans g2
          clear hg
          go_wp2_with fail
          exact ⟨rfl, grows_refl _, trivial, by rw [E10.out]; rfl⟩
        · intro wx hg hJ hdep
          have v10 : V 10 = (.int .u8 x2) := by have h := hdep 10 rfl; rw [E10.out] at h; exact h
          clear hdep
          clear hg
          go_wp2_with fail
          exact ⟨rfl, grows_refl _, trivial, by rw [E11.out]; rfl⟩
        · intro wx hg hJ hdep
          clear hdep
          clear hg
          go_wp2_with fail
          exact ⟨rfl, grows_refl _, trivial, by rw [E12.out]; rfl⟩
        · intro wx hg hJ hdep
          have v12 : V 12 = (.pointer (some ⟨w.heap.size + 1, 0, none⟩)) := by have h := hdep 12 rfl; rw [E12.out] at h; exact h
          clear hdep
          have kk := ((hg0.trans hg).cell (p := ⟨w.heap.size + 1, 0, none⟩) hlw).trans k0
          clear hg
          go_wp2_with fail
          exact ⟨rfl, grows_refl _, trivial, by rw [E13.out]; rfl⟩
        · intro wx hg hJ hdep
          clear hdep
          clear hg
          go_wp2_with fail
          exact ⟨rfl, grows_refl _, trivial, by rw [E14.out]; rfl⟩
        · intro wx hg hJ hdep
          have v14 : V 14 = (.slice (some ⟨b0, o0, none⟩) n c) := by have h := hdep 14 rfl; rw [E14.out] at h; exact h
          clear hdep
          have hb43 := BytesV.cut (k := 43) (l := l) (A := some ⟨b0, o0, none⟩) (n := n) (c := c) (w := wx) ⟨_, n, c, B, rfl, HL.out, hnc, by have := (hg0.trans hg).size; omega, HR.out.below ((HB.out.mono hB).trans ((hg0.trans hg).mono (by omega)))⟩ (by omega)
          have HC43 := Lib.hid hb43
          clear hg hb43
          by_cases h43 : c = 43
          · subst h43
            obtain rfl : n = 43 := by omega
            go_wp2_with fail
            have h := HC43.out
            have h2 : BytesV (l.drop 43) (.slice (some ⟨b0, o0, none⟩) 0 0) wx := by simpa using h
            exact ⟨rfl, grows_refl _, trivial, by rw [E15.out]; first | exact h2 | exact h⟩
          · go_wp2_with fail
            have h := HC43.out
            rw [if_neg h43] at h
            exact ⟨rfl, grows_refl _, trivial, by rw [E15.out]; first | exact h2 | exact h⟩
        · intro wx hg hJ hdep
          have h15 : (BytesV (l.drop 43)) (V 15) wx := by have h := hdep 15 rfl; rw [E15.out] at h; exact h
          clear hdep
          obtain ⟨A', n', c', hv⟩ := h15.form
          have hcv := h15.conv (P := Tryd.prog) Tryd.underlying33 Tryd.underlying5 Tryd.underlying9
          rw [hv, HS.out] at hcv
          rw [hv]
          clear hg hv h15
          go_wp2_with fail
          exact ⟨rfl, grows_refl _, trivial, by rw [E16.out]; rfl⟩
        · intro wx hg hJ hdep
          clear hdep
          clear hg
          go_wp2_with fail
          exact ⟨rfl, grows_refl _, trivial, by rw [E17.out]; rfl⟩
        · intro wx hg hJ hdep
          have v17 : V 17 = (.pointer (some ⟨w.heap.size + 1, 1, none⟩)) := by have h := hdep 17 rfl; rw [E17.out] at h; exact h
          clear hdep
          have kk := ((hg0.trans hg).cell (p := ⟨w.heap.size + 1, 1, none⟩) hlw).trans k1
          clear hg
          go_wp2_with fail
          exact ⟨rfl, grows_refl _, trivial, by rw [E18.out]; rfl⟩
        · intro wx hg hJ hdep
          clear hdep
          clear hg
          go_wp2_with fail
          exact ⟨rfl, grows_refl _, trivial, by rw [E19.out]; rfl⟩
        · intro wx hg hJ hdep
          have v19 : V 19 = (.pointer (some ⟨w.heap.size + 1, 2, none⟩)) := by have h := hdep 19 rfl; rw [E19.out] at h; exact h
          clear hdep
          have kk := ((hg0.trans hg).cell (p := ⟨w.heap.size + 1, 2, none⟩) hlw).trans k2
          clear hg
          go_wp2_with fail
          exact ⟨rfl, grows_refl _, trivial, by rw [E20.out]; rfl⟩
        · intro wx hg hJ hdep
          clear hdep
          clear hg
          go_wp2_with fail
          exact ⟨rfl, grows_refl _, trivial, by rw [E21.out]; rfl⟩
        · intro wx hg hJ hdep
          have v21 : V 21 = (.pointer (some ⟨w.heap.size + 1, 3, none⟩)) := by have h := hdep 21 rfl; rw [E21.out] at h; exact h
          clear hdep
          have kk := ((hg0.trans hg).cell (p := ⟨w.heap.size + 1, 3, none⟩) hlw).trans k3
          clear hg
          go_wp2_with fail
          exact ⟨rfl, grows_refl _, trivial, by rw [E22.out]; rfl⟩
        · intro wx hg hJ hdep
          clear hdep
          clear hg
          go_wp2_with fail
          exact ⟨rfl, grows_refl _, trivial, by rw [E23.out]; rfl⟩
        · intro wx hg hJ hdep
          have v23 : V 23 = (.pointer (some ⟨w.heap.size + 1, 4, none⟩)) := by have h := hdep 23 rfl; rw [E23.out] at h; exact h
          clear hdep
          have kk := ((hg0.trans hg).cell (p := ⟨w.heap.size + 1, 4, none⟩) hlw).trans k4
          clear hg
          go_wp2_with fail
          exact ⟨rfl, grows_refl _, trivial, by rw [E24.out]; rfl⟩
        · intro wx hg hJ hdep
          have v18 : V 18 = (.int .i64 y1) := by have h := hdep 18 rfl; rw [E18.out] at h; exact h
          have v20 : V 20 = (.int .i64 y2) := by have h := hdep 20 rfl; rw [E20.out] at h; exact h
          have v22 : V 22 = (.int .i64 y3) := by have h := hdep 22 rfl; rw [E22.out] at h; exact h
          have v24 : V 24 = (.int .i64 y4) := by have h := hdep 24 rfl; rw [E24.out] at h; exact h
          clear hdep
          clear hg
          go_wp2_with fail
          exact ⟨rfl, grows_refl _, trivial, by rw [E25.out]; rfl⟩
        · intro wx hg hJ hdep
          have v3 : V 3 = (.int .i64 x0) := by have h := hdep 3 rfl; rw [E3.out] at h; exact h
          have v7 : V 7 = (.int .i64 x1) := by have h := hdep 7 rfl; rw [E7.out] at h; exact h
          have v11 : V 11 = (.int .i64 x2) := by have h := hdep 11 rfl; rw [E11.out] at h; exact h
          have v13 : V 13 = (.int .i64 y0) := by have h := hdep 13 rfl; rw [E13.out] at h; exact h
          have v16 : V 16 = (.string s) := by have h := hdep 16 rfl; rw [E16.out] at h; exact h
          have v25 : V 25 = (.agg #[.int .i64 y1, .int .i64 y2, .int .i64 y3, .int .i64 y4]) := by have h := hdep 25 rfl; rw [E25.out] at h; exact h
          clear hdep
          clear hg
          go_wp2_with fail
          exact ⟨rfl, grows_refl _, trivial, by rw [E26.out]; rfl⟩
        · intro wx hg hJ hdep
          clear hdep
          have hbx := hg0.trans hg
          have hsx := hbx.size
          clear hg hbx
          go_wp2_with fail
          exact ⟨rfl, (Below.refl _ _).alloc (Nat.le_refl _) _, trivial, by rw [E27.out]; exact ⟨_, rfl, by omega, Blk.new _ _ _⟩⟩
      · intro V wx hg hJ hall
        have v0 : V 0 = (.slice (some ⟨b0, o0, none⟩) n c) := by have h := hall 0 (by decide); rw [E0.out] at h; exact h
        have v1 : V 1 = (.pointer (some ⟨b0, o0, none⟩)) := by have h := hall 1 (by decide); rw [E1.out] at h; exact h
        have v2 : V 2 = (.int .u8 x0) := by have h := hall 2 (by decide); rw [E2.out] at h; exact h
        have v3 : V 3 = (.int .i64 x0) := by have h := hall 3 (by decide); rw [E3.out] at h; exact h
        have v4 : V 4 = (.slice (some ⟨b0, o0, none⟩) n c) := by have h := hall 4 (by decide); rw [E4.out] at h; exact h
        have v5 : V 5 = (.pointer (some ⟨b0, o0 + 1, none⟩)) := by have h := hall 5 (by decide); rw [E5.out] at h; exact h
        have v6 : V 6 = (.int .u8 x1) := by have h := hall 6 (by decide); rw [E6.out] at h; exact h
        have v7 : V 7 = (.int .i64 x1) := by have h := hall 7 (by decide); rw [E7.out] at h; exact h
        have v8 : V 8 = (.slice (some ⟨b0, o0, none⟩) n c) := by have h := hall 8 (by decide); rw [E8.out] at h; exact h
        have v9 : V 9 = (.pointer (some ⟨b0, o0 + 2, none⟩)) := by have h := hall 9 (by decide); rw [E9.out] at h; exact h
        have v10 : V 10 = (.int .u8 x2) := by have h := hall 10 (by decide); rw [E10.out] at h; exact h
        have v11 : V 11 = (.int .i64 x2) := by have h := hall 11 (by decide); rw [E11.out] at h; exact h
        have v12 : V 12 = (.pointer (some ⟨w.heap.size + 1, 0, none⟩)) := by have h := hall 12 (by decide); rw [E12.out] at h; exact h
        have v13 : V 13 = (.int .i64 y0) := by have h := hall 13 (by decide); rw [E13.out] at h; exact h
        have v14 : V 14 = (.slice (some ⟨b0, o0, none⟩) n c) := by have h := hall 14 (by decide); rw [E14.out] at h; exact h
        have h15 : (BytesV (l.drop 43)) (V 15) wx := by have h := hall 15 (by decide); rw [E15.out] at h; exact h
        have v16 : V 16 = (.string s) := by have h := hall 16 (by decide); rw [E16.out] at h; exact h
        have v17 : V 17 = (.pointer (some ⟨w.heap.size + 1, 1, none⟩)) := by have h := hall 17 (by decide); rw [E17.out] at h; exact h
        have v18 : V 18 = (.int .i64 y1) := by have h := hall 18 (by decide); rw [E18.out] at h; exact h
        have v19 : V 19 = (.pointer (some ⟨w.heap.size + 1, 2, none⟩)) := by have h := hall 19 (by decide); rw [E19.out] at h; exact h
        have v20 : V 20 = (.int .i64 y2) := by have h := hall 20 (by decide); rw [E20.out] at h; exact h
        have v21 : V 21 = (.pointer (some ⟨w.heap.size + 1, 3, none⟩)) := by have h := hall 21 (by decide); rw [E21.out] at h; exact h
        have v22 : V 22 = (.int .i64 y3) := by have h := hall 22 (by decide); rw [E22.out] at h; exact h
        have v23 : V 23 = (.pointer (some ⟨w.heap.size + 1, 4, none⟩)) := by have h := hall 23 (by decide); rw [E23.out] at h; exact h
        have v24 : V 24 = (.int .i64 y4) := by have h := hall 24 (by decide); rw [E24.out] at h; exact h
        have v25 : V 25 = (.agg #[.int .i64 y1, .int .i64 y2, .int .i64 y3, .int .i64 y4]) := by have h := hall 25 (by decide); rw [E25.out] at h; exact h
        have v26 : V 26 = (.agg #[.int .i64 x0, .int .i64 x1, .int .i64 x2, .int .i64 y0, .string s, .int .i64 y1, .int .i64 y2, .int .i64 y3, .int .i64 y4]) := by have h := hall 26 (by decide); rw [E26.out] at h; exact h
        have h27 : (NewZ (w.heap.size + 2)) (V 27) wx := by have h := hall 27 (by decide); rw [E27.out] at h; exact h
        clear hall
        simp only [List.take_succ_cons, List.take_zero, List.drop_succ_cons, List.drop_zero, fillTo, Act.put, List.setIfInBounds_toArray, List.set_cons_succ, List.set_cons_zero, Nat.reduceAdd, Nat.zero_add, v0, v1, v2, v3, v4, v5, v6, v7, v8, v9, v10, v11, v12, v13, v14, v16, v17, v18, v19, v20, v21, v22, v23, v24, v25, v26]
        clear v0 v1 v2 v3 v4 v5 v6 v7 v8 v9 v10 v11 v12 v13 v14 v16 v17 v18 v19 v20 v21 v22 v23 v24 v25 v26
        have HBX := Lib.hid (hg0.trans hg)
        obtain ⟨g, hv, hgN, hbg⟩ := h27
        have f0 := hbg.frozen 0
        have z0 : wx.cell? ⟨g, 0, none⟩ = some (.int .i64 0) := hbg.cell 0
        have f1 := hbg.frozen 1
        have z1 : wx.cell? ⟨g, 1, none⟩ = some (.int .i64 0) := hbg.cell 1
        have f2 := hbg.frozen 2
        have z2 : wx.cell? ⟨g, 2, none⟩ = some (.int .i64 0) := hbg.cell 2
        have f3 := hbg.frozen 3
        have z3 : wx.cell? ⟨g, 3, none⟩ = some (.int .i64 0) := hbg.cell 3
        have f4 := hbg.frozen 4
        have z4 : wx.cell? ⟨g, 4, none⟩ = some (.string ⟨#[]⟩) := hbg.cell 4
        have f5 := hbg.frozen 5
        have z5 : wx.cell? ⟨g, 5, none⟩ = some (.int .i64 0) := hbg.cell 5
        have f6 := hbg.frozen 6
        have z6 : wx.cell? ⟨g, 6, none⟩ = some (.int .i64 0) := hbg.cell 6
        have f7 := hbg.frozen 7
        have z7 : wx.cell? ⟨g, 7, none⟩ = some (.int .i64 0) := hbg.cell 7
        have f8 := hbg.frozen 8
        have z8 : wx.cell? ⟨g, 8, none⟩ = some (.int .i64 0) := hbg.cell 8
        have HBG := Lib.hid hbg
        have hlg := hbg.lt
        clear hg h15 hbg
        rw [hv]
        obtain ⟨er, her⟩ : ∃ er, (Adm.mk x0 x1 x2 y0 s y1 y2 y3 y4).err = er := ⟨_, rfl⟩
        have HRT := Lib.hid (fun w => Right_any (Adm.mk x0 x1 x2 y0 s y1 y2 y3 y4) w)
        rw [her] at HRT
        unfold Adm.val at HRT
        have HER := Lib.hid her
        clear her
        have hall := adm_all HBG.out (HRES.out.below HBX.out (by omega)) (HB.out.trans (HBX.out.mono hsz)) (show w.heap.size ≠ g by omega) (show w.heap.size ≤ g by omega) x0 x1 x2 y0 s y1 y2 y3 y4
        have HALL := Lib.hid hall
        clear hall
        go_wp2_with fail
        have hall := HALL.out
        clear HALL
        generalize (((((((((wx.setCell ⟨g, 0, none⟩ (.int .i64 x0)).setCell ⟨g, 1, none⟩ (.int .i64 x1)).setCell ⟨g, 2, none⟩ (.int .i64 x2)).setCell ⟨g, 3, none⟩ (.int .i64 y0)).setCell ⟨g, 4, none⟩ (.string s)).setCell ⟨g, 5, none⟩ (.int .i64 y1)).setCell ⟨g, 6, none⟩ (.int .i64 y2)).setCell ⟨g, 7, none⟩ (.int .i64 y3)).setCell ⟨g, 8, none⟩ (.int .i64 y4)) = W5 at hall ⊢
        have HALL := Lib.hid hall
        clear hall
        refine (HRT.out _).mono ?_
        rintro e w2 ⟨rfl, hb2⟩
        have HAD2 := Lib.hid (HALL.out.1.below hb2 HALL.out.1.lt)
        have HRES2 := Lib.hid (HALL.out.2.1.below hb2 HALL.out.2.1.lt)
        have HBS2 := Lib.hid (HALL.out.2.2.trans (hb2.mono HALL.out.2.2.size))
        clear hb2 HALL f0 z0 f1 z1 f2 z2 f3 z3 f4 z4 f5 z5 f6 z6 f7 z7 f8 z8
        have r0 : w2.cell? ⟨w.heap.size, 0, none⟩ = some (.int .i64 0) := HRES2.out.cell 0
        have q0 := HRES2.out.frozen 0
        have r1 : w2.cell? ⟨w.heap.size, 1, none⟩ = some (.int .i64 0) := HRES2.out.cell 1
        have q1 := HRES2.out.frozen 1
        have r2 : w2.cell? ⟨w.heap.size, 2, none⟩ = some (.int .i64 0) := HRES2.out.cell 2
        have q2 := HRES2.out.frozen 2
        have r3 : w2.cell? ⟨w.heap.size, 3, none⟩ = some (.int .i64 0) := HRES2.out.cell 3
        have q3 := HRES2.out.frozen 3
        have r4 : w2.cell? ⟨w.heap.size, 4, none⟩ = some (.string ⟨#[]⟩) := HRES2.out.cell 4
        have q4 := HRES2.out.frozen 4
        have r5 : w2.cell? ⟨w.heap.size, 5, none⟩ = some (.int .i64 0) := HRES2.out.cell 5
        have q5 := HRES2.out.frozen 5
        have r6 : w2.cell? ⟨w.heap.size, 6, none⟩ = some (.int .i64 0) := HRES2.out.cell 6
        have q6 := HRES2.out.frozen 6
        have r7 : w2.cell? ⟨w.heap.size, 7, none⟩ = some (.int .i64 0) := HRES2.out.cell 7
        have q7 := HRES2.out.frozen 7
        have r8 : w2.cell? ⟨w.heap.size, 8, none⟩ = some (.int .i64 0) := HRES2.out.cell 8
        have q8 := HRES2.out.frozen 8
        have e0 : w2.cell? ⟨g, 0, none⟩ = some (.int .i64 x0) := HAD2.out.cell 0
        have e1 : w2.cell? ⟨g, 1, none⟩ = some (.int .i64 x1) := HAD2.out.cell 1
        have e2 : w2.cell? ⟨g, 2, none⟩ = some (.int .i64 x2) := HAD2.out.cell 2
        have e3 : w2.cell? ⟨g, 3, none⟩ = some (.int .i64 y0) := HAD2.out.cell 3
        have e4 : w2.cell? ⟨g, 4, none⟩ = some (.string s) := HAD2.out.cell 4
        have e5 : w2.cell? ⟨g, 5, none⟩ = some (.int .i64 y1) := HAD2.out.cell 5
        have e6 : w2.cell? ⟨g, 6, none⟩ = some (.int .i64 y2) := HAD2.out.cell 6
        have e7 : w2.cell? ⟨g, 7, none⟩ = some (.int .i64 y3) := HAD2.out.cell 7
        have e8 : w2.cell? ⟨g, 8, none⟩ = some (.int .i64 y4) := HAD2.out.cell 8
        by_cases h0 : er = 0
        · subst h0
          have hA : parA l = Adm.mk x0 x1 x2 y0 s y1 y2 y3 y4 := by unfold parA; rw [HA.out, if_pos ⟨by omega, HER.out⟩]
          have hE : parE l = 0 := by unfold parE; rw [HA.out, if_pos ⟨by omega, HER.out⟩]
          have HAA := Lib.hid hA
          have HEE := Lib.hid hE
          clear hA hE
          go_wp2_with fail
          refine bodyPost_ret (v := .tuple #[.agg #[.int .i64 x0, .int .i64 x1, .int .i64 x2, .int .i64 y0, .string s, .int .i64 y1, .int .i64 y2, .int .i64 y3, .int .i64 y4], .int .i64 0]) (by simp [results, Tryd.results34, go_sem, r0, r1, r2, r3, r4, r5, r6, r7, r8]; done) rfl ⟨by first | (rw [HAA.out, HEE.out]; done) | (rw [HAA.out, HEE.out]; rfl), ?_⟩
          exact adm_below HBS2.out (Nat.le_refl _) x0 x1 x2 y0 s y1 y2 y3 y4
        · have hA : parA l = Adm.none := by unfold parA; rw [HA.out, if_neg (fun hh => h0 (HER.out.symm.trans hh.2))]
          have hE : parE l = 4 := by unfold parE; rw [HA.out, if_neg (fun hh => h0 (HER.out.symm.trans hh.2))]
          have HAA := Lib.hid hA
          have HEE := Lib.hid hE
          have hne : (er != 0) = true := by simp; exact h0
          clear hA hE h0
          go_wp2_with fail
          refine bodyPost_ret (v := .tuple #[Adm.none.val, .int .i64 4]) (by simp [results, Tryd.results34, go_sem, Adm.none, Adm.val, r0, r1, r2, r3, r4, r5, r6, r7, r8]; done) rfl ⟨by first | (rw [HAA.out, HEE.out]; done) | (rw [HAA.out, HEE.out]; rfl), ?_⟩
          exact adm_below HBS2.out (Nat.le_refl _) 0 0 0 0 ⟨#[]⟩ 0 0 0 0
theorem Parse_any (A : Option Addr) (n c B : Nat) (l : List UInt8) (w : World) (hr : Reads w B 1 A n (bv l)) (hB : B ≤ w.heap.size) (hc : n ≤ c ∧ c ≤ 9223372036854775807) :
    Calls Tryd.prog 34 #[.slice A n c] w fun e w' => e = .returned (.tuple #[(parA l).val, .int .i64 (parE l)]) ∧ Below w.heap.size w w' := by
  by_cases h : n < 43
  · exact Parse_short A n c l w (by have := hr.1; rw [length_bv] at this; omega) h
  · exact Parse_long A n c B l w hr hB hc (by omega)
end Go.Proofs.YtnhcabcpdlgdaaaDoor
