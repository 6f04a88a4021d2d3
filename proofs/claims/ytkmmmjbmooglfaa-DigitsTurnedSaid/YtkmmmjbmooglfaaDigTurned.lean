/- THE WALK of the law DigitsTurned. -/
import Derived.Test.YtkmmmjbmooglfaaDigChecks
import Derived.OpenShut
namespace Go.Proofs.Ytkmmmjbmooglfaa
open Go.RowKit

theorem Row.set0 {w : World} {base g n cap : Nat} {l : List UInt8} (h : Row w base 1 (some ⟨g, 0, none⟩) n cap (bv l)) {j : Nat} (hj : j < n) {c : UInt8} {z : Int} (hz : z = (c.toNat : Int)) :
    Row (w.setCell ⟨g, j, none⟩ (.int .u8 z)) base 1 (some ⟨g, 0, none⟩) n cap (bv (l.set j c)) := by
  have h2 := h.set (j := j) (by have := h.2.1; omega) (.int .u8 (c.toNat : Int))
  rw [Nat.zero_add] at h2
  rw [bv_set, hz]
  exact h2
theorem Row.byte0 {w : World} {base g n cap : Nat} {l : List UInt8} (h : Row w base 1 (some ⟨g, 0, none⟩) n cap (bv l)) {j : Nat} (hj : j < l.length) : w.cell? ⟨g, j, none⟩ = some (.int .u8 (l[j].toNat : Int)) := by
  have := h.cell (bv_at l j hj)
  rwa [Nat.zero_add] at this
theorem Row.free0 {w : World} {base g n cap : Nat} {l : List Value} (h : Row w base 1 (some ⟨g, 0, none⟩) n cap l) {j : Nat} (hj : j < n) : w.frozen? ⟨g, j, none⟩ = false := by
  have := h.free (j := j) (by have := h.2.1; omega)
  rwa [Nat.zero_add] at this


set_option maxRecDepth 100000 in
set_option maxHeartbeats 2000000 in
theorem turned_guard (s : ByteArray) (at_ d : Int) (w : World) (hs : s.size ≤ maxLen) (h : validB s.data.toList = false ∨ at_ < 0 ∨ (s.size : Int) ≤ at_ ∨ 9 < d) :
    Calls Try.prog 4 #[.string s, .int .i64 at_, .int .u8 d] w fun e w' => e = .returned (.bool true) ∧ Below w.heap.size w w' := by
  have hs' := hs
  unfold maxLen at hs'
  generalize hV : validB s.data.toList = vb at h
  have HV := Lib.hid hV
  clear hV
  by_cases h1 : vb = false
  · subst h1
    clear h
    go_enter Try.func4, Try.ntmps4
    go_wp2_with fail
    refine (small01_any _).mono ?_
    rintro e w1 ⟨rfl, hb1⟩
    go_wp2_with fail
    refine (Valid_any _ _ hs).mono ?_
    rw [HV.out]
    rintro e w2 ⟨rfl, hb2⟩
    go_wp2_with fail
    go_ret
    exact ⟨rfl, thenB hb1 hb2⟩
  · have h1' : vb = true := by simpa using h1
    subst h1'
    have h' : at_ < 0 ∨ ¬ at_ < 0 ∧ (s.size : Int) ≤ at_ ∨ ¬ at_ < 0 ∧ ¬ (s.size : Int) ≤ at_ ∧ 9 < d := by
      rcases h with h | h | h | h
      · cases h
      · exact .inl h
      · omega
      · omega
    clear h h1
    rcases h' with h | ⟨g1, h⟩ | ⟨g1, g2, h⟩
    all_goals
      go_enter Try.func4, Try.ntmps4
      go_wp2_with fail
      refine (small01_any _).mono ?_
      rintro e w1 ⟨rfl, hb1⟩
      go_wp2_with fail
      refine (Valid_any _ _ hs).mono ?_
      rw [HV.out]
      rintro e w2 ⟨rfl, hb2⟩
      go_wp2_with fail
      go_ret
      exact ⟨rfl, thenB hb1 hb2⟩

theorem ways_xy (x y : Int) (V : Prop) (hsw : x ≠ y → ¬ (x = 48 ∧ y = 57) → ¬ (x = 57 ∧ y = 48) → V) :
    ((x == y) = true ∧ (x == 48) = true ∧ (y == 57) = false ∧ (x == 57) = false) ∨
        ((x == y) = true ∧ (x == 48) = false ∧ (x == 57) = true ∧ (y == 48) = false) ∨
        ((x == y) = true ∧ (x == 48) = false ∧ (x == 57) = false) ∨
        ((x == y) = false ∧ (x == 48) = true ∧ (y == 57) = true) ∨
        ((x == y) = false ∧ (x == 48) = false ∧ (x == 57) = true ∧ (y == 48) = true) ∨
        ((x == y) = false ∧ (x == 48) = true ∧ (y == 57) = false ∧ (x == 57) = false ∧ V) ∨
        ((x == y) = false ∧ (x == 48) = false ∧ (x == 57) = true ∧ (y == 48) = false ∧ V) ∨
        ((x == y) = false ∧ (x == 48) = false ∧ (x == 57) = false ∧ V) := by
  have T : ∀ {a b : Int}, a = b → (a == b) = true := fun h => beq_iff_eq.2 h
  have F : ∀ {a b : Int}, a ≠ b → (a == b) = false := fun h => beq_eq_false_iff_ne.2 h
  by_cases c1 : x = y
  · by_cases c2 : x = 48
    · exact .inl ⟨T c1, T c2, F (by omega), F (by omega)⟩
    · by_cases c3 : x = 57
      · exact .inr (.inl ⟨T c1, F c2, T c3, F (by omega)⟩)
      · exact .inr (.inr (.inl ⟨T c1, F c2, F c3⟩))
  · by_cases c2 : x = 48
    · by_cases c5 : y = 57
      · exact .inr (.inr (.inr (.inl ⟨F c1, T c2, T c5⟩)))
      · exact .inr (.inr (.inr (.inr (.inr (.inl ⟨F c1, T c2, F c5, F (by omega), hsw c1 (fun h => c5 h.2) (by omega)⟩)))))
    · by_cases c3 : x = 57
      · by_cases c4 : y = 48
        · exact .inr (.inr (.inr (.inr (.inl ⟨F c1, F c2, T c3, T c4⟩))))
        · exact .inr (.inr (.inr (.inr (.inr (.inr (.inl ⟨F c1, F c2, T c3, F c4, hsw c1 (fun h => c2 h.1) (fun h => c4 h.2)⟩))))))
      · exact .inr (.inr (.inr (.inr (.inr (.inr (.inr ⟨F c1, F c2, F c3, hsw c1 (fun h => c2 h.1) (fun h => c3 h.1)⟩))))))

set_option maxRecDepth 100000 in
set_option maxHeartbeats 2000000 in
theorem turned_in (s : ByteArray) (a d : Nat) (w : World) (hs : s.size ≤ maxLen) (hv : validB s.data.toList = true) (ha : a < s.size) (hd : d ≤ 9) :
    Calls Try.prog 4 #[.string s, .int .i64 a, .int .u8 d] w fun e w' => e = .returned (.bool true) ∧ Below w.heap.size w w' := by
  have hs' := hs
  unfold maxLen at hs'
  have HV := Lib.hid hv
  have hal : a < s.data.toList.length := by rw [size_toList]; exact ha
  -- the first text
  obtain ⟨l2, hl2⟩ : ∃ l2, l2 = s.data.toList.set a (sg d) := ⟨_, rfl⟩
  have HL2 := Lib.hid hl2
  have hsz2 : l2.length = s.size := by rw [hl2, List.length_set, size_toList]
  have HS2 := Lib.hid (show (⟨l2.toArray⟩ : ByteArray).size ≤ maxLen by rw [str_size, hsz2]; exact hs)
  have hone : ((s.data.toList[a]).toNat : Int) ≠ 48 + (d : Int) → validB l2 = false := by
    intro hne
    rw [hl2]
    exact valid_set _ a hal _ (isDig_sg hd) hv (by intro e; rw [e, sg_toNat hd] at hne; omega)
  rw [byte_at s a ha] at hone
  have HONE := Lib.hid hone
  clear hl2 hone hv
  have HSZ2 := Lib.hid hsz2
  clear hsz2
  obtain ⟨x, hx⟩ : ∃ x, x = s[a] := ⟨_, rfl⟩
  have hxd : isDig x = true := by rw [hx, ← byte_at s a ha]; exact List.all_eq_true.1 (lookE_ok.1 (validB_iff.1 HV.out).2.1).1 _ (List.getElem_mem _)
  rw [← hx] at HONE
  have HX := Lib.hid hx
  clear hx
  have wx : (((x.toNat : Int) == 48 + (d : Int)) = true) ∨ (((x.toNat : Int) == 48 + (d : Int)) = false ∧ Hid (validB l2 = false)) := by
    by_cases h : (x.toNat : Int) = 48 + (d : Int)
    · exact .inl (beq_iff_eq.2 h)
    · exact .inr ⟨beq_eq_false_iff_ne.2 h, HONE.out h⟩
  by_cases hlast : a + 1 < s.size
  · have hal1 : a + 1 < s.data.toList.length := by rw [size_toList]; exact hlast
    have hl1 : ((a : Int) == s.size - 1) = false := by rw [beq_eq_false_iff_ne]; omega
    obtain ⟨y, hy⟩ : ∃ y, y = s[a + 1] := ⟨_, rfl⟩
    obtain ⟨l3, hl3⟩ : ∃ l3, l3 = (s.data.toList.set a y).set (a + 1) x := ⟨_, rfl⟩
    have HL3 := Lib.hid hl3
    have HS3 := Lib.hid (show (⟨l3.toArray⟩ : ByteArray).size ≤ maxLen by rw [str_size, hl3, List.length_set, List.length_set, size_toList]; exact hs)
    have hsw : x ≠ y → ¬ (x = 48 ∧ y = 57) → ¬ (x = 57 ∧ y = 48) → validB l3 = false := by
      rw [hl3, hy, HX.out, ← byte_at s a ha, ← byte_at s (a + 1) hlast]
      exact valid_swap _ a hal1 HV.out
    have HY := Lib.hid hy
    clear hl3 hy
    have e48 : ∀ z : UInt8, z = 48 ↔ (z.toNat : Int) = 48 := fun z => ⟨fun h => by rw [h]; rfl, fun h => UInt8.toNat_inj.1 (by show z.toNat = 48; omega)⟩
    have e57 : ∀ z : UInt8, z = 57 ↔ (z.toNat : Int) = 57 := fun z => ⟨fun h => by rw [h]; rfl, fun h => UInt8.toNat_inj.1 (by show z.toNat = 57; omega)⟩
    have exy : x = y ↔ (x.toNat : Int) = y.toNat := ⟨fun h => by rw [h], fun h => UInt8.toNat_inj.1 (by omega)⟩
    rw [Ne, exy, e48, e57, e48, e57] at hsw
    have wy := ways_xy x.toNat y.toNat (Hid (validB l3 = false)) hsw
    clear hsw e48 e57 exy
    rcases wx with hx1 | ⟨hx1, HV2⟩ <;> rcases wy with ⟨c1, c2, c3, c4⟩ | ⟨c1, c2, c3, c4⟩ | ⟨c1, c2, c3⟩ | ⟨c1, c2, c3⟩ | ⟨c1, c2, c3, c4⟩ | ⟨c1, c2, c3, c4, HV3⟩ | ⟨c1, c2, c3, c4, HV3⟩ | ⟨c1, c2, c3, HV3⟩
    all_goals
      go_enter Try.func4, Try.ntmps4
      go_wp2_with fail
      refine (small01_any _).mono ?_
      rintro e w1 ⟨rfl, hb1⟩
      go_wp2_with fail
      refine (Valid_any _ _ hs).mono ?_
      rw [HV.out]
      rintro e w2 ⟨rfl, hb2⟩
      obtain ⟨c, w3, hrun, hrow, hb3⟩ := run_bytes_str (P := Try.prog) Try.underlying9 Try.underlying27 Try.underlying5 s hs w2
      have hc := hrow.byte0 (j := a) hal
      rw [byte_at s a ha, ← HX.out] at hc
      have hf := hrow.free0 (j := a) ha
      have hrow4 := hrow.set0 (j := a) ha (c := sg d) (z := 48 + (d : Int)) (by rw [sg_toNat hd]; omega)
      rw [← HL2.out] at hrow4
      have hcv := run_conv_bytes (P := Try.prog) Try.underlying27 Try.underlying5 Try.underlying9 (cap := c) hrow4.reads
      have HB4 := Lib.hid (hb3.setCell (p := ⟨w2.heap.size, a, none⟩) (Nat.le_refl _) (.int .u8 (48 + (d : Int))))
      clear hrow hrow4 hb3
      go_wp2_with fail
      first
        | (refine (Valid_any _ _ HS2.out).mono ?_
           rw [HV2.out]
           rintro e w5 ⟨rfl, hb5'⟩
           have HB5 := Lib.hid (thenB HB4.out hb5'))
        | (generalize w3.setCell ⟨w2.heap.size, a, none⟩ (.int .u8 (48 + (d : Int))) = w5 at HB4 hcv ⊢
           have HB5 := HB4)
      clear hcv hrun hc hf
      obtain ⟨c', w6, hrun, hrow, hb6⟩ := run_bytes_str (P := Try.prog) Try.underlying9 Try.underlying27 Try.underlying5 s hs w5
      have hc := hrow.byte0 (j := a + 1) hal1
      rw [byte_at s (a + 1) hlast, ← HY.out] at hc
      have hf := hrow.free0 (j := a) ha
      have hf1 := hrow.free0 (j := a + 1) hlast
      have hca := hrow.byte0 (j := a) hal
      have hrow7 := (hrow.set0 (j := a) ha (c := y) rfl).set0 (j := a + 1) hlast (c := x) rfl
      rw [← HL3.out] at hrow7
      have hcv := run_conv_bytes (P := Try.prog) Try.underlying27 Try.underlying5 Try.underlying9 (cap := c') hrow7.reads
      have HB7 := Lib.hid ((hb6.setCell (p := ⟨w5.heap.size, a, none⟩) (Nat.le_refl _) (.int .u8 (y.toNat : Int))).setCell (p := ⟨w5.heap.size, a + 1, none⟩) (Nat.le_refl _) (.int .u8 (x.toNat : Int)))
      clear hrow hrow7 hb6
      try (rw [hrun]; simp only [Result.andThen_ok, Oper.upon_value])
      go_wp2_with fail
      first
        | (refine (Valid_any _ _ HS3.out).mono ?_
           rw [HV3.out]
           rintro e w8 ⟨rfl, hb8⟩
           go_wp2_with fail
           go_ret
           exact ⟨rfl, thenB hb1 (thenB hb2 (thenB HB5.out (thenB HB7.out hb8)))⟩)
        | (go_ret
           exact ⟨rfl, thenB hb1 (thenB hb2 (thenB HB5.out HB7.out))⟩)
  · have hl1 : ((a : Int) == s.size - 1) = true := by rw [beq_iff_eq]; omega
    rcases wx with hx1 | ⟨hx1, HV2⟩
    all_goals
      go_enter Try.func4, Try.ntmps4
      go_wp2_with fail
      refine (small01_any _).mono ?_
      rintro e w1 ⟨rfl, hb1⟩
      go_wp2_with fail
      refine (Valid_any _ _ hs).mono ?_
      rw [HV.out]
      rintro e w2 ⟨rfl, hb2⟩
      obtain ⟨c, w3, hrun, hrow, hb3⟩ := run_bytes_str (P := Try.prog) Try.underlying9 Try.underlying27 Try.underlying5 s hs w2
      have hc := hrow.byte0 (j := a) hal
      rw [byte_at s a ha, ← HX.out] at hc
      have hf := hrow.free0 (j := a) ha
      have hrow4 := hrow.set0 (j := a) ha (c := sg d) (z := 48 + (d : Int)) (by rw [sg_toNat hd]; omega)
      rw [← HL2.out] at hrow4
      have hcv := run_conv_bytes (P := Try.prog) Try.underlying27 Try.underlying5 Try.underlying9 (cap := c) hrow4.reads
      have HB4 := Lib.hid (hb3.setCell (p := ⟨w2.heap.size, a, none⟩) (Nat.le_refl _) (.int .u8 (48 + (d : Int))))
      clear hrow hrow4 hb3
      go_wp2_with fail
      first
        | (refine (Valid_any _ _ HS2.out).mono ?_
           rw [HV2.out]
           rintro e w5 ⟨rfl, hb5'⟩
           go_wp2_with fail
           go_ret
           exact ⟨rfl, thenB hb1 (thenB hb2 (thenB HB4.out hb5'))⟩)
        | (go_ret
           exact ⟨rfl, thenB hb1 (thenB hb2 HB4.out)⟩)

theorem DigitsTurned_walk (s : ByteArray) (at_ d : Int) (w : World) (hs : s.size ≤ maxLen) (h1 : (Lit.int .i64 at_).wf = true) (h2 : (Lit.int .u8 d).wf = true) :
    Calls Try.prog 4 #[.string s, .int .i64 at_, .int .u8 d] w fun e w' => e = .returned (.bool true) ∧ Below w.heap.size w w' := by
  have hd := bounds_u8 h2
  by_cases hv : validB s.data.toList = true
  · by_cases h : at_ < 0 ∨ (s.size : Int) ≤ at_ ∨ 9 < d
    · exact turned_guard s at_ d w hs (.inr h)
    · obtain ⟨a, rfl⟩ : ∃ a : Nat, at_ = a := ⟨at_.toNat, by omega⟩
      obtain ⟨e, rfl⟩ : ∃ e : Nat, d = e := ⟨d.toNat, by omega⟩
      exact turned_in s a e w hs hv (by omega) (by omega)
  · exact turned_guard s at_ d w hs (.inl (by simpa using hv))
end Go.Proofs.Ytkmmmjbmooglfaa
