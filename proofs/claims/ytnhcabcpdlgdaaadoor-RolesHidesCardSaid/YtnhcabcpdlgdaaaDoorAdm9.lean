/- THE WALK of the law RolesHides. -/
import Derived.Test.YtnhcabcpdlgdaaaDoorAdm6
namespace Go.Proofs.YtnhcabcpdlgdaaaDoor
open Go.RowKit

theorem hides_eq {a b : List UInt8} (ha : a.length = 18) (hb : b.length = 18) (h1 : a.take 6 = b.take 6) (h2 : a.drop 12 = b.drop 12) (hd : ∀ j, j < 18 → j ≠ 16 → isDig (a.getD j 0) = true ∧ isDig (b.getD j 0) = true) (h16 : a.getD 16 0 = 46) (h17 : a.getD 17 0 ≠ 48) : maskS a = maskS b := by
  match a, ha, b, hb with
  | [a0, a1, a2, a3, a4, a5, a6, a7, a8, a9, a10, a11, a12, a13, a14, a15, a16, a17], _, [b0, b1, b2, b3, b4, b5, b6, b7, b8, b9, b10, b11, b12, b13, b14, b15, b16, b17], _ =>
    simp only [List.take_succ_cons, List.take_zero, List.cons.injEq, and_true, List.drop_succ_cons, List.drop_zero] at h1 h2
    obtain ⟨rfl, rfl, rfl, rfl, rfl, rfl⟩ := h1
    obtain ⟨rfl, rfl, rfl, rfl, rfl, rfl⟩ := h2
    have e16 : a16 = 46 := h16
    have e17 : a17 ≠ 48 := h17
    have d := fun j h1 h2 => hd j h1 h2
    have d0 := d 0 (by decide) (by decide)
    have d1 := d 1 (by decide) (by decide)
    have d2 := d 2 (by decide) (by decide)
    have d3 := d 3 (by decide) (by decide)
    have d4 := d 4 (by decide) (by decide)
    have d5 := d 5 (by decide) (by decide)
    have d6 := d 6 (by decide) (by decide)
    have d7 := d 7 (by decide) (by decide)
    have d8 := d 8 (by decide) (by decide)
    have d9 := d 9 (by decide) (by decide)
    have d10 := d 10 (by decide) (by decide)
    have d11 := d 11 (by decide) (by decide)
    have d12 := d 12 (by decide) (by decide)
    have d13 := d 13 (by decide) (by decide)
    have d14 := d 14 (by decide) (by decide)
    have d15 := d 15 (by decide) (by decide)
    have d17 := d 17 (by decide) (by decide)
    simp only [List.getD_cons_zero, List.getD_cons_succ] at d0 d1 d2 d3 d4 d5 d6 d7 d8 d9 d10 d11 d12 d13 d14 d15 d17
    subst e16
    exact hide_mask (p := [a0, a1, a2, a3, a4, a5]) (q := [a6, a7, a8, a9, a10, a11]) (r := [b6, b7, b8, b9, b10, b11]) (t := [a12, a13, a14, a15]) (d := a17) rfl rfl rfl rfl
      (by simp [d0.1, d1.1, d2.1, d3.1, d4.1, d5.1, d6.1, d7.1, d8.1, d9.1, d10.1, d11.1, d12.1, d13.1, d14.1, d15.1])
      (by simp [d0.1, d1.1, d2.1, d3.1, d4.1, d5.1, d6.2, d7.2, d8.2, d9.2, d10.2, d11.2, d12.1, d13.1, d14.1, d15.1]) d17.1 e17 (s := []) rfl

set_option maxRecDepth 100000 in
set_option maxHeartbeats 4000000 in
theorem Hides_out (s t : ByteArray) (r : Int) (w : World) (h : s.size ≠ 18 ∨ (s.size = 18 ∧ t.size ≠ 18) ∨ (s.size = 18 ∧ t.size = 18 ∧ ((s.extract 0 6).toList == (t.extract 0 6).toList) = false) ∨
      (s.size = 18 ∧ t.size = 18 ∧ ((s.extract 0 6).toList == (t.extract 0 6).toList) = true ∧ ((s.extract 12 18).toList == (t.extract 12 18).toList) = false)) (ht : Tab w) :
    Calls Tryd.prog 13 #[.string s, .string t, .int .i64 r] w fun e w' => e = .returned (.bool true) ∧ Below w.heap.size w w' := by
  rcases h with h | ⟨h1, h2⟩ | ⟨h1, h2, h3⟩ | ⟨h1, h2, h3, h4⟩
  · have hn : ((s.size : Int) != 18) = true := by simp; omega
    clear h
    go_enter Tryd.func13, Tryd.ntmps13
    go_wp2_with fail
    refine (small23_any _ ht).mono ?_
    rintro e w1 ⟨rfl, hb1⟩
    go_wp2_with fail
    go_quiet (fail)
    go_wp2_with fail
    go_ret
    exact ⟨rfl, below_drewN hb1 _⟩
  · have hn : ((t.size : Int) != 18) = true := by simp; omega
    clear h2
    go_enter Tryd.func13, Tryd.ntmps13
    go_wp2_with fail
    refine (small23_any _ ht).mono ?_
    rintro e w1 ⟨rfl, hb1⟩
    go_wp2_with fail
    go_quiet (fail)
    go_wp2_with fail
    go_ret
    exact ⟨rfl, below_drewN hb1 _⟩
  · go_enter Tryd.func13, Tryd.ntmps13
    go_wp2_with fail
    refine (small23_any _ ht).mono ?_
    rintro e w1 ⟨rfl, hb1⟩
    go_wp2_with fail
    go_quiet (fail)
    go_wp2_with fail
    go_ret
    exact ⟨rfl, below_drewN hb1 _⟩
  · go_enter Tryd.func13, Tryd.ntmps13
    go_wp2_with fail
    refine (small23_any _ ht).mono ?_
    rintro e w1 ⟨rfl, hb1⟩
    go_wp2_with fail
    go_quiet (fail)
    go_wp2_with fail
    go_ret
    exact ⟨rfl, below_drewN hb1 _⟩
theorem hid_below1 (w : World) (a : Obj) : Below w.heap.size w (w.alloc a) := (Below.refl _ _).alloc (Nat.le_refl _) _
/-! ### the texts that are right -/
theorem getD_str (s : ByteArray) (j : Nat) (h : j < s.size) : s.data.toList.getD j 0 = s[j] := by
  rw [List.getD_eq_getElem?_getD, List.getElem?_eq_getElem (by rw [size_toList]; exact h)]; rfl
theorem dig_str (s : ByteArray) (j : Nat) (h : j < s.size) (h1 : ¬ (s[j].toNat : Int) < 48) (h2 : ¬ 57 < (s[j].toNat : Int)) : isDig (s.data.toList.getD j 0) = true := by
  rw [getD_str s j h]; exact isDig_iff.2 (by omega)
def HidRel (w : World) (s t : ByteArray) (s8 : Value) (wr : World) : Prop :=
  ∃ k : Nat, k ≤ 18 ∧ s8 = .int .i64 k ∧ (∀ j, j < k → j ≠ 16 → isDig (s.data.toList.getD j 0) = true ∧ isDig (t.data.toList.getD j 0) = true) ∧ Below w.heap.size w wr
theorem hid_next {w wr : World} {s t : ByteArray} {k : Nat} (hk : k < 18) (hd : ∀ j, j < k → j ≠ 16 → isDig (s.data.toList.getD j 0) = true ∧ isDig (t.data.toList.getD j 0) = true) (hb : Below w.heap.size w wr) (h : k ≠ 16 → isDig (s.data.toList.getD k 0) = true ∧ isDig (t.data.toList.getD k 0) = true) : HidRel w s t (.int .i64 (k + 1)) wr :=
  ⟨k + 1, by omega, by congr 1, fun j hj hn => by
    by_cases e : j = k
    · subst e; exact h hn
    · exact hd j (by omega) hn, hb⟩
theorem note_same {s t : ByteArray} (r : Int) (h1 : s.size = 18) (h2 : t.size = 18) (h : maskS s.data.toList = maskS t.data.toList) : noteL ⟨r, 8, 1, 0, t, 0, 0, 0, 0⟩ = noteL ⟨r, 8, 1, 0, s, 0, 0, 0, 0⟩ := by
  have e1 : t.size ≠ 0 := by omega
  have e2 : s.size ≠ 0 := by omega
  simp [noteL, e1, e2, h]
theorem hid_wf {r : Int} (hr : fits r) (x : ByteArray) (hx : x.size = 18) : (Adm.mk r 8 1 0 x 0 0 0 0).Wf := by
  have f0 : fits 0 := by unfold fits; omega
  exact ⟨hr, by show fits 8; unfold fits; omega, by show fits 1; unfold fits; omega, f0, f0, f0, f0, f0, by show x.size ≤ _; omega⟩
theorem str_eq_list {a b : ByteArray} (h : (a.toList == b.toList) = true) : a.data.toList = b.data.toList := by
  rw [ByteArray.toList_eq, ByteArray.toList_eq] at h
  exact eq_of_beq h
set_option maxRecDepth 100000 in
set_option maxHeartbeats 8000000 in
theorem Hides_in (s t : ByteArray) (r : Int) (w : World) (h1 : s.size = 18) (h2 : t.size = 18) (h3 : ((s.extract 0 6).toList == (t.extract 0 6).toList) = true) (h4 : ((s.extract 12 18).toList == (t.extract 12 18).toList) = true) (hr : fits r) (ht : Tab w) :
    Calls Tryd.prog 13 #[.string s, .string t, .int .i64 r] w fun e w' => e = .returned (.bool true) ∧ Below w.heap.size w w' := by
  have HTK := Lib.hid (show s.data.toList.take 6 = t.data.toList.take 6 by
    have h := str_eq_list h3
    rw [Lib.extract_data, Lib.extract_data] at h
    exact h)
  have HDR := Lib.hid (show s.data.toList.drop 12 = t.data.toList.drop 12 by
    have h := str_eq_list h4
    rw [Lib.extract_data, Lib.extract_data] at h
    rw [List.take_of_length_le (by rw [List.length_drop, size_toList]; omega), List.take_of_length_le (by rw [List.length_drop, size_toList]; omega)] at h
    exact h)
  have HFR := Lib.hid hr
  have HT := Lib.hid ht
  clear hr ht
  go_enter Tryd.func13, Tryd.ntmps13
  go_wp2_with fail
  refine (small23_any _ HT.out).mono ?_
  rintro e w1 ⟨rfl, hb1⟩
  have HB1 := Lib.hid hb1
  clear hb1
  go_wp2_with fail
  go_quiet (fail)
  clear h3 h4
  have HB2 := Lib.hid (below_drewN HB1.out nq)
  clear HB1
  go_wp2_with fail
  go_loopw [8] (fun s8 wr => HidRel w s t s8 wr) (fun s8 _ => 18 - (intOf s8).toNat)
  case atStart => exact ⟨0, by omega, rfl, fun j hj => absurd hj (by omega), HB2.out⟩
  case round =>
    clear HB2
    obtain ⟨k, hk, rfl, hd, hb⟩ := hrel
    have HD := Lib.hid hd
    have HB := Lib.hid hb
    clear hd hb
    by_cases hlt : k < 18
    · by_cases h16 : k = 16
      · subst h16
        have HN := Lib.hid (hid_next (by omega) HD.out HB.out (fun h => absurd rfl h))
        go_wp2_with fail
        go_roundw
        case rel => exact HN.out
        case measure => simp [intOf]
      · have hne : ((k : Int) != 16) = true := by simp; omega
        have hks : k < s.size := by omega
        have hkt : k < t.size := by omega
        by_cases p1 : (s[k].toNat : Int) < 48
        · clear h16
          go_wp2_with fail
          go_ret
          exact ⟨rfl, HB.out⟩
        by_cases p2 : 57 < (s[k].toNat : Int)
        · clear h16
          go_wp2_with fail
          go_ret
          exact ⟨rfl, HB.out⟩
        by_cases p3 : (t[k].toNat : Int) < 48
        · clear h16
          go_wp2_with fail
          go_ret
          exact ⟨rfl, HB.out⟩
        by_cases p4 : 57 < (t[k].toNat : Int)
        · clear h16
          go_wp2_with fail
          go_ret
          exact ⟨rfl, HB.out⟩
        have HN := Lib.hid (hid_next hlt HD.out HB.out (fun _ => ⟨dig_str s k hks p1 p2, dig_str t k hkt p3 p4⟩))
        clear h16
        go_wp2_with fail
        go_roundw
        case rel => exact HN.out
        case measure => simp [intOf]; omega
    · obtain rfl : k = 18 := by omega
      have h16s : 16 < s.size := by omega
      have h17s : 17 < s.size := by omega
      by_cases p5 : (s[16].toNat : Int) = 46
      · by_cases p6 : (s[17].toNat : Int) = 48
        · have q5 : ((s[16].toNat : Int) != 46) = false := by simp [p5]
          have q6 : ((s[17].toNat : Int) == 48) = true := by simp [p6]
          clear p5 p6
          go_wp2_with fail
          go_ret
          exact ⟨rfl, HB.out⟩
        · have q5 : ((s[16].toNat : Int) != 46) = false := by simp [p5]
          have q6 : ((s[17].toNat : Int) == 48) = false := by simp; omega
          have hmk : maskS s.data.toList = maskS t.data.toList := hides_eq (by rw [size_toList]; exact h1) (by rw [size_toList]; exact h2) HTK.out HDR.out HD.out
            (by rw [getD_str s 16 h16s]; apply UInt8.toNat_inj.1; show _ = 46; omega) (by rw [getD_str s 17 h17s]; intro e; rw [e] at p6; exact p6 rfl)
          obtain ⟨nl, hnl⟩ : ∃ nl : ByteArray, ⟨(noteL ⟨r, 8, 1, 0, s, 0, 0, 0, 0⟩).toArray⟩ = nl := ⟨_, rfl⟩
          have hwf := fun x hx => hid_wf HFR.out x hx
          have HNA := Lib.hid (fun w (h : Tab w) => show Calls Tryd.prog 30 #[.agg #[.int .i64 r, .int .i64 8, .int .i64 1, .int .i64 0, .string s, .int .i64 0, .int .i64 0, .int .i64 0, .int .i64 0]] w fun e w' => e = .returned (.string nl) ∧ Below w.heap.size w w' by rw [← hnl]; exact Note_any ⟨r, 8, 1, 0, s, 0, 0, 0, 0⟩ w (hwf s h1) h)
          have HNB := Lib.hid (fun w (h : Tab w) => show Calls Tryd.prog 30 #[.agg #[.int .i64 r, .int .i64 8, .int .i64 1, .int .i64 0, .string t, .int .i64 0, .int .i64 0, .int .i64 0, .int .i64 0]] w fun e w' => e = .returned (.string nl) ∧ Below w.heap.size w w' by rw [← hnl, ← note_same r h1 h2 hmk]; exact Note_any ⟨r, 8, 1, 0, t, 0, 0, 0, 0⟩ w (hwf t h2) h)
          clear p5 p6 hmk hwf hnl HTK HDR HD
          have hwr := HB.out.size
          go_upto_region 13 with fail
          refine name_world fun w5 x1 x2 x3 x4 => ?_
          have hb5 : Below w.heap.size w w5 := below_heap ((HB.out.alloc hwr _).alloc (by simp; omega) _) x1 x2 x3 x4
          have ha : AdmAt w5 wr.heap.size ⟨r, 8, 1, 0, s, 0, 0, 0, 0⟩ := AdmAt.keep (w := (wr.alloc (.cells #[.int .i64 r, .int .i64 8, .int .i64 1, .int .i64 0, .string s, .int .i64 0, .int .i64 0, .int .i64 0, .int .i64 0] 38)).alloc (.cells #[.int .i64 r, .int .i64 8, .int .i64 1, .int .i64 0, .string t, .int .i64 0, .int .i64 0, .int .i64 0, .int .i64 0] 38))
            (AdmAt.below (w := wr.alloc (.cells #[.int .i64 r, .int .i64 8, .int .i64 1, .int .i64 0, .string s, .int .i64 0, .int .i64 0, .int .i64 0, .int .i64 0] 38)) (adm_box (a := ⟨r, 8, 1, 0, s, 0, 0, 0, 0⟩) (Below.refl _ _)).1 (hid_below1 _ _) (by simp)) (fun j => World.cell?_of_block (a := ⟨wr.heap.size, j, none⟩) (by rw [x1]))
          have hb : AdmAt w5 (wr.heap.size + 1) ⟨r, 8, 1, 0, t, 0, 0, 0, 0⟩ := AdmAt.keep (w := (wr.alloc (.cells #[.int .i64 r, .int .i64 8, .int .i64 1, .int .i64 0, .string s, .int .i64 0, .int .i64 0, .int .i64 0, .int .i64 0] 38)).alloc (.cells #[.int .i64 r, .int .i64 8, .int .i64 1, .int .i64 0, .string t, .int .i64 0, .int .i64 0, .int .i64 0, .int .i64 0] 38))
            (by have h := (adm_box (w := wr.alloc (.cells #[.int .i64 r, .int .i64 8, .int .i64 1, .int .i64 0, .string s, .int .i64 0, .int .i64 0, .int .i64 0, .int .i64 0] 38)) (a := ⟨r, 8, 1, 0, t, 0, 0, 0, 0⟩) (t := 38) (Below.refl _ _)).1; rw [show (wr.alloc (.cells #[.int .i64 r, .int .i64 8, .int .i64 1, .int .i64 0, .string s, .int .i64 0, .int .i64 0, .int .i64 0, .int .i64 0] 38)).heap.size = wr.heap.size + 1 by simp] at h; exact h) (fun j => World.cell?_of_block (a := ⟨wr.heap.size + 1, j, none⟩) (by rw [x1]))
          have hl5 : wr.heap.size + 1 < w5.heap.size := by rw [x1]; simp
          have HA5 := Lib.hid ha
          have HB5 := Lib.hid hb
          have HBW := Lib.hid hb5
          have HT5 := Lib.hid (HT.out.below hb5)
          have hg0 : Below w5.heap.size w5 w5.drew := (Below.refl _ _).drew
          clear x1 x2 x3 x4 ha hb hb5
          go_wp2_with fail
          obtain ⟨F, hF⟩ : ∃ F, F = nthF [eqv (.bool true), eqv (.bool true), eqv (.agg #[.int .i64 r, .int .i64 8, .int .i64 1, .int .i64 0, .string s, .int .i64 0, .int .i64 0, .int .i64 0, .int .i64 0]), eqv (.string nl), eqv (.agg #[.int .i64 r, .int .i64 8, .int .i64 1, .int .i64 0, .string t, .int .i64 0, .int .i64 0, .int .i64 0, .int .i64 0]), eqv (.string nl), eqv (.bool true), eqv (.bool true), eqv (.bool true)] := ⟨_, rfl⟩
          have E0 := Lib.hid (show F 0 = eqv (.bool true) by rw [hF]; rfl)
          have E1 := Lib.hid (show F 1 = eqv (.bool true) by rw [hF]; rfl)
          have E2 := Lib.hid (show F 2 = eqv (.agg #[.int .i64 r, .int .i64 8, .int .i64 1, .int .i64 0, .string s, .int .i64 0, .int .i64 0, .int .i64 0, .int .i64 0]) by rw [hF]; rfl)
          have E3 := Lib.hid (show F 3 = eqv (.string nl) by rw [hF]; rfl)
          have E4 := Lib.hid (show F 4 = eqv (.agg #[.int .i64 r, .int .i64 8, .int .i64 1, .int .i64 0, .string t, .int .i64 0, .int .i64 0, .int .i64 0, .int .i64 0]) by rw [hF]; rfl)
          have E5 := Lib.hid (show F 5 = eqv (.string nl) by rw [hF]; rfl)
          have E6 := Lib.hid (show F 6 = eqv (.bool true) by rw [hF]; rfl)
          have E7 := Lib.hid (show F 7 = eqv (.bool true) by rw [hF]; rfl)
          have E8 := Lib.hid (show F 8 = eqv (.bool true) by rw [hF]; rfl)
          have hst : ∀ j v w w', F j v w → Grows w w' → F j v w' := by rw [hF]; exact nth_stable (by repeat (first | exact st_nil | exact st_eqv _ | exact st_any | refine st_cons ?_ ?_))
          have HST0 := Lib.hid hst
          clear hF hst
          refine wp_region_facts F Grows (fun _ => True) (by kernel_rfl) (by kernel_rfl) grows_refl grows_trans HST0.out (trivial) ?_ ?_
          · intro V; refine ⟨?_, ?_, ?_, ?_, ?_, ?_, ?_, ?_, ?_, trivial⟩
            · intro wx hg hJ hdep
              clear hdep
              clear hg
              go_wp2_with fail
              exact ⟨rfl, grows_refl _, trivial, by rw [E0.out]; rfl⟩
            · intro wx hg hJ hdep
              have v0 : V 0 = (.bool true) := by have h := hdep 0 rfl; rw [E0.out] at h; exact h
              clear hdep
              clear hg
              go_wp2_with fail
              exact ⟨rfl, grows_refl _, trivial, by rw [E1.out]; rfl⟩
            · intro wx hg hJ hdep
              have v1 : V 1 = (.bool true) := by have h := hdep 1 rfl; rw [E1.out] at h; exact h
              clear hdep
              have hh := HA5.out.below (hg0.trans hg) (by omega)
              obtain ⟨e0, e1, e2, e3, e4, e5, e6, e7, e8⟩ := hh
              simp only at e0 e1 e2 e3 e4 e5 e6 e7 e8
              clear hg
              go_wp2_with fail
              exact ⟨rfl, grows_refl _, trivial, by rw [E2.out]; rfl⟩
            · intro wx hg hJ hdep
              have v2 : V 2 = (.agg #[.int .i64 r, .int .i64 8, .int .i64 1, .int .i64 0, .string s, .int .i64 0, .int .i64 0, .int .i64 0, .int .i64 0]) := by have h := hdep 2 rfl; rw [E2.out] at h; exact h
              have v1 : V 1 = (.bool true) := by have h := hdep 1 rfl; rw [E1.out] at h; exact h
              clear hdep
              have HM0 := Lib.hid (HNA.out wx (HT5.out.below (hg0.trans hg)))
              clear hg
              go_wp2_with fail
              refine HM0.out.mono ?_
              rintro e w7 ⟨rfl, hb7⟩
              have HG7 := Lib.hid hb7
              clear hb7
              go_wp2_with fail
              exact ⟨rfl, HG7.out, trivial, by rw [E3.out]; rfl⟩
            · intro wx hg hJ hdep
              have v1 : V 1 = (.bool true) := by have h := hdep 1 rfl; rw [E1.out] at h; exact h
              clear hdep
              have hh := HB5.out.below (hg0.trans hg) (by omega)
              obtain ⟨e0, e1, e2, e3, e4, e5, e6, e7, e8⟩ := hh
              simp only at e0 e1 e2 e3 e4 e5 e6 e7 e8
              clear hg
              go_wp2_with fail
              exact ⟨rfl, grows_refl _, trivial, by rw [E4.out]; rfl⟩
            · intro wx hg hJ hdep
              have v4 : V 4 = (.agg #[.int .i64 r, .int .i64 8, .int .i64 1, .int .i64 0, .string t, .int .i64 0, .int .i64 0, .int .i64 0, .int .i64 0]) := by have h := hdep 4 rfl; rw [E4.out] at h; exact h
              have v3 : V 3 = (.string nl) := by have h := hdep 3 rfl; rw [E3.out] at h; exact h
              have v1 : V 1 = (.bool true) := by have h := hdep 1 rfl; rw [E1.out] at h; exact h
              clear hdep
              have HM0 := Lib.hid (HNB.out wx (HT5.out.below (hg0.trans hg)))
              clear hg
              go_wp2_with fail
              refine HM0.out.mono ?_
              rintro e w7 ⟨rfl, hb7⟩
              have HG7 := Lib.hid hb7
              clear hb7
              go_wp2_with fail
              exact ⟨rfl, HG7.out, trivial, by rw [E5.out]; rfl⟩
            · intro wx hg hJ hdep
              have v3 : V 3 = (.string nl) := by have h := hdep 3 rfl; rw [E3.out] at h; exact h
              have v5 : V 5 = (.string nl) := by have h := hdep 5 rfl; rw [E5.out] at h; exact h
              have v1 : V 1 = (.bool true) := by have h := hdep 1 rfl; rw [E1.out] at h; exact h
              clear hdep
              clear hg
              go_wp2_with fail
              exact ⟨rfl, grows_refl _, trivial, by rw [E6.out]; rfl⟩
            · intro wx hg hJ hdep
              have v1 : V 1 = (.bool true) := by have h := hdep 1 rfl; rw [E1.out] at h; exact h
              have v6 : V 6 = (.bool true) := by have h := hdep 6 rfl; rw [E6.out] at h; exact h
              clear hdep
              clear hg
              go_wp2_with fail
              exact ⟨rfl, grows_refl _, trivial, by rw [E7.out]; rfl⟩
            · intro wx hg hJ hdep
              have v7 : V 7 = (.bool true) := by have h := hdep 7 rfl; rw [E7.out] at h; exact h
              have v5 : V 5 = (.string nl) := by have h := hdep 5 rfl; rw [E5.out] at h; exact h
              clear hdep
              clear hg
              go_wp2_with fail
              exact ⟨rfl, grows_refl _, trivial, by rw [E8.out]; rfl⟩
          · intro V wx hg hJ hall
            have v0 : V 0 = (.bool true) := by have h := hall 0 (by decide); rw [E0.out] at h; exact h
            have v1 : V 1 = (.bool true) := by have h := hall 1 (by decide); rw [E1.out] at h; exact h
            have v2 : V 2 = (.agg #[.int .i64 r, .int .i64 8, .int .i64 1, .int .i64 0, .string s, .int .i64 0, .int .i64 0, .int .i64 0, .int .i64 0]) := by have h := hall 2 (by decide); rw [E2.out] at h; exact h
            have v3 : V 3 = (.string nl) := by have h := hall 3 (by decide); rw [E3.out] at h; exact h
            have v4 : V 4 = (.agg #[.int .i64 r, .int .i64 8, .int .i64 1, .int .i64 0, .string t, .int .i64 0, .int .i64 0, .int .i64 0, .int .i64 0]) := by have h := hall 4 (by decide); rw [E4.out] at h; exact h
            have v5 : V 5 = (.string nl) := by have h := hall 5 (by decide); rw [E5.out] at h; exact h
            have v6 : V 6 = (.bool true) := by have h := hall 6 (by decide); rw [E6.out] at h; exact h
            have v7 : V 7 = (.bool true) := by have h := hall 7 (by decide); rw [E7.out] at h; exact h
            have v8 : V 8 = (.bool true) := by have h := hall 8 (by decide); rw [E8.out] at h; exact h
            clear hall
            simp only [fillTo, Act.put, List.setIfInBounds_toArray, List.set_cons_succ, List.set_cons_zero, Nat.reduceAdd, Nat.zero_add, v0, v1, v2, v3, v4, v5, v6, v7, v8]
            clear v0 v1 v2 v3 v4 v5 v6 v7 v8
            have HG := Lib.hid (HBW.out.trans ((hg0.trans hg).mono HBW.out.size))
            clear hg
            go_wp2_with fail
            go_ret
            exact ⟨rfl, HG.out⟩
      · have q5 : ((s[16].toNat : Int) != 46) = true := by simp; omega
        clear p5
        go_wp2_with fail
        go_ret
        exact ⟨rfl, HB.out⟩
theorem RolesHides_walk (s t : ByteArray) (r : Int) (w : World) (_hs : s.size ≤ maxLen) (_ht : t.size ≤ maxLen) (hr : (Lit.int .i64 r).wf = true) (ht : Tab w) :
    Calls Tryd.prog 13 #[.string s, .string t, .int .i64 r] w fun e w' => e = .returned (.bool true) ∧ Below w.heap.size w w' := by
  by_cases h1 : s.size = 18
  · by_cases h2 : t.size = 18
    · cases h3 : ((s.extract 0 6).toList == (t.extract 0 6).toList) with
      | false => exact Hides_out s t r w (.inr (.inr (.inl ⟨h1, h2, h3⟩))) ht
      | true =>
        cases h4 : ((s.extract 12 18).toList == (t.extract 12 18).toList) with
        | false => exact Hides_out s t r w (.inr (.inr (.inr ⟨h1, h2, h3, h4⟩))) ht
        | true => exact Hides_in s t r w h1 h2 h3 h4 (by have h := hr; simp [Lit.wf, IntKind.min, IntKind.max, IntKind.bits, IntKind.signed] at h; unfold fits; omega) ht
    · exact Hides_out s t r w (.inr (.inl ⟨h1, h2⟩)) ht
  · exact Hides_out s t r w (.inl h1) ht
end Go.Proofs.YtnhcabcpdlgdaaaDoor
