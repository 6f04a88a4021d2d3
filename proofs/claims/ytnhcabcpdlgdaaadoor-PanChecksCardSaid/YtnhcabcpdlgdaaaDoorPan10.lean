/- THE WALKS of the laws PanChecks, PanHides. -/
import Derived.Test.YtnhcabcpdlgdaaaDoorPan9
namespace Go.Proofs.YtnhcabcpdlgdaaaDoor
open Go.RowKit

theorem ret_b {a b : Bool} (h : a = b) : Ending.returned (.bool a) = .returned (.bool b) := by rw [h]
/-- Behind k digits. -/
def ChkRel (w : World) (q : Nat) (n d : Value) (wr : World) : Prop := ∃ k : Nat, k ≤ 10 ∧ d = .int .u8 (48 + (k : Int)) ∧ n = .int .i64 (if q < k then 1 else 0) ∧ Below w.heap.size w wr
set_option maxRecDepth 100000 in
set_option maxHeartbeats 4000000 in
theorem PanChecks_walk (s : ByteArray) (w : World) (hs : s.size ≤ maxLen) (ht : Tab w) : Calls Tryd.prog 7 #[.string s] w fun e w' => e = .returned (.bool true) ∧ Below w.heap.size w w' := by
  cases h : shapedB s.data.toList with
  | false =>
    have HE := Lib.hid (cutR_no h)
    have HP := Lib.hid (show panB s.data.toList = false by unfold panB; rw [h]; rfl)
    clear h
    go_enter Tryd.func7, Tryd.ntmps7
    go_wp2_with fail
    refine (small11_any _ ht).mono ?_
    rintro e w1 ⟨rfl, hb1⟩
    go_wp2_with fail
    refine (Cut_any _ _ hs).mono ?_
    rw [HE.out]
    rintro e w2 ⟨rfl, hb2⟩
    go_wp2_with fail
    refine (Is_any _ _ hs).mono ?_
    rw [HP.out]
    rintro e w3 ⟨rfl, hb3⟩
    go_wp2_with fail
    go_ret
    exact ⟨rfl, thenB hb1 (thenB hb2 hb3)⟩
  | true =>
    obtain ⟨a, b, c, hc⟩ : ∃ a b c : ByteArray, cutR s.data.toList = .returned (.tuple #[.string a, .string b, .string c, .int .i64 0]) := ⟨_, _, _, cutR_yes h⟩
    have HC := Lib.hid hc
    obtain ⟨h0, h16, h19⟩ := shapedB_iff.1 h
    rw [size_toList] at h16 h19
    have HL := Lib.hid (fun d (hd : d ≤ 9) => pan_last h (d := d) hd)
    have hq9 := luhn_le (s.data.toList.take (s.data.toList.length - 1))
    generalize hq : luhn (s.data.toList.take (s.data.toList.length - 1)) = q at HL hq9
    obtain ⟨hh, hhe⟩ : ∃ hh : ByteArray, hh = s.extract 0 (s.size - 1) := ⟨_, rfl⟩
    have hhd : hh.data.toList = s.data.toList.take (s.data.toList.length - 1) := by rw [hhe, Lib.extract_data, size_toList]; rfl
    have hhs : hh.size ≤ 18 := by rw [← size_toList, hhd, List.length_take, size_toList]; omega
    have HH := Lib.hid hhe
    have HHD := Lib.hid hhd
    clear h hc h0 hq hhe hhd
    go_enter Tryd.func7, Tryd.ntmps7
    go_wp2_with fail
    refine (small11_any _ ht).mono ?_
    rintro e w1 ⟨rfl, hb1⟩
    go_wp2_with fail
    refine (Cut_any _ _ hs).mono ?_
    rw [HC.out]
    rintro e w2 ⟨rfl, hb2⟩
    have HB := Lib.hid (thenB hb1 hb2)
    clear hb1 hb2
    go_wp2_with fail
    go_loopw [8, 9] (fun n d wr => ChkRel w q n d wr) (fun _ d _ => (58 - intOf d).toNat)
    case atStart => exact ⟨0, by omega, rfl, rfl, HB.out⟩
    case round =>
      obtain ⟨k, hk, rfl, rfl, hb⟩ := hrel
      have HB2 := Lib.hid hb
      clear hb
      by_cases hlt : k < 10
      · have hk9 : (48 + (k : Int)) ≤ 57 := by omega
        have HPK := Lib.hid (HL.out k (by omega))
        obtain ⟨y, hy⟩ : ∃ y : ByteArray, y = ⟨[sg k].toArray⟩ := ⟨_, rfl⟩
        have hys : y.size ≤ 1 := by rw [hy, len_str]; simp
        have HY := Lib.hid hy
        have hxy : (hh ++ y).data.toList = s.data.toList.take (s.data.toList.length - 1) ++ [sg k] := by rw [Go.Joins.data_append, HHD.out, hy]
        have hxys : (hh ++ y).size ≤ maxLen := by rw [← size_toList, Go.Joins.data_append, List.length_append, size_toList, size_toList]; unfold maxLen; omega
        have HIS := Lib.hid (fun w => Is_any (hh ++ y) w hxys)
        rw [hxy, HPK.out] at HIS
        have n1 : ¬ 9223372036854775807 < hh.size + y.size := by omega
        have hsk : (((sg k).toNat : Nat) : Int) = 48 + (k : Int) := by rw [sg_toNat (by omega)]; omega
        have HSK := Lib.hid hsk
        clear hy hxy hxys hsk HPK
        by_cases hkq : k = q
        · have hd : decide (k = q) = true := decide_eq_true hkq
          rw [hd] at HIS
          have HN := Lib.hid (show (if q < k then (1 : Int) else 0) = 0 by rw [if_neg (by omega)])
          have HN2 := Lib.hid (show (if q < k + 1 then (1 : Int) else 0) = 1 by rw [if_pos (by omega)])
          rw [HN.out]
          clear hkq hd
          go_wp2_with fail
          obtain ⟨F, hF⟩ : ∃ F, F = nthF [eqv (.string s), eqv (.string s), eqv (.int .i64 s.size), eqv (.int .i64 ((s.size : Int) - 1)), eqv (.string hh), eqv (.int .u8 (48 + (k : Int))), BytesV [sg k], eqv (.string y), eqv (.string (hh ++ y)), eqv (.bool true)] := ⟨_, rfl⟩
          have E0 := Lib.hid (show F 0 = eqv (.string s) by rw [hF]; rfl)
          have E1 := Lib.hid (show F 1 = eqv (.string s) by rw [hF]; rfl)
          have E2 := Lib.hid (show F 2 = eqv (.int .i64 s.size) by rw [hF]; rfl)
          have E3 := Lib.hid (show F 3 = eqv (.int .i64 ((s.size : Int) - 1)) by rw [hF]; rfl)
          have E4 := Lib.hid (show F 4 = eqv (.string hh) by rw [hF]; rfl)
          have E5 := Lib.hid (show F 5 = eqv (.int .u8 (48 + (k : Int))) by rw [hF]; rfl)
          have E6 := Lib.hid (show F 6 = BytesV [sg k] by rw [hF]; rfl)
          have E7 := Lib.hid (show F 7 = eqv (.string y) by rw [hF]; rfl)
          have E8 := Lib.hid (show F 8 = eqv (.string (hh ++ y)) by rw [hF]; rfl)
          have E9 := Lib.hid (show F 9 = eqv (.bool true) by rw [hF]; rfl)
          have hst : ∀ j v w w', F j v w → Grows w w' → F j v w' := by rw [hF]; exact nth_stable (by repeat (first | exact st_nil | exact st_eqv _ | exact st_any | exact st_bytes _ | exact st_list _ | exact st_strs _ | refine st_cons ?_ ?_))
          have HST0 := Lib.hid hst
          clear hF hst
          refine wp_region_facts F Grows (fun _ => True) (by kernel_rfl) (by kernel_rfl) grows_refl grows_trans HST0.out (trivial) ?_ ?_
          · intro V; refine ⟨?_, ?_, ?_, ?_, ?_, ?_, ?_, ?_, ?_, ?_, trivial⟩
            · intro wx hg hJ hdep
              clear hdep
              clear hg
              go_wp2_with fail
              exact ⟨rfl, grows_refl _, trivial, by rw [E0.out]; rfl⟩
            · intro wx hg hJ hdep
              clear hdep
              clear hg
              go_wp2_with fail
              exact ⟨rfl, grows_refl _, trivial, by rw [E1.out]; rfl⟩
            · intro wx hg hJ hdep
              have v1 : V 1 = (.string s) := by have h := hdep 1 rfl; rw [E1.out] at h; exact h
              clear hdep
              clear hg
              go_wp2_with fail
              exact ⟨rfl, grows_refl _, trivial, by rw [E2.out]; rfl⟩
            · intro wx hg hJ hdep
              have v2 : V 2 = (.int .i64 s.size) := by have h := hdep 2 rfl; rw [E2.out] at h; exact h
              clear hdep
              clear hg
              go_wp2_with fail
              exact ⟨rfl, grows_refl _, trivial, by rw [E3.out]; rfl⟩
            · intro wx hg hJ hdep
              have v0 : V 0 = (.string s) := by have h := hdep 0 rfl; rw [E0.out] at h; exact h
              have v3 : V 3 = (.int .i64 ((s.size : Int) - 1)) := by have h := hdep 3 rfl; rw [E3.out] at h; exact h
              clear hdep
              go_wp2_with fail
              exact ⟨rfl, grows_refl _, trivial, by rw [E4.out, HH.out]; rfl⟩
            · intro wx hg hJ hdep
              clear hdep
              clear hg
              go_wp2_with fail
              exact ⟨rfl, grows_refl _, trivial, by rw [E5.out]; rfl⟩
            · intro wx hg hJ hdep
              have v5 : V 5 = (.int .u8 (48 + (k : Int))) := by have h := hdep 5 rfl; rw [E5.out] at h; exact h
              clear hdep
              go_wp2_with fail
              have hb := bytes_one (sg k) 5 wx
              rw [HSK.out] at hb
              exact ⟨rfl, (Below.refl _ _).alloc (Nat.le_refl _) _, trivial, by rw [E6.out]; exact hb⟩
            · intro wx hg hJ hdep
              have h6 : (BytesV [sg k]) (V 6) wx := by have h := hdep 6 rfl; rw [E6.out] at h; exact h
              clear hdep
              have hcv := h6.conv (P := Tryd.prog) Tryd.underlying33 Tryd.underlying5 Tryd.underlying9
              rw [← HY.out] at hcv
              go_wp2_with fail
              exact ⟨rfl, grows_refl _, trivial, by rw [E7.out]; rfl⟩
            · intro wx hg hJ hdep
              have v4 : V 4 = (.string hh) := by have h := hdep 4 rfl; rw [E4.out] at h; exact h
              have v7 : V 7 = (.string y) := by have h := hdep 7 rfl; rw [E7.out] at h; exact h
              clear hdep
              clear hg
              go_wp2_with fail
              exact ⟨rfl, grows_refl _, trivial, by rw [E8.out]; rfl⟩
            · intro wx hg hJ hdep
              have v8 : V 8 = (.string (hh ++ y)) := by have h := hdep 8 rfl; rw [E8.out] at h; exact h
              clear hdep
              have HM := Lib.hid (HIS.out wx)
              clear hg
              go_wp2_with fail
              refine HM.out.mono ?_
              rintro e w3 ⟨rfl, hg2⟩
              have HG2 := Lib.hid hg2
              clear hg2
              go_wp2_with fail
              exact ⟨rfl, HG2.out, trivial, by rw [E9.out]; rfl⟩
          · intro V wx hg hJ hall
            have v0 : V 0 = (.string s) := by have h := hall 0 (by decide); rw [E0.out] at h; exact h
            have v1 : V 1 = (.string s) := by have h := hall 1 (by decide); rw [E1.out] at h; exact h
            have v2 : V 2 = (.int .i64 s.size) := by have h := hall 2 (by decide); rw [E2.out] at h; exact h
            have v3 : V 3 = (.int .i64 ((s.size : Int) - 1)) := by have h := hall 3 (by decide); rw [E3.out] at h; exact h
            have v4 : V 4 = (.string hh) := by have h := hall 4 (by decide); rw [E4.out] at h; exact h
            have v5 : V 5 = (.int .u8 (48 + (k : Int))) := by have h := hall 5 (by decide); rw [E5.out] at h; exact h
            have h6 : (BytesV [sg k]) (V 6) wx := by have h := hall 6 (by decide); rw [E6.out] at h; exact h
            have v7 : V 7 = (.string y) := by have h := hall 7 (by decide); rw [E7.out] at h; exact h
            have v8 : V 8 = (.string (hh ++ y)) := by have h := hall 8 (by decide); rw [E8.out] at h; exact h
            have v9 : V 9 = (.bool true) := by have h := hall 9 (by decide); rw [E9.out] at h; exact h
            clear hall
            simp only [fillTo, Act.put, List.setIfInBounds_toArray, List.set_cons_succ, List.set_cons_zero, Nat.reduceAdd, Nat.zero_add, v0, v1, v2, v3, v4, v5, v7, v8, v9]
            clear v0 v1 v2 v3 v4 v5 v7 v8 v9
            have HG := Lib.hid (show Below w.heap.size w wx from HB2.out.drew.trans (hg.mono HB2.out.size))
            clear hg
            go_wp2_with fail
            go_roundw
            case rel => exact ⟨k + 1, by omega, by go_num, by rw [HN2.out], HG.out⟩
            case measure => simp [intOf]; omega
        · have hd : decide (k = q) = false := decide_eq_false hkq
          rw [hd] at HIS
          obtain ⟨nv, hnv⟩ : ∃ nv : Int, (if q < k then (1 : Int) else 0) = nv := ⟨_, rfl⟩
          have HN2 := Lib.hid (show (if q < k + 1 then (1 : Int) else 0) = nv by rw [← hnv]; by_cases hx : q < k; rw [if_pos hx, if_pos (by omega)]; rw [if_neg hx, if_neg (by omega)])
          rw [hnv]
          clear hkq hd hnv
          go_wp2_with fail
          obtain ⟨F, hF⟩ : ∃ F, F = nthF [eqv (.string s), eqv (.string s), eqv (.int .i64 s.size), eqv (.int .i64 ((s.size : Int) - 1)), eqv (.string hh), eqv (.int .u8 (48 + (k : Int))), BytesV [sg k], eqv (.string y), eqv (.string (hh ++ y)), eqv (.bool false)] := ⟨_, rfl⟩
          have E0 := Lib.hid (show F 0 = eqv (.string s) by rw [hF]; rfl)
          have E1 := Lib.hid (show F 1 = eqv (.string s) by rw [hF]; rfl)
          have E2 := Lib.hid (show F 2 = eqv (.int .i64 s.size) by rw [hF]; rfl)
          have E3 := Lib.hid (show F 3 = eqv (.int .i64 ((s.size : Int) - 1)) by rw [hF]; rfl)
          have E4 := Lib.hid (show F 4 = eqv (.string hh) by rw [hF]; rfl)
          have E5 := Lib.hid (show F 5 = eqv (.int .u8 (48 + (k : Int))) by rw [hF]; rfl)
          have E6 := Lib.hid (show F 6 = BytesV [sg k] by rw [hF]; rfl)
          have E7 := Lib.hid (show F 7 = eqv (.string y) by rw [hF]; rfl)
          have E8 := Lib.hid (show F 8 = eqv (.string (hh ++ y)) by rw [hF]; rfl)
          have E9 := Lib.hid (show F 9 = eqv (.bool false) by rw [hF]; rfl)
          have hst : ∀ j v w w', F j v w → Grows w w' → F j v w' := by rw [hF]; exact nth_stable (by repeat (first | exact st_nil | exact st_eqv _ | exact st_any | exact st_bytes _ | exact st_list _ | exact st_strs _ | refine st_cons ?_ ?_))
          have HST0 := Lib.hid hst
          clear hF hst
          refine wp_region_facts F Grows (fun _ => True) (by kernel_rfl) (by kernel_rfl) grows_refl grows_trans HST0.out (trivial) ?_ ?_
          · intro V; refine ⟨?_, ?_, ?_, ?_, ?_, ?_, ?_, ?_, ?_, ?_, trivial⟩
            · intro wx hg hJ hdep
              clear hdep
              clear hg
              go_wp2_with fail
              exact ⟨rfl, grows_refl _, trivial, by rw [E0.out]; rfl⟩
            · intro wx hg hJ hdep
              clear hdep
              clear hg
              go_wp2_with fail
              exact ⟨rfl, grows_refl _, trivial, by rw [E1.out]; rfl⟩
            · intro wx hg hJ hdep
              have v1 : V 1 = (.string s) := by have h := hdep 1 rfl; rw [E1.out] at h; exact h
              clear hdep
              clear hg
              go_wp2_with fail
              exact ⟨rfl, grows_refl _, trivial, by rw [E2.out]; rfl⟩
            · intro wx hg hJ hdep
              have v2 : V 2 = (.int .i64 s.size) := by have h := hdep 2 rfl; rw [E2.out] at h; exact h
              clear hdep
              clear hg
              go_wp2_with fail
              exact ⟨rfl, grows_refl _, trivial, by rw [E3.out]; rfl⟩
            · intro wx hg hJ hdep
              have v0 : V 0 = (.string s) := by have h := hdep 0 rfl; rw [E0.out] at h; exact h
              have v3 : V 3 = (.int .i64 ((s.size : Int) - 1)) := by have h := hdep 3 rfl; rw [E3.out] at h; exact h
              clear hdep
              go_wp2_with fail
              exact ⟨rfl, grows_refl _, trivial, by rw [E4.out, HH.out]; rfl⟩
            · intro wx hg hJ hdep
              clear hdep
              clear hg
              go_wp2_with fail
              exact ⟨rfl, grows_refl _, trivial, by rw [E5.out]; rfl⟩
            · intro wx hg hJ hdep
              have v5 : V 5 = (.int .u8 (48 + (k : Int))) := by have h := hdep 5 rfl; rw [E5.out] at h; exact h
              clear hdep
              go_wp2_with fail
              have hb := bytes_one (sg k) 5 wx
              rw [HSK.out] at hb
              exact ⟨rfl, (Below.refl _ _).alloc (Nat.le_refl _) _, trivial, by rw [E6.out]; exact hb⟩
            · intro wx hg hJ hdep
              have h6 : (BytesV [sg k]) (V 6) wx := by have h := hdep 6 rfl; rw [E6.out] at h; exact h
              clear hdep
              have hcv := h6.conv (P := Tryd.prog) Tryd.underlying33 Tryd.underlying5 Tryd.underlying9
              rw [← HY.out] at hcv
              go_wp2_with fail
              exact ⟨rfl, grows_refl _, trivial, by rw [E7.out]; rfl⟩
            · intro wx hg hJ hdep
              have v4 : V 4 = (.string hh) := by have h := hdep 4 rfl; rw [E4.out] at h; exact h
              have v7 : V 7 = (.string y) := by have h := hdep 7 rfl; rw [E7.out] at h; exact h
              clear hdep
              clear hg
              go_wp2_with fail
              exact ⟨rfl, grows_refl _, trivial, by rw [E8.out]; rfl⟩
            · intro wx hg hJ hdep
              have v8 : V 8 = (.string (hh ++ y)) := by have h := hdep 8 rfl; rw [E8.out] at h; exact h
              clear hdep
              have HM := Lib.hid (HIS.out wx)
              clear hg
              go_wp2_with fail
              refine HM.out.mono ?_
              rintro e w3 ⟨rfl, hg2⟩
              have HG2 := Lib.hid hg2
              clear hg2
              go_wp2_with fail
              exact ⟨rfl, HG2.out, trivial, by rw [E9.out]; rfl⟩
          · intro V wx hg hJ hall
            have v0 : V 0 = (.string s) := by have h := hall 0 (by decide); rw [E0.out] at h; exact h
            have v1 : V 1 = (.string s) := by have h := hall 1 (by decide); rw [E1.out] at h; exact h
            have v2 : V 2 = (.int .i64 s.size) := by have h := hall 2 (by decide); rw [E2.out] at h; exact h
            have v3 : V 3 = (.int .i64 ((s.size : Int) - 1)) := by have h := hall 3 (by decide); rw [E3.out] at h; exact h
            have v4 : V 4 = (.string hh) := by have h := hall 4 (by decide); rw [E4.out] at h; exact h
            have v5 : V 5 = (.int .u8 (48 + (k : Int))) := by have h := hall 5 (by decide); rw [E5.out] at h; exact h
            have h6 : (BytesV [sg k]) (V 6) wx := by have h := hall 6 (by decide); rw [E6.out] at h; exact h
            have v7 : V 7 = (.string y) := by have h := hall 7 (by decide); rw [E7.out] at h; exact h
            have v8 : V 8 = (.string (hh ++ y)) := by have h := hall 8 (by decide); rw [E8.out] at h; exact h
            have v9 : V 9 = (.bool false) := by have h := hall 9 (by decide); rw [E9.out] at h; exact h
            clear hall
            simp only [fillTo, Act.put, List.setIfInBounds_toArray, List.set_cons_succ, List.set_cons_zero, Nat.reduceAdd, Nat.zero_add, v0, v1, v2, v3, v4, v5, v7, v8, v9]
            clear v0 v1 v2 v3 v4 v5 v7 v8 v9
            have HG := Lib.hid (show Below w.heap.size w wx from HB2.out.drew.trans (hg.mono HB2.out.size))
            clear hg
            go_wp2_with fail
            go_roundw
            case rel => exact ⟨k + 1, by omega, by go_num, by rw [HN2.out], HG.out⟩
            case measure => simp [intOf]; omega
      · have hk10 : k = 10 := by omega
        subst hk10
        have HN := Lib.hid (show (if q < 10 then (1 : Int) else 0) = 1 by rw [if_pos (by omega)])
        rw [HN.out]
        go_wp2_with fail
        go_ret
        exact ⟨rfl, HB2.out⟩

/-- Behind i digits of the middle written over. -/
def HidRel (w : World) (g m cap : Nat) (i : Value) (wr : World) : Prop := ∃ (k : Nat) (l : List UInt8), k ≤ m ∧ i = .int .i64 k ∧ l.length = m ∧ l.all isDig = true ∧ Row wr w.heap.size 1 (some ⟨g, 0, none⟩) m cap (bv l) ∧ Below w.heap.size w wr
theorem all_set {l : List UInt8} {k : Nat} {c : UInt8} (h : l.all isDig = true) (hc : isDig c = true) : (l.set k c).all isDig = true := by
  rw [List.all_eq_true] at h ⊢
  intro x hx
  rcases List.mem_or_eq_of_mem_set hx with h1 | h1
  · exact h x h1
  · rw [h1]; exact hc
set_option maxRecDepth 100000 in
set_option maxHeartbeats 4000000 in
theorem PanHides_walk (s : ByteArray) (A : Option Addr) (n c : Nat) (by_ : List UInt8) (w : World) (hs : s.size ≤ maxLen) (hr : Reads w w.heap.size 1 A n (bv by_)) (hc : n ≤ c ∧ c ≤ 140737488351232) (ht : Tab w) :
    Calls Tryd.prog 6 #[.string s, .slice A n c] w fun e w' => e = .returned (.bool true) ∧ Below w.heap.size w w' := by
  obtain ⟨hnc, hcc⟩ := hc
  cases h : shapedB s.data.toList with
  | false =>
    have HE := Lib.hid (cutR_no h)
    clear h hr
    go_enter Tryd.func6, Tryd.ntmps6
    go_wp2_with fail
    refine (small11_any _ ht).mono ?_
    rintro e w1 ⟨rfl, hb1⟩
    go_wp2_with fail
    refine (Cut_any _ _ hs).mono ?_
    rw [HE.out]
    rintro e w2 ⟨rfl, hb2⟩
    go_wp2_with fail
    go_ret
    exact ⟨rfl, thenB hb1 hb2⟩
  | true =>
    have hcut := cutR_yes h
    obtain ⟨p1, p2, p3, p4, p5⟩ := parts_len h
    have hall := parts_all h
    have hdig := lookE_dig (shapedB_iff.1 h).1
    obtain ⟨a, ha⟩ : ∃ a : ByteArray, a = ⟨(binP s.data.toList).toArray⟩ := ⟨_, rfl⟩
    obtain ⟨b, hb⟩ : ∃ b : ByteArray, b = ⟨(midP s.data.toList).toArray⟩ := ⟨_, rfl⟩
    obtain ⟨c', hc⟩ : ∃ c : ByteArray, c = ⟨(lastP s.data.toList).toArray⟩ := ⟨_, rfl⟩
    have hasz : a.size = 6 := by rw [ha, len_str]; omega
    have hcsz : c'.size = 4 := by rw [hc, len_str]; omega
    have hbsz : b.size + 10 = s.size := by rw [hb, len_str, ← size_toList s]; omega
    have hb9 : b.size ≤ 9 := by rw [hb, len_str]; omega
    have hbd : b.data.toList = midP s.data.toList := by rw [hb]
    have habc : a ++ b ++ c' = s := by
      rw [str_is (a ++ b ++ c'), Go.Joins.data_append, Go.Joins.data_append, ha, hb, hc]
      show (⟨(binP s.data.toList ++ midP s.data.toList ++ lastP s.data.toList).toArray⟩ : ByteArray) = s
      rw [hall, ← str_is]
    have hbdig : b.data.toList.all isDig = true := by
      rw [hbd]
      rw [← hall, List.all_append, List.all_append] at hdig
      simp only [Bool.and_eq_true] at hdig
      exact hdig.1.2
    rw [← ha, ← hb, ← hc] at hcut
    -- the mask
    obtain ⟨x, hx⟩ : ∃ x : ByteArray, x = ⟨(maskS s.data.toList).toArray⟩ := ⟨_, rfl⟩
    have hxd : x.data.toList = maskOf s.data.toList := by rw [hx, mask_shaped h]
    have hxs : x.size = s.size := by rw [← size_toList, hxd, len_maskOf h, size_toList]
    have HST := Lib.hid (show ∀ i (hi : i < x.size), 6 ≤ i → i + 4 < s.size → x[i] = 42 from fun i hi h6 h4 => by
      have := maskOf_at h (i := i) h6 (by rw [size_toList]; exact h4)
      rw [← hxd, List.getElem?_eq_getElem (by rw [size_toList]; exact hi)] at this
      rw [← byte_at x i hi]
      exact Option.some.inj this)
    have HX6 := Lib.hid (show x.extract 0 6 = a by rw [ha]; exact sub_str x 0 6 _ (by rw [hxd]; exact (maskOf_head h).1))
    have HX4 := Lib.hid (show x.extract (x.size - 4) x.size = c' by
      rw [hc]
      refine sub_str x _ _ _ ?_
      rw [List.take_of_length_le (by simp), hxd, hxs, ← size_toList]; exact (maskOf_head h).2)
    have HMM := Lib.hid (fun (l : List UInt8) (hl : l.length = b.size) (hd : l.all isDig = true) => (show (⟨(maskS (a ++ ⟨l.toArray⟩ ++ c' : ByteArray).data.toList).toArray⟩ : ByteArray) = x by
      rw [hx, Go.Joins.data_append, Go.Joins.data_append, ha, hc]
      show (⟨(maskS (binP s.data.toList ++ l ++ lastP s.data.toList)).toArray⟩ : ByteArray) = _
      rw [maskOf_mid h hd (by rw [hl, ← hbd, size_toList])]))
    have HX := Lib.hid hx
    have HC := Lib.hid hcut
    have HABC := Lib.hid habc
    have HA6 := Lib.hid hasz
    have HC4 := Lib.hid hcsz
    have HXS := Lib.hid hxs
    have HBS := Lib.hid hbsz
    have HBD := Lib.hid hbdig
    have HR := Lib.hid hr
    have HNL := Lib.hid (show by_.length = n by have := hr.1; rw [length_bv] at this; omega)
    have hs16 : 16 ≤ s.size := by rw [← size_toList]; omega
    have hs19 : s.size ≤ 19 := by rw [← size_toList]; omega
    have f1 : ((a.size : Int) != 6) = false := by rw [hasz]; rfl
    have f2 : ((c'.size : Int) != 4) = false := by rw [hcsz]; rfl
    have f3 : ((a ++ b ++ c').toList == s.toList) = true := by rw [habc]; simp
    have n1 : ¬ 9223372036854775807 < a.size + b.size := by omega
    have n2 : ¬ 9223372036854775807 < a.size + b.size + c'.size := by omega
    clear h hcut p1 p2 p3 p4 p5 hall hdig ha hb hc hasz hcsz hbsz hbd habc hbdig hx hxd hxs hr
    go_enter Tryd.func6, Tryd.ntmps6
    go_wp2_with fail
    refine (small11_any _ ht).mono ?_
    rintro e w1 ⟨rfl, hb1⟩
    go_wp2_with fail
    refine (Cut_any _ _ hs).mono ?_
    rw [HC.out]
    rintro e w2 ⟨rfl, hb2⟩
    have HB := Lib.hid (thenB hb1 hb2)
    have hs2 := HB.out.size
    clear hb1 hb2
    obtain ⟨c4, w4, hrun4, hrow4, hb4⟩ := run_bytes_str (P := Tryd.prog) Tryd.underlying9 Tryd.underlying33 Tryd.underlying5 b (by unfold maxLen; omega) w2
    have HS := Lib.hid (show HidRel w w2.heap.size b.size c4 (.int .i64 0) w4 from ⟨0, b.data.toList, by omega, rfl, size_toList b, HBD.out, hrow4.mono hs2, thenB HB.out hb4⟩)
    clear hrow4 hb4
    go_wp2_with fail
    go_loopw [11] (fun i wr => HidRel w w2.heap.size b.size c4 i wr) (fun i _ => b.size - (intOf i).toNat)
    case atStart => exact HS.out
    case round =>
      clear HS
      obtain ⟨k, l, hk, rfl, hl, hld, hrow, hbw⟩ := hrel
      have HL := Lib.hid hl
      have HLD := Lib.hid hld
      have HROW := Lib.hid hrow
      have HBW := Lib.hid hbw
      clear hl hld hrow hbw
      by_cases hlt : k < b.size ∧ k < n
      · obtain ⟨hlt1, hlt2⟩ := hlt
        have d1 : decide ((k : Int) < b.size) = true := decide_eq_true (by omega)
        have d2 : decide ((k : Int) < n) = true := decide_eq_true (by omega)
        obtain ⟨bb, bo, hA, hbl, hcell⟩ := HR.out.2 (by omega)
        have hkb : k < by_.length := by rw [HNL.out]; exact hlt2
        have hc1 := (HBW.out.cell (p := ⟨bb, bo + k, none⟩) hbl).trans (hcell k _ (bv_at by_ k hkb))
        have hkl : k < l.length := by rw [HL.out]; exact hlt1
        have hc2 := HROW.out.cell (j := k) (bv_at l k hkl)
        have hf2 := HROW.out.free (j := k) (by have := HROW.out.2.1; omega)
        have hrs := HROW.out.set (j := k) (by have := HROW.out.2.1; omega) (.int .u8 ((sg (by_[k].toNat % 10)).toNat : Int))
        rw [← bv_set] at hrs
        have hsg := sg_int by_[k].toNat
        rw [Nat.zero_add] at hc2 hf2 hrs
        rw [hsg] at hrs
        have HNX := Lib.hid (show HidRel w w2.heap.size b.size c4 (.int .i64 ((k : Int) + 1)) (wr.setCell ⟨w2.heap.size, k, none⟩ (.int .u8 (48 + (by_[k].toNat : Int) % 10))) from
          ⟨k + 1, l.set k (sg (by_[k].toNat % 10)), by omega, by go_num, by rw [List.length_set]; exact HL.out, all_set HLD.out (isDig_sg (by omega)), hrs, HBW.out.setCell hs2 _⟩)
        have hbt := by_[k].toNat_lt
        clear hcell hrs hsg
        subst hA
        go_wp2_with fail
        go_roundw
        case rel => exact HNX.out
        case measure => simp [intOf]; omega
      · have HMW := Lib.hid (HMM.out l HL.out HLD.out)
        have hll : (⟨l.toArray⟩ : ByteArray).size = b.size := by rw [len_str]; exact HL.out
        obtain ⟨m, hm⟩ : ∃ m : ByteArray, m = ⟨l.toArray⟩ := ⟨_, rfl⟩
        rw [← hm] at HMW hll
        have m1 : ¬ 9223372036854775807 < a.size + m.size := by omega
        have m2 : ¬ 9223372036854775807 < a.size + m.size + c'.size := by omega
        have hams : (a ++ m ++ c').size ≤ maxLen := by
          rw [← size_toList, Go.Joins.data_append, Go.Joins.data_append, List.length_append, List.length_append, size_toList, size_toList, size_toList]
          have := HA6.out; have := HC4.out; unfold maxLen; omega
        have HLL := Lib.hid hll
        have HM := Lib.hid hm
        clear hm hll
        by_cases hkb : k < b.size
        · have d1 : decide ((k : Int) < b.size) = true := decide_eq_true (by omega)
          have d2 : decide ((k : Int) < n) = false := decide_eq_false (by omega)
          go_wp2_with fail
          refine (Mask_any _ _ hs (ht.below HBW.out)).mono ?_
          rw [← HX.out]
          rintro e w5 ⟨rfl, hb5⟩
          have hconv := run_conv_bytes (P := Tryd.prog) Tryd.underlying33 Tryd.underlying5 Tryd.underlying9 (cap := c4) (HROW.out.below hb5 (Nat.le_refl _)).reads
          rw [← HM.out] at hconv
          have HB5 := Lib.hid (thenB HBW.out hb5)
          clear hb5
          go_wp2_with fail
          refine (Mask_any (a ++ m ++ c') _ hams (ht.below HB5.out)).mono ?_
          rw [HMW.out]
          rintro e w6 ⟨rfl, hb6⟩
          have HB6 := Lib.hid (thenB HB5.out hb6)
          have g1 : ((x.size : Int) != s.size) = false := by rw [HXS.out]; simp
          clear hb6 hconv
          go_wp2_with fail
          go_loop [13] (fun i => ∃ j : Nat, 6 ≤ j ∧ j + 4 ≤ x.size ∧ i = .int .i64 j) (fun i => x.size - (intOf i).toNat)
          case atStart => exact ⟨6, by omega, by have := HXS.out; omega, rfl⟩
          case round =>
            obtain ⟨j, hj6, hj4, rfl⟩ := hrel
            have hx16 : 16 ≤ x.size := by have := HXS.out; omega
            have hx19 : x.size ≤ 19 := by have := HXS.out; omega
            by_cases hlj : j + 4 < x.size
            · have hjx : j < x.size := by omega
              have hst := HST.out j hjx hj6 (by have := HXS.out; omega)
              have g2 : ((x[j].toNat : Int) != 42) = false := by rw [hst]; rfl
              have hlj2 : (j : Int) < (x.size : Int) - 4 := by omega
              clear hst
              go_wp2_with fail
              go_round
              case rel => exact ⟨j + 1, by omega, by omega, by go_num⟩
              case measure => simp [intOf]; omega
            · have hlj2 : ¬ (j : Int) < (x.size : Int) - 4 := by omega
              have g3 : ((x.extract 0 6).toList == a.toList) = true := by rw [HX6.out]; simp
              have g4 : ((x.extract (x.size - 4) x.size).toList == c'.toList) = true := by rw [HX4.out]; simp
              go_wp2_with fail
              go_ret
              exact ⟨rfl, HB6.out⟩
        · have d1 : decide ((k : Int) < b.size) = false := decide_eq_false (by omega)
          go_wp2_with fail
          refine (Mask_any _ _ hs (ht.below HBW.out)).mono ?_
          rw [← HX.out]
          rintro e w5 ⟨rfl, hb5⟩
          have hconv := run_conv_bytes (P := Tryd.prog) Tryd.underlying33 Tryd.underlying5 Tryd.underlying9 (cap := c4) (HROW.out.below hb5 (Nat.le_refl _)).reads
          rw [← HM.out] at hconv
          have HB5 := Lib.hid (thenB HBW.out hb5)
          clear hb5
          go_wp2_with fail
          refine (Mask_any (a ++ m ++ c') _ hams (ht.below HB5.out)).mono ?_
          rw [HMW.out]
          rintro e w6 ⟨rfl, hb6⟩
          have HB6 := Lib.hid (thenB HB5.out hb6)
          have g1 : ((x.size : Int) != s.size) = false := by rw [HXS.out]; simp
          clear hb6 hconv
          go_wp2_with fail
          go_loop [13] (fun i => ∃ j : Nat, 6 ≤ j ∧ j + 4 ≤ x.size ∧ i = .int .i64 j) (fun i => x.size - (intOf i).toNat)
          case atStart => exact ⟨6, by omega, by have := HXS.out; omega, rfl⟩
          case round =>
            obtain ⟨j, hj6, hj4, rfl⟩ := hrel
            have hx16 : 16 ≤ x.size := by have := HXS.out; omega
            have hx19 : x.size ≤ 19 := by have := HXS.out; omega
            by_cases hlj : j + 4 < x.size
            · have hjx : j < x.size := by omega
              have hst := HST.out j hjx hj6 (by have := HXS.out; omega)
              have g2 : ((x[j].toNat : Int) != 42) = false := by rw [hst]; rfl
              have hlj2 : (j : Int) < (x.size : Int) - 4 := by omega
              clear hst
              go_wp2_with fail
              go_round
              case rel => exact ⟨j + 1, by omega, by omega, by go_num⟩
              case measure => simp [intOf]; omega
            · have hlj2 : ¬ (j : Int) < (x.size : Int) - 4 := by omega
              have g3 : ((x.extract 0 6).toList == a.toList) = true := by rw [HX6.out]; simp
              have g4 : ((x.extract (x.size - 4) x.size).toList == c'.toList) = true := by rw [HX4.out]; simp
              go_wp2_with fail
              go_ret
              exact ⟨rfl, HB6.out⟩
end Go.Proofs.YtnhcabcpdlgdaaaDoor
