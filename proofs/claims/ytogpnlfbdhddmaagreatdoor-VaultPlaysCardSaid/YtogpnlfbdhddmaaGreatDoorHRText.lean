/- THE WALK of the reference's text of a number (moneyerref13.Text). -/
import Derived.Test.YtogpnlfbdhddmaaGreatDoorGMem
import Derived.Test.YtogpnlfbdhddmaaGreatDoorGPlain
import Derived.Lib.ItoaLen
namespace Go.Proofs.YtogpnlfbdhddmaaGreatDoor
open Go.RowKit

theorem rt_ret {a b : ByteArray} (h : a = b) : Ending.returned (.string a) = .returned (.string b) := by rw [h]
theorem rt_is (s : ByteArray) : s = ⟨s.data.toList.toArray⟩ := by cases s; simp
theorem rt_len (l : List UInt8) : (⟨l.toArray⟩ : ByteArray).size = l.length := by simp [ByteArray.size]
theorem rt_b8 {k : Nat} (_h : k ≤ 9) : b8 (48 + (k : Int)) = sg k := by
  unfold b8 sg
  congr 1
theorem rt_dec {n : Nat} (h : n ≤ 9223372036854775807) : (dec n).length ≤ 30 := by
  unfold dec
  rw [Lib.decDigits_length]
  have := Lib.nDigits_le20 n (by omega)
  omega
theorem rt_one (c : UInt8) (t : TypeId) (w : World) : BytesV [c] (.slice (some ⟨w.heap.size, 0, none⟩) 1 1) (w.alloc (.cells #[.int .u8 (c.toNat : Int)] t)) :=
  ⟨_, 1, 1, w.heap.size + 1, rfl, rfl, Nat.le_refl _, by simp, Reads.lit w _ t rfl⟩
theorem rt_int (n : Nat) : ((sg (n % 10)).toNat : Int) = 48 + (n : Int) % 10 := by rw [sg_toNat (by omega)]; omega
set_option maxRecDepth 100000 in
set_option maxHeartbeats 4000000 in
theorem rText13_any (n : Nat) : ∀ (w : World), n ≤ 9223372036854775807 → Calls Tryz.prog 73 #[.int .i64 n] w fun e w' => e = .returned (.string ⟨(dec n).toArray⟩) ∧ Below w.heap.size w w' := by
  induction n using Nat.strongRecOn with
  | _ n ih =>
    intro w hn
    by_cases h : n < 10
    · have HD := Lib.hid (dec_one h)
      have hcv := run_conv_one (P := Tryz.prog) Tryz.underlying27 Tryz.underlying5 Tryz.underlying9
      clear ih
      go_enter Tryz.func73, Tryz.ntmps73
      go_wp2
      go_ret
      refine ⟨rt_ret ?_, (Below.refl _ _).alloc (Nat.le_refl _) _⟩
      rw [HD.out, rt_b8 (by omega)]
    · have HD := Lib.hid (dec_more h)
      have hl := rt_dec (n := n / 10) (by omega)
      have hln : (⟨(dec (n / 10)).toArray⟩ : ByteArray).size ≤ 30 := by rw [rt_len]; exact hl
      have HIH := Lib.hid (fun w => ih (n / 10) (by omega) w (by omega))
      clear ih hl
      have h0 : (0 : Int) ≤ n := by omega
      have h10 : (10 : Int) ≤ n := by omega
      have hsg : (⟨[sg (n % 10)].toArray⟩ : ByteArray).size ≤ 1 := by rw [rt_len]; simp
      obtain ⟨x, hx⟩ : ∃ x : ByteArray, x = ⟨(dec (n / 10)).toArray⟩ := ⟨_, rfl⟩
      obtain ⟨y, hy⟩ : ∃ y : ByteArray, y = ⟨[sg (n % 10)].toArray⟩ := ⟨_, rfl⟩
      have HX := Lib.hid hx
      have HY := Lib.hid hy
      have HF := Lib.hid (show x ++ y = ⟨(dec n).toArray⟩ by rw [HD.out, rt_is (x ++ y), Go.Joins.data_append, hx, hy])
      rw [← hx] at hln
      rw [← hy] at hsg
      clear hx hy
      have n1 : ¬ 9223372036854775807 < x.size + y.size := by omega
      go_enter Tryz.func73, Tryz.ntmps73
      go_wp2_with fail
      obtain ⟨F, hF⟩ : ∃ F, F = nthF [eqv (.int .i64 n), eqv (.int .i64 ((n : Int) / 10)), eqv (.string x), eqv (.int .i64 n), eqv (.int .i64 ((n : Int) % 10)), eqv (.int .i64 (48 + (n : Int) % 10)), eqv (.int .u8 (48 + (n : Int) % 10)), BytesV [sg (n % 10)], eqv (.string y), eqv (.string (x ++ y)), eqv (.string (x ++ y))] := ⟨_, rfl⟩
      have E0 := Lib.hid (show F 0 = eqv (.int .i64 n) by rw [hF]; rfl)
      have E1 := Lib.hid (show F 1 = eqv (.int .i64 ((n : Int) / 10)) by rw [hF]; rfl)
      have E2 := Lib.hid (show F 2 = eqv (.string x) by rw [hF]; rfl)
      have E3 := Lib.hid (show F 3 = eqv (.int .i64 n) by rw [hF]; rfl)
      have E4 := Lib.hid (show F 4 = eqv (.int .i64 ((n : Int) % 10)) by rw [hF]; rfl)
      have E5 := Lib.hid (show F 5 = eqv (.int .i64 (48 + (n : Int) % 10)) by rw [hF]; rfl)
      have E6 := Lib.hid (show F 6 = eqv (.int .u8 (48 + (n : Int) % 10)) by rw [hF]; rfl)
      have E7 := Lib.hid (show F 7 = BytesV [sg (n % 10)] by rw [hF]; rfl)
      have E8 := Lib.hid (show F 8 = eqv (.string y) by rw [hF]; rfl)
      have E9 := Lib.hid (show F 9 = eqv (.string (x ++ y)) by rw [hF]; rfl)
      have E10 := Lib.hid (show F 10 = eqv (.string (x ++ y)) by rw [hF]; rfl)
      have hst : ∀ j v w w', F j v w → Grows w w' → F j v w' := by rw [hF]; exact nth_stable (by repeat (first | exact st_nil | exact st_eqv _ | exact st_any | exact st_bytes _ | exact st_list _ | exact st_strs _ | refine st_cons ?_ ?_))
      have HST0 := Lib.hid hst
      clear hF hst
      refine wp_region_facts F Grows (fun _ => True) (by kernel_rfl) (by kernel_rfl) grows_refl grows_trans HST0.out (trivial) ?_ ?_
      · intro V; refine ⟨?_, ?_, ?_, ?_, ?_, ?_, ?_, ?_, ?_, ?_, ?_, trivial⟩
        · intro wx hg hJ hdep
          clear hdep
          clear hg
          go_wp2_with fail
          exact ⟨rfl, grows_refl _, trivial, by rw [E0.out]; rfl⟩
        · intro wx hg hJ hdep
          have v0 : V 0 = (.int .i64 n) := by have h := hdep 0 rfl; rw [E0.out] at h; exact h
          clear hdep
          clear hg
          go_wp2_with fail
          exact ⟨rfl, grows_refl _, trivial, by rw [E1.out]; rfl⟩
        · intro wx hg hJ hdep
          have v1 : V 1 = (.int .i64 ((n : Int) / 10)) := by have h := hdep 1 rfl; rw [E1.out] at h; exact h
          clear hdep
          have hm := HIH.out wx
          rw [show ((n / 10 : Nat) : Int) = (n : Int) / 10 by omega, ← HX.out] at hm
          have HM := Lib.hid hm
          clear hm hg
          go_wp2_with fail
          refine HM.out.mono ?_
          rintro e w2 ⟨rfl, hg2⟩
          have HG2 := Lib.hid hg2
          clear hg2
          go_wp2_with fail
          exact ⟨rfl, HG2.out, trivial, by rw [E2.out]; rfl⟩
        · intro wx hg hJ hdep
          clear hdep
          clear hg
          go_wp2_with fail
          exact ⟨rfl, grows_refl _, trivial, by rw [E3.out]; rfl⟩
        · intro wx hg hJ hdep
          have v3 : V 3 = (.int .i64 n) := by have h := hdep 3 rfl; rw [E3.out] at h; exact h
          clear hdep
          clear hg
          go_wp2_with fail
          exact ⟨rfl, grows_refl _, trivial, by rw [E4.out]; rfl⟩
        · intro wx hg hJ hdep
          have v4 : V 4 = (.int .i64 ((n : Int) % 10)) := by have h := hdep 4 rfl; rw [E4.out] at h; exact h
          clear hdep
          clear hg
          go_wp2_with fail
          exact ⟨rfl, grows_refl _, trivial, by rw [E5.out]; rfl⟩
        · intro wx hg hJ hdep
          have v5 : V 5 = (.int .i64 (48 + (n : Int) % 10)) := by have h := hdep 5 rfl; rw [E5.out] at h; exact h
          clear hdep
          clear hg
          go_wp2_with fail
          exact ⟨rfl, grows_refl _, trivial, by rw [E6.out]; rfl⟩
        · intro wx hg hJ hdep
          have v6 : V 6 = (.int .u8 (48 + (n : Int) % 10)) := by have h := hdep 6 rfl; rw [E6.out] at h; exact h
          clear hdep
          go_wp2_with fail
          have hb := rt_one (sg (n % 10)) 5 wx
          rw [rt_int] at hb
          exact ⟨rfl, (Below.refl _ _).alloc (Nat.le_refl _) _, trivial, by rw [E7.out]; exact hb⟩
        · intro wx hg hJ hdep
          have h7 : (BytesV [sg (n % 10)]) (V 7) wx := by have h := hdep 7 rfl; rw [E7.out] at h; exact h
          clear hdep
          have hcv := h7.conv (P := Tryz.prog) Tryz.underlying27 Tryz.underlying5 Tryz.underlying9
          rw [← HY.out] at hcv
          go_wp2_with fail
          exact ⟨rfl, grows_refl _, trivial, by rw [E8.out]; rfl⟩
        · intro wx hg hJ hdep
          have v2 : V 2 = (.string x) := by have h := hdep 2 rfl; rw [E2.out] at h; exact h
          have v8 : V 8 = (.string y) := by have h := hdep 8 rfl; rw [E8.out] at h; exact h
          clear hdep
          clear hg
          go_wp2_with fail
          exact ⟨rfl, grows_refl _, trivial, by rw [E9.out]; rfl⟩
        · intro wx hg hJ hdep
          have v9 : V 9 = (.string (x ++ y)) := by have h := hdep 9 rfl; rw [E9.out] at h; exact h
          clear hdep
          clear hg
          go_wp2_with fail
          exact ⟨rfl, grows_refl _, trivial, by rw [E10.out]; rfl⟩
      · intro V wx hg hJ hall
        have v0 : V 0 = (.int .i64 n) := by have h := hall 0 (by decide); rw [E0.out] at h; exact h
        have v1 : V 1 = (.int .i64 ((n : Int) / 10)) := by have h := hall 1 (by decide); rw [E1.out] at h; exact h
        have v2 : V 2 = (.string x) := by have h := hall 2 (by decide); rw [E2.out] at h; exact h
        have v3 : V 3 = (.int .i64 n) := by have h := hall 3 (by decide); rw [E3.out] at h; exact h
        have v4 : V 4 = (.int .i64 ((n : Int) % 10)) := by have h := hall 4 (by decide); rw [E4.out] at h; exact h
        have v5 : V 5 = (.int .i64 (48 + (n : Int) % 10)) := by have h := hall 5 (by decide); rw [E5.out] at h; exact h
        have v6 : V 6 = (.int .u8 (48 + (n : Int) % 10)) := by have h := hall 6 (by decide); rw [E6.out] at h; exact h
        have h7 : (BytesV [sg (n % 10)]) (V 7) wx := by have h := hall 7 (by decide); rw [E7.out] at h; exact h
        have v8 : V 8 = (.string y) := by have h := hall 8 (by decide); rw [E8.out] at h; exact h
        have v9 : V 9 = (.string (x ++ y)) := by have h := hall 9 (by decide); rw [E9.out] at h; exact h
        have v10 : V 10 = (.string (x ++ y)) := by have h := hall 10 (by decide); rw [E10.out] at h; exact h
        clear hall
        simp only [fillTo, Act.put, List.setIfInBounds_toArray, List.set_cons_succ, List.set_cons_zero, Nat.reduceAdd, Nat.zero_add, v0, v1, v2, v3, v4, v5, v6, v8, v9, v10]
        clear v0 v1 v2 v3 v4 v5 v6 v8 v9 v10
        go_wp2_with fail
        go_ret
        exact ⟨rt_ret (by rw [HF.out]), ((Below.refl w.heap.size w).drew).trans hg⟩
end Go.Proofs.YtogpnlfbdhddmaaGreatDoor
