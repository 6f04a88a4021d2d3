/- THE WALK of the law MacCuts. -/
import Derived.Test.YtbjlmodabiadfaaMacV
import Derived.Deep.LoopGhost
import Derived.Deep.DeepCutAuto
namespace Go.Proofs.Ytbjlmodabiadfaa
open Go.RowKit

theorem macB_pad {key : List UInt8} {i : Nat} (h : i = 0 ∨ key.length + i ≤ 64) (b : List UInt8) : macB (key ++ List.replicate i 0) b = macB key b := by
  rcases h with rfl | h
  · simp
  · have e : keyBlock (key ++ List.replicate i 0) = keyBlock key := by
      unfold keyBlock
      rw [if_neg (by simp; omega), if_neg (by omega)]
      simp only [List.length_append, List.length_replicate, List.append_assoc, List.replicate_append_replicate]
      congr 2
      omega
    unfold macB
    rw [e]
/-- The key with noughts behind it. -/
def LongRel (w1 : World) (key : List UInt8) (n : Nat) (g : Nat) (s17 s18 : Value) (wr : World) : Prop :=
  ∃ (i m : Nat) (A : Option Addr) (c : Nat), g = 64 - m ∧ m = n + i ∧ s18 = .int .i64 i ∧ s17 = .slice A m c ∧ (i = 0 ∨ m ≤ 64) ∧ Row wr w1.heap.size 1 A m c (bv (key ++ List.replicate i 0)) ∧ Below w1.heap.size w1 wr
theorem long_next {w1 wr w2 : World} {key : List UInt8} {n i m : Nat} {A A2 : Option Addr} {c c2 : Nat} {o : Obj} (hm : m = n + i) (hlt : m < 64) (hrow : Row wr w1.heap.size 1 A m c (bv (key ++ List.replicate i 0))) (hb : Below w1.heap.size w1 wr)
    (hr2 : Row w2 w1.heap.size 1 A2 (m + 1) c2 (bv (key ++ List.replicate i 0) ++ [.int .u8 0])) (hg : (wr.alloc o).grownBy w2 (A.map (·.block))) :
    LongRel w1 key n (64 - (m + 1)) (.slice A2 (m + 1) c2) (.int .i64 ((i : Int) + 1)) w2 :=
  ⟨i + 1, m + 1, A2, c2, rfl, by omega, by go_num, rfl, .inr (by omega), by
    have e : bv (key ++ List.replicate (i + 1) 0) = bv (key ++ List.replicate i 0) ++ [.int .u8 0] := by
      rw [List.replicate_succ', ← List.append_assoc, bv_append]; rfl
    rw [e]; exact hr2, below_append hb hb.size hrow hg⟩
theorem fold_cut (k : List UInt8) (L : List ByteArray) (t : Nat) : foldB (foldB k (bytesOf (L.take t))) (bytesOf (L.drop t)) = foldB k (bytesOf L) := by
  rw [← foldB_append]
  congr 1
  unfold bytesOf
  rw [← List.map_append, List.take_append_drop]

/-- The labels so far are short. -/
def LabRel (L : List ByteArray) (w1 : World) (s14 : Value) (wr : World) : Prop := ∃ j : Nat, j ≤ L.length ∧ s14 = .int .i64 j ∧ (∀ t (h : t < L.length), t < j → L[t].size ≤ 4096) ∧ wr = w1
set_option maxRecDepth 100000 in
set_option maxHeartbeats 8000000 in
theorem MacCuts_in (A : Option Addr) (n c : Nat) (k : List UInt8) (A2 : Option Addr) (n2 c2 : Nat) (b : List UInt8) (at_ : Nat) (q : Int) (A4 : Option Addr) (n4 c4 : Nat) (L : List ByteArray) (to_ : Nat) (w : World) (h1 : Reads w w.heap.size 1 A n (bv k)) (h1c : n ≤ c) (h2 : Reads w w.heap.size 1 A2 n2 (bv b)) (h2c : n2 ≤ c2)
    (e4 : L.length = n4) (h4 : Strs w (· < w.heap.size) A4 L) (h4c : n4 ≤ c4) (hn : n ≤ 4096) (hn2 : n2 ≤ 4096) (hn4 : n4 ≤ 8) (hat : at_ ≤ n2) (hto : to_ ≤ n4) :
    Calls Try.prog 8 #[.slice A n c, .slice A2 n2 c2, .int .i64 (at_ : Int), .int .i64 q, .slice A4 n4 c4, .int .i64 (to_ : Int)] w fun e w' => e = .returned (.bool true) ∧ Below w.heap.size w w' := by
  have hkl : k.length = n := by have := h1.1; rw [length_bv] at this; omega
  have hbl : b.length = n2 := by have := h2.1; rw [length_bv] at this; omega
  have hs := Lib.hid (small06_any w)
  have H1 := Lib.hid h1
  have H2 := Lib.hid h2
  have H4 := Lib.hid h4
  have HKL := Lib.hid hkl
  have HBL := Lib.hid hbl
  have HE4 := Lib.hid e4
  obtain ⟨i0, hi, hz0, hz1, hz2⟩ := info_parts byte_info
  obtain ⟨qq, hqq⟩ : ∃ qq : Int, bits .and .i64 q 63 = qq := ⟨_, rfl⟩
  clear h1 h2 hkl hbl h4 e4
  go_enter Try.func8, Try.ntmps8
  go_wp2_with fail
  refine hs.out.mono ?_
  rintro e w1 ⟨rfl, hb1⟩
  have HB1 := Lib.hid hb1
  have hs1 := hb1.size
  clear hb1 hs
  go_wp2_with fail
  have hsn : bits .and .i64 q 63 = qq := hqq
  go_loopw [14] (fun s14 wr => LabRel L w1 s14 wr) (fun s14 _ => n4 - (intOf s14).toNat)
  case atStart => exact ⟨0, Nat.zero_le _, rfl, fun t h ht => by omega, rfl⟩
  case round =>
    obtain ⟨j, hj, rfl, hsm, rfl⟩ := hrel
    have hjn : j ≤ n4 := by have := HE4.out; omega
    clear hj
    by_cases hlt : j < n4
    · have hjl : j < L.length := by have := HE4.out; omega
      obtain ⟨pb, po, hPA, hpR, hpc⟩ := (H4.out.keep fun k hk => HB1.out.block k hk) (by omega)
      have hcj := hpc j hjl
      generalize hLj : L[j] = s at hcj
      have HLJ := Lib.hid hLj
      have HSM := Lib.hid hsm
      clear hpc hLj hsm
      subst hPA
      by_cases hsz : s.size ≤ 4096
      · go_wp2_with fail
        go_roundw
        case rel =>
          refine ⟨j + 1, by omega, by go_num, fun t h ht => ?_, rfl⟩
          by_cases e : t = j
          · subst e; rw [HLJ.out]; exact hsz
          · exact HSM.out t h (by omega)
        case measure => simp [intOf]; omega
      · have hs2 : decide (4096 < (s.size : Int)) = true := by simp; omega
        go_wp2_with fail
        go_ret
        exact ⟨rfl, HB1.out⟩
    · obtain rfl : j = n4 := by omega
      have hsml : ∀ s ∈ L, s.size ≤ 140737488351232 := fun s hs => by
        obtain ⟨t, ht, rfl⟩ := List.getElem_of_mem hs
        have := hsm t ht (by have := HE4.out; omega)
        omega
      have HSML := Lib.hid hsml
      have hK1 : BytesV k (.slice A n c) wr := ⟨A, n, c, w.heap.size, rfl, HKL.out, h1c, hs1, H1.out.below HB1.out⟩
      have hK2 : BytesV b (.slice A2 n2 c2) wr := ⟨A2, n2, c2, w.heap.size, rfl, HBL.out, h2c, hs1, H2.out.below HB1.out⟩
      have hK4 : StrsV L (.slice A4 j c4) wr := ⟨A4, c4, w.heap.size, by rw [HE4.out], by rw [HE4.out]; exact h4c, hs1, H4.out.keep fun k hk => HB1.out.block k hk⟩
      generalize hT : macB k b = t
      have ht32 : t.length = 32 := by rw [← hT]; exact length_macB k b
      have hm := Mac_v k [b] _ _ _ (hK1.grows ((Below.refl _ _).alloc (Nat.le_refl _) _)) (ListV.one (t := 22) hK2 (by rw [HBL.out]; omega)) (by rw [HKL.out]; omega) (by simp) (by simp [HBL.out]; omega)
      rw [show macB k [b].flatten = t by rw [← hT]; simp] at hm
      have HM := Lib.hid hm
      have HT := Lib.hid hT
      have HT32 := Lib.hid ht32
      have K1 := Lib.hid hK1
      have K2 := Lib.hid hK2
      have K4 := Lib.hid hK4
      clear hsm hsml hm hT ht32 hK1 hK2 hK4
      go_wp2_with fail
      refine HM.out.mono ?_
      rintro e w2 ⟨v15, rfl, hv15, hg2⟩
      obtain ⟨A5, n5, c5, B5, rfl, hl5, hc5, hB5, hr5⟩ := hv15
      obtain rfl : n5 = 32 := by rw [← hl5]; exact HT32.out
      have hg12 : Grows wr w2 := grows_trans _ _ _ ((Below.refl _ _).alloc (Nat.le_refl _) _) hg2
      have K1b := Lib.hid (K1.out.grows hg12).drew
      have K2b := Lib.hid (K2.out.grows hg12).drew
      have K4b := Lib.hid (K4.out.grows hg12).drew
      have KT := Lib.hid (show BytesV t (.slice A5 32 c5) w2 from ⟨A5, 32, c5, B5, rfl, hl5, hc5, hB5, hr5⟩).drew
      have NIL := Lib.hid (BytesV.nil_ w2).drew
      have HG2 := Lib.hid hg12
      clear hl5 hc5 hB5 hr5 hg2 hg12
      go_wp2_with fail
      obtain ⟨F, hF⟩ : ∃ F, F = nthF [eqv (.slice A5 32 c5), eqv (.int .i64 32), eqv (.bool true), eqv (.bool true), eqv (.slice A n c), eqv (.slice A2 n2 c2), eqv (.int .i64 (at_ : Int)), BytesV (b.take at_), eqv (.slice A2 n2 c2), eqv (.int .i64 (at_ : Int)), BytesV (b.drop at_), ListV [(b.take at_), [], (b.drop at_)], BytesV t, eqv (.string ⟨t.toArray⟩), eqv (.slice A5 32 c5), eqv (.string ⟨t.toArray⟩), eqv (.bool true), eqv (.bool true), eqv (.bool true)] := ⟨_, rfl⟩
      have E0 := Lib.hid (show F 0 = eqv (.slice A5 32 c5) by rw [hF]; rfl)
      have E1 := Lib.hid (show F 1 = eqv (.int .i64 32) by rw [hF]; rfl)
      have E2 := Lib.hid (show F 2 = eqv (.bool true) by rw [hF]; rfl)
      have E3 := Lib.hid (show F 3 = eqv (.bool true) by rw [hF]; rfl)
      have E4 := Lib.hid (show F 4 = eqv (.slice A n c) by rw [hF]; rfl)
      have E5 := Lib.hid (show F 5 = eqv (.slice A2 n2 c2) by rw [hF]; rfl)
      have E6 := Lib.hid (show F 6 = eqv (.int .i64 (at_ : Int)) by rw [hF]; rfl)
      have E7 := Lib.hid (show F 7 = BytesV (b.take at_) by rw [hF]; rfl)
      have E8 := Lib.hid (show F 8 = eqv (.slice A2 n2 c2) by rw [hF]; rfl)
      have E9 := Lib.hid (show F 9 = eqv (.int .i64 (at_ : Int)) by rw [hF]; rfl)
      have E10 := Lib.hid (show F 10 = BytesV (b.drop at_) by rw [hF]; rfl)
      have E11 := Lib.hid (show F 11 = ListV [(b.take at_), [], (b.drop at_)] by rw [hF]; rfl)
      have E12 := Lib.hid (show F 12 = BytesV t by rw [hF]; rfl)
      have E13 := Lib.hid (show F 13 = eqv (.string ⟨t.toArray⟩) by rw [hF]; rfl)
      have E14 := Lib.hid (show F 14 = eqv (.slice A5 32 c5) by rw [hF]; rfl)
      have E15 := Lib.hid (show F 15 = eqv (.string ⟨t.toArray⟩) by rw [hF]; rfl)
      have E16 := Lib.hid (show F 16 = eqv (.bool true) by rw [hF]; rfl)
      have E17 := Lib.hid (show F 17 = eqv (.bool true) by rw [hF]; rfl)
      have E18 := Lib.hid (show F 18 = eqv (.bool true) by rw [hF]; rfl)
      have hst : ∀ j v w w', F j v w → Grows w w' → F j v w' := by rw [hF]; exact nth_stable (by repeat (first | exact st_nil | exact st_eqv _ | exact st_any | exact st_bytes _ | exact st_list _ | exact st_strs _ | refine st_cons ?_ ?_))
      have HST0 := Lib.hid hst
      clear hF hst
      refine wp_region_facts F Grows (fun _ => True) (by kernel_rfl) (by kernel_rfl) grows_refl grows_trans HST0.out (trivial) ?_ ?_
      · intro V; refine ⟨?_, ?_, ?_, ?_, ?_, ?_, ?_, ?_, ?_, ?_, ?_, ?_, ?_, ?_, ?_, ?_, ?_, ?_, ?_, trivial⟩
        · intro wx hg hJ hdep
          clear hdep
          clear hg
          go_wp2_with fail
          exact ⟨rfl, grows_refl _, trivial, by rw [E0.out]; rfl⟩
        · intro wx hg hJ hdep
          have v0 : V 0 = (.slice A5 32 c5) := by have h := hdep 0 rfl; rw [E0.out] at h; exact h
          clear hdep
          clear hg
          go_wp2_with fail
          exact ⟨rfl, grows_refl _, trivial, by rw [E1.out]; rfl⟩
        · intro wx hg hJ hdep
          have v1 : V 1 = (.int .i64 32) := by have h := hdep 1 rfl; rw [E1.out] at h; exact h
          clear hdep
          clear hg
          go_wp2_with fail
          exact ⟨rfl, grows_refl _, trivial, by rw [E2.out]; rfl⟩
        · intro wx hg hJ hdep
          have v2 : V 2 = (.bool true) := by have h := hdep 2 rfl; rw [E2.out] at h; exact h
          clear hdep
          clear hg
          go_wp2_with fail
          exact ⟨rfl, grows_refl _, trivial, by rw [E3.out]; rfl⟩
        · intro wx hg hJ hdep
          have v3 : V 3 = (.bool true) := by have h := hdep 3 rfl; rw [E3.out] at h; exact h
          clear hdep
          clear hg
          go_wp2_with fail
          exact ⟨rfl, grows_refl _, trivial, by rw [E4.out]; rfl⟩
        · intro wx hg hJ hdep
          have v3 : V 3 = (.bool true) := by have h := hdep 3 rfl; rw [E3.out] at h; exact h
          clear hdep
          clear hg
          go_wp2_with fail
          exact ⟨rfl, grows_refl _, trivial, by rw [E5.out]; rfl⟩
        · intro wx hg hJ hdep
          have v3 : V 3 = (.bool true) := by have h := hdep 3 rfl; rw [E3.out] at h; exact h
          clear hdep
          clear hg
          go_wp2_with fail
          exact ⟨rfl, grows_refl _, trivial, by rw [E6.out]; rfl⟩
        · intro wx hg hJ hdep
          have v5 : V 5 = (.slice A2 n2 c2) := by have h := hdep 5 rfl; rw [E5.out] at h; exact h
          have v6 : V 6 = (.int .i64 (at_ : Int)) := by have h := hdep 6 rfl; rw [E6.out] at h; exact h
          have v3 : V 3 = (.bool true) := by have h := hdep 3 rfl; rw [E3.out] at h; exact h
          clear hdep
          have hv := (K2b.out.grows hg).head hat
          clear hg
          go_wp2_with fail
          exact ⟨rfl, grows_refl _, trivial, by rw [E7.out]; exact hv⟩
        · intro wx hg hJ hdep
          have v3 : V 3 = (.bool true) := by have h := hdep 3 rfl; rw [E3.out] at h; exact h
          clear hdep
          clear hg
          go_wp2_with fail
          exact ⟨rfl, grows_refl _, trivial, by rw [E8.out]; rfl⟩
        · intro wx hg hJ hdep
          have v3 : V 3 = (.bool true) := by have h := hdep 3 rfl; rw [E3.out] at h; exact h
          clear hdep
          clear hg
          go_wp2_with fail
          exact ⟨rfl, grows_refl _, trivial, by rw [E9.out]; rfl⟩
        · intro wx hg hJ hdep
          have v8 : V 8 = (.slice A2 n2 c2) := by have h := hdep 8 rfl; rw [E8.out] at h; exact h
          have v9 : V 9 = (.int .i64 (at_ : Int)) := by have h := hdep 9 rfl; rw [E9.out] at h; exact h
          have v3 : V 3 = (.bool true) := by have h := hdep 3 rfl; rw [E3.out] at h; exact h
          clear hdep
          have hv := (K2b.out.grows hg).cut hat
          have HV := Lib.hid hv
          clear hg hv
          go_wp2_with fail
          all_goals (
            refine ⟨rfl, grows_refl _, trivial, ?_⟩
            rw [E10.out]
            have h := HV.out
            first
              | (rw [if_neg (by assumption)] at h; exact h)
              | (rw [if_pos (by assumption)] at h; exact h)
              | (have e : c2 = at_ := by assumption
                 rw [if_pos e, e, Nat.sub_self] at h
                 exact h)
              | (have e : c2 = at_ := by assumption
                 rw [if_pos e, e] at h
                 exact h)
              | (rw [if_pos rfl, Nat.sub_self] at h; exact h)
              | (rw [if_neg (by omega)] at h; exact h)
              | exact h)
        · intro wx hg hJ hdep
          have h7 : (BytesV (b.take at_)) (V 7) wx := by have h := hdep 7 rfl; rw [E7.out] at h; exact h
          have h10 : (BytesV (b.drop at_)) (V 10) wx := by have h := hdep 10 rfl; rw [E10.out] at h; exact h
          have v3 : V 3 = (.bool true) := by have h := hdep 3 rfl; rw [E3.out] at h; exact h
          clear hdep
          have hf := h7.form
          cases hf
          rename_i A_7 hf
          cases hf
          rename_i n_7 hf
          cases hf
          rename_i c_7 v7
          rw [v7] at h7
          have HH7 := Lib.hid h7
          clear h7
          have hf := h10.form
          cases hf
          rename_i A_10 hf
          cases hf
          rename_i n_10 hf
          cases hf
          rename_i c_10 v10
          rw [v10] at h10
          have HH10 := Lib.hid h10
          clear h10
          go_wp2_with fail
          exact ⟨rfl, (Below.refl _ _).alloc (Nat.le_refl _) _, trivial, by rw [E11.out]; exact ListV.three HH7.out (NIL.out.grows hg) HH10.out (by simp; have := HBL.out; omega) (by simp) (by simp; have := HBL.out; omega)⟩
        · intro wx hg hJ hdep
          have v4 : V 4 = (.slice A n c) := by have h := hdep 4 rfl; rw [E4.out] at h; exact h
          have h11 : (ListV [(b.take at_), [], (b.drop at_)]) (V 11) wx := by have h := hdep 11 rfl; rw [E11.out] at h; exact h
          have v3 : V 3 = (.bool true) := by have h := hdep 3 rfl; rw [E3.out] at h; exact h
          clear hdep
          have hm := Mac_v k _ _ _ wx (K1b.out.grows hg) h11 (by rw [HKL.out]; omega) (by simp) (by simp; have := HBL.out; omega)
          rw [show macB k [b.take at_, [], b.drop at_].flatten = t by rw [← HT.out]; simp] at hm
          have HM := Lib.hid hm
          clear hm hg 
          go_wp2_with fail
          refine HM.out.mono ?_
          rintro e w2 ⟨v, rfl, hv, hg2⟩
          have HV := Lib.hid hv
          have HG2 := Lib.hid hg2
          clear hv hg2
          go_wp2_with fail
          exact ⟨rfl, HG2.out, trivial, by rw [E12.out]; exact HV.out⟩
        · intro wx hg hJ hdep
          have h12 : (BytesV t) (V 12) wx := by have h := hdep 12 rfl; rw [E12.out] at h; exact h
          have v3 : V 3 = (.bool true) := by have h := hdep 3 rfl; rw [E3.out] at h; exact h
          clear hdep
          have hcv := h12.conv (P := Try.prog) Try.underlying22 Try.underlying5 Try.underlying9
          go_wp2_with fail
          exact ⟨rfl, grows_refl _, trivial, by rw [E13.out]; rfl⟩
        · intro wx hg hJ hdep
          have v3 : V 3 = (.bool true) := by have h := hdep 3 rfl; rw [E3.out] at h; exact h
          clear hdep
          clear hg
          go_wp2_with fail
          exact ⟨rfl, grows_refl _, trivial, by rw [E14.out]; rfl⟩
        · intro wx hg hJ hdep
          have v14 : V 14 = (.slice A5 32 c5) := by have h := hdep 14 rfl; rw [E14.out] at h; exact h
          have v3 : V 3 = (.bool true) := by have h := hdep 3 rfl; rw [E3.out] at h; exact h
          clear hdep
          have hcv := (KT.out.grows hg).conv (P := Try.prog) Try.underlying22 Try.underlying5 Try.underlying9
          go_wp2_with fail
          exact ⟨rfl, grows_refl _, trivial, by rw [E15.out]; rfl⟩
        · intro wx hg hJ hdep
          have v13 : V 13 = (.string ⟨t.toArray⟩) := by have h := hdep 13 rfl; rw [E13.out] at h; exact h
          have v15 : V 15 = (.string ⟨t.toArray⟩) := by have h := hdep 15 rfl; rw [E15.out] at h; exact h
          have v3 : V 3 = (.bool true) := by have h := hdep 3 rfl; rw [E3.out] at h; exact h
          clear hdep
          clear hg
          go_wp2_with fail
          exact ⟨rfl, grows_refl _, trivial, by rw [E16.out]; rfl⟩
        · intro wx hg hJ hdep
          have v3 : V 3 = (.bool true) := by have h := hdep 3 rfl; rw [E3.out] at h; exact h
          have v16 : V 16 = (.bool true) := by have h := hdep 16 rfl; rw [E16.out] at h; exact h
          clear hdep
          clear hg
          go_wp2_with fail
          exact ⟨rfl, grows_refl _, trivial, by rw [E17.out]; rfl⟩
        · intro wx hg hJ hdep
          have v17 : V 17 = (.bool true) := by have h := hdep 17 rfl; rw [E17.out] at h; exact h
          clear hdep
          clear hg
          go_wp2_with fail
          exact ⟨rfl, grows_refl _, trivial, by rw [E18.out]; rfl⟩
      · intro V wx hg hJ hall
        have v0 : V 0 = (.slice A5 32 c5) := by have h := hall 0 (by decide); rw [E0.out] at h; exact h
        have v1 : V 1 = (.int .i64 32) := by have h := hall 1 (by decide); rw [E1.out] at h; exact h
        have v2 : V 2 = (.bool true) := by have h := hall 2 (by decide); rw [E2.out] at h; exact h
        have v3 : V 3 = (.bool true) := by have h := hall 3 (by decide); rw [E3.out] at h; exact h
        have v4 : V 4 = (.slice A n c) := by have h := hall 4 (by decide); rw [E4.out] at h; exact h
        have v5 : V 5 = (.slice A2 n2 c2) := by have h := hall 5 (by decide); rw [E5.out] at h; exact h
        have v6 : V 6 = (.int .i64 (at_ : Int)) := by have h := hall 6 (by decide); rw [E6.out] at h; exact h
        have h7 : (BytesV (b.take at_)) (V 7) wx := by have h := hall 7 (by decide); rw [E7.out] at h; exact h
        have v8 : V 8 = (.slice A2 n2 c2) := by have h := hall 8 (by decide); rw [E8.out] at h; exact h
        have v9 : V 9 = (.int .i64 (at_ : Int)) := by have h := hall 9 (by decide); rw [E9.out] at h; exact h
        have h10 : (BytesV (b.drop at_)) (V 10) wx := by have h := hall 10 (by decide); rw [E10.out] at h; exact h
        have h11 : (ListV [(b.take at_), [], (b.drop at_)]) (V 11) wx := by have h := hall 11 (by decide); rw [E11.out] at h; exact h
        have h12 : (BytesV t) (V 12) wx := by have h := hall 12 (by decide); rw [E12.out] at h; exact h
        have v13 : V 13 = (.string ⟨t.toArray⟩) := by have h := hall 13 (by decide); rw [E13.out] at h; exact h
        have v14 : V 14 = (.slice A5 32 c5) := by have h := hall 14 (by decide); rw [E14.out] at h; exact h
        have v15 : V 15 = (.string ⟨t.toArray⟩) := by have h := hall 15 (by decide); rw [E15.out] at h; exact h
        have v16 : V 16 = (.bool true) := by have h := hall 16 (by decide); rw [E16.out] at h; exact h
        have v17 : V 17 = (.bool true) := by have h := hall 17 (by decide); rw [E17.out] at h; exact h
        have v18 : V 18 = (.bool true) := by have h := hall 18 (by decide); rw [E18.out] at h; exact h
        clear hall
        simp only [fillTo, Act.put, List.setIfInBounds_toArray, List.set_cons_succ, List.set_cons_zero, Nat.reduceAdd, Nat.zero_add, v0, v1, v2, v3, v4, v5, v6, v8, v9, v13, v14, v15, v16, v17, v18]
        clear v0 v1 v2 v3 v4 v5 v6 v8 v9 v13 v14 v15 v16 v17 v18
        have hs2 := HG2.out.size
        have HALL : Hid (Below w.heap.size w wx) := Lib.hid (HB1.out.trans ((HG2.out.mono hs1).drew.trans (hg.mono (Nat.le_trans hs1 hs2))))
        have K1c := Lib.hid (K1b.out.grows hg)
        have K2c := Lib.hid (K2b.out.grows hg)
        have K4c := Lib.hid (K4b.out.grows hg)
        have KTc := Lib.hid (KT.out.grows hg)
        have hsx := HALL.out.size
        have HRX := Lib.hid (H1.out.below HALL.out)
        clear hg h7 h10 h11 h12
        go_wp2_with (at_builtin; refine wpList_append_row rfl (.tmp 91) (.tmp 92) rfl Try.underlying22 hi hz0 hz1 hz2 rfl (by decide) rfl (Row.lit wx #[] 5 (n := 0) (base := wx.heap.size) (size := 1) rfl (Nat.le_refl _) (by unfold maxLen; omega)) rfl (HRX.out.alloc hsx _) (bv_one _) (by unfold maxLen; omega) (by omega) (by simp) ?_; intro A7 c7 w7 hrow7 hgr7 hat7; have HB7 := Lib.hid (((Below.refl _ _).alloc (Nat.le_refl _) _).trans (Grew.below (S := fun k => wx.heap.size ≤ k) (Grew.of_grown hgr7 (fun k hk _ => by simp at hk; omega)) (by simp) (fun k _ hk => hk)) : Below wx.heap.size wx w7); have HR7 := Lib.hid hrow7; clear hrow7 hgr7 hat7)
        go_loopg [17, 18] (64 - n) (fun g s17 s18 wr => LongRel wx k n g s17 s18 wr)
        case atStart => exact ⟨0, n, A7, c7, rfl, by omega, rfl, by simp, .inl rfl, by simpa using HR7.out, HB7.out⟩
        case round =>
          obtain ⟨i, m, A8, c8, hgk, hm, rfl, rfl, him, hrow, hb⟩ := hrel
          have hsz := hb.size
          have HROW := Lib.hid hrow
          have HB := Lib.hid hb
          have HM := Lib.hid hm
          have him2 : i ≤ m := by omega
          have hmb : m ≤ 4096 := by omega
          clear hrow hb hm
          by_cases hlt : (i : Int) < qq ∧ m < 64
          · have d1 : decide ((i : Int) < qq) = true := by simp; exact hlt.1
            have d2 : decide ((m : Int) < 64) = true := by simp; omega
            go_wp2_with (at_builtin; refine wpList_append_row rfl (.tmp 105) (.tmp 106) rfl Try.underlying22 hi hz0 hz1 hz2 rfl (by decide) rfl (HROW.out.alloc _) rfl (Reads.lit _ _ _ (n := 1) rfl) (by intro v hv; simp at hv; rcases hv with rfl; rfl) (by unfold maxLen; omega) (by omega) (by simp; omega) ?_; intro A2 c2 w2 hrow2 hgr2 hat2; have HNX := Lib.hid (long_next HM.out hlt.2 HROW.out HB.out hrow2 hgr2); clear hrow2 hgr2 hat2)
            go_roundg (64 - (m + 1))
            case measure => omega
            case rel => exact HNX.out
          · have hd : (decide ((i : Int) < qq) = true ∧ decide ((m : Int) < 64) = false) ∨ decide ((i : Int) < qq) = false := by
              simp only [decide_eq_true_eq, decide_eq_false_iff_not]; omega
            have hgx : Grows wx wr := HB.out
            have K1d := Lib.hid (K1c.out.grows hgx).drew
            have K2d := Lib.hid (K2c.out.grows hgx).drew
            have K4d := Lib.hid (K4c.out.grows hgx).drew
            have KTd := Lib.hid (KTc.out.grows hgx).drew
            have HMC := Lib.hid (show (k ++ List.replicate i 0).length = m by have := HM.out; simp [HKL.out]; omega)
            have K17 := Lib.hid (show BytesV (k ++ List.replicate i 0) (.slice A8 m c8) wr from .of_row HROW.out).drew
            have HPAD := Lib.hid (macB_pad (key := k) (i := i) (by have := HM.out; rw [HKL.out]; omega) b)
            obtain ⟨f1, hf1⟩ : ∃ f1, foldB k (bytesOf (L.take to_)) = f1 := ⟨_, rfl⟩
            obtain ⟨fld, hfld2⟩ : ∃ fld, foldB k (bytesOf L) = fld := ⟨_, rfl⟩
            have HFLD := Lib.hid (show foldB f1 (bytesOf (L.drop to_)) = fld by rw [← hf1, ← hfld2]; exact fold_cut k L to_)
            have HF1L := Lib.hid (show f1.length ≤ 140737488351232 by rw [← hf1]; exact fold_le k (by rw [HKL.out]; omega) _)
            have HF1 := Lib.hid hf1
            have HFLD2 := Lib.hid hfld2
            clear hf1 hfld2
            rcases hd with ⟨d1, d2⟩ | d1
            all_goals go_wp2_with fail
            all_goals
              obtain ⟨F, hF⟩ : ∃ F, F = nthF [eqv (.slice A8 m c8), eqv (.slice A2 n2 c2), ListV [b], BytesV t, eqv (.string ⟨t.toArray⟩), eqv (.slice A5 32 c5), eqv (.string ⟨t.toArray⟩), eqv (.bool true), eqv (.bool true)] := ⟨_, rfl⟩
              have E0 := Lib.hid (show F 0 = eqv (.slice A8 m c8) by rw [hF]; rfl)
              have E1 := Lib.hid (show F 1 = eqv (.slice A2 n2 c2) by rw [hF]; rfl)
              have E2 := Lib.hid (show F 2 = ListV [b] by rw [hF]; rfl)
              have E3 := Lib.hid (show F 3 = BytesV t by rw [hF]; rfl)
              have E4 := Lib.hid (show F 4 = eqv (.string ⟨t.toArray⟩) by rw [hF]; rfl)
              have E5 := Lib.hid (show F 5 = eqv (.slice A5 32 c5) by rw [hF]; rfl)
              have E6 := Lib.hid (show F 6 = eqv (.string ⟨t.toArray⟩) by rw [hF]; rfl)
              have E7 := Lib.hid (show F 7 = eqv (.bool true) by rw [hF]; rfl)
              have E8 := Lib.hid (show F 8 = eqv (.bool true) by rw [hF]; rfl)
              have hst : ∀ j v w w', F j v w → Grows w w' → F j v w' := by rw [hF]; exact nth_stable (by repeat (first | exact st_nil | exact st_eqv _ | exact st_any | exact st_bytes _ | exact st_list _ | exact st_strs _ | refine st_cons ?_ ?_))
              have HST0 := Lib.hid hst
              clear hF hst
              refine wp_region_facts F Grows (fun _ => True) (by kernel_rfl) (by kernel_rfl) grows_refl grows_trans HST0.out (trivial) ?_ ?_
              · intro V; refine ⟨?_, ?_, ?_, ?_, ?_, ?_, ?_, ?_, ?_, trivial⟩
                · intro wx hg hJ hdep
                  clear hdep
                  clear hg
                  go_wp2_with fail
                  exact ⟨rfl, grows_refl _, trivial, by rw [E0.out]; rfl⟩
                · intro wx hg hJ hdep
                  clear hdep
                  clear hg
                  go_wp2_with fail
                  exact ⟨rfl, grows_refl _, trivial, by rw [E1.out]; rfl⟩
                · intro wx hg hJ hdep
                  have v1 : V 1 = (.slice A2 n2 c2) := by have h := hdep 1 rfl; rw [E1.out] at h; exact h
                  clear hdep
                  go_wp2_with fail
                  exact ⟨rfl, (Below.refl _ _).alloc (Nat.le_refl _) _, trivial, by rw [E2.out]; exact ListV.one (K2d.out.grows hg) (by rw [HBL.out]; omega)⟩
                · intro wx hg hJ hdep
                  have v0 : V 0 = (.slice A8 m c8) := by have h := hdep 0 rfl; rw [E0.out] at h; exact h
                  have h2 : (ListV [b]) (V 2) wx := by have h := hdep 2 rfl; rw [E2.out] at h; exact h
                  clear hdep
                  have hm := Mac_v (k ++ List.replicate i 0) [b] _ _ wx (K17.out.grows hg) h2 (by rw [HMC.out]; omega) (by simp) (by simp [HBL.out]; omega)
                  rw [show macB (k ++ List.replicate i 0) [b].flatten = t by rw [← HT.out, ← HPAD.out]; simp] at hm
                  have HM := Lib.hid hm
                  clear hm hg
                  go_wp2_with fail
                  refine HM.out.mono ?_
                  rintro e w2 ⟨v, rfl, hv, hg2⟩
                  have HV := Lib.hid hv
                  have HG2 := Lib.hid hg2
                  clear hv hg2
                  go_wp2_with fail
                  exact ⟨rfl, HG2.out, trivial, by rw [E3.out]; exact HV.out⟩
                · intro wx hg hJ hdep
                  have h3 : (BytesV t) (V 3) wx := by have h := hdep 3 rfl; rw [E3.out] at h; exact h
                  clear hdep
                  have hcv := h3.conv (P := Try.prog) Try.underlying22 Try.underlying5 Try.underlying9
                  go_wp2_with fail
                  exact ⟨rfl, grows_refl _, trivial, by rw [E4.out]; rfl⟩
                · intro wx hg hJ hdep
                  clear hdep
                  clear hg
                  go_wp2_with fail
                  exact ⟨rfl, grows_refl _, trivial, by rw [E5.out]; rfl⟩
                · intro wx hg hJ hdep
                  have v5 : V 5 = (.slice A5 32 c5) := by have h := hdep 5 rfl; rw [E5.out] at h; exact h
                  clear hdep
                  have hcv := (KTd.out.grows hg).conv (P := Try.prog) Try.underlying22 Try.underlying5 Try.underlying9
                  go_wp2_with fail
                  exact ⟨rfl, grows_refl _, trivial, by rw [E6.out]; rfl⟩
                · intro wx hg hJ hdep
                  have v4 : V 4 = (.string ⟨t.toArray⟩) := by have h := hdep 4 rfl; rw [E4.out] at h; exact h
                  have v6 : V 6 = (.string ⟨t.toArray⟩) := by have h := hdep 6 rfl; rw [E6.out] at h; exact h
                  clear hdep
                  clear hg
                  go_wp2_with fail
                  exact ⟨rfl, grows_refl _, trivial, by rw [E7.out]; rfl⟩
                · intro wx hg hJ hdep
                  have v7 : V 7 = (.bool true) := by have h := hdep 7 rfl; rw [E7.out] at h; exact h
                  clear hdep
                  clear hg
                  go_wp2_with fail
                  exact ⟨rfl, grows_refl _, trivial, by rw [E8.out]; rfl⟩
              · intro V wx hg hJ hall
                have v0 : V 0 = (.slice A8 m c8) := by have h := hall 0 (by decide); rw [E0.out] at h; exact h
                have v1 : V 1 = (.slice A2 n2 c2) := by have h := hall 1 (by decide); rw [E1.out] at h; exact h
                have h2 : (ListV [b]) (V 2) wx := by have h := hall 2 (by decide); rw [E2.out] at h; exact h
                have h3 : (BytesV t) (V 3) wx := by have h := hall 3 (by decide); rw [E3.out] at h; exact h
                have v4 : V 4 = (.string ⟨t.toArray⟩) := by have h := hall 4 (by decide); rw [E4.out] at h; exact h
                have v5 : V 5 = (.slice A5 32 c5) := by have h := hall 5 (by decide); rw [E5.out] at h; exact h
                have v6 : V 6 = (.string ⟨t.toArray⟩) := by have h := hall 6 (by decide); rw [E6.out] at h; exact h
                have v7 : V 7 = (.bool true) := by have h := hall 7 (by decide); rw [E7.out] at h; exact h
                have v8 : V 8 = (.bool true) := by have h := hall 8 (by decide); rw [E8.out] at h; exact h
                clear hall
                simp only [fillTo, Act.put, List.setIfInBounds_toArray, List.set_cons_succ, List.set_cons_zero, Nat.reduceAdd, Nat.zero_add, v0, v1, v4, v5, v6, v7, v8]
                clear v0 v1 v4 v5 v6 v7 v8
                have K1e := Lib.hid (K1d.out.grows hg).drew
                have K4e := Lib.hid (K4d.out.grows hg).drew
                have HALL2 := Lib.hid ((HB.out.drew).trans (hg.mono hsz))
                have hsy := HALL2.out.size
                clear hg h2 h3
                go_wp2_with fail
                obtain ⟨F, hF⟩ : ∃ F, F = nthF [eqv (.slice A n c), eqv (.slice A4 j c4), eqv (.int .i64 (to_ : Int)), StrsV (L.take to_), BytesV f1, eqv (.slice A4 j c4), eqv (.int .i64 (to_ : Int)), StrsV (L.drop to_), BytesV fld, eqv (.string ⟨fld.toArray⟩), eqv (.slice A n c), eqv (.slice A4 j c4), BytesV fld, eqv (.string ⟨fld.toArray⟩), eqv (.bool true), eqv (.bool true)] := ⟨_, rfl⟩
                have E0 := Lib.hid (show F 0 = eqv (.slice A n c) by rw [hF]; rfl)
                have E1 := Lib.hid (show F 1 = eqv (.slice A4 j c4) by rw [hF]; rfl)
                have E2 := Lib.hid (show F 2 = eqv (.int .i64 (to_ : Int)) by rw [hF]; rfl)
                have E3 := Lib.hid (show F 3 = StrsV (L.take to_) by rw [hF]; rfl)
                have E4 := Lib.hid (show F 4 = BytesV f1 by rw [hF]; rfl)
                have E5 := Lib.hid (show F 5 = eqv (.slice A4 j c4) by rw [hF]; rfl)
                have E6 := Lib.hid (show F 6 = eqv (.int .i64 (to_ : Int)) by rw [hF]; rfl)
                have E7 := Lib.hid (show F 7 = StrsV (L.drop to_) by rw [hF]; rfl)
                have E8 := Lib.hid (show F 8 = BytesV fld by rw [hF]; rfl)
                have E9 := Lib.hid (show F 9 = eqv (.string ⟨fld.toArray⟩) by rw [hF]; rfl)
                have E10 := Lib.hid (show F 10 = eqv (.slice A n c) by rw [hF]; rfl)
                have E11 := Lib.hid (show F 11 = eqv (.slice A4 j c4) by rw [hF]; rfl)
                have E12 := Lib.hid (show F 12 = BytesV fld by rw [hF]; rfl)
                have E13 := Lib.hid (show F 13 = eqv (.string ⟨fld.toArray⟩) by rw [hF]; rfl)
                have E14 := Lib.hid (show F 14 = eqv (.bool true) by rw [hF]; rfl)
                have E15 := Lib.hid (show F 15 = eqv (.bool true) by rw [hF]; rfl)
                have hst : ∀ j v w w', F j v w → Grows w w' → F j v w' := by rw [hF]; exact nth_stable (by repeat (first | exact st_nil | exact st_eqv _ | exact st_any | exact st_bytes _ | exact st_list _ | exact st_strs _ | refine st_cons ?_ ?_))
                have HST0 := Lib.hid hst
                clear hF hst
                refine wp_region_facts F Grows (fun _ => True) (by kernel_rfl) (by kernel_rfl) grows_refl grows_trans HST0.out (trivial) ?_ ?_
                · intro V; refine ⟨?_, ?_, ?_, ?_, ?_, ?_, ?_, ?_, ?_, ?_, ?_, ?_, ?_, ?_, ?_, ?_, trivial⟩
                  · intro wx hg hJ hdep
                    clear hdep
                    clear hg
                    go_wp2_with fail
                    exact ⟨rfl, grows_refl _, trivial, by rw [E0.out]; rfl⟩
                  · intro wx hg hJ hdep
                    clear hdep
                    clear hg
                    go_wp2_with fail
                    exact ⟨rfl, grows_refl _, trivial, by rw [E1.out]; rfl⟩
                  · intro wx hg hJ hdep
                    clear hdep
                    clear hg
                    go_wp2_with fail
                    exact ⟨rfl, grows_refl _, trivial, by rw [E2.out]; rfl⟩
                  · intro wx hg hJ hdep
                    have v1 : V 1 = (.slice A4 j c4) := by have h := hdep 1 rfl; rw [E1.out] at h; exact h
                    have v2 : V 2 = (.int .i64 (to_ : Int)) := by have h := hdep 2 rfl; rw [E2.out] at h; exact h
                    clear hdep
                    have hv := (K4e.out.grows hg).head hto
                    clear hg
                    go_wp2_with fail
                    exact ⟨rfl, grows_refl _, trivial, by rw [E3.out]; exact hv⟩
                  · intro wx hg hJ hdep
                    have v0 : V 0 = (.slice A n c) := by have h := hdep 0 rfl; rw [E0.out] at h; exact h
                    have h3 : (StrsV (L.take to_)) (V 3) wx := by have h := hdep 3 rfl; rw [E3.out] at h; exact h
                    clear hdep
                    have hm := Fold_v k (L.take to_) _ _ wx (K1e.out.grows hg) h3 (by rw [HKL.out]; omega) (by have := HE4.out; simp; omega) (fun s hs => HSML.out s (List.mem_of_mem_take hs))
                    rw [HF1.out] at hm
                    have HM := Lib.hid hm
                    clear hm hg
                    go_wp2_with fail
                    refine HM.out.mono ?_
                    rintro e w2 ⟨v, rfl, hv, hg2⟩
                    have HV := Lib.hid hv
                    have HG2 := Lib.hid hg2
                    clear hv hg2
                    go_wp2_with fail
                    exact ⟨rfl, HG2.out, trivial, by rw [E4.out]; exact HV.out⟩
                  · intro wx hg hJ hdep
                    clear hdep
                    clear hg
                    go_wp2_with fail
                    exact ⟨rfl, grows_refl _, trivial, by rw [E5.out]; rfl⟩
                  · intro wx hg hJ hdep
                    clear hdep
                    clear hg
                    go_wp2_with fail
                    exact ⟨rfl, grows_refl _, trivial, by rw [E6.out]; rfl⟩
                  · intro wx hg hJ hdep
                    have v5 : V 5 = (.slice A4 j c4) := by have h := hdep 5 rfl; rw [E5.out] at h; exact h
                    have v6 : V 6 = (.int .i64 (to_ : Int)) := by have h := hdep 6 rfl; rw [E6.out] at h; exact h
                    clear hdep
                    have hv := (K4e.out.grows hg).cut hto
                    have HV := Lib.hid hv
                    clear hg hv
                    go_wp2_with fail
                    all_goals (
                      refine ⟨rfl, grows_refl _, trivial, ?_⟩
                      rw [E7.out]
                      have h := HV.out
                      first
                        | (rw [if_neg (by assumption)] at h; exact h)
                        | (have e : c4 = to_ := by assumption
                           rw [if_pos e, e, Nat.sub_self] at h
                           exact h)
                        | (have e : c4 = to_ := by assumption
                           rw [if_pos e, e] at h
                           exact h))
                  · intro wx hg hJ hdep
                    have h4 : (BytesV f1) (V 4) wx := by have h := hdep 4 rfl; rw [E4.out] at h; exact h
                    have h7 : (StrsV (L.drop to_)) (V 7) wx := by have h := hdep 7 rfl; rw [E7.out] at h; exact h
                    clear hdep
                    have hm := Fold_v f1 (L.drop to_) _ _ wx h4 h7 HF1L.out (by have := HE4.out; simp; omega) (fun s hs => HSML.out s (List.mem_of_mem_drop hs))
                    rw [HFLD.out] at hm
                    have HM := Lib.hid hm
                    clear hm hg
                    go_wp2_with fail
                    refine HM.out.mono ?_
                    rintro e w2 ⟨v, rfl, hv, hg2⟩
                    have HV := Lib.hid hv
                    have HG2 := Lib.hid hg2
                    clear hv hg2
                    go_wp2_with fail
                    exact ⟨rfl, HG2.out, trivial, by rw [E8.out]; exact HV.out⟩
                  · intro wx hg hJ hdep
                    have h8 : (BytesV fld) (V 8) wx := by have h := hdep 8 rfl; rw [E8.out] at h; exact h
                    clear hdep
                    have hcv := h8.conv (P := Try.prog) Try.underlying22 Try.underlying5 Try.underlying9
                    go_wp2_with fail
                    exact ⟨rfl, grows_refl _, trivial, by rw [E9.out]; rfl⟩
                  · intro wx hg hJ hdep
                    clear hdep
                    clear hg
                    go_wp2_with fail
                    exact ⟨rfl, grows_refl _, trivial, by rw [E10.out]; rfl⟩
                  · intro wx hg hJ hdep
                    clear hdep
                    clear hg
                    go_wp2_with fail
                    exact ⟨rfl, grows_refl _, trivial, by rw [E11.out]; rfl⟩
                  · intro wx hg hJ hdep
                    have v10 : V 10 = (.slice A n c) := by have h := hdep 10 rfl; rw [E10.out] at h; exact h
                    have v11 : V 11 = (.slice A4 j c4) := by have h := hdep 11 rfl; rw [E11.out] at h; exact h
                    clear hdep
                    have hm := Fold_v k L _ _ wx (K1e.out.grows hg) (K4e.out.grows hg) (by rw [HKL.out]; omega) (by have := HE4.out; omega) HSML.out
                    rw [HFLD2.out] at hm
                    have HM := Lib.hid hm
                    clear hm hg
                    go_wp2_with fail
                    refine HM.out.mono ?_
                    rintro e w2 ⟨v, rfl, hv, hg2⟩
                    have HV := Lib.hid hv
                    have HG2 := Lib.hid hg2
                    clear hv hg2
                    go_wp2_with fail
                    exact ⟨rfl, HG2.out, trivial, by rw [E12.out]; exact HV.out⟩
                  · intro wx hg hJ hdep
                    have h12 : (BytesV fld) (V 12) wx := by have h := hdep 12 rfl; rw [E12.out] at h; exact h
                    clear hdep
                    have hcv := h12.conv (P := Try.prog) Try.underlying22 Try.underlying5 Try.underlying9
                    go_wp2_with fail
                    exact ⟨rfl, grows_refl _, trivial, by rw [E13.out]; rfl⟩
                  · intro wx hg hJ hdep
                    have v9 : V 9 = (.string ⟨fld.toArray⟩) := by have h := hdep 9 rfl; rw [E9.out] at h; exact h
                    have v13 : V 13 = (.string ⟨fld.toArray⟩) := by have h := hdep 13 rfl; rw [E13.out] at h; exact h
                    clear hdep
                    clear hg
                    go_wp2_with fail
                    exact ⟨rfl, grows_refl _, trivial, by rw [E14.out]; rfl⟩
                  · intro wx hg hJ hdep
                    have v14 : V 14 = (.bool true) := by have h := hdep 14 rfl; rw [E14.out] at h; exact h
                    clear hdep
                    clear hg
                    go_wp2_with fail
                    exact ⟨rfl, grows_refl _, trivial, by rw [E15.out]; rfl⟩
                · intro V wx hg hJ hall
                  have v0 : V 0 = (.slice A n c) := by have h := hall 0 (by decide); rw [E0.out] at h; exact h
                  have v1 : V 1 = (.slice A4 j c4) := by have h := hall 1 (by decide); rw [E1.out] at h; exact h
                  have v2 : V 2 = (.int .i64 (to_ : Int)) := by have h := hall 2 (by decide); rw [E2.out] at h; exact h
                  have h3 : (StrsV (L.take to_)) (V 3) wx := by have h := hall 3 (by decide); rw [E3.out] at h; exact h
                  have h4 : (BytesV f1) (V 4) wx := by have h := hall 4 (by decide); rw [E4.out] at h; exact h
                  have v5 : V 5 = (.slice A4 j c4) := by have h := hall 5 (by decide); rw [E5.out] at h; exact h
                  have v6 : V 6 = (.int .i64 (to_ : Int)) := by have h := hall 6 (by decide); rw [E6.out] at h; exact h
                  have h7 : (StrsV (L.drop to_)) (V 7) wx := by have h := hall 7 (by decide); rw [E7.out] at h; exact h
                  have h8 : (BytesV fld) (V 8) wx := by have h := hall 8 (by decide); rw [E8.out] at h; exact h
                  have v9 : V 9 = (.string ⟨fld.toArray⟩) := by have h := hall 9 (by decide); rw [E9.out] at h; exact h
                  have v10 : V 10 = (.slice A n c) := by have h := hall 10 (by decide); rw [E10.out] at h; exact h
                  have v11 : V 11 = (.slice A4 j c4) := by have h := hall 11 (by decide); rw [E11.out] at h; exact h
                  have h12 : (BytesV fld) (V 12) wx := by have h := hall 12 (by decide); rw [E12.out] at h; exact h
                  have v13 : V 13 = (.string ⟨fld.toArray⟩) := by have h := hall 13 (by decide); rw [E13.out] at h; exact h
                  have v14 : V 14 = (.bool true) := by have h := hall 14 (by decide); rw [E14.out] at h; exact h
                  have v15 : V 15 = (.bool true) := by have h := hall 15 (by decide); rw [E15.out] at h; exact h
                  clear hall
                  simp only [fillTo, Act.put, List.setIfInBounds_toArray, List.set_cons_succ, List.set_cons_zero, Nat.reduceAdd, Nat.zero_add, v0, v1, v2, v5, v6, v9, v10, v11, v13, v14, v15]
                  clear v0 v1 v2 v5 v6 v9 v10 v11 v13 v14 v15
                  have K1f := Lib.hid (K1e.out.grows hg).drew
                  have HALL3 := Lib.hid ((HALL2.out.drew).trans (hg.mono hsy))
                  have hsz3 := HALL3.out.size
                  clear hg h3 h4 h7 h8 h12
                  go_wp2_with fail
                  obtain ⟨F, hF⟩ : ∃ F, F = nthF [eqv (.bool true), eqv (.bool true), eqv (.bool true), eqv (.bool true), eqv (.bool true), eqv (.bool true), eqv (.bool true), eqv (.bool true), eqv (.bool true), eqv (.bool true), eqv (.bool true), eqv (.slice A n c), BytesV k, eqv (.string ⟨k.toArray⟩), eqv (.slice A n c), eqv (.string ⟨k.toArray⟩), eqv (.bool true), eqv (.bool true), eqv (.bool true)] := ⟨_, rfl⟩
                  have E0 := Lib.hid (show F 0 = eqv (.bool true) by rw [hF]; rfl)
                  have E1 := Lib.hid (show F 1 = eqv (.bool true) by rw [hF]; rfl)
                  have E2 := Lib.hid (show F 2 = eqv (.bool true) by rw [hF]; rfl)
                  have E3 := Lib.hid (show F 3 = eqv (.bool true) by rw [hF]; rfl)
                  have E4 := Lib.hid (show F 4 = eqv (.bool true) by rw [hF]; rfl)
                  have E5 := Lib.hid (show F 5 = eqv (.bool true) by rw [hF]; rfl)
                  have E6 := Lib.hid (show F 6 = eqv (.bool true) by rw [hF]; rfl)
                  have E7 := Lib.hid (show F 7 = eqv (.bool true) by rw [hF]; rfl)
                  have E8 := Lib.hid (show F 8 = eqv (.bool true) by rw [hF]; rfl)
                  have E9 := Lib.hid (show F 9 = eqv (.bool true) by rw [hF]; rfl)
                  have E10 := Lib.hid (show F 10 = eqv (.bool true) by rw [hF]; rfl)
                  have E11 := Lib.hid (show F 11 = eqv (.slice A n c) by rw [hF]; rfl)
                  have E12 := Lib.hid (show F 12 = BytesV k by rw [hF]; rfl)
                  have E13 := Lib.hid (show F 13 = eqv (.string ⟨k.toArray⟩) by rw [hF]; rfl)
                  have E14 := Lib.hid (show F 14 = eqv (.slice A n c) by rw [hF]; rfl)
                  have E15 := Lib.hid (show F 15 = eqv (.string ⟨k.toArray⟩) by rw [hF]; rfl)
                  have E16 := Lib.hid (show F 16 = eqv (.bool true) by rw [hF]; rfl)
                  have E17 := Lib.hid (show F 17 = eqv (.bool true) by rw [hF]; rfl)
                  have E18 := Lib.hid (show F 18 = eqv (.bool true) by rw [hF]; rfl)
                  have hst : ∀ j v w w', F j v w → Grows w w' → F j v w' := by rw [hF]; exact nth_stable (by repeat (first | exact st_nil | exact st_eqv _ | exact st_any | exact st_bytes _ | exact st_list _ | exact st_strs _ | refine st_cons ?_ ?_))
                  have HST0 := Lib.hid hst
                  clear hF hst
                  refine wp_region_facts F Grows (fun _ => True) (by kernel_rfl) (by kernel_rfl) grows_refl grows_trans HST0.out (trivial) ?_ ?_
                  · intro V; refine ⟨?_, ?_, ?_, ?_, ?_, ?_, ?_, ?_, ?_, ?_, ?_, ?_, ?_, ?_, ?_, ?_, ?_, ?_, ?_, trivial⟩
                    · intro wx hg hJ hdep
                      clear hdep
                      clear hg
                      go_wp2_with fail
                      exact ⟨rfl, grows_refl _, trivial, by rw [E0.out]; rfl⟩
                    · intro wx hg hJ hdep
                      have v0 : V 0 = (.bool true) := by have h := hdep 0 rfl; rw [E0.out] at h; exact h
                      clear hdep
                      clear hg
                      go_wp2_with fail
                      exact ⟨rfl, grows_refl _, trivial, by rw [E1.out]; rfl⟩
                    · intro wx hg hJ hdep
                      have v1 : V 1 = (.bool true) := by have h := hdep 1 rfl; rw [E1.out] at h; exact h
                      clear hdep
                      clear hg
                      go_wp2_with fail
                      exact ⟨rfl, grows_refl _, trivial, by rw [E2.out]; rfl⟩
                    · intro wx hg hJ hdep
                      have v1 : V 1 = (.bool true) := by have h := hdep 1 rfl; rw [E1.out] at h; exact h
                      have v2 : V 2 = (.bool true) := by have h := hdep 2 rfl; rw [E2.out] at h; exact h
                      clear hdep
                      clear hg
                      go_wp2_with fail
                      exact ⟨rfl, grows_refl _, trivial, by rw [E3.out]; rfl⟩
                    · intro wx hg hJ hdep
                      have v3 : V 3 = (.bool true) := by have h := hdep 3 rfl; rw [E3.out] at h; exact h
                      clear hdep
                      clear hg
                      go_wp2_with fail
                      exact ⟨rfl, grows_refl _, trivial, by rw [E4.out]; rfl⟩
                    · intro wx hg hJ hdep
                      have v4 : V 4 = (.bool true) := by have h := hdep 4 rfl; rw [E4.out] at h; exact h
                      clear hdep
                      clear hg
                      go_wp2_with fail
                      exact ⟨rfl, grows_refl _, trivial, by rw [E5.out]; rfl⟩
                    · intro wx hg hJ hdep
                      have v4 : V 4 = (.bool true) := by have h := hdep 4 rfl; rw [E4.out] at h; exact h
                      have v5 : V 5 = (.bool true) := by have h := hdep 5 rfl; rw [E5.out] at h; exact h
                      clear hdep
                      clear hg
                      go_wp2_with fail
                      exact ⟨rfl, grows_refl _, trivial, by rw [E6.out]; rfl⟩
                    · intro wx hg hJ hdep
                      have v6 : V 6 = (.bool true) := by have h := hdep 6 rfl; rw [E6.out] at h; exact h
                      clear hdep
                      clear hg
                      go_wp2_with fail
                      exact ⟨rfl, grows_refl _, trivial, by rw [E7.out]; rfl⟩
                    · intro wx hg hJ hdep
                      have v7 : V 7 = (.bool true) := by have h := hdep 7 rfl; rw [E7.out] at h; exact h
                      clear hdep
                      clear hg
                      go_wp2_with fail
                      exact ⟨rfl, grows_refl _, trivial, by rw [E8.out]; rfl⟩
                    · intro wx hg hJ hdep
                      have v7 : V 7 = (.bool true) := by have h := hdep 7 rfl; rw [E7.out] at h; exact h
                      have v8 : V 8 = (.bool true) := by have h := hdep 8 rfl; rw [E8.out] at h; exact h
                      clear hdep
                      clear hg
                      go_wp2_with fail
                      exact ⟨rfl, grows_refl _, trivial, by rw [E9.out]; rfl⟩
                    · intro wx hg hJ hdep
                      have v9 : V 9 = (.bool true) := by have h := hdep 9 rfl; rw [E9.out] at h; exact h
                      clear hdep
                      clear hg
                      go_wp2_with fail
                      exact ⟨rfl, grows_refl _, trivial, by rw [E10.out]; rfl⟩
                    · intro wx hg hJ hdep
                      have v10 : V 10 = (.bool true) := by have h := hdep 10 rfl; rw [E10.out] at h; exact h
                      clear hdep
                      clear hg
                      go_wp2_with fail
                      exact ⟨rfl, grows_refl _, trivial, by rw [E11.out]; rfl⟩
                    · intro wx hg hJ hdep
                      have v11 : V 11 = (.slice A n c) := by have h := hdep 11 rfl; rw [E11.out] at h; exact h
                      have v10 : V 10 = (.bool true) := by have h := hdep 10 rfl; rw [E10.out] at h; exact h
                      clear hdep
                      have hm := Fold_v k [] _ _ wx (K1f.out.grows hg) (StrsV.nil_ wx) (by rw [HKL.out]; omega) (by simp) (by simp)
                      have HM := Lib.hid hm
                      clear hm hg
                      go_wp2_with fail
                      refine HM.out.mono ?_
                      rintro e w2 ⟨v, rfl, hv, hg2⟩
                      have HV := Lib.hid hv
                      have HG2 := Lib.hid hg2
                      clear hv hg2
                      go_wp2_with fail
                      exact ⟨rfl, HG2.out, trivial, by rw [E12.out]; exact HV.out⟩
                    · intro wx hg hJ hdep
                      have h12 : (BytesV k) (V 12) wx := by have h := hdep 12 rfl; rw [E12.out] at h; exact h
                      have v10 : V 10 = (.bool true) := by have h := hdep 10 rfl; rw [E10.out] at h; exact h
                      clear hdep
                      have hcv := h12.conv (P := Try.prog) Try.underlying22 Try.underlying5 Try.underlying9
                      go_wp2_with fail
                      exact ⟨rfl, grows_refl _, trivial, by rw [E13.out]; rfl⟩
                    · intro wx hg hJ hdep
                      have v10 : V 10 = (.bool true) := by have h := hdep 10 rfl; rw [E10.out] at h; exact h
                      clear hdep
                      clear hg
                      go_wp2_with fail
                      exact ⟨rfl, grows_refl _, trivial, by rw [E14.out]; rfl⟩
                    · intro wx hg hJ hdep
                      have v14 : V 14 = (.slice A n c) := by have h := hdep 14 rfl; rw [E14.out] at h; exact h
                      have v10 : V 10 = (.bool true) := by have h := hdep 10 rfl; rw [E10.out] at h; exact h
                      clear hdep
                      have hcv := (K1f.out.grows hg).conv (P := Try.prog) Try.underlying22 Try.underlying5 Try.underlying9
                      go_wp2_with fail
                      exact ⟨rfl, grows_refl _, trivial, by rw [E15.out]; rfl⟩
                    · intro wx hg hJ hdep
                      have v13 : V 13 = (.string ⟨k.toArray⟩) := by have h := hdep 13 rfl; rw [E13.out] at h; exact h
                      have v15 : V 15 = (.string ⟨k.toArray⟩) := by have h := hdep 15 rfl; rw [E15.out] at h; exact h
                      have v10 : V 10 = (.bool true) := by have h := hdep 10 rfl; rw [E10.out] at h; exact h
                      clear hdep
                      clear hg
                      go_wp2_with fail
                      exact ⟨rfl, grows_refl _, trivial, by rw [E16.out]; rfl⟩
                    · intro wx hg hJ hdep
                      have v10 : V 10 = (.bool true) := by have h := hdep 10 rfl; rw [E10.out] at h; exact h
                      have v16 : V 16 = (.bool true) := by have h := hdep 16 rfl; rw [E16.out] at h; exact h
                      clear hdep
                      clear hg
                      go_wp2_with fail
                      exact ⟨rfl, grows_refl _, trivial, by rw [E17.out]; rfl⟩
                    · intro wx hg hJ hdep
                      have v17 : V 17 = (.bool true) := by have h := hdep 17 rfl; rw [E17.out] at h; exact h
                      clear hdep
                      clear hg
                      go_wp2_with fail
                      exact ⟨rfl, grows_refl _, trivial, by rw [E18.out]; rfl⟩
                  · intro V wx hg hJ hall
                    have v0 : V 0 = (.bool true) := by have h := hall 0 (by decide); rw [E0.out] at h; exact h
                    have v1 : V 1 = (.bool true) := by have h := hall 1 (by decide); rw [E1.out] at h; exact h
                    have v2 : V 2 = (.bool true) := by have h := hall 2 (by decide); rw [E2.out] at h; exact h
                    have v3 : V 3 = (.bool true) := by have h := hall 3 (by decide); rw [E3.out] at h; exact h
                    have v4 : V 4 = (.bool true) := by have h := hall 4 (by decide); rw [E4.out] at h; exact h
                    have v5 : V 5 = (.bool true) := by have h := hall 5 (by decide); rw [E5.out] at h; exact h
                    have v6 : V 6 = (.bool true) := by have h := hall 6 (by decide); rw [E6.out] at h; exact h
                    have v7 : V 7 = (.bool true) := by have h := hall 7 (by decide); rw [E7.out] at h; exact h
                    have v8 : V 8 = (.bool true) := by have h := hall 8 (by decide); rw [E8.out] at h; exact h
                    have v9 : V 9 = (.bool true) := by have h := hall 9 (by decide); rw [E9.out] at h; exact h
                    have v10 : V 10 = (.bool true) := by have h := hall 10 (by decide); rw [E10.out] at h; exact h
                    have v11 : V 11 = (.slice A n c) := by have h := hall 11 (by decide); rw [E11.out] at h; exact h
                    have h12 : (BytesV k) (V 12) wx := by have h := hall 12 (by decide); rw [E12.out] at h; exact h
                    have v13 : V 13 = (.string ⟨k.toArray⟩) := by have h := hall 13 (by decide); rw [E13.out] at h; exact h
                    have v14 : V 14 = (.slice A n c) := by have h := hall 14 (by decide); rw [E14.out] at h; exact h
                    have v15 : V 15 = (.string ⟨k.toArray⟩) := by have h := hall 15 (by decide); rw [E15.out] at h; exact h
                    have v16 : V 16 = (.bool true) := by have h := hall 16 (by decide); rw [E16.out] at h; exact h
                    have v17 : V 17 = (.bool true) := by have h := hall 17 (by decide); rw [E17.out] at h; exact h
                    have v18 : V 18 = (.bool true) := by have h := hall 18 (by decide); rw [E18.out] at h; exact h
                    clear hall
                    simp only [fillTo, Act.put, List.setIfInBounds_toArray, List.set_cons_succ, List.set_cons_zero, Nat.reduceAdd, Nat.zero_add, v0, v1, v2, v3, v4, v5, v6, v7, v8, v9, v10, v11, v13, v14, v15, v16, v17, v18]
                    clear v0 v1 v2 v3 v4 v5 v6 v7 v8 v9 v10 v11 v13 v14 v15 v16 v17 v18
                    have HALL4 := Lib.hid ((HALL3.out.drew).trans (hg.mono hsz3))
                    clear hg h12
                    go_wp2_with fail
                    go_ret
                    exact ⟨rfl, HALL.out.trans (HALL4.out.mono hsx)⟩
end Go.Proofs.Ytbjlmodabiadfaa
