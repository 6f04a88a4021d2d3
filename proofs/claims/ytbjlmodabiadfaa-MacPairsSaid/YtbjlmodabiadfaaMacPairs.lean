/- THE WALK of the law MacPairs. -/
import Derived.Test.YtbjlmodabiadfaaMacTwo
import Derived.Deep.LoopGhost
namespace Go.Proofs.Ytbjlmodabiadfaa
open Go.RowKit

/-- Behind i parts. -/
def PairRel (ma mb N : Nat) (k1 k2 : List UInt8) (n3 : Nat) (w3 : World) (g : Nat) (s12 : Value) (wr : World) : Prop := ∃ i : Nat, g = n3 - i ∧ i ≤ n3 ∧ s12 = .int .i64 i ∧ Two ma mb N k1 k2 wr ∧ GM ma mb w3 wr
set_option maxRecDepth 100000 in
set_option maxHeartbeats 8000000 in
theorem MacPairs_in (A : Option Addr) (n c : Nat) (k1 : List UInt8) (A2 : Option Addr) (n2 c2 : Nat) (k2 : List UInt8) (A3 : Option Addr) (n3 c3 : Nat) (L : List (List UInt8)) (A4 : Option Addr) (n4 c4 : Nat) (b : List UInt8) (w : World) (h1 : Reads w w.heap.size 1 A n (bv k1)) (h1c : n ≤ c) (h2 : Reads w w.heap.size 1 A2 n2 (bv k2)) (h2c : n2 ≤ c2)
    (e3 : L.length = n3) (h3 : Parts w (· < w.heap.size) A3 L) (h4 : Reads w w.heap.size 1 A4 n4 (bv b)) (h4c : n4 ≤ c4) (hn : n ≤ 4096) (hn2 : n2 ≤ 4096) (hn4 : n4 ≤ 4096) :
    Calls Try.prog 6 #[.slice A n c, .slice A2 n2 c2, .slice A3 n3 c3, .slice A4 n4 c4] w fun e w' => e = .returned (.bool true) ∧ Below w.heap.size w w' := by
  have hkl : k1.length = n := by have := h1.1; rw [length_bv] at this; omega
  have hkl2 : k2.length = n2 := by have := h2.1; rw [length_bv] at this; omega
  have hbl : b.length = n4 := by have := h4.1; rw [length_bv] at this; omega
  have hs := Lib.hid (small06_any w)
  have H1 := Lib.hid h1
  have H2 := Lib.hid h2
  have H3 := Lib.hid h3
  have H4 := Lib.hid h4
  have HKL := Lib.hid hkl
  have HKL2 := Lib.hid hkl2
  have HBL := Lib.hid hbl
  have HE3 := Lib.hid e3
  clear h1 h2 h3 h4 hkl hkl2 hbl e3
  go_enter Try.func6, Try.ntmps6
  go_wp2_with fail
  refine hs.out.mono ?_
  rintro e w1 ⟨rfl, hb1⟩
  have HB1 := Lib.hid hb1
  have hs1 := hb1.size
  have hm1 := New_maker k1 A n c _ w1 (H1.out.below hb1) hs1 (by omega)
  have HM1 := Lib.hid hm1
  clear hb1 hs hm1
  go_wp2_with fail
  refine HM1.out.mono ?_
  rintro e w2 ⟨ma, rfl, hma, hmk1, hb2⟩
  have hs2 := hb2.size
  have HB2 := Lib.hid (HB1.out.trans (hb2.mono hs1))
  have HM2 := Lib.hid (New_maker k2 A2 n2 c2 _ w2 (H2.out.below HB2.out) (by omega) (by omega))
  have HMK1 := Lib.hid hmk1
  clear hb2 hmk1
  go_wp2_with fail
  refine HM2.out.mono ?_
  rintro e w3 ⟨mb, rfl, hmb, hmk2, hb3⟩
  have hs3 := hb3.size
  have HB3 := Lib.hid (HB2.out.trans (hb3.mono (by omega)))
  have hT := two_new HMK1.out hmk2 hb3 hmb
  have hml := HMK1.out.lt
  have hne : ma ≠ mb := by omega
  have HNE := Lib.hid hne
  have hT1 := hT.lt
  have HT := Lib.hid hT
  have P1 := Lib.hid (PB.of_reads (ma := ma) (mb := mb) (H1.out.below HB3.out) h1c (by omega) (by omega) (by omega) (by omega))
  have P2 := Lib.hid (PB.of_reads (ma := ma) (mb := mb) (H2.out.below HB3.out) h2c (by omega) (by omega) (by omega) (by omega))
  have P4 := Lib.hid (PB.of_reads (ma := ma) (mb := mb) (H4.out.below HB3.out) h4c (by omega) (by omega) (by omega) (by omega))
  have P3 := Lib.hid ((H3.out.keep fun k hk => HB3.out.block k hk).mono (R' := Off ma mb w3) fun k hk => ⟨by omega, by omega, by omega⟩)
  obtain ⟨hml1, hml2⟩ := hT1
  have hB3s := HB3.out.size
  clear hb3 hmk2 hT hne HM1 HM2 HMK1 HB2 HB1
  go_wp2_with fail
  go_loopg [12] n3 (fun g s12 wr => PairRel ma mb w3.heap.size k1 k2 n3 w3 g s12 wr)
  case atStart => exact ⟨0, rfl, Nat.zero_le _, rfl, HT.out, gm_refl _⟩
  case round =>
    obtain ⟨i, hgk, hi, rfl, hT, hgm⟩ := hrel
    have hl := hT.lt
    have hsz := hgm.size
    have HT2 := Lib.hid hT
    have HGM := Lib.hid hgm
    obtain ⟨hl1, hl2⟩ := hl
    clear hT hgm
    by_cases hlt : i < n3 ∧ i < 6
    · obtain ⟨hlt, h6⟩ := hlt
      have hjl : i < L.length := by have := HE3.out; omega
      obtain ⟨pb, po, hPA, hpR, hpc⟩ := (P3.out) (by omega)
      obtain ⟨v, hcj, hpart⟩ := hpc i hjl
      obtain ⟨pA, pn, pcap, rfl, hpl, hpnc, hpn, hprest⟩ := hpart
      have hpv : PB ma mb L[i] (.slice pA pn pcap) w3 := ⟨pA, pn, pcap, rfl, hpl, hpnc, hpn, hprest⟩
      obtain ⟨hp1, hp2, hp3⟩ := hpR
      have hcj : wr.cell? ⟨pb, po + i, none⟩ = some (.slice pA pn pcap) := (Grew.cell (a := ⟨pb, po + i, none⟩) HGM.out hp1 (fun e => e.elim hp2 hp3)).trans hcj
      generalize L[i] = l at hpl hpv
      have HPL := Lib.hid hpl
      have HPV := Lib.hid (hpv.gm HGM.out)
      clear hpc hpl hpv hprest
      subst hPA
      by_cases hsm : pn < 4096
      · have hm := first_m (k2 := k2) (N := w3.heap.size) HNE.out [l] _ (HT2.out.alloc _) (PL.one (t := 22) HPV.out hl1 hl2) (by rw [HKL.out]; omega) (by simp) (by simp [HPL.out]; omega)
        have HM := Lib.hid hm
        have HCJ := Lib.hid hcj
        clear hm
        go_wp2_with fail
        refine HM.out.mono ?_
        rintro e w4 ⟨v4, rfl, _, hg4, ht4⟩
        have hg4 : GM ma mb wr w4 := gm_trans _ _ _ (gm_alloc _) hg4
        have HG4 := Lib.hid hg4
        have HT4 := Lib.hid ht4.drew
        have hl4 := hg4.size
        have HPV4 := Lib.hid (HPV.out.gm (gm_drew hg4))
        have hcj : w4.drew.cell? ⟨pb, po + i, none⟩ = some (.slice pA pn pcap) := (Grew.cell (a := ⟨pb, po + i, none⟩) hg4 (by show pb < _; omega) (fun e => e.elim hp2 hp3)).trans HCJ.out
        have HCJ4 := Lib.hid hcj
        clear hg4 ht4 hcj
        go_wp2_with fail
        obtain ⟨F, hF⟩ : ∃ F, F = nthF [eqv (.pointer (some ⟨mb, 0, none⟩)), eqv (.slice (some ⟨pb, po, none⟩) n3 c3), eqv (.int .i64 i), eqv (.pointer (some ⟨pb, po + i, none⟩)), eqv (.slice pA pn pcap), eqv (.slice (some ⟨pb, po, none⟩) n3 c3), eqv (.int .i64 i), eqv (.pointer (some ⟨pb, po + i, none⟩)), eqv (.slice pA pn pcap), PL ma mb [l, l], anyv] := ⟨_, rfl⟩
        have E0 := Lib.hid (show F 0 = eqv (.pointer (some ⟨mb, 0, none⟩)) by rw [hF]; rfl)
        have E1 := Lib.hid (show F 1 = eqv (.slice (some ⟨pb, po, none⟩) n3 c3) by rw [hF]; rfl)
        have E2 := Lib.hid (show F 2 = eqv (.int .i64 i) by rw [hF]; rfl)
        have E3 := Lib.hid (show F 3 = eqv (.pointer (some ⟨pb, po + i, none⟩)) by rw [hF]; rfl)
        have E4 := Lib.hid (show F 4 = eqv (.slice pA pn pcap) by rw [hF]; rfl)
        have E5 := Lib.hid (show F 5 = eqv (.slice (some ⟨pb, po, none⟩) n3 c3) by rw [hF]; rfl)
        have E6 := Lib.hid (show F 6 = eqv (.int .i64 i) by rw [hF]; rfl)
        have E7 := Lib.hid (show F 7 = eqv (.pointer (some ⟨pb, po + i, none⟩)) by rw [hF]; rfl)
        have E8 := Lib.hid (show F 8 = eqv (.slice pA pn pcap) by rw [hF]; rfl)
        have E9 := Lib.hid (show F 9 = PL ma mb [l, l] by rw [hF]; rfl)
        have E10 := Lib.hid (show F 10 = anyv by rw [hF]; rfl)
        have hst : ∀ j v w w', F j v w → GM ma mb w w' → F j v w' := by rw [hF]; exact nth_stableG (by repeat (first | exact stg_nil | exact stg_eqv _ | exact stg_any | exact stg_pb _ | exact stg_pl _ | refine stg_cons ?_ ?_))
        have HST0 := Lib.hid hst
        clear hF hst
        refine wp_region_facts F (GM ma mb) (Two ma mb w3.heap.size k1 k2) (by kernel_rfl) (by kernel_rfl) gm_refl gm_trans HST0.out (HT4.out) ?_ ?_
        · intro V; refine ⟨?_, ?_, ?_, ?_, ?_, ?_, ?_, ?_, ?_, ?_, ?_, trivial⟩
          · intro wx hg hJ hdep
            clear hdep
            clear hg
            go_wp2_with fail
            exact ⟨rfl, gm_refl _, hJ, by rw [E0.out]; rfl⟩
          · intro wx hg hJ hdep
            clear hdep
            clear hg
            go_wp2_with fail
            exact ⟨rfl, gm_refl _, hJ, by rw [E1.out]; rfl⟩
          · intro wx hg hJ hdep
            clear hdep
            clear hg
            go_wp2_with fail
            exact ⟨rfl, gm_refl _, hJ, by rw [E2.out]; rfl⟩
          · intro wx hg hJ hdep
            have v1 : V 1 = (.slice (some ⟨pb, po, none⟩) n3 c3) := by have h := hdep 1 rfl; rw [E1.out] at h; exact h
            have v2 : V 2 = (.int .i64 i) := by have h := hdep 2 rfl; rw [E2.out] at h; exact h
            clear hdep
            clear hg
            go_wp2_with fail
            exact ⟨rfl, gm_refl _, hJ, by rw [E3.out]; rfl⟩
          · intro wx hg hJ hdep
            have v3 : V 3 = (.pointer (some ⟨pb, po + i, none⟩)) := by have h := hdep 3 rfl; rw [E3.out] at h; exact h
            clear hdep
            have hcj : wx.cell? ⟨pb, po + i, none⟩ = some (.slice pA pn pcap) := (Grew.cell (a := ⟨pb, po + i, none⟩) hg (by show pb < _; simp; omega) (fun e => e.elim hp2 hp3)).trans HCJ4.out
            clear hg
            go_wp2_with fail
            exact ⟨rfl, gm_refl _, hJ, by rw [E4.out]; rfl⟩
          · intro wx hg hJ hdep
            clear hdep
            clear hg
            go_wp2_with fail
            exact ⟨rfl, gm_refl _, hJ, by rw [E5.out]; rfl⟩
          · intro wx hg hJ hdep
            clear hdep
            clear hg
            go_wp2_with fail
            exact ⟨rfl, gm_refl _, hJ, by rw [E6.out]; rfl⟩
          · intro wx hg hJ hdep
            have v5 : V 5 = (.slice (some ⟨pb, po, none⟩) n3 c3) := by have h := hdep 5 rfl; rw [E5.out] at h; exact h
            have v6 : V 6 = (.int .i64 i) := by have h := hdep 6 rfl; rw [E6.out] at h; exact h
            clear hdep
            clear hg
            go_wp2_with fail
            exact ⟨rfl, gm_refl _, hJ, by rw [E7.out]; rfl⟩
          · intro wx hg hJ hdep
            have v7 : V 7 = (.pointer (some ⟨pb, po + i, none⟩)) := by have h := hdep 7 rfl; rw [E7.out] at h; exact h
            clear hdep
            have hcj : wx.cell? ⟨pb, po + i, none⟩ = some (.slice pA pn pcap) := (Grew.cell (a := ⟨pb, po + i, none⟩) hg (by show pb < _; simp; omega) (fun e => e.elim hp2 hp3)).trans HCJ4.out
            clear hg
            go_wp2_with fail
            exact ⟨rfl, gm_refl _, hJ, by rw [E8.out]; rfl⟩
          · intro wx hg hJ hdep
            have v4 : V 4 = (.slice pA pn pcap) := by have h := hdep 4 rfl; rw [E4.out] at h; exact h
            have v8 : V 8 = (.slice pA pn pcap) := by have h := hdep 8 rfl; rw [E8.out] at h; exact h
            clear hdep
            have hpx := HPV4.out.gm hg
            have hlx := hJ.lt
            have hpl := Lib.hid (PL.two (t := 22) hpx hpx hlx.1 hlx.2)
            have hJ2 := Lib.hid (hJ.alloc (.cells #[.slice pA pn pcap, .slice pA pn pcap] 22))
            clear hg hpx hlx hJ
            go_wp2_with fail
            exact ⟨rfl, gm_alloc _, hJ2.out, by rw [E9.out]; exact hpl.out⟩
          · intro wx hg hJ hdep
            have v0 : V 0 = (.pointer (some ⟨mb, 0, none⟩)) := by have h := hdep 0 rfl; rw [E0.out] at h; exact h
            have h9 : (PL ma mb [l, l]) (V 9) wx := by have h := hdep 9 rfl; rw [E9.out] at h; exact h
            clear hdep
            have hm := second_m (k1 := k1) HNE.out [l, l] _ hJ h9 (by rw [HKL2.out]; omega) (by simp) (by simp [HPL.out]; omega)
            have HM := Lib.hid hm
            clear hm hg h9 hJ
            go_wp2_with fail
            refine HM.out.mono ?_
            rintro e w5 ⟨v, rfl, hv, hg2, hj2⟩
            have HG2 := Lib.hid hg2
            have HJ2 := Lib.hid hj2
            clear hv hg2 hj2
            go_wp2_with fail
            exact ⟨rfl, HG2.out, HJ2.out, by rw [E10.out]; trivial⟩
        · intro V wx hg hJ hall
          have v0 : V 0 = (.pointer (some ⟨mb, 0, none⟩)) := by have h := hall 0 (by decide); rw [E0.out] at h; exact h
          have v1 : V 1 = (.slice (some ⟨pb, po, none⟩) n3 c3) := by have h := hall 1 (by decide); rw [E1.out] at h; exact h
          have v2 : V 2 = (.int .i64 i) := by have h := hall 2 (by decide); rw [E2.out] at h; exact h
          have v3 : V 3 = (.pointer (some ⟨pb, po + i, none⟩)) := by have h := hall 3 (by decide); rw [E3.out] at h; exact h
          have v4 : V 4 = (.slice pA pn pcap) := by have h := hall 4 (by decide); rw [E4.out] at h; exact h
          have v5 : V 5 = (.slice (some ⟨pb, po, none⟩) n3 c3) := by have h := hall 5 (by decide); rw [E5.out] at h; exact h
          have v6 : V 6 = (.int .i64 i) := by have h := hall 6 (by decide); rw [E6.out] at h; exact h
          have v7 : V 7 = (.pointer (some ⟨pb, po + i, none⟩)) := by have h := hall 7 (by decide); rw [E7.out] at h; exact h
          have v8 : V 8 = (.slice pA pn pcap) := by have h := hall 8 (by decide); rw [E8.out] at h; exact h
          have h9 : (PL ma mb [l, l]) (V 9) wx := by have h := hall 9 (by decide); rw [E9.out] at h; exact h
          clear hall
          simp only [fillTo, Act.put, List.setIfInBounds_toArray, List.set_cons_succ, List.set_cons_zero, Nat.reduceAdd, Nat.zero_add, v0, v1, v2, v3, v4, v5, v6, v7, v8]
          clear v0 v1 v2 v3 v4 v5 v6 v7 v8
          have HX := Lib.hid (show PairRel ma mb w3.heap.size k1 k2 n3 w3 (n3 - (i + 1)) (.int .i64 ((i : Int) + 1)) wx from ⟨i + 1, rfl, by omega, by go_num, hJ, gm_trans _ _ _ HGM.out (gm_trans _ _ _ (gm_drew HG4.out) hg)⟩)
          clear hg h9 hJ
          go_wp2_with fail
          go_roundg (n3 - (i + 1))
          case measure => omega
          case rel => exact HX.out
      · have HX := Lib.hid (show PairRel ma mb w3.heap.size k1 k2 n3 w3 (n3 - (i + 1)) (.int .i64 ((i : Int) + 1)) wr from ⟨i + 1, rfl, by omega, by go_num, HT2.out, HGM.out⟩)
        have hd : decide ((pn : Int) < 4096) = false := by simp; omega
        clear HPV
        go_wp2_with fail
        go_roundg (n3 - (i + 1))
        case measure => omega
        case rel => exact HX.out
    · have hd : (decide ((i : Int) < n3) = true ∧ decide ((i : Int) < 6) = false) ∨ decide ((i : Int) < n3) = false := by
        simp only [decide_eq_true_eq, decide_eq_false_iff_not]; omega
      obtain ⟨t1, ht1⟩ : ∃ t, macB k1 b = t := ⟨_, rfl⟩
      obtain ⟨t2, ht2⟩ : ∃ t, macB k2 b = t := ⟨_, rfl⟩
      have T1 := Lib.hid ht1
      have T2 := Lib.hid ht2
      have Q1 := Lib.hid (P1.out.gm (gm_drew HGM.out))
      have Q2 := Lib.hid (P2.out.gm (gm_drew HGM.out))
      have Q4 := Lib.hid (P4.out.gm (gm_drew HGM.out))
      clear ht1 ht2
      rcases hd with ⟨d1, d2⟩ | d1
      all_goals go_wp2_with fail
      all_goals try (exfalso; simp only [decide_eq_true_eq, decide_eq_false_iff_not] at d1; omega)
      all_goals
        obtain ⟨F, hF⟩ : ∃ F, F = nthF [eqv (.pointer (some ⟨ma, 0, none⟩)), eqv (.slice A4 n4 c4), PL ma mb [b], PB ma mb t1, eqv (.string ⟨t1.toArray⟩), eqv (.slice A n c), eqv (.slice A4 n4 c4), PL ma mb [b], PB ma mb t1, eqv (.string ⟨t1.toArray⟩), eqv (.bool true), eqv (.bool true), eqv (.pointer (some ⟨mb, 0, none⟩)), eqv (.slice A4 n4 c4), PL ma mb [b], PB ma mb t2, eqv (.string ⟨t2.toArray⟩), eqv (.slice A2 n2 c2), eqv (.slice A4 n4 c4), PL ma mb [b], PB ma mb t2, eqv (.string ⟨t2.toArray⟩), eqv (.bool true), eqv (.bool true), eqv (.bool true)] := ⟨_, rfl⟩
        have E0 := Lib.hid (show F 0 = eqv (.pointer (some ⟨ma, 0, none⟩)) by rw [hF]; rfl)
        have E1 := Lib.hid (show F 1 = eqv (.slice A4 n4 c4) by rw [hF]; rfl)
        have E2 := Lib.hid (show F 2 = PL ma mb [b] by rw [hF]; rfl)
        have E3 := Lib.hid (show F 3 = PB ma mb t1 by rw [hF]; rfl)
        have E4 := Lib.hid (show F 4 = eqv (.string ⟨t1.toArray⟩) by rw [hF]; rfl)
        have E5 := Lib.hid (show F 5 = eqv (.slice A n c) by rw [hF]; rfl)
        have E6 := Lib.hid (show F 6 = eqv (.slice A4 n4 c4) by rw [hF]; rfl)
        have E7 := Lib.hid (show F 7 = PL ma mb [b] by rw [hF]; rfl)
        have E8 := Lib.hid (show F 8 = PB ma mb t1 by rw [hF]; rfl)
        have E9 := Lib.hid (show F 9 = eqv (.string ⟨t1.toArray⟩) by rw [hF]; rfl)
        have E10 := Lib.hid (show F 10 = eqv (.bool true) by rw [hF]; rfl)
        have E11 := Lib.hid (show F 11 = eqv (.bool true) by rw [hF]; rfl)
        have E12 := Lib.hid (show F 12 = eqv (.pointer (some ⟨mb, 0, none⟩)) by rw [hF]; rfl)
        have E13 := Lib.hid (show F 13 = eqv (.slice A4 n4 c4) by rw [hF]; rfl)
        have E14 := Lib.hid (show F 14 = PL ma mb [b] by rw [hF]; rfl)
        have E15 := Lib.hid (show F 15 = PB ma mb t2 by rw [hF]; rfl)
        have E16 := Lib.hid (show F 16 = eqv (.string ⟨t2.toArray⟩) by rw [hF]; rfl)
        have E17 := Lib.hid (show F 17 = eqv (.slice A2 n2 c2) by rw [hF]; rfl)
        have E18 := Lib.hid (show F 18 = eqv (.slice A4 n4 c4) by rw [hF]; rfl)
        have E19 := Lib.hid (show F 19 = PL ma mb [b] by rw [hF]; rfl)
        have E20 := Lib.hid (show F 20 = PB ma mb t2 by rw [hF]; rfl)
        have E21 := Lib.hid (show F 21 = eqv (.string ⟨t2.toArray⟩) by rw [hF]; rfl)
        have E22 := Lib.hid (show F 22 = eqv (.bool true) by rw [hF]; rfl)
        have E23 := Lib.hid (show F 23 = eqv (.bool true) by rw [hF]; rfl)
        have E24 := Lib.hid (show F 24 = eqv (.bool true) by rw [hF]; rfl)
        have hst : ∀ j v w w', F j v w → GM ma mb w w' → F j v w' := by rw [hF]; exact nth_stableG (by repeat (first | exact stg_nil | exact stg_eqv _ | exact stg_any | exact stg_pb _ | exact stg_pl _ | refine stg_cons ?_ ?_))
        have HST0 := Lib.hid hst
        clear hF hst
        refine wp_region_facts F (GM ma mb) (Two ma mb w3.heap.size k1 k2) (by kernel_rfl) (by kernel_rfl) gm_refl gm_trans HST0.out (HT2.out.drew) ?_ ?_
        · intro V; refine ⟨?_, ?_, ?_, ?_, ?_, ?_, ?_, ?_, ?_, ?_, ?_, ?_, ?_, ?_, ?_, ?_, ?_, ?_, ?_, ?_, ?_, ?_, ?_, ?_, ?_, trivial⟩
          · intro wx hg hJ hdep
            clear hdep
            clear hg
            go_wp2_with fail
            exact ⟨rfl, gm_refl _, hJ, by rw [E0.out]; rfl⟩
          · intro wx hg hJ hdep
            clear hdep
            clear hg
            go_wp2_with fail
            exact ⟨rfl, gm_refl _, hJ, by rw [E1.out]; rfl⟩
          · intro wx hg hJ hdep
            have v1 : V 1 = (.slice A4 n4 c4) := by have h := hdep 1 rfl; rw [E1.out] at h; exact h
            clear hdep
            have hpx := Q4.out.gm hg
            have hlx := hJ.lt
            have hpl := Lib.hid (PL.one (t := 22) hpx hlx.1 hlx.2)
            have hJ2 := Lib.hid (hJ.alloc (.cells #[.slice A4 n4 c4] 22))
            clear hg hpx hlx hJ
            go_wp2_with fail
            exact ⟨rfl, gm_alloc _, hJ2.out, by rw [E2.out]; exact hpl.out⟩
          · intro wx hg hJ hdep
            have v0 : V 0 = (.pointer (some ⟨ma, 0, none⟩)) := by have h := hdep 0 rfl; rw [E0.out] at h; exact h
            have h2 : (PL ma mb [b]) (V 2) wx := by have h := hdep 2 rfl; rw [E2.out] at h; exact h
            clear hdep
            have hm := first_m (k2 := k2) HNE.out [b] _ hJ h2 (by rw [HKL.out]; omega) (by simp) (by simp [HBL.out]; omega)
            rw [show macB k1 [b].flatten = t1 by rw [← T1.out]; simp] at hm
            have HM := Lib.hid hm
            clear hm hg h2 hJ
            go_wp2_with fail
            refine HM.out.mono ?_
            rintro e w5 ⟨v, rfl, hv, hg2, hj2⟩
            have HV := Lib.hid hv
            have HG2 := Lib.hid hg2
            have HJ2 := Lib.hid hj2
            clear hv hg2 hj2
            go_wp2_with fail
            exact ⟨rfl, HG2.out, HJ2.out, by rw [E3.out]; exact HV.out⟩
          · intro wx hg hJ hdep
            have h3 : (PB ma mb t1) (V 3) wx := by have h := hdep 3 rfl; rw [E3.out] at h; exact h
            clear hdep
            have hcv := h3.conv (P := Try.prog) Try.underlying22 Try.underlying5 Try.underlying9
            go_wp2_with fail
            exact ⟨rfl, gm_refl _, hJ, by rw [E4.out]; rfl⟩
          · intro wx hg hJ hdep
            clear hdep
            clear hg
            go_wp2_with fail
            exact ⟨rfl, gm_refl _, hJ, by rw [E5.out]; rfl⟩
          · intro wx hg hJ hdep
            clear hdep
            clear hg
            go_wp2_with fail
            exact ⟨rfl, gm_refl _, hJ, by rw [E6.out]; rfl⟩
          · intro wx hg hJ hdep
            have v6 : V 6 = (.slice A4 n4 c4) := by have h := hdep 6 rfl; rw [E6.out] at h; exact h
            clear hdep
            have hpx := Q4.out.gm hg
            have hlx := hJ.lt
            have hpl := Lib.hid (PL.one (t := 22) hpx hlx.1 hlx.2)
            have hJ2 := Lib.hid (hJ.alloc (.cells #[.slice A4 n4 c4] 22))
            clear hg hpx hlx hJ
            go_wp2_with fail
            exact ⟨rfl, gm_alloc _, hJ2.out, by rw [E7.out]; exact hpl.out⟩
          · intro wx hg hJ hdep
            have v5 : V 5 = (.slice A n c) := by have h := hdep 5 rfl; rw [E5.out] at h; exact h
            have h7 : (PL ma mb [b]) (V 7) wx := by have h := hdep 7 rfl; rw [E7.out] at h; exact h
            clear hdep
            have hm := plain_m k1 [b] _ _ hJ (Q1.out.gm hg) h7 (by simp) (by simp [HBL.out]; omega)
            rw [show macB k1 [b].flatten = t1 by rw [← T1.out]; simp] at hm
            have HM := Lib.hid hm
            clear hm hg h7 hJ
            go_wp2_with fail
            refine HM.out.mono ?_
            rintro e w5 ⟨v, rfl, hv, hg2, hj2⟩
            have HV := Lib.hid hv
            have HG2 := Lib.hid hg2
            have HJ2 := Lib.hid hj2
            clear hv hg2 hj2
            go_wp2_with fail
            exact ⟨rfl, HG2.out, HJ2.out, by rw [E8.out]; exact HV.out⟩
          · intro wx hg hJ hdep
            have h8 : (PB ma mb t1) (V 8) wx := by have h := hdep 8 rfl; rw [E8.out] at h; exact h
            clear hdep
            have hcv := h8.conv (P := Try.prog) Try.underlying22 Try.underlying5 Try.underlying9
            go_wp2_with fail
            exact ⟨rfl, gm_refl _, hJ, by rw [E9.out]; rfl⟩
          · intro wx hg hJ hdep
            have v4 : V 4 = (.string ⟨t1.toArray⟩) := by have h := hdep 4 rfl; rw [E4.out] at h; exact h
            have v9 : V 9 = (.string ⟨t1.toArray⟩) := by have h := hdep 9 rfl; rw [E9.out] at h; exact h
            clear hdep
            clear hg
            go_wp2_with fail
            exact ⟨rfl, gm_refl _, hJ, by rw [E10.out]; rfl⟩
          · intro wx hg hJ hdep
            have v10 : V 10 = (.bool true) := by have h := hdep 10 rfl; rw [E10.out] at h; exact h
            clear hdep
            clear hg
            go_wp2_with fail
            exact ⟨rfl, gm_refl _, hJ, by rw [E11.out]; rfl⟩
          · intro wx hg hJ hdep
            have v11 : V 11 = (.bool true) := by have h := hdep 11 rfl; rw [E11.out] at h; exact h
            clear hdep
            clear hg
            go_wp2_with fail
            exact ⟨rfl, gm_refl _, hJ, by rw [E12.out]; rfl⟩
          · intro wx hg hJ hdep
            have v11 : V 11 = (.bool true) := by have h := hdep 11 rfl; rw [E11.out] at h; exact h
            clear hdep
            clear hg
            go_wp2_with fail
            exact ⟨rfl, gm_refl _, hJ, by rw [E13.out]; rfl⟩
          · intro wx hg hJ hdep
            have v13 : V 13 = (.slice A4 n4 c4) := by have h := hdep 13 rfl; rw [E13.out] at h; exact h
            have v11 : V 11 = (.bool true) := by have h := hdep 11 rfl; rw [E11.out] at h; exact h
            clear hdep
            have hpx := Q4.out.gm hg
            have hlx := hJ.lt
            have hpl := Lib.hid (PL.one (t := 22) hpx hlx.1 hlx.2)
            have hJ2 := Lib.hid (hJ.alloc (.cells #[.slice A4 n4 c4] 22))
            clear hg hpx hlx hJ
            go_wp2_with fail
            exact ⟨rfl, gm_alloc _, hJ2.out, by rw [E14.out]; exact hpl.out⟩
          · intro wx hg hJ hdep
            have v12 : V 12 = (.pointer (some ⟨mb, 0, none⟩)) := by have h := hdep 12 rfl; rw [E12.out] at h; exact h
            have h14 : (PL ma mb [b]) (V 14) wx := by have h := hdep 14 rfl; rw [E14.out] at h; exact h
            have v11 : V 11 = (.bool true) := by have h := hdep 11 rfl; rw [E11.out] at h; exact h
            clear hdep
            have hm := second_m (k1 := k1) HNE.out [b] _ hJ h14 (by rw [HKL2.out]; omega) (by simp) (by simp [HBL.out]; omega)
            rw [show macB k2 [b].flatten = t2 by rw [← T2.out]; simp] at hm
            have HM := Lib.hid hm
            clear hm hg h14 hJ
            go_wp2_with fail
            refine HM.out.mono ?_
            rintro e w5 ⟨v, rfl, hv, hg2, hj2⟩
            have HV := Lib.hid hv
            have HG2 := Lib.hid hg2
            have HJ2 := Lib.hid hj2
            clear hv hg2 hj2
            go_wp2_with fail
            exact ⟨rfl, HG2.out, HJ2.out, by rw [E15.out]; exact HV.out⟩
          · intro wx hg hJ hdep
            have h15 : (PB ma mb t2) (V 15) wx := by have h := hdep 15 rfl; rw [E15.out] at h; exact h
            have v11 : V 11 = (.bool true) := by have h := hdep 11 rfl; rw [E11.out] at h; exact h
            clear hdep
            have hcv := h15.conv (P := Try.prog) Try.underlying22 Try.underlying5 Try.underlying9
            go_wp2_with fail
            exact ⟨rfl, gm_refl _, hJ, by rw [E16.out]; rfl⟩
          · intro wx hg hJ hdep
            have v11 : V 11 = (.bool true) := by have h := hdep 11 rfl; rw [E11.out] at h; exact h
            clear hdep
            clear hg
            go_wp2_with fail
            exact ⟨rfl, gm_refl _, hJ, by rw [E17.out]; rfl⟩
          · intro wx hg hJ hdep
            have v11 : V 11 = (.bool true) := by have h := hdep 11 rfl; rw [E11.out] at h; exact h
            clear hdep
            clear hg
            go_wp2_with fail
            exact ⟨rfl, gm_refl _, hJ, by rw [E18.out]; rfl⟩
          · intro wx hg hJ hdep
            have v18 : V 18 = (.slice A4 n4 c4) := by have h := hdep 18 rfl; rw [E18.out] at h; exact h
            have v11 : V 11 = (.bool true) := by have h := hdep 11 rfl; rw [E11.out] at h; exact h
            clear hdep
            have hpx := Q4.out.gm hg
            have hlx := hJ.lt
            have hpl := Lib.hid (PL.one (t := 22) hpx hlx.1 hlx.2)
            have hJ2 := Lib.hid (hJ.alloc (.cells #[.slice A4 n4 c4] 22))
            clear hg hpx hlx hJ
            go_wp2_with fail
            exact ⟨rfl, gm_alloc _, hJ2.out, by rw [E19.out]; exact hpl.out⟩
          · intro wx hg hJ hdep
            have v17 : V 17 = (.slice A2 n2 c2) := by have h := hdep 17 rfl; rw [E17.out] at h; exact h
            have h19 : (PL ma mb [b]) (V 19) wx := by have h := hdep 19 rfl; rw [E19.out] at h; exact h
            have v11 : V 11 = (.bool true) := by have h := hdep 11 rfl; rw [E11.out] at h; exact h
            clear hdep
            have hm := plain_m k2 [b] _ _ hJ (Q2.out.gm hg) h19 (by simp) (by simp [HBL.out]; omega)
            rw [show macB k2 [b].flatten = t2 by rw [← T2.out]; simp] at hm
            have HM := Lib.hid hm
            clear hm hg h19 hJ
            go_wp2_with fail
            refine HM.out.mono ?_
            rintro e w5 ⟨v, rfl, hv, hg2, hj2⟩
            have HV := Lib.hid hv
            have HG2 := Lib.hid hg2
            have HJ2 := Lib.hid hj2
            clear hv hg2 hj2
            go_wp2_with fail
            exact ⟨rfl, HG2.out, HJ2.out, by rw [E20.out]; exact HV.out⟩
          · intro wx hg hJ hdep
            have h20 : (PB ma mb t2) (V 20) wx := by have h := hdep 20 rfl; rw [E20.out] at h; exact h
            have v11 : V 11 = (.bool true) := by have h := hdep 11 rfl; rw [E11.out] at h; exact h
            clear hdep
            have hcv := h20.conv (P := Try.prog) Try.underlying22 Try.underlying5 Try.underlying9
            go_wp2_with fail
            exact ⟨rfl, gm_refl _, hJ, by rw [E21.out]; rfl⟩
          · intro wx hg hJ hdep
            have v16 : V 16 = (.string ⟨t2.toArray⟩) := by have h := hdep 16 rfl; rw [E16.out] at h; exact h
            have v21 : V 21 = (.string ⟨t2.toArray⟩) := by have h := hdep 21 rfl; rw [E21.out] at h; exact h
            have v11 : V 11 = (.bool true) := by have h := hdep 11 rfl; rw [E11.out] at h; exact h
            clear hdep
            clear hg
            go_wp2_with fail
            exact ⟨rfl, gm_refl _, hJ, by rw [E22.out]; rfl⟩
          · intro wx hg hJ hdep
            have v11 : V 11 = (.bool true) := by have h := hdep 11 rfl; rw [E11.out] at h; exact h
            have v22 : V 22 = (.bool true) := by have h := hdep 22 rfl; rw [E22.out] at h; exact h
            clear hdep
            clear hg
            go_wp2_with fail
            exact ⟨rfl, gm_refl _, hJ, by rw [E23.out]; rfl⟩
          · intro wx hg hJ hdep
            have v23 : V 23 = (.bool true) := by have h := hdep 23 rfl; rw [E23.out] at h; exact h
            clear hdep
            clear hg
            go_wp2_with fail
            exact ⟨rfl, gm_refl _, hJ, by rw [E24.out]; rfl⟩
        · intro V wx hg hJ hall
          have v0 : V 0 = (.pointer (some ⟨ma, 0, none⟩)) := by have h := hall 0 (by decide); rw [E0.out] at h; exact h
          have v1 : V 1 = (.slice A4 n4 c4) := by have h := hall 1 (by decide); rw [E1.out] at h; exact h
          have h2 : (PL ma mb [b]) (V 2) wx := by have h := hall 2 (by decide); rw [E2.out] at h; exact h
          have h3 : (PB ma mb t1) (V 3) wx := by have h := hall 3 (by decide); rw [E3.out] at h; exact h
          have v4 : V 4 = (.string ⟨t1.toArray⟩) := by have h := hall 4 (by decide); rw [E4.out] at h; exact h
          have v5 : V 5 = (.slice A n c) := by have h := hall 5 (by decide); rw [E5.out] at h; exact h
          have v6 : V 6 = (.slice A4 n4 c4) := by have h := hall 6 (by decide); rw [E6.out] at h; exact h
          have h7 : (PL ma mb [b]) (V 7) wx := by have h := hall 7 (by decide); rw [E7.out] at h; exact h
          have h8 : (PB ma mb t1) (V 8) wx := by have h := hall 8 (by decide); rw [E8.out] at h; exact h
          have v9 : V 9 = (.string ⟨t1.toArray⟩) := by have h := hall 9 (by decide); rw [E9.out] at h; exact h
          have v10 : V 10 = (.bool true) := by have h := hall 10 (by decide); rw [E10.out] at h; exact h
          have v11 : V 11 = (.bool true) := by have h := hall 11 (by decide); rw [E11.out] at h; exact h
          have v12 : V 12 = (.pointer (some ⟨mb, 0, none⟩)) := by have h := hall 12 (by decide); rw [E12.out] at h; exact h
          have v13 : V 13 = (.slice A4 n4 c4) := by have h := hall 13 (by decide); rw [E13.out] at h; exact h
          have h14 : (PL ma mb [b]) (V 14) wx := by have h := hall 14 (by decide); rw [E14.out] at h; exact h
          have h15 : (PB ma mb t2) (V 15) wx := by have h := hall 15 (by decide); rw [E15.out] at h; exact h
          have v16 : V 16 = (.string ⟨t2.toArray⟩) := by have h := hall 16 (by decide); rw [E16.out] at h; exact h
          have v17 : V 17 = (.slice A2 n2 c2) := by have h := hall 17 (by decide); rw [E17.out] at h; exact h
          have v18 : V 18 = (.slice A4 n4 c4) := by have h := hall 18 (by decide); rw [E18.out] at h; exact h
          have h19 : (PL ma mb [b]) (V 19) wx := by have h := hall 19 (by decide); rw [E19.out] at h; exact h
          have h20 : (PB ma mb t2) (V 20) wx := by have h := hall 20 (by decide); rw [E20.out] at h; exact h
          have v21 : V 21 = (.string ⟨t2.toArray⟩) := by have h := hall 21 (by decide); rw [E21.out] at h; exact h
          have v22 : V 22 = (.bool true) := by have h := hall 22 (by decide); rw [E22.out] at h; exact h
          have v23 : V 23 = (.bool true) := by have h := hall 23 (by decide); rw [E23.out] at h; exact h
          have v24 : V 24 = (.bool true) := by have h := hall 24 (by decide); rw [E24.out] at h; exact h
          clear hall
          simp only [fillTo, Act.put, List.setIfInBounds_toArray, List.set_cons_succ, List.set_cons_zero, Nat.reduceAdd, Nat.zero_add, v0, v1, v4, v5, v6, v9, v10, v11, v12, v13, v16, v17, v18, v21, v22, v23, v24]
          clear v0 v1 v4 v5 v6 v9 v10 v11 v12 v13 v16 v17 v18 v21 v22 v23 v24
          have HALL := Lib.hid (HB3.out.trans (Grew.below (gm_trans _ _ _ (gm_drew HGM.out) hg) (by omega) (fun k _ e => by rcases e with rfl | rfl <;> omega)))
          clear hg h2 h3 h7 h8 h14 h15 h19 h20
          go_wp2_with fail
          go_ret
          exact ⟨rfl, HALL.out⟩
end Go.Proofs.Ytbjlmodabiadfaa
