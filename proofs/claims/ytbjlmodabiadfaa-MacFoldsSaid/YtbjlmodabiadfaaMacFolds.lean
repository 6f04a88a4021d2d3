/- THE WALK of the law MacFolds. -/
import Derived.Test.YtbjlmodabiadfaaMacV
import Derived.Test.YtbjlmodabiadfaaRefFold
import Derived.Test.YtbjlmodabiadfaaOwned2
namespace Go.Proofs.Ytbjlmodabiadfaa
open Go.RowKit

/-- The labels so far are short. -/
def LabelsRel (L : List ByteArray) (w1 : World) (s : Value) (wr : World) : Prop := ∃ j : Nat, j ≤ L.length ∧ s = .int .i64 j ∧ (∀ t (h : t < L.length), t < j → L[t].size ≤ 4096) ∧ wr = w1
set_option maxRecDepth 100000 in
set_option maxHeartbeats 8000000 in
theorem MacFolds_in (A : Option Addr) (n c : Nat) (k : List UInt8) (A4 : Option Addr) (n4 c4 : Nat) (L : List ByteArray) (w : World) (h1 : Reads w w.heap.size 1 A n (bv k)) (_h1c : n ≤ c)
    (e4 : L.length = n4) (h4 : Strs w (· < w.heap.size) A4 L) (hn : n ≤ 4096) (hn4 : n4 ≤ 8) :
    Calls Try.prog 7 #[.slice A n c, .slice A4 n4 c4] w fun e w' => e = .returned (.bool true) ∧ Below w.heap.size w w' := by
  have hkl : k.length = n := by have := h1.1; rw [length_bv] at this; omega
  have hs := Lib.hid (small06_any w)
  have H1 := Lib.hid h1
  have H4 := Lib.hid h4
  have HKL := Lib.hid hkl
  have HE4 := Lib.hid e4
  clear h1 hkl h4 e4
  go_enter Try.func7, Try.ntmps7
  go_wp2_with fail
  refine hs.out.mono ?_
  rintro e w1 ⟨rfl, hb1⟩
  have HB1 := Lib.hid hb1
  have hs1 := hb1.size
  clear hb1 hs
  go_wp2_with fail
  go_loopw [6] (fun s wr => LabelsRel L w1 s wr) (fun s _ => n4 - (intOf s).toNat)
  case atStart => exact ⟨0, Nat.zero_le _, rfl, fun t h ht => by omega, rfl⟩
  case round =>
    obtain ⟨j, hj, rfl, hsm, rfl⟩ := hrel
    have hjn : j ≤ n4 := by have := HE4.out; omega
    clear hj
    by_cases hlt : j < n4
    · have hjl : j < L.length := by have := HE4.out; omega
      obtain ⟨pb, po, hPA, hpR, hpc⟩ := (H4.out.keep fun k hk => HB1.out.block k hk) (by omega)
      have hcj := hpc j hjl
      generalize hLj : L[j] = s at hcj
      have HLJ := Lib.hid hLj
      have HSM := Lib.hid hsm
      clear hpc hLj hsm
      subst hPA
      by_cases hsz : s.size ≤ 4096
      · go_wp2_with fail
        go_roundw
        case rel =>
          refine ⟨j + 1, by omega, by go_num, fun t h ht => ?_, rfl⟩
          by_cases e : t = j
          · subst e; rw [HLJ.out]; exact hsz
          · exact HSM.out t h (by omega)
        case measure => simp [intOf]; omega
      · have hs2 : decide (4096 < (s.size : Int)) = true := by simp; omega
        go_wp2_with fail
        go_ret
        exact ⟨rfl, HB1.out⟩
    · obtain rfl : j = n4 := by omega
      have hsml : ∀ s ∈ L, s.size ≤ 4096 := fun s hs => by
        obtain ⟨t, ht, rfl⟩ := List.getElem_of_mem hs
        exact hsm t ht (by have := HE4.out; omega)
      have HSML := Lib.hid hsml
      obtain ⟨f, hf⟩ : ∃ f, foldB k (bytesOf L) = f := ⟨_, rfl⟩
      have hfl : f.length ≤ 140737488351232 := by rw [← hf]; exact fold_le k (by rw [HKL.out]; omega) _
      have HF := Lib.hid hf
      have hl := Lent_any A n c w.heap.size k wr (H1.out.below HB1.out) hs1 (by omega)
      have HL := Lib.hid hl
      clear hsm hsml hf hl
      go_wp2_with fail
      refine HL.out.mono ?_
      rintro e w2 ⟨rfl, hk2, hb2⟩
      have hs2 := hb2.size
      have hgk := (hk2.lt _ rfl).2
      simp only at hgk
      have HK2 := Lib.hid hk2
      have HB2 := Lib.hid (HB1.out.trans (hb2.mono hs1))
      have hkr := hk2.take (k := n) (by omega)
      rw [Nat.mul_one, bv_append, List.take_append_of_le_length (by rw [length_bv, HKL.out]; omega), List.take_of_length_le (by rw [length_bv, HKL.out]; omega)] at hkr
      have HFC := Lib.hid (Fold_any k L (some ⟨wr.heap.size, 0, none⟩) n (n + 1) w2.heap.size A4 c4 (· < w.heap.size) w2 hkr.reads (Nat.le_refl _) (by omega) (H4.out.keep fun k hk => HB2.out.block k hk) (fun k hk => by have := HB2.out.size; omega) (by have := HE4.out; omega) (fun s hs => by have := HSML.out s hs; omega))
      have hfc := HFC.out
      rw [HF.out, HE4.out] at hfc
      have HFC := Lib.hid hfc
      clear hfc hk2 hb2 hkr HL
      go_wp2_with fail
      refine HFC.out.mono ?_
      rintro e w3 ⟨Ax, cx, rfl, hx3, hb3⟩
      have hs3 := hb3.size
      have HX3 := Lib.hid hx3
      have HK3 := Lib.hid (HK2.out.below hb3 (Nat.le_refl _))
      have HB3 := Lib.hid (HB2.out.trans (hb3.mono (by have := HB2.out.size; omega)))
      have HKP := Lib.hid (Kept_yes A n c _ w.heap.size wr.heap.size k w3 HK3.out.reads (H1.out.below HB3.out) (by omega))
      clear hx3 hb3 HFC
      go_wp2_with fail
      refine HKP.out.mono ?_
      rintro e w' ⟨rfl, rfl⟩
      have hXV : BytesV f (.slice Ax f.length cx) w3 := .of_row HX3.out
      have HXV := Lib.hid hXV
      have KEY := Lib.hid (H1.out.below HB3.out)
      have LAB := Lib.hid (H4.out.keep (w' := w3) fun k hk => HB3.out.block k hk)
      have hws3 := HB3.out.size
      clear hXV HKP
      go_wp2_with fail
      obtain ⟨F, hF⟩ : ∃ F, F = nthF [eqv (.slice Ax f.length cx), eqv (.string ⟨f.toArray⟩), eqv (.slice A n c), eqv (.slice A4 j c4), BytesV f, eqv (.string ⟨f.toArray⟩), eqv (.bool true), eqv (.bool true)] := ⟨_, rfl⟩
      have E0 := Lib.hid (show F 0 = eqv (.slice Ax f.length cx) by rw [hF]; rfl)
      have E1 := Lib.hid (show F 1 = eqv (.string ⟨f.toArray⟩) by rw [hF]; rfl)
      have E2 := Lib.hid (show F 2 = eqv (.slice A n c) by rw [hF]; rfl)
      have E3 := Lib.hid (show F 3 = eqv (.slice A4 j c4) by rw [hF]; rfl)
      have E4 := Lib.hid (show F 4 = BytesV f by rw [hF]; rfl)
      have E5 := Lib.hid (show F 5 = eqv (.string ⟨f.toArray⟩) by rw [hF]; rfl)
      have E6 := Lib.hid (show F 6 = eqv (.bool true) by rw [hF]; rfl)
      have E7 := Lib.hid (show F 7 = eqv (.bool true) by rw [hF]; rfl)
      have hst : ∀ j v w w', F j v w → Grows w w' → F j v w' := by rw [hF]; exact nth_stable (by repeat (first | exact st_nil | exact st_eqv _ | exact st_any | exact st_bytes _ | exact st_list _ | exact st_strs _ | refine st_cons ?_ ?_))
      have HST0 := Lib.hid hst
      clear hF hst
      refine wp_region_facts F Grows (fun _ => True) (by kernel_rfl) (by kernel_rfl) grows_refl grows_trans HST0.out (trivial) ?_ ?_
      · intro V; refine ⟨?_, ?_, ?_, ?_, ?_, ?_, ?_, ?_, trivial⟩
        · intro wx hg hJ hdep
          clear hdep
          clear hg
          go_wp2_with fail
          exact ⟨rfl, grows_refl _, trivial, by rw [E0.out]; rfl⟩
        · intro wx hg hJ hdep
          have v0 : V 0 = (.slice Ax f.length cx) := by have h := hdep 0 rfl; rw [E0.out] at h; exact h
          clear hdep
          have hg0 : Below w3.heap.size w3 wx := (Below.refl w3.heap.size w3).drew.trans hg
          have hcv := (HXV.out.grows hg0).conv (P := Try.prog) Try.underlying22 Try.underlying5 Try.underlying9
          go_wp2_with fail
          exact ⟨rfl, grows_refl _, trivial, by rw [E1.out]; rfl⟩
        · intro wx hg hJ hdep
          clear hdep
          clear hg
          go_wp2_with fail
          exact ⟨rfl, grows_refl _, trivial, by rw [E2.out]; rfl⟩
        · intro wx hg hJ hdep
          clear hdep
          clear hg
          go_wp2_with fail
          exact ⟨rfl, grows_refl _, trivial, by rw [E3.out]; rfl⟩
        · intro wx hg hJ hdep
          have v2 : V 2 = (.slice A n c) := by have h := hdep 2 rfl; rw [E2.out] at h; exact h
          have v3 : V 3 = (.slice A4 j c4) := by have h := hdep 3 rfl; rw [E3.out] at h; exact h
          clear hdep
          have hg0 : Below w3.heap.size w3 wx := (Below.refl w3.heap.size w3).drew.trans hg
          have hsx := hg0.size
          have hm := rFold_any k L A n c w.heap.size A4 c4 (· < w.heap.size) wx (KEY.out.below (hg0.mono hws3)) (by omega) (by omega) (LAB.out.keep fun k hk => hg0.block k (by omega)) (fun k hk => by omega) (by have := HE4.out; omega) (fun s hs => by have := HSML.out s hs; omega)
          rw [HF.out, HE4.out] at hm
          have HM := Lib.hid hm
          clear hm hg hg0
          go_wp2_with fail
          refine HM.out.mono ?_
          rintro e w2' ⟨A2', c2', rfl, hv, hg2⟩
          have HV := Lib.hid (show BytesV f (.slice A2' f.length c2') w2' from .of_row hv)
          have HG2 := Lib.hid hg2
          clear hv hg2
          go_wp2_with fail
          exact ⟨rfl, HG2.out, trivial, by rw [E4.out]; exact HV.out⟩
        · intro wx hg hJ hdep
          have h4 : (BytesV f) (V 4) wx := by have h := hdep 4 rfl; rw [E4.out] at h; exact h
          clear hdep
          have hcv := h4.conv (P := Try.prog) Try.underlying22 Try.underlying5 Try.underlying9
          go_wp2_with fail
          exact ⟨rfl, grows_refl _, trivial, by rw [E5.out]; rfl⟩
        · intro wx hg hJ hdep
          have v1 : V 1 = (.string ⟨f.toArray⟩) := by have h := hdep 1 rfl; rw [E1.out] at h; exact h
          have v5 : V 5 = (.string ⟨f.toArray⟩) := by have h := hdep 5 rfl; rw [E5.out] at h; exact h
          clear hdep
          clear hg
          go_wp2_with fail
          exact ⟨rfl, grows_refl _, trivial, by rw [E6.out]; rfl⟩
        · intro wx hg hJ hdep
          have v6 : V 6 = (.bool true) := by have h := hdep 6 rfl; rw [E6.out] at h; exact h
          clear hdep
          clear hg
          go_wp2_with fail
          exact ⟨rfl, grows_refl _, trivial, by rw [E7.out]; rfl⟩
      · intro V wx hg hJ hall
        have v0 : V 0 = (.slice Ax f.length cx) := by have h := hall 0 (by decide); rw [E0.out] at h; exact h
        have v1 : V 1 = (.string ⟨f.toArray⟩) := by have h := hall 1 (by decide); rw [E1.out] at h; exact h
        have v2 : V 2 = (.slice A n c) := by have h := hall 2 (by decide); rw [E2.out] at h; exact h
        have v3 : V 3 = (.slice A4 j c4) := by have h := hall 3 (by decide); rw [E3.out] at h; exact h
        have h4 : (BytesV f) (V 4) wx := by have h := hall 4 (by decide); rw [E4.out] at h; exact h
        have v5 : V 5 = (.string ⟨f.toArray⟩) := by have h := hall 5 (by decide); rw [E5.out] at h; exact h
        have v6 : V 6 = (.bool true) := by have h := hall 6 (by decide); rw [E6.out] at h; exact h
        have v7 : V 7 = (.bool true) := by have h := hall 7 (by decide); rw [E7.out] at h; exact h
        clear hall
        simp only [fillTo, Act.put, List.setIfInBounds_toArray, List.set_cons_succ, List.set_cons_zero, Nat.reduceAdd, Nat.zero_add, v0, v1, v2, v3, v5, v6, v7]
        clear v0 v1 v2 v3 v5 v6 v7
        have hg0 : Below w3.heap.size w3 wx := (Below.refl w3.heap.size w3).drew.trans hg
        have hxx := HX3.out.below hg0 (Nat.le_refl _)
        have hkx := HK3.out.below hg0 (Nat.le_refl _)
        have HBX := Lib.hid (HB3.out.trans (hg0.mono hws3))
        have hsx := hg0.size
        have hown := owned_lit (w := wx) (t := 22) (R := [(Ax, f.length, cx), (some ⟨wr.heap.size, 0, none⟩, n, n + 1)]) (by
          intro x hx
          simp only [List.mem_cons, List.not_mem_nil, or_false] at hx
          rcases hx with rfl | rfl
          · exact ⟨_, _, hxx⟩
          · exact ⟨_, _, hkx.take (k := n) (by omega)⟩) (by
          simp only [List.pairwise_cons, List.mem_cons, List.not_mem_nil, or_false, forall_eq, false_implies, implies_true, List.Pairwise.nil, and_self, and_true]
          exact (apart_lt (N := w2.heap.size) (fun a ea => by cases ea; exact hgk) (fun b eb => (hxx.lt b eb).1)).symm)
        have HOC := Lib.hid (Owned_any wx.heap.size 2 _ _ hown (by simp))
        have HSX := Lib.hid (show ∀ x ∈ [(Ax, f.length, cx), (some ⟨wr.heap.size, 0, none⟩, n, n + 1)], ∀ a, x.1 = some a → w.heap.size ≤ a.block from by
          intro x hx a ea
          simp only [List.mem_cons, List.not_mem_nil, or_false] at hx
          rcases hx with rfl | rfl
          · have := (hxx.lt a ea).1; omega
          · cases ea; exact hs1)
        clear hg hg0 h4 HXV KEY LAB hxx hkx hown
        go_wp2_with fail
        refine HOC.out.mono ?_
        rintro e w6 ⟨rfl, ho6⟩
        have HALL := Lib.hid (HBX.out.trans ((owned_grew ho6 HSX.out).below (by omega) fun k _ h => h))
        clear ho6 HOC
        go_wp2_with fail
        go_ret
        exact ⟨rfl, HALL.out⟩
end Go.Proofs.Ytbjlmodabiadfaa
