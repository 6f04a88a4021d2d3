/- THE WALK of the law's helper tells: a chain tells on both sides the same. -/
import Derived.Test.YtbjlmodabiadfaaGRC
namespace Go.Proofs.Ytbjlmodabiadfaa
open Go.RowKit

/-- The value lists these records. -/
def RecsV (L : List Rec) (v : Value) (w : World) : Prop := ∃ A c, v = .slice A L.length c ∧ Recs w (· < w.heap.size) A L
theorem st_recs (L : List Rec) : Stable (RecsV L) := fun _ _ _ ⟨A, c, e, h⟩ g => ⟨A, c, e, (h.keep fun k hk => g.block k hk).mono fun _ hk => Nat.lt_of_lt_of_le hk g.size⟩
theorem RowRec.all {w : World} {base : Nat} {Y : Nat → Prop} {A : Option Addr} {n c : Nat} {L : List Rec} (h : RowRec w base Y A n c L) : Recs w (· < w.heap.size) A L := h.recs.mono fun k hk => by
  rcases hk with hk | ⟨ad, e, rfl⟩
  · exact hk.2
  · exact (h.lt ad e).2
set_option maxRecDepth 100000 in
set_option maxHeartbeats 8000000 in
theorem tells_any (cb xb : Nat) (X Z : Nat → Prop) (key : List UInt8) (x : Ch) (w : World) (h : ChainAt w cb X x) (k : RChainAt w xb Z x) (hg : Good key x) :
    Calls Try.prog 45 #[.pointer (some ⟨cb, 0, none⟩), .pointer (some ⟨xb, 0, none⟩)] w fun e w' => e = .returned (.bool true) ∧ Below w.heap.size w w' := by
  have hlen := hg.len
  have hlen2 : x.recs.length ≤ 1000000 := by omega
  have htl : ∀ r ∈ x.recs, r.tag.length ≤ 140737488351232 := fun r hr => by have := (hg.ok r hr).2; omega
  have hbt : x.btag.length ≤ 140737488351232 := by have := hg.bt; omega
  have HL0 := Lib.hid (ListP_any cb X x w h hlen2 htl)
  have HL2 := Lib.hid (fun (w' : World) (hb : Below w.heap.size w w') => List_any cb X x w' (h.new hb) hlen2 htl)
  have HH := Lib.hid (fun (w' : World) (hb : Below w.heap.size w w') => Head_any cb X x w' (h.new hb) hlen2)
  have HRH := Lib.hid (fun (w' : World) (hb : Below w.heap.size w w') => rHead_any xb Z x w' (k.new hb) hlen2)
  have HBA := Lib.hid (fun (w' : World) (hb : Below w.heap.size w w') => Base_any cb X x w' (h.new hb))
  obtain ⟨vk, vt, A, c, blk, co⟩ := k
  have hxb := blk.lt
  have HREC := Lib.hid co.row.all
  obtain ⟨tA, tn, tc, rfl⟩ := co.pt.form
  obtain ⟨htl2, htnc, htn, htr⟩ := co.pt.its (B := w.heap.size) fun k hk => hk.2.1
  have HTR := Lib.hid htr
  have HBLK := Lib.hid blk
  have he1 : (x.end_.seq == x.end_.seq) = true := by simp
  have he2 : (x.bseq == x.bseq) = true := by simp
  have het := Nat.le_trans hg.end_tag (by decide : (32 : Nat) ≤ 140737488351232)
  clear h hg htl co htl2 htr blk
  go_enter Try.func45, Try.ntmps45
  go_wp2_with fail
  refine HL0.out.mono ?_
  rintro e w1 ⟨lA, lc, rfl, hrow1, hb1⟩
  have blk1 := HBLK.out.below hb1 hxb
  have k3 : w1.cell? ⟨xb, 3, none⟩ = some (.slice A x.recs.length c) := blk1.cell 3
  have HC := Lib.hid (rSame_yes lA lc A c x.recs _ _ w1 hrow1.rec.all (HREC.out.keep fun k hk => hb1.block k hk) (fun k hk => hk) (fun k hk => Nat.lt_of_lt_of_le hk hb1.size) hlen2)
  have HB1 := Lib.hid hb1
  have HR1 := Lib.hid hrow1
  clear hrow1 hb1 blk1 HL0
  go_wp2_with fail
  refine HC.out.mono ?_
  rintro e w2 ⟨rfl, q, rfl⟩
  have HSP := Lib.hid (spoil_any lA x.recs.length lc _ x.recs (w1.drewN q) (HR1.out.inS.new (below_drewN (Below.refl _ _) q)) hlen2)
  clear HC k3
  go_wp2_with fail
  refine HSP.out.mono ?_
  rintro e w3 ⟨rfl, hg3⟩
  have hb3 : Below w.heap.size w w3 := (below_drewN HB1.out q).trans (hg3.below (B := w.heap.size) HB1.out.size fun k _ hk => hk.1)
  have HC := Lib.hid (HH.out w3 hb3)
  have HB3 := Lib.hid hb3
  have hs3 := hb3.size
  clear hg3 hb3 HSP HR1 HB1 HH
  go_wp2_with fail
  refine HC.out.mono ?_
  rintro e w4 ⟨hA, hc, rfl, hrow4, hb4⟩
  have hb4' := HB3.out.trans (hb4.mono hs3)
  have hs4 := hb4.size
  have HC := Lib.hid (HRH.out w4 hb4')
  have HB4 := Lib.hid hb4'
  have HR4 := Lib.hid hrow4
  clear hb4 hb4' hrow4 HB3 HRH
  go_wp2_with fail
  refine HC.out.mono ?_
  rintro e w5 ⟨v5, rfl, hp5, hb5⟩
  have hs5 := hb5.size
  obtain ⟨uA, un, uc, rfl⟩ := hp5.form
  obtain ⟨hq1, _, _, hur⟩ := (hp5.keep (w' := w5) fun k hk => hb5.block k hk).its (B := w4.heap.size) fun k hk => hk
  have hr5 := HR4.out.below hb5 (Nat.le_refl _)
  have hv1 := run_conv_bytes (P := Try.prog) Try.underlying22 Try.underlying5 Try.underlying9 (cap := hc) hr5.reads
  have hv2 := run_conv_bytes (P := Try.prog) Try.underlying22 Try.underlying5 Try.underlying9 (cap := uc) hur
  have hlit : OwnedRows (w5.alloc (.cells ([((hA, x.end_.tag.length, hc) : Sl)].map Sl.val).toArray 22)) w5.heap.size [(hA, x.end_.tag.length, hc)] :=
    owned_lit (by intro y hy; simp at hy; rcases hy with rfl; exact ⟨_, _, hr5⟩) (by simp)
  have HOW := Lib.hid (Owned_any _ 1 _ _ hlit (by simp))
  have HR5 := Lib.hid hr5
  have hb5' := HB4.out.trans (hb5.mono HB4.out.size)
  have HB5 := Lib.hid hb5'
  clear hp5 hb5 hb5' hur hr5 hlit HR4 HB4 HC hq1
  go_wp2_with fail
  refine HOW.out.mono ?_
  rintro e w6 ⟨rfl, ho⟩
  have hg6 := owned_grew (S := (w.heap.size ≤ ·)) ho (by intro y hy a ea; simp at hy; rcases hy with rfl; have := (HR5.out.lt a ea).1; omega)
  have hb6 : Below w.heap.size w w6 := HB5.out.trans (hg6.below HB5.out.size fun k _ hk => hk)
  have hs6 := hb6.size
  have HC := Lib.hid (HBA.out w6 hb6)
  have HB6 := Lib.hid hb6
  clear ho hg6 hb6 HOW hv1 hv2 HR5 HB5 HBA
  go_wp2_with fail
  refine HC.out.mono ?_
  rintro e w7 ⟨bA, bc, rfl, hrow7, hb7⟩
  have hs7 := hb7.size
  have hb7' := HB6.out.trans (hb7.mono hs6)
  have blk7 := HBLK.out.below hb7' hxb
  have k1 : w7.cell? ⟨xb, 1, none⟩ = some (.int .i64 x.bseq) := blk7.cell 1
  have k2 : w7.cell? ⟨xb, 2, none⟩ = some (.slice tA tn tc) := blk7.cell 2
  have hv1 := fun m => run_conv_bytes (P := Try.prog) Try.underlying22 Try.underlying5 Try.underlying9 (cap := bc) (hrow7.reads.drewN m)
  have hv2 := fun m => run_conv_bytes (P := Try.prog) Try.underlying22 Try.underlying5 Try.underlying9 (cap := tc) ((HTR.out.below hb7').drewN m)
  have HR7 := Lib.hid hrow7
  have HB7 := Lib.hid hb7'
  clear hrow7 hb7 hb7' blk7 HC HB6
  go_wp2_with fail
  go_quiet (fail)
  go_wp2_with fail
  have hlit : OwnedRows ((w7.drewN nq).alloc (.cells ([((bA, x.btag.length, bc) : Sl)].map Sl.val).toArray 22)) w7.heap.size [(bA, x.btag.length, bc)] :=
    owned_lit (w := w7.drewN nq) (by intro y hy; simp at hy; rcases hy with rfl; exact ⟨_, _, HR7.out.drewN nq⟩) (by simp)
  have HOW := Lib.hid (Owned_any _ 1 _ _ hlit (by simp))
  clear hlit hv1 hv2 k1 k2
  refine HOW.out.mono ?_
  rintro e w8 ⟨rfl, ho⟩
  have hg8 := owned_grew (w := w7.drewN nq) (S := (w.heap.size ≤ ·)) ho (by intro y hy a ea; simp at hy; rcases hy with rfl; have := (HR7.out.lt a ea).1; omega)
  have hb8 : Below w.heap.size w w8 := (below_drewN HB7.out nq).trans (hg8.below (by have := HB7.out.size; exact this) fun k _ hk => hk)
  have hs8 := hb8.size
  have HB8 := Lib.hid hb8
  have HREC8 := Lib.hid (HREC.out.keep fun k hk => hb8.block k hk)
  have blk8 := HBLK.out.below hb8 hxb
  have k3 : w8.cell? ⟨xb, 3, none⟩ = some (.slice A x.recs.length c) := blk8.cell 3
  have hx8 : xb < w8.heap.size := by omega
  clear ho hg8 hb8 blk8 HOW HR7 HB7
  go_wp2_with fail
  have hg0 : Below w8.heap.size w8 w8.drew := (Below.refl _ _).drew
  obtain ⟨F, hF⟩ : ∃ F, F = nthF [eqv (.bool true), eqv (.bool true), eqv (.bool true), eqv (.bool true), eqv (.bool true), eqv (.bool true), eqv (.bool true), eqv (.bool true), eqv (.pointer (some ⟨cb, 0, none⟩)), RecsV x.recs, eqv (.pointer (some ⟨xb, 0, none⟩)), eqv (.pointer (some ⟨xb, 0, none⟩)), eqv (.pointer (some ⟨xb, 3, none⟩)), eqv (.slice A x.recs.length c), eqv (.bool true), eqv (.bool true), eqv (.bool true)] := ⟨_, rfl⟩
  have E0 := Lib.hid (show F 0 = eqv (.bool true) by rw [hF]; rfl)
  have E1 := Lib.hid (show F 1 = eqv (.bool true) by rw [hF]; rfl)
  have E2 := Lib.hid (show F 2 = eqv (.bool true) by rw [hF]; rfl)
  have E3 := Lib.hid (show F 3 = eqv (.bool true) by rw [hF]; rfl)
  have E4 := Lib.hid (show F 4 = eqv (.bool true) by rw [hF]; rfl)
  have E5 := Lib.hid (show F 5 = eqv (.bool true) by rw [hF]; rfl)
  have E6 := Lib.hid (show F 6 = eqv (.bool true) by rw [hF]; rfl)
  have E7 := Lib.hid (show F 7 = eqv (.bool true) by rw [hF]; rfl)
  have E8 := Lib.hid (show F 8 = eqv (.pointer (some ⟨cb, 0, none⟩)) by rw [hF]; rfl)
  have E9 := Lib.hid (show F 9 = RecsV x.recs by rw [hF]; rfl)
  have E10 := Lib.hid (show F 10 = eqv (.pointer (some ⟨xb, 0, none⟩)) by rw [hF]; rfl)
  have E11 := Lib.hid (show F 11 = eqv (.pointer (some ⟨xb, 0, none⟩)) by rw [hF]; rfl)
  have E12 := Lib.hid (show F 12 = eqv (.pointer (some ⟨xb, 3, none⟩)) by rw [hF]; rfl)
  have E13 := Lib.hid (show F 13 = eqv (.slice A x.recs.length c) by rw [hF]; rfl)
  have E14 := Lib.hid (show F 14 = eqv (.bool true) by rw [hF]; rfl)
  have E15 := Lib.hid (show F 15 = eqv (.bool true) by rw [hF]; rfl)
  have E16 := Lib.hid (show F 16 = eqv (.bool true) by rw [hF]; rfl)
  have hst : ∀ j v w w', F j v w → Grows w w' → F j v w' := by rw [hF]; exact nth_stable (by repeat (first | exact st_nil | exact st_eqv _ | exact st_recs _ | refine st_cons ?_ ?_))
  have HST0 := Lib.hid hst
  clear hF hst
  refine wp_region_facts F Grows (fun _ => True) (by kernel_rfl) (by kernel_rfl) grows_refl grows_trans HST0.out (trivial) ?_ ?_
  · intro V; refine ⟨?_, ?_, ?_, ?_, ?_, ?_, ?_, ?_, ?_, ?_, ?_, ?_, ?_, ?_, ?_, ?_, ?_, trivial⟩
    · intro wx hg hJ hdep
      clear hdep
      clear hg
      go_wp2_with fail
      exact ⟨rfl, grows_refl _, trivial, by rw [E0.out]; rfl⟩
    · intro wx hg hJ hdep
      have v0 : V 0 = (.bool true) := by have h := hdep 0 rfl; rw [E0.out] at h; exact h
      clear hdep
      clear hg
      go_wp2_with fail
      exact ⟨rfl, grows_refl _, trivial, by rw [E1.out]; rfl⟩
    · intro wx hg hJ hdep
      have v1 : V 1 = (.bool true) := by have h := hdep 1 rfl; rw [E1.out] at h; exact h
      clear hdep
      clear hg
      go_wp2_with fail
      exact ⟨rfl, grows_refl _, trivial, by rw [E2.out]; rfl⟩
    · intro wx hg hJ hdep
      have v1 : V 1 = (.bool true) := by have h := hdep 1 rfl; rw [E1.out] at h; exact h
      have v2 : V 2 = (.bool true) := by have h := hdep 2 rfl; rw [E2.out] at h; exact h
      clear hdep
      clear hg
      go_wp2_with fail
      exact ⟨rfl, grows_refl _, trivial, by rw [E3.out]; rfl⟩
    · intro wx hg hJ hdep
      have v3 : V 3 = (.bool true) := by have h := hdep 3 rfl; rw [E3.out] at h; exact h
      clear hdep
      clear hg
      go_wp2_with fail
      exact ⟨rfl, grows_refl _, trivial, by rw [E4.out]; rfl⟩
    · intro wx hg hJ hdep
      have v4 : V 4 = (.bool true) := by have h := hdep 4 rfl; rw [E4.out] at h; exact h
      clear hdep
      clear hg
      go_wp2_with fail
      exact ⟨rfl, grows_refl _, trivial, by rw [E5.out]; rfl⟩
    · intro wx hg hJ hdep
      have v4 : V 4 = (.bool true) := by have h := hdep 4 rfl; rw [E4.out] at h; exact h
      have v5 : V 5 = (.bool true) := by have h := hdep 5 rfl; rw [E5.out] at h; exact h
      clear hdep
      clear hg
      go_wp2_with fail
      exact ⟨rfl, grows_refl _, trivial, by rw [E6.out]; rfl⟩
    · intro wx hg hJ hdep
      have v6 : V 6 = (.bool true) := by have h := hdep 6 rfl; rw [E6.out] at h; exact h
      clear hdep
      clear hg
      go_wp2_with fail
      exact ⟨rfl, grows_refl _, trivial, by rw [E7.out]; rfl⟩
    · intro wx hg hJ hdep
      have v7 : V 7 = (.bool true) := by have h := hdep 7 rfl; rw [E7.out] at h; exact h
      clear hdep
      clear hg
      go_wp2_with fail
      exact ⟨rfl, grows_refl _, trivial, by rw [E8.out]; rfl⟩
    · intro wx hg hJ hdep
      have v7 : V 7 = (.bool true) := by have h := hdep 7 rfl; rw [E7.out] at h; exact h
      have v8 : V 8 = (.pointer (some ⟨cb, 0, none⟩)) := by have h := hdep 8 rfl; rw [E8.out] at h; exact h
      clear hdep
      have HM := Lib.hid (HL2.out wx (HB8.out.trans ((hg0.trans hg).mono hs8)))
      clear hg
      go_wp2_with fail
      refine HM.out.mono ?_
      rintro e w9 ⟨A9, c9, rfl, hr9, hb9⟩
      have HR9 := Lib.hid hr9
      have HG9 := Lib.hid hb9
      clear hr9 hb9 HM
      go_wp2_with fail
      exact ⟨rfl, HG9.out, trivial, by rw [E9.out]; exact ⟨A9, c9, rfl, HR9.out.all⟩⟩
    · intro wx hg hJ hdep
      have v7 : V 7 = (.bool true) := by have h := hdep 7 rfl; rw [E7.out] at h; exact h
      clear hdep
      clear hg
      go_wp2_with fail
      exact ⟨rfl, grows_refl _, trivial, by rw [E10.out]; rfl⟩
    · intro wx hg hJ hdep
      have v7 : V 7 = (.bool true) := by have h := hdep 7 rfl; rw [E7.out] at h; exact h
      have v10 : V 10 = (.pointer (some ⟨xb, 0, none⟩)) := by have h := hdep 10 rfl; rw [E10.out] at h; exact h
      clear hdep
      clear hg
      go_wp2_with fail
      exact ⟨rfl, grows_refl _, trivial, by rw [E11.out]; rfl⟩
    · intro wx hg hJ hdep
      have v7 : V 7 = (.bool true) := by have h := hdep 7 rfl; rw [E7.out] at h; exact h
      have v11 : V 11 = (.pointer (some ⟨xb, 0, none⟩)) := by have h := hdep 11 rfl; rw [E11.out] at h; exact h
      clear hdep
      clear hg
      go_wp2_with fail
      exact ⟨rfl, grows_refl _, trivial, by rw [E12.out]; rfl⟩
    · intro wx hg hJ hdep
      have v7 : V 7 = (.bool true) := by have h := hdep 7 rfl; rw [E7.out] at h; exact h
      have v12 : V 12 = (.pointer (some ⟨xb, 3, none⟩)) := by have h := hdep 12 rfl; rw [E12.out] at h; exact h
      clear hdep
      have k4 := ((hg0.trans hg).cell (p := ⟨xb, 3, none⟩) hx8).trans k3
      clear hg
      go_wp2_with fail
      exact ⟨rfl, grows_refl _, trivial, by rw [E13.out]; rfl⟩
    · intro wx hg hJ hdep
      have v7 : V 7 = (.bool true) := by have h := hdep 7 rfl; rw [E7.out] at h; exact h
      have h9 : (RecsV x.recs) (V 9) wx := by have h := hdep 9 rfl; rw [E9.out] at h; exact h
      have v13 : V 13 = (.slice A x.recs.length c) := by have h := hdep 13 rfl; rw [E13.out] at h; exact h
      clear hdep
      cases h9
      rename_i A9 h9
      cases h9
      rename_i c9 h9
      cases h9
      rename_i hv9 hr9
      have hgx := hg0.trans hg
      have HM := Lib.hid (rSame_yes A9 c9 A c x.recs _ _ wx hr9 (HREC8.out.keep fun k hk => hgx.block k (by omega)) (fun k hk => hk) (fun k hk => by have := hgx.size; omega) hlen2)
      have HV := Lib.hid hv9
      clear hg hgx hr9 hv9
      rw [HV.out]
      go_wp2_with fail
      refine HM.out.mono ?_
      rintro e w10 ⟨rfl, q2, rfl⟩
      go_wp2_with fail
      exact ⟨rfl, below_drewN (Below.refl _ _) q2, trivial, by rw [E14.out]; rfl⟩
    · intro wx hg hJ hdep
      have v7 : V 7 = (.bool true) := by have h := hdep 7 rfl; rw [E7.out] at h; exact h
      have v14 : V 14 = (.bool true) := by have h := hdep 14 rfl; rw [E14.out] at h; exact h
      clear hdep
      clear hg
      go_wp2_with fail
      exact ⟨rfl, grows_refl _, trivial, by rw [E15.out]; rfl⟩
    · intro wx hg hJ hdep
      have v15 : V 15 = (.bool true) := by have h := hdep 15 rfl; rw [E15.out] at h; exact h
      clear hdep
      clear hg
      go_wp2_with fail
      exact ⟨rfl, grows_refl _, trivial, by rw [E16.out]; rfl⟩
  · intro V wx hg hJ hall
    have v0 : V 0 = (.bool true) := by have h := hall 0 (by decide); rw [E0.out] at h; exact h
    have v1 : V 1 = (.bool true) := by have h := hall 1 (by decide); rw [E1.out] at h; exact h
    have v2 : V 2 = (.bool true) := by have h := hall 2 (by decide); rw [E2.out] at h; exact h
    have v3 : V 3 = (.bool true) := by have h := hall 3 (by decide); rw [E3.out] at h; exact h
    have v4 : V 4 = (.bool true) := by have h := hall 4 (by decide); rw [E4.out] at h; exact h
    have v5 : V 5 = (.bool true) := by have h := hall 5 (by decide); rw [E5.out] at h; exact h
    have v6 : V 6 = (.bool true) := by have h := hall 6 (by decide); rw [E6.out] at h; exact h
    have v7 : V 7 = (.bool true) := by have h := hall 7 (by decide); rw [E7.out] at h; exact h
    have v8 : V 8 = (.pointer (some ⟨cb, 0, none⟩)) := by have h := hall 8 (by decide); rw [E8.out] at h; exact h
    have h9 : (RecsV x.recs) (V 9) wx := by have h := hall 9 (by decide); rw [E9.out] at h; exact h
    have v10 : V 10 = (.pointer (some ⟨xb, 0, none⟩)) := by have h := hall 10 (by decide); rw [E10.out] at h; exact h
    have v11 : V 11 = (.pointer (some ⟨xb, 0, none⟩)) := by have h := hall 11 (by decide); rw [E11.out] at h; exact h
    have v12 : V 12 = (.pointer (some ⟨xb, 3, none⟩)) := by have h := hall 12 (by decide); rw [E12.out] at h; exact h
    have v13 : V 13 = (.slice A x.recs.length c) := by have h := hall 13 (by decide); rw [E13.out] at h; exact h
    have v14 : V 14 = (.bool true) := by have h := hall 14 (by decide); rw [E14.out] at h; exact h
    have v15 : V 15 = (.bool true) := by have h := hall 15 (by decide); rw [E15.out] at h; exact h
    have v16 : V 16 = (.bool true) := by have h := hall 16 (by decide); rw [E16.out] at h; exact h
    clear hall
    simp only [fillTo, Act.put, List.setIfInBounds_toArray, List.set_cons_succ, List.set_cons_zero, Nat.reduceAdd, Nat.zero_add, v0, v1, v2, v3, v4, v5, v6, v7, v8, v10, v11, v12, v13, v14, v15, v16]
    clear v0 v1 v2 v3 v4 v5 v6 v7 v8 v10 v11 v12 v13 v14 v15 v16
    have HBX := Lib.hid (hg0.trans hg)
    clear hg h9
    go_wp2_with fail
    go_ret
    exact ⟨rfl, HB8.out.trans (HBX.out.mono hs8)⟩
end Go.Proofs.Ytbjlmodabiadfaa
