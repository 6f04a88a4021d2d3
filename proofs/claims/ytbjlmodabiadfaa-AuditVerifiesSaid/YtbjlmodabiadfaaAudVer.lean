/- THE WALK of the law AuditVerifies. -/
import Derived.Test.YtbjlmodabiadfaaAudSmall
import Derived.Test.YtbjlmodabiadfaaAud3
import Derived.Test.YtbjlmodabiadfaaAud4
namespace Go.Proofs.Ytbjlmodabiadfaa
open Go.RowKit

attribute [local go_sem ↓] Go.wp_at_zero Go.wp_at_succ
theorem verV_is (k n : Nat) : ∃ ec : Int, verV k n = .tuple #[.int .i64 k, .int .i64 ec] ∧ (ec = if k = n then 0 else 22) := ⟨_, rfl, rfl⟩
set_option maxRecDepth 100000 in
set_option maxHeartbeats 8000000 in
theorem AuditVerifies_walk (A : Option Addr) (n c : Nat) (key : List UInt8) (base : Int) (A2 : Option Addr) (n2 c2 : Nat) (ahead : List UInt8) (LA : Option Addr) (ln lc : Nat) (L : List Rec) (s : ByteArray) (w : World)
    (h1 : Reads w w.heap.size 1 A n (bv key)) (_h1c : n ≤ c ∧ c ≤ 140737488351232) (hbw : (Lit.int .i64 base).wf = true) (h2 : Reads w w.heap.size 1 A2 n2 (bv ahead)) (h2c : n2 ≤ c2 ∧ c2 ≤ 140737488351232)
    (hl : L.length = ln) (hL : Recs w (· < w.heap.size) LA L) (hLc : ln ≤ lc ∧ lc ≤ 140737488351232 ∧ ∀ r ∈ L, -9223372036854775808 ≤ r.seq ∧ r.seq ≤ 9223372036854775807 ∧ r.text.size ≤ 140737488351232) (hs : s.size ≤ maxLen) :
    Calls Try.prog 9 #[.slice A n c, .int .i64 base, .slice A2 n2 c2, .slice LA ln lc, .string s] w fun e w' => e = .returned (.bool true) ∧ Below w.heap.size w w' := by
  unfold maxLen at hs
  subst hl
  have hb : -9223372036854775808 ≤ base ∧ base ≤ 9223372036854775807 := by
    have := hbw
    simp [Lit.wf, IntKind.min, IntKind.max, IntKind.bits, IntKind.signed] at this
    omega
  obtain ⟨hba1, hba2⟩ := hb
  have hsm := Lib.hid (small19_any w)
  have hfew := Lib.hid (fun w' (h : Below w.heap.size w w') => few_any A n c A2 n2 c2 LA L.length lc L _ w' rfl (hL.keep fun k hk => h.block k hk))
  have H1 := Lib.hid h1
  have H2 := Lib.hid h2
  have HL := Lib.hid hL
  have HBD := Lib.hid hLc.2.2
  clear h1 h2 hL hbw
  go_enter Try.func9, Try.ntmps9
  go_wp2_with fail
  refine hsm.out.mono ?_
  rintro e w1 ⟨rfl, hb1'⟩
  have HB1 := Lib.hid hb1'
  have HF := Lib.hid (hfew.out w1 hb1')
  clear hb1' hsm hfew
  go_wp2_with fail
  refine HF.out.mono ?_
  rintro e w1 ⟨b, rfl, rfl, hin⟩
  have HIN := Lib.hid hin
  clear hin HF
  cases b
  · go_wp2_with fail
    go_ret
    exact ⟨rfl, HB1.out⟩
  · by_cases hs2 : 1000 < s.size
    · have e1 : decide (1000 < (s.size : Int)) = true := by simp; omega
      go_wp2_with fail
      go_ret
      exact ⟨rfl, HB1.out⟩
    · have e1 : decide (1000 < (s.size : Int)) = false := by simp; omega
      obtain ⟨g1, g2, g3, g4⟩ := HIN.out rfl
      have hn2 : ahead.length = n2 := by have := H2.out.1; rw [length_bv] at this; omega
      have hok : RecsOk L := fun r hr => ⟨(HBD.out r hr).1, (HBD.out r hr).2.1, (g4 r hr).1, (g4 r hr).2⟩
      have hb1' := HB1.out
      have hs1 := hb1'.size
      have HC := Lib.hid (rCopied_any LA lc L _ w1 (HL.out.keep fun k hk => hb1'.block k hk) (fun k hk => by omega) (by omega))
      have HOK := Lib.hid hok
      have HN2 := Lib.hid hn2
      clear hb1' hok hn2 g4 HIN
      go_wp2_with fail
      refine HC.out.mono ?_
      rintro e w2 ⟨cA, cc, rfl, hrow, hb2⟩
      have hs2' := hb2.size
      have hbw2 := HB1.out.trans (hb2.mono hs1)
      have HB2 := Lib.hid hbw2
      have hlr := hrow.lt
      have hin2 : Recs w2 (· < w2.heap.size) cA L := hrow.recs.mono fun k hk => by
        rcases hk with hk | ⟨ad, e, rfl⟩
        · exact hk.2
        · exact (hlr ad e).2
      have HIN2 := Lib.hid hin2
      have HV := Lib.hid (Verify_any A n c key base (.slice A2 n2 c2) ahead cA cc L w2 ((H1.out.below hbw2).more (by omega)) (by omega) hba1 hba2 (Part.of_reads (H2.out.below hbw2) h2c.1 (by omega) fun k hk => by omega) (by have := HN2.out; omega) hin2 (by omega) HOK.out)
      obtain ⟨ec, hv, hec⟩ := verV_is (ver key base ahead L) L.length
      clear hec
      rw [hv] at HV
      obtain ⟨kv, hkv⟩ : ∃ kv, ver key base ahead L = kv := ⟨_, rfl⟩
      rw [hkv] at hv HV
      have HVV0 := Lib.hid hkv
      have HVV := Lib.hid hv
      clear hkv
      clear hrow hb2 hbw2 hin2 hv hlr HC
      go_wp2_with fail
      refine HV.out.mono ?_
      rintro e w3 ⟨rfl, hb3⟩
      have hs3 := hb3.size
      have hbw3 := HB2.out.trans (hb3.mono (by omega))
      have HB3 := Lib.hid hbw3
      have HS := Lib.hid (rSame_yes cA cc LA lc L (· < w2.heap.size) (· < w.heap.size) w3 (HIN2.out.keep fun k hk => hb3.block k hk) (HL.out.keep fun k hk => hbw3.block k hk) (fun k hk => by omega) (fun k hk => by omega) (by omega))
      clear hb3 hbw3 HV
      go_wp2_with fail
      refine HS.out.mono ?_
      rintro e w4 ⟨rfl, q4, rfl⟩
      have hb4 := below_drewN HB3.out q4
      have HB4 := Lib.hid hb4
      generalize w3.drewN q4 = w4 at hb4 HB4
      have hs4 := hb4.size
      have HR := Lib.hid (rVerify_any A n c key base (.slice A2 n2 c2) ahead LA lc L w4 ((H1.out.below hb4).more hs4) (by omega) hba1 hba2 (Part.of_reads (H2.out.below hb4) h2c.1 (by omega) fun k hk => by omega) (by have := HN2.out; omega) ((HL.out.keep fun k hk => hb4.block k hk).mono fun k hk => by omega) (by omega) HOK.out)
      rw [HVV0.out, HVV.out] at HR
      clear hb4 HS HB3
      go_wp2_with fail
      refine HR.out.mono ?_
      rintro e w5 ⟨rfl, hb5⟩
      have hs5 := hb5.size
      have hbw5 := HB4.out.trans (hb5.mono (by omega))
      have HB5 := Lib.hid hbw5
      obtain ⟨t, ht⟩ : ∃ t, tagB key ahead base s.data.toList = t := ⟨_, rfl⟩
      have HT := Lib.hid (aTag_any A n c key A2 n2 c2 ahead base s w.heap.size w5 (H1.out.below hbw5) (H2.out.below hbw5) hbw5.size (by omega) h2c.1 (by omega) (by omega))
      rw [ht] at HT
      have HTT := Lib.hid ht
      clear hb5 hbw5 HR HB4 ht
      go_wp2_with fail
      refine HT.out.mono ?_
      rintro e w6 ⟨tA, tc, rfl, hr6, hb6⟩
      have hbw6 := HB5.out.trans (hb6.mono (by omega))
      have hs6 := hbw6.size
      have HB6 := Lib.hid hbw6
      have HR6 := Lib.hid hr6.reads
      have HTAG : Hid (∀ w', Below w6.heap.size w6 w' → Calls Try.prog 34 #[.slice A n c, .slice A2 n2 c2, .int .i64 base, .string s] w' (RowOut t w')) := Lib.hid fun w' hb => by
        rw [← HTT.out]
        have h := hbw6.trans (hb.mono hs6)
        exact rTag_any A n c key A2 n2 c2 ahead base s w.heap.size w' (H1.out.below h) (H2.out.below h) h.size (by omega) (by omega) (by omega)
      clear hb6 hbw6 hr6 HT HB5
      have hg0 : Below w6.heap.size w6 w6.drew := (Below.refl _ _).drew
      go_wp2_with fail
      obtain ⟨F, hF⟩ : ∃ F, F = nthF [eqv (.slice tA t.length tc), eqv (.string ⟨t.toArray⟩), eqv (.slice A n c), eqv (.slice A2 n2 c2), eqv (.int .i64 base), eqv (.string s), BytesV t, eqv (.string ⟨t.toArray⟩), eqv (.bool true), eqv (.bool true)] := ⟨_, rfl⟩
      have E0 := Lib.hid (show F 0 = eqv (.slice tA t.length tc) by rw [hF]; rfl)
      have E1 := Lib.hid (show F 1 = eqv (.string ⟨t.toArray⟩) by rw [hF]; rfl)
      have E2 := Lib.hid (show F 2 = eqv (.slice A n c) by rw [hF]; rfl)
      have E3 := Lib.hid (show F 3 = eqv (.slice A2 n2 c2) by rw [hF]; rfl)
      have E4 := Lib.hid (show F 4 = eqv (.int .i64 base) by rw [hF]; rfl)
      have E5 := Lib.hid (show F 5 = eqv (.string s) by rw [hF]; rfl)
      have E6 := Lib.hid (show F 6 = BytesV t by rw [hF]; rfl)
      have E7 := Lib.hid (show F 7 = eqv (.string ⟨t.toArray⟩) by rw [hF]; rfl)
      have E8 := Lib.hid (show F 8 = eqv (.bool true) by rw [hF]; rfl)
      have E9 := Lib.hid (show F 9 = eqv (.bool true) by rw [hF]; rfl)
      have hst : ∀ j v w w', F j v w → Grows w w' → F j v w' := by rw [hF]; exact nth_stable (by repeat (first | exact st_nil | exact st_eqv _ | exact st_any | exact st_bytes _ | exact st_list _ | exact st_strs _ | refine st_cons ?_ ?_))
      have HST0 := Lib.hid hst
      clear hF hst
      refine wp_region_facts F Grows (fun _ => True) (by kernel_rfl) (by kernel_rfl) grows_refl grows_trans HST0.out (trivial) ?_ ?_
      · intro V; refine ⟨?_, ?_, ?_, ?_, ?_, ?_, ?_, ?_, ?_, ?_, trivial⟩
        · intro wx hg hJ hdep
          clear hdep
          clear hg
          go_wp2_with fail
          exact ⟨rfl, grows_refl _, trivial, by rw [E0.out]; rfl⟩
        · intro wx hg hJ hdep
          have v0 : V 0 = (.slice tA t.length tc) := by have h := hdep 0 rfl; rw [E0.out] at h; exact h
          clear hdep
          have hcv := run_conv_bytes (P := Try.prog) Try.underlying22 Try.underlying5 Try.underlying9 (cap := tc) (HR6.out.below (hg0.trans hg))
          clear hg
          go_wp2_with fail
          exact ⟨rfl, grows_refl _, trivial, by rw [E1.out]; rfl⟩
        · intro wx hg hJ hdep
          clear hdep
          clear hg
          go_wp2_with fail
          exact ⟨rfl, grows_refl _, trivial, by rw [E2.out]; rfl⟩
        · intro wx hg hJ hdep
          clear hdep
          clear hg
          go_wp2_with fail
          exact ⟨rfl, grows_refl _, trivial, by rw [E3.out]; rfl⟩
        · intro wx hg hJ hdep
          clear hdep
          clear hg
          go_wp2_with fail
          exact ⟨rfl, grows_refl _, trivial, by rw [E4.out]; rfl⟩
        · intro wx hg hJ hdep
          clear hdep
          clear hg
          go_wp2_with fail
          exact ⟨rfl, grows_refl _, trivial, by rw [E5.out]; rfl⟩
        · intro wx hg hJ hdep
          have v2 : V 2 = (.slice A n c) := by have h := hdep 2 rfl; rw [E2.out] at h; exact h
          have v3 : V 3 = (.slice A2 n2 c2) := by have h := hdep 3 rfl; rw [E3.out] at h; exact h
          have v4 : V 4 = (.int .i64 base) := by have h := hdep 4 rfl; rw [E4.out] at h; exact h
          have v5 : V 5 = (.string s) := by have h := hdep 5 rfl; rw [E5.out] at h; exact h
          clear hdep
          have HM := Lib.hid (HTAG.out wx (hg0.trans hg))
          clear hg
          go_wp2_with fail
          refine HM.out.mono ?_
          intro e w6' ho6
          obtain ⟨v6, he6, hv6, hb6⟩ := RowOut.out_v ho6
          subst he6
          have HV6 := Lib.hid hv6
          have HG6 := Lib.hid hb6
          clear hv6 hb6 ho6
          go_wp2_with fail
          exact ⟨rfl, HG6.out, trivial, by rw [E6.out]; exact HV6.out⟩
        · intro wx hg hJ hdep
          have h6 : (BytesV t) (V 6) wx := by have h := hdep 6 rfl; rw [E6.out] at h; exact h
          clear hdep
          have hcv := h6.conv (P := Try.prog) Try.underlying22 Try.underlying5 Try.underlying9
          clear hg
          go_wp2_with fail
          exact ⟨rfl, grows_refl _, trivial, by rw [E7.out]; rfl⟩
        · intro wx hg hJ hdep
          have v1 : V 1 = (.string ⟨t.toArray⟩) := by have h := hdep 1 rfl; rw [E1.out] at h; exact h
          have v7 : V 7 = (.string ⟨t.toArray⟩) := by have h := hdep 7 rfl; rw [E7.out] at h; exact h
          clear hdep
          clear hg
          go_wp2_with fail
          exact ⟨rfl, grows_refl _, trivial, by rw [E8.out]; rfl⟩
        · intro wx hg hJ hdep
          have v8 : V 8 = (.bool true) := by have h := hdep 8 rfl; rw [E8.out] at h; exact h
          clear hdep
          clear hg
          go_wp2_with fail
          exact ⟨rfl, grows_refl _, trivial, by rw [E9.out]; rfl⟩
      · intro V wx hg hJ hall
        have v0 : V 0 = (.slice tA t.length tc) := by have h := hall 0 (by decide); rw [E0.out] at h; exact h
        have v1 : V 1 = (.string ⟨t.toArray⟩) := by have h := hall 1 (by decide); rw [E1.out] at h; exact h
        have v2 : V 2 = (.slice A n c) := by have h := hall 2 (by decide); rw [E2.out] at h; exact h
        have v3 : V 3 = (.slice A2 n2 c2) := by have h := hall 3 (by decide); rw [E3.out] at h; exact h
        have v4 : V 4 = (.int .i64 base) := by have h := hall 4 (by decide); rw [E4.out] at h; exact h
        have v5 : V 5 = (.string s) := by have h := hall 5 (by decide); rw [E5.out] at h; exact h
        have h6 : (BytesV t) (V 6) wx := by have h := hall 6 (by decide); rw [E6.out] at h; exact h
        have v7 : V 7 = (.string ⟨t.toArray⟩) := by have h := hall 7 (by decide); rw [E7.out] at h; exact h
        have v8 : V 8 = (.bool true) := by have h := hall 8 (by decide); rw [E8.out] at h; exact h
        have v9 : V 9 = (.bool true) := by have h := hall 9 (by decide); rw [E9.out] at h; exact h
        clear hall
        simp only [fillTo, Act.put, List.setIfInBounds_toArray, List.set_cons_succ, List.set_cons_zero, Nat.reduceAdd, Nat.zero_add, v0, v1, v2, v3, v4, v5, v7, v8, v9]
        clear v0 v1 v2 v3 v4 v5 v7 v8 v9
        have HBX := Lib.hid (HB6.out.trans ((hg0.trans hg).mono hs6))
        clear hg h6 hg0
        go_wp2_with fail
        go_ret
        exact ⟨rfl, HBX.out⟩
end Go.Proofs.Ytbjlmodabiadfaa
