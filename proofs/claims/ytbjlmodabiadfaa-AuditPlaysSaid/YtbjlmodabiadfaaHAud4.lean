/- Audit: the reference's Verify. -/
import Derived.Test.YtbjlmodabiadfaaHAud2
namespace Go.Proofs.Ytbjlmodabiadfaa
open Go.RowKit

attribute [local go_sem ↓] Go.wp_at_zero Go.wp_at_succ
theorem bytesV_conv_eq {a b : List UInt8} {bl : Bool} (h : (a == b) = bl) : ((⟨a.toArray⟩ : ByteArray).data.toList == (⟨b.toArray⟩ : ByteArray).data.toList) = bl := by simpa using h
set_option maxRecDepth 100000 in
set_option maxHeartbeats 4000000 in
theorem rVerify_any (A : Option Addr) (n c : Nat) (key : List UInt8) (base : Int) (v : Value) (ahead : List UInt8) (LA : Option Addr) (lc : Nat) (L : List Rec) (w : World) (hr : Reads w w.heap.size 1 A n (bv key)) (hn : n ≤ 70368744177664) (hb1 : -9223372036854775808 ≤ base) (hb2 : base ≤ 9223372036854775807)
    (hv : Part w (· < w.heap.size) v ahead) (hal : ahead.length ≤ 256) (hL : Recs w (· < w.heap.size) LA L) (hLn : L.length ≤ 1000000) (hok : RecsOk L) :
    Calls Try.prog 32 #[.slice A n c, .int .i64 base, v, .slice LA L.length lc] w fun e w' => e = .returned (verV (ver key base ahead L) L.length) ∧ Below w.heap.size w w' := by
  obtain ⟨k, hk⟩ : ∃ k, ver key base ahead L = k := ⟨_, rfl⟩
  have HR := Lib.hid hr
  have HV := Lib.hid hv
  have HL := Lib.hid hL
  have HOK := Lib.hid hok
  have HK := Lib.hid hk
  rw [hk]
  clear hr hv hL hok hk
  go_enter Try.func32, Try.ntmps32
  go_wp2_with fail
  go_loopw [1, 2, 10] (fun s1 s2 s14 wr => VerRel w key k L s1 s2 s14 wr) (fun _ _ i _ => L.length - (intOf i).toNat)
  case atStart => exact ⟨0, base, ahead, Nat.zero_le _, rfl, rfl, hb1, hb2, hal, HV.out, by rw [List.drop_zero, HK.out, Nat.zero_add], Below.refl _ _⟩
  case round =>
    clear HV HK hb1 hb2 hal
    obtain ⟨i, base, ahead, hi, rfl, rfl, hb1, hb2, hal, hpart, hki, hbel⟩ := hrel
    have hsz := hbel.size
    by_cases hlt : i < L.length
    · obtain ⟨lb, lo, hLA, hlR, hlc⟩ := (HL.out.keep fun k hk => hbel.block k hk) (by omega)
      obtain ⟨c0, c1, v2, c2, hp2⟩ := hlc i hlt
      have hrok := HOK.out L[i] (List.getElem_mem hlt)
      have hdrop : L.drop i = L[i] :: L.drop (i + 1) := List.drop_eq_getElem_cons hlt
      rw [hdrop] at hki
      generalize L[i] = r at c0 c1 hp2 hrok hki
      obtain ⟨q1, q2, q3, q4⟩ := hrok
      obtain ⟨tA, tn, tc, rfl, htl, htnc, htn, htr⟩ := hp2.reads (B := w.heap.size) (fun k hk => hk)
      have HKI := Lib.hid hki
      have HP2 := Lib.hid hp2
      have HPART := Lib.hid hpart
      have HBEL := Lib.hid hbel
      obtain ⟨aA, an, ac, rfl, hal2, hanc, han, har⟩ := hpart.reads (B := w.heap.size) (fun k hk => hk)
      have HAR := Lib.hid har
      have HTR := Lib.hid htr
      clear hlc hdrop hki hp2 hpart hbel har htr
      subst hLA
      have hlb : lb < wr.heap.size := by omega
      have hj0 : (0 : Int) ≤ (i : Int) := by omega
      have hjl : (i : Int) < L.length := by omega
      by_cases hx : base = 9223372036854775807
      · have e1 : (base == 9223372036854775807) = true := by rw [hx]; rfl
        have hki : k = i := by have := HKI.out; rw [ver_no (fun h => h.1 hx)] at this; omega
        go_wp2_with fail
        go_quiet (fail)
        go_wp2_with fail
        go_ret2
        exact ⟨by rw [hki]; unfold verV; rw [if_neg (by omega)]; rfl, below_drewN HBEL.out _⟩
      · have e1 : (base == 9223372036854775807) = false := by rw [beq_eq_false_iff_ne]; exact hx
        have e2 : IntKind.i64.wrap (base + 1) = base + 1 := IntWalk.i64_in _ (by omega)
        by_cases hy : r.seq = base + 1
        · obtain ⟨seq, text, tag⟩ := r
          simp only at hy q1 q2 q3 q4 c0 c1 HKI HP2 HTR htl
          subst hy
          have e3 : (base + 1 != base + 1) = false := by simp
          obtain ⟨t, ht⟩ : ∃ t, tagB key ahead (base + 1) text.data.toList = t := ⟨_, rfl⟩
          have HTAG : Hid (∀ w', Below wr.heap.size wr w' → Calls Try.prog 34 #[.slice A n c, .slice aA an ac, .int .i64 (base + 1), .string text] w' (RowOut t w')) := Lib.hid fun w' hb => by
            rw [← ht]
            have h1 := HBEL.out.trans (hb.mono (by omega))
            exact rTag_any A n c key aA an ac ahead (base + 1) text w.heap.size w' (HR.out.below h1) (HAR.out.below (hb.mono (by omega))) h1.size hn (by omega) (by omega)
          have HTRX : Hid (∀ w', Below wr.heap.size wr w' → Reads w' w.heap.size 1 tA tn (bv tag)) := Lib.hid fun w' hb => HTR.out.below (hb.mono (by omega))
          have hyes := ver_cases (l := L.drop (i + 1)) (tag := tag) hx ht
          have HYES := Lib.hid hyes
          clear hyes ht HAR HTR
          obtain ⟨bl, hbl⟩ : ∃ bl, (tag == t) = bl := ⟨_, rfl⟩
          have HBLT := Lib.hid hbl
          clear hbl
          have hg0 : Below wr.heap.size wr wr.drew := (Below.refl _ _).drew
          go_wp2_with fail
          obtain ⟨F, hF⟩ : ∃ F, F = nthF [eqv (.int .i64 base), eqv (.bool false), eqv (.bool false), eqv (.slice (some ⟨lb, lo, none⟩) L.length lc), eqv (.int .i64 i), eqv (.pointer (some ⟨lb, lo + i * 3, none⟩)), eqv (.pointer (some ⟨lb, lo + i * 3, none⟩)), eqv (.int .i64 (base + 1)), eqv (.int .i64 base), eqv (.int .i64 (base + 1)), eqv (.bool false), eqv (.bool false), eqv (.bool false), eqv (.slice (some ⟨lb, lo, none⟩) L.length lc), eqv (.int .i64 i), eqv (.pointer (some ⟨lb, lo + i * 3, none⟩)), eqv (.pointer (some ⟨lb, lo + i * 3 + 2, none⟩)), eqv (.slice tA tn tc), eqv (.string ⟨tag.toArray⟩), eqv (.slice A n c), eqv (.slice aA an ac), eqv (.int .i64 base), eqv (.int .i64 (base + 1)), eqv (.slice (some ⟨lb, lo, none⟩) L.length lc), eqv (.int .i64 i), eqv (.pointer (some ⟨lb, lo + i * 3, none⟩)), eqv (.pointer (some ⟨lb, lo + i * 3 + 1, none⟩)), eqv (.string text), BytesV t, eqv (.string ⟨t.toArray⟩), eqv (.bool (!bl)), eqv (.bool (!bl))] := ⟨_, rfl⟩
          have E0 := Lib.hid (show F 0 = eqv (.int .i64 base) by rw [hF]; rfl)
          have E1 := Lib.hid (show F 1 = eqv (.bool false) by rw [hF]; rfl)
          have E2 := Lib.hid (show F 2 = eqv (.bool false) by rw [hF]; rfl)
          have E3 := Lib.hid (show F 3 = eqv (.slice (some ⟨lb, lo, none⟩) L.length lc) by rw [hF]; rfl)
          have E4 := Lib.hid (show F 4 = eqv (.int .i64 i) by rw [hF]; rfl)
          have E5 := Lib.hid (show F 5 = eqv (.pointer (some ⟨lb, lo + i * 3, none⟩)) by rw [hF]; rfl)
          have E6 := Lib.hid (show F 6 = eqv (.pointer (some ⟨lb, lo + i * 3, none⟩)) by rw [hF]; rfl)
          have E7 := Lib.hid (show F 7 = eqv (.int .i64 (base + 1)) by rw [hF]; rfl)
          have E8 := Lib.hid (show F 8 = eqv (.int .i64 base) by rw [hF]; rfl)
          have E9 := Lib.hid (show F 9 = eqv (.int .i64 (base + 1)) by rw [hF]; rfl)
          have E10 := Lib.hid (show F 10 = eqv (.bool false) by rw [hF]; rfl)
          have E11 := Lib.hid (show F 11 = eqv (.bool false) by rw [hF]; rfl)
          have E12 := Lib.hid (show F 12 = eqv (.bool false) by rw [hF]; rfl)
          have E13 := Lib.hid (show F 13 = eqv (.slice (some ⟨lb, lo, none⟩) L.length lc) by rw [hF]; rfl)
          have E14 := Lib.hid (show F 14 = eqv (.int .i64 i) by rw [hF]; rfl)
          have E15 := Lib.hid (show F 15 = eqv (.pointer (some ⟨lb, lo + i * 3, none⟩)) by rw [hF]; rfl)
          have E16 := Lib.hid (show F 16 = eqv (.pointer (some ⟨lb, lo + i * 3 + 2, none⟩)) by rw [hF]; rfl)
          have E17 := Lib.hid (show F 17 = eqv (.slice tA tn tc) by rw [hF]; rfl)
          have E18 := Lib.hid (show F 18 = eqv (.string ⟨tag.toArray⟩) by rw [hF]; rfl)
          have E19 := Lib.hid (show F 19 = eqv (.slice A n c) by rw [hF]; rfl)
          have E20 := Lib.hid (show F 20 = eqv (.slice aA an ac) by rw [hF]; rfl)
          have E21 := Lib.hid (show F 21 = eqv (.int .i64 base) by rw [hF]; rfl)
          have E22 := Lib.hid (show F 22 = eqv (.int .i64 (base + 1)) by rw [hF]; rfl)
          have E23 := Lib.hid (show F 23 = eqv (.slice (some ⟨lb, lo, none⟩) L.length lc) by rw [hF]; rfl)
          have E24 := Lib.hid (show F 24 = eqv (.int .i64 i) by rw [hF]; rfl)
          have E25 := Lib.hid (show F 25 = eqv (.pointer (some ⟨lb, lo + i * 3, none⟩)) by rw [hF]; rfl)
          have E26 := Lib.hid (show F 26 = eqv (.pointer (some ⟨lb, lo + i * 3 + 1, none⟩)) by rw [hF]; rfl)
          have E27 := Lib.hid (show F 27 = eqv (.string text) by rw [hF]; rfl)
          have E28 := Lib.hid (show F 28 = BytesV t by rw [hF]; rfl)
          have E29 := Lib.hid (show F 29 = eqv (.string ⟨t.toArray⟩) by rw [hF]; rfl)
          have E30 := Lib.hid (show F 30 = eqv (.bool (!bl)) by rw [hF]; rfl)
          have E31 := Lib.hid (show F 31 = eqv (.bool (!bl)) by rw [hF]; rfl)
          have hst : ∀ j v w w', F j v w → Grows w w' → F j v w' := by rw [hF]; exact nth_stable (by repeat (first | exact st_nil | exact st_eqv _ | exact st_any | exact st_bytes _ | exact st_list _ | exact st_strs _ | refine st_cons ?_ ?_))
          have HST0 := Lib.hid hst
          clear hF hst
          refine wp_region_facts F Grows (fun _ => True) (by kernel_rfl) (by kernel_rfl) grows_refl grows_trans HST0.out (trivial) ?_ ?_
          · intro V; refine ⟨?_, ?_, ?_, ?_, ?_, ?_, ?_, ?_, ?_, ?_, ?_, ?_, ?_, ?_, ?_, ?_, ?_, ?_, ?_, ?_, ?_, ?_, ?_, ?_, ?_, ?_, ?_, ?_, ?_, ?_, ?_, ?_, trivial⟩
            · intro wx hg hJ hdep
              clear hdep
              clear hg
              go_wp2_with fail
              exact ⟨rfl, grows_refl _, trivial, by rw [E0.out]; rfl⟩
            · intro wx hg hJ hdep
              have v0 : V 0 = (.int .i64 base) := by have h := hdep 0 rfl; rw [E0.out] at h; exact h
              clear hdep
              clear hg
              go_wp2_with fail
              exact ⟨rfl, grows_refl _, trivial, by rw [E1.out]; rfl⟩
            · intro wx hg hJ hdep
              have v1 : V 1 = (.bool false) := by have h := hdep 1 rfl; rw [E1.out] at h; exact h
              clear hdep
              clear hg
              go_wp2_with fail
              exact ⟨rfl, grows_refl _, trivial, by rw [E2.out]; rfl⟩
            · intro wx hg hJ hdep
              have v2 : V 2 = (.bool false) := by have h := hdep 2 rfl; rw [E2.out] at h; exact h
              clear hdep
              clear hg
              go_wp2_with fail
              exact ⟨rfl, grows_refl _, trivial, by rw [E3.out]; rfl⟩
            · intro wx hg hJ hdep
              have v2 : V 2 = (.bool false) := by have h := hdep 2 rfl; rw [E2.out] at h; exact h
              clear hdep
              clear hg
              go_wp2_with fail
              exact ⟨rfl, grows_refl _, trivial, by rw [E4.out]; rfl⟩
            · intro wx hg hJ hdep
              have v3 : V 3 = (.slice (some ⟨lb, lo, none⟩) L.length lc) := by have h := hdep 3 rfl; rw [E3.out] at h; exact h
              have v4 : V 4 = (.int .i64 i) := by have h := hdep 4 rfl; rw [E4.out] at h; exact h
              have v2 : V 2 = (.bool false) := by have h := hdep 2 rfl; rw [E2.out] at h; exact h
              clear hdep
              clear hg
              go_wp2_with fail
              exact ⟨rfl, grows_refl _, trivial, by rw [E5.out]; rfl⟩
            · intro wx hg hJ hdep
              have v5 : V 5 = (.pointer (some ⟨lb, lo + i * 3, none⟩)) := by have h := hdep 5 rfl; rw [E5.out] at h; exact h
              have v2 : V 2 = (.bool false) := by have h := hdep 2 rfl; rw [E2.out] at h; exact h
              clear hdep
              clear hg
              go_wp2_with fail
              exact ⟨rfl, grows_refl _, trivial, by rw [E6.out]; rfl⟩
            · intro wx hg hJ hdep
              have v6 : V 6 = (.pointer (some ⟨lb, lo + i * 3, none⟩)) := by have h := hdep 6 rfl; rw [E6.out] at h; exact h
              have v2 : V 2 = (.bool false) := by have h := hdep 2 rfl; rw [E2.out] at h; exact h
              clear hdep
              have k0 := ((hg0.trans hg).cell (p := ⟨lb, lo + i * 3, none⟩) hlb).trans c0
              clear hg
              go_wp2_with fail
              exact ⟨rfl, grows_refl _, trivial, by rw [E7.out]; rfl⟩
            · intro wx hg hJ hdep
              have v2 : V 2 = (.bool false) := by have h := hdep 2 rfl; rw [E2.out] at h; exact h
              clear hdep
              clear hg
              go_wp2_with fail
              exact ⟨rfl, grows_refl _, trivial, by rw [E8.out]; rfl⟩
            · intro wx hg hJ hdep
              have v8 : V 8 = (.int .i64 base) := by have h := hdep 8 rfl; rw [E8.out] at h; exact h
              have v2 : V 2 = (.bool false) := by have h := hdep 2 rfl; rw [E2.out] at h; exact h
              clear hdep
              clear hg
              go_wp2_with fail
              exact ⟨rfl, grows_refl _, trivial, by rw [E9.out]; rfl⟩
            · intro wx hg hJ hdep
              have v7 : V 7 = (.int .i64 (base + 1)) := by have h := hdep 7 rfl; rw [E7.out] at h; exact h
              have v9 : V 9 = (.int .i64 (base + 1)) := by have h := hdep 9 rfl; rw [E9.out] at h; exact h
              have v2 : V 2 = (.bool false) := by have h := hdep 2 rfl; rw [E2.out] at h; exact h
              clear hdep
              clear hg
              go_wp2_with fail
              exact ⟨rfl, grows_refl _, trivial, by rw [E10.out]; rfl⟩
            · intro wx hg hJ hdep
              have v2 : V 2 = (.bool false) := by have h := hdep 2 rfl; rw [E2.out] at h; exact h
              have v10 : V 10 = (.bool false) := by have h := hdep 10 rfl; rw [E10.out] at h; exact h
              clear hdep
              clear hg
              go_wp2_with fail
              exact ⟨rfl, grows_refl _, trivial, by rw [E11.out]; rfl⟩
            · intro wx hg hJ hdep
              have v11 : V 11 = (.bool false) := by have h := hdep 11 rfl; rw [E11.out] at h; exact h
              clear hdep
              clear hg
              go_wp2_with fail
              exact ⟨rfl, grows_refl _, trivial, by rw [E12.out]; rfl⟩
            · intro wx hg hJ hdep
              have v12 : V 12 = (.bool false) := by have h := hdep 12 rfl; rw [E12.out] at h; exact h
              clear hdep
              clear hg
              go_wp2_with fail
              exact ⟨rfl, grows_refl _, trivial, by rw [E13.out]; rfl⟩
            · intro wx hg hJ hdep
              have v12 : V 12 = (.bool false) := by have h := hdep 12 rfl; rw [E12.out] at h; exact h
              clear hdep
              clear hg
              go_wp2_with fail
              exact ⟨rfl, grows_refl _, trivial, by rw [E14.out]; rfl⟩
            · intro wx hg hJ hdep
              have v13 : V 13 = (.slice (some ⟨lb, lo, none⟩) L.length lc) := by have h := hdep 13 rfl; rw [E13.out] at h; exact h
              have v14 : V 14 = (.int .i64 i) := by have h := hdep 14 rfl; rw [E14.out] at h; exact h
              have v12 : V 12 = (.bool false) := by have h := hdep 12 rfl; rw [E12.out] at h; exact h
              clear hdep
              clear hg
              go_wp2_with fail
              exact ⟨rfl, grows_refl _, trivial, by rw [E15.out]; rfl⟩
            · intro wx hg hJ hdep
              have v15 : V 15 = (.pointer (some ⟨lb, lo + i * 3, none⟩)) := by have h := hdep 15 rfl; rw [E15.out] at h; exact h
              have v12 : V 12 = (.bool false) := by have h := hdep 12 rfl; rw [E12.out] at h; exact h
              clear hdep
              clear hg
              go_wp2_with fail
              exact ⟨rfl, grows_refl _, trivial, by rw [E16.out]; rfl⟩
            · intro wx hg hJ hdep
              have v16 : V 16 = (.pointer (some ⟨lb, lo + i * 3 + 2, none⟩)) := by have h := hdep 16 rfl; rw [E16.out] at h; exact h
              have v12 : V 12 = (.bool false) := by have h := hdep 12 rfl; rw [E12.out] at h; exact h
              clear hdep
              have k0 := ((hg0.trans hg).cell (p := ⟨lb, lo + i * 3 + 2, none⟩) hlb).trans c2
              clear hg
              go_wp2_with fail
              exact ⟨rfl, grows_refl _, trivial, by rw [E17.out]; rfl⟩
            · intro wx hg hJ hdep
              have v17 : V 17 = (.slice tA tn tc) := by have h := hdep 17 rfl; rw [E17.out] at h; exact h
              have v12 : V 12 = (.bool false) := by have h := hdep 12 rfl; rw [E12.out] at h; exact h
              clear hdep
              have hcv := run_conv_bytes (P := Try.prog) Try.underlying22 Try.underlying5 Try.underlying9 (cap := tc) (HTRX.out wx (hg0.trans hg))
              clear hg
              go_wp2_with fail
              exact ⟨rfl, grows_refl _, trivial, by rw [E18.out]; rfl⟩
            · intro wx hg hJ hdep
              have v12 : V 12 = (.bool false) := by have h := hdep 12 rfl; rw [E12.out] at h; exact h
              clear hdep
              clear hg
              go_wp2_with fail
              exact ⟨rfl, grows_refl _, trivial, by rw [E19.out]; rfl⟩
            · intro wx hg hJ hdep
              have v12 : V 12 = (.bool false) := by have h := hdep 12 rfl; rw [E12.out] at h; exact h
              clear hdep
              clear hg
              go_wp2_with fail
              exact ⟨rfl, grows_refl _, trivial, by rw [E20.out]; rfl⟩
            · intro wx hg hJ hdep
              have v12 : V 12 = (.bool false) := by have h := hdep 12 rfl; rw [E12.out] at h; exact h
              clear hdep
              clear hg
              go_wp2_with fail
              exact ⟨rfl, grows_refl _, trivial, by rw [E21.out]; rfl⟩
            · intro wx hg hJ hdep
              have v21 : V 21 = (.int .i64 base) := by have h := hdep 21 rfl; rw [E21.out] at h; exact h
              have v12 : V 12 = (.bool false) := by have h := hdep 12 rfl; rw [E12.out] at h; exact h
              clear hdep
              clear hg
              go_wp2_with fail
              exact ⟨rfl, grows_refl _, trivial, by rw [E22.out]; rfl⟩
            · intro wx hg hJ hdep
              have v12 : V 12 = (.bool false) := by have h := hdep 12 rfl; rw [E12.out] at h; exact h
              clear hdep
              clear hg
              go_wp2_with fail
              exact ⟨rfl, grows_refl _, trivial, by rw [E23.out]; rfl⟩
            · intro wx hg hJ hdep
              have v12 : V 12 = (.bool false) := by have h := hdep 12 rfl; rw [E12.out] at h; exact h
              clear hdep
              clear hg
              go_wp2_with fail
              exact ⟨rfl, grows_refl _, trivial, by rw [E24.out]; rfl⟩
            · intro wx hg hJ hdep
              have v23 : V 23 = (.slice (some ⟨lb, lo, none⟩) L.length lc) := by have h := hdep 23 rfl; rw [E23.out] at h; exact h
              have v24 : V 24 = (.int .i64 i) := by have h := hdep 24 rfl; rw [E24.out] at h; exact h
              have v12 : V 12 = (.bool false) := by have h := hdep 12 rfl; rw [E12.out] at h; exact h
              clear hdep
              clear hg
              go_wp2_with fail
              exact ⟨rfl, grows_refl _, trivial, by rw [E25.out]; rfl⟩
            · intro wx hg hJ hdep
              have v25 : V 25 = (.pointer (some ⟨lb, lo + i * 3, none⟩)) := by have h := hdep 25 rfl; rw [E25.out] at h; exact h
              have v12 : V 12 = (.bool false) := by have h := hdep 12 rfl; rw [E12.out] at h; exact h
              clear hdep
              clear hg
              go_wp2_with fail
              exact ⟨rfl, grows_refl _, trivial, by rw [E26.out]; rfl⟩
            · intro wx hg hJ hdep
              have v26 : V 26 = (.pointer (some ⟨lb, lo + i * 3 + 1, none⟩)) := by have h := hdep 26 rfl; rw [E26.out] at h; exact h
              have v12 : V 12 = (.bool false) := by have h := hdep 12 rfl; rw [E12.out] at h; exact h
              clear hdep
              have k0 := ((hg0.trans hg).cell (p := ⟨lb, lo + i * 3 + 1, none⟩) hlb).trans c1
              clear hg
              go_wp2_with fail
              exact ⟨rfl, grows_refl _, trivial, by rw [E27.out]; rfl⟩
            · intro wx hg hJ hdep
              have v19 : V 19 = (.slice A n c) := by have h := hdep 19 rfl; rw [E19.out] at h; exact h
              have v20 : V 20 = (.slice aA an ac) := by have h := hdep 20 rfl; rw [E20.out] at h; exact h
              have v22 : V 22 = (.int .i64 (base + 1)) := by have h := hdep 22 rfl; rw [E22.out] at h; exact h
              have v27 : V 27 = (.string text) := by have h := hdep 27 rfl; rw [E27.out] at h; exact h
              have v12 : V 12 = (.bool false) := by have h := hdep 12 rfl; rw [E12.out] at h; exact h
              clear hdep
              have HM := Lib.hid (HTAG.out wx (hg0.trans hg))
              clear hg
              go_wp2_with fail
              refine HM.out.mono ?_
              intro e w6 ho6
              obtain ⟨v6, he6, hv6, hb6⟩ := RowOut.out_v ho6
              subst he6
              have HV6 := Lib.hid hv6
              have HG6 := Lib.hid hb6
              clear hv6 hb6 ho6
              go_wp2_with fail
              exact ⟨rfl, HG6.out, trivial, by rw [E28.out]; exact HV6.out⟩
            · intro wx hg hJ hdep
              have h28 : (BytesV t) (V 28) wx := by have h := hdep 28 rfl; rw [E28.out] at h; exact h
              have v12 : V 12 = (.bool false) := by have h := hdep 12 rfl; rw [E12.out] at h; exact h
              clear hdep
              have hcv := h28.conv (P := Try.prog) Try.underlying22 Try.underlying5 Try.underlying9
              clear hg
              go_wp2_with fail
              exact ⟨rfl, grows_refl _, trivial, by rw [E29.out]; rfl⟩
            · intro wx hg hJ hdep
              have v18 : V 18 = (.string ⟨tag.toArray⟩) := by have h := hdep 18 rfl; rw [E18.out] at h; exact h
              have v29 : V 29 = (.string ⟨t.toArray⟩) := by have h := hdep 29 rfl; rw [E29.out] at h; exact h
              have v12 : V 12 = (.bool false) := by have h := hdep 12 rfl; rw [E12.out] at h; exact h
              clear hdep
              have hxx := bytesV_conv_eq HBLT.out
              clear hg
              go_wp2_with fail
              exact ⟨rfl, grows_refl _, trivial, by rw [E30.out]; rfl⟩
            · intro wx hg hJ hdep
              have v12 : V 12 = (.bool false) := by have h := hdep 12 rfl; rw [E12.out] at h; exact h
              have v30 : V 30 = (.bool (!bl)) := by have h := hdep 30 rfl; rw [E30.out] at h; exact h
              clear hdep
              clear hg
              go_wp2_with fail
              exact ⟨rfl, grows_refl _, trivial, by rw [E31.out]; rfl⟩
          · intro V wx hg hJ hall
            have v0 : V 0 = (.int .i64 base) := by have h := hall 0 (by decide); rw [E0.out] at h; exact h
            have v1 : V 1 = (.bool false) := by have h := hall 1 (by decide); rw [E1.out] at h; exact h
            have v2 : V 2 = (.bool false) := by have h := hall 2 (by decide); rw [E2.out] at h; exact h
            have v3 : V 3 = (.slice (some ⟨lb, lo, none⟩) L.length lc) := by have h := hall 3 (by decide); rw [E3.out] at h; exact h
            have v4 : V 4 = (.int .i64 i) := by have h := hall 4 (by decide); rw [E4.out] at h; exact h
            have v5 : V 5 = (.pointer (some ⟨lb, lo + i * 3, none⟩)) := by have h := hall 5 (by decide); rw [E5.out] at h; exact h
            have v6 : V 6 = (.pointer (some ⟨lb, lo + i * 3, none⟩)) := by have h := hall 6 (by decide); rw [E6.out] at h; exact h
            have v7 : V 7 = (.int .i64 (base + 1)) := by have h := hall 7 (by decide); rw [E7.out] at h; exact h
            have v8 : V 8 = (.int .i64 base) := by have h := hall 8 (by decide); rw [E8.out] at h; exact h
            have v9 : V 9 = (.int .i64 (base + 1)) := by have h := hall 9 (by decide); rw [E9.out] at h; exact h
            have v10 : V 10 = (.bool false) := by have h := hall 10 (by decide); rw [E10.out] at h; exact h
            have v11 : V 11 = (.bool false) := by have h := hall 11 (by decide); rw [E11.out] at h; exact h
            have v12 : V 12 = (.bool false) := by have h := hall 12 (by decide); rw [E12.out] at h; exact h
            have v13 : V 13 = (.slice (some ⟨lb, lo, none⟩) L.length lc) := by have h := hall 13 (by decide); rw [E13.out] at h; exact h
            have v14 : V 14 = (.int .i64 i) := by have h := hall 14 (by decide); rw [E14.out] at h; exact h
            have v15 : V 15 = (.pointer (some ⟨lb, lo + i * 3, none⟩)) := by have h := hall 15 (by decide); rw [E15.out] at h; exact h
            have v16 : V 16 = (.pointer (some ⟨lb, lo + i * 3 + 2, none⟩)) := by have h := hall 16 (by decide); rw [E16.out] at h; exact h
            have v17 : V 17 = (.slice tA tn tc) := by have h := hall 17 (by decide); rw [E17.out] at h; exact h
            have v18 : V 18 = (.string ⟨tag.toArray⟩) := by have h := hall 18 (by decide); rw [E18.out] at h; exact h
            have v19 : V 19 = (.slice A n c) := by have h := hall 19 (by decide); rw [E19.out] at h; exact h
            have v20 : V 20 = (.slice aA an ac) := by have h := hall 20 (by decide); rw [E20.out] at h; exact h
            have v21 : V 21 = (.int .i64 base) := by have h := hall 21 (by decide); rw [E21.out] at h; exact h
            have v22 : V 22 = (.int .i64 (base + 1)) := by have h := hall 22 (by decide); rw [E22.out] at h; exact h
            have v23 : V 23 = (.slice (some ⟨lb, lo, none⟩) L.length lc) := by have h := hall 23 (by decide); rw [E23.out] at h; exact h
            have v24 : V 24 = (.int .i64 i) := by have h := hall 24 (by decide); rw [E24.out] at h; exact h
            have v25 : V 25 = (.pointer (some ⟨lb, lo + i * 3, none⟩)) := by have h := hall 25 (by decide); rw [E25.out] at h; exact h
            have v26 : V 26 = (.pointer (some ⟨lb, lo + i * 3 + 1, none⟩)) := by have h := hall 26 (by decide); rw [E26.out] at h; exact h
            have v27 : V 27 = (.string text) := by have h := hall 27 (by decide); rw [E27.out] at h; exact h
            have h28 : (BytesV t) (V 28) wx := by have h := hall 28 (by decide); rw [E28.out] at h; exact h
            have v29 : V 29 = (.string ⟨t.toArray⟩) := by have h := hall 29 (by decide); rw [E29.out] at h; exact h
            have v30 : V 30 = (.bool (!bl)) := by have h := hall 30 (by decide); rw [E30.out] at h; exact h
            have v31 : V 31 = (.bool (!bl)) := by have h := hall 31 (by decide); rw [E31.out] at h; exact h
            clear hall
            simp only [fillTo, Act.put, List.setIfInBounds_toArray, List.set_cons_succ, List.set_cons_zero, Nat.reduceAdd, Nat.zero_add, v0, v1, v2, v3, v4, v5, v6, v7, v8, v9, v10, v11, v12, v13, v14, v15, v16, v17, v18, v19, v20, v21, v22, v23, v24, v25, v26, v27, v29, v30, v31]
            clear v0 v1 v2 v3 v4 v5 v6 v7 v8 v9 v10 v11 v12 v13 v14 v15 v16 v17 v18 v19 v20 v21 v22 v23 v24 v25 v26 v27 v29 v30 v31
            have HBX := Lib.hid (HBEL.out.trans ((hg0.trans hg).mono (by omega)))
            have k0 := ((hg0.trans hg).cell (p := ⟨lb, lo + i * 3, none⟩) hlb).trans c0
            have k2 := ((hg0.trans hg).cell (p := ⟨lb, lo + i * 3 + 2, none⟩) hlb).trans c2
            have HTX := Lib.hid (HTRX.out wx (hg0.trans hg))
            clear hg h28 hg0 HTAG HTRX HBEL c0 c1 c2
            cases bl
            · have hne : tag ≠ t := by have := HBLT.out; simpa using this
              have hki : k = i := by have h := HKI.out; rw [HYES.out.2 hne] at h; exact h
              go_wp2_with fail
              go_ret2
              exact ⟨by rw [hki]; unfold verV; rw [if_neg (by omega)]; rfl, HBX.out⟩
            · have he : tag = t := by have := HBLT.out; simpa using this
              have hki := HKI.out
              rw [HYES.out.1 he] at hki
              have HKI2 := Lib.hid hki
              clear hki
              go_wp2_with fail
              go_roundw
              case rel =>
                exact ⟨i + 1, base + 1, tag, by omega, by go_num, rfl, by omega, by omega, q4, Part.of_reads HTX.out htnc htn (fun k hk => hk), by have := HKI2.out; omega, HBX.out⟩
              case measure => simp [intOf]; omega
        · have e3 : (r.seq != base + 1) = true := by simp; exact hy
          have hki : k = i := by have := HKI.out; rw [ver_no (fun h => hy h.2.1)] at this; omega
          go_wp2_with fail
          go_quiet (fail)
          go_wp2_with fail
          go_ret2
          exact ⟨by rw [hki]; unfold verV; rw [if_neg (by omega)]; rfl, below_drewN HBEL.out _⟩
    · obtain rfl : i = L.length := by omega
      have hki' : k = L.length := by rw [List.drop_length, ver_nil] at hki; omega
      have HBEL := Lib.hid hbel
      clear hpart hbel hki
      go_wp2_with fail
      go_ret2
      exact ⟨by rw [hki']; unfold verV; rw [if_pos rfl]; rfl, HBEL.out⟩
end Go.Proofs.Ytbjlmodabiadfaa
