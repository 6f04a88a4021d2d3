/- The vault of the reference in memory; THE WALKS of its New, Rotate, turn. -/
import Derived.Test.YtogpnlfbdhddmaaGreatDoorGVault
import Derived.Test.YtogpnlfbdhddmaaGreatDoorHRFfx3
import Derived.Test.YtogpnlfbdhddmaaGreatDoorHKey5
import Derived.Deep.RegionHeld3
import Derived.Test.YtogpnlfbdhddmaaGreatDoorHPan6
namespace Go.Proofs.YtogpnlfbdhddmaaGreatDoor
open Go.RowKit

/-- A vault of the reference at block xb; all of it lies in [B, U). -/
def RVauAt (w : World) (xb B U : Nat) (m : List UInt8) (t now : Nat) : Prop :=
  U ≤ w.heap.size ∧ B ≤ xb ∧ xb < U ∧ ∃ MA c, Blk w xb 52 #[.slice MA m.length c, .int .i64 t, .int .i64 now] ∧ Row w B 1 MA m.length c (bv m) ∧ ∀ ad, MA = some ad → ad.block < U ∧ ad.block ≠ xb
section
variable {w w' : World} {xb B U : Nat} {m : List UInt8} {t now : Nat}
theorem RVauAt.keep {S : Nat → Prop} (h : RVauAt w xb B U m t now) (hg : Grew S w w') (hS : ∀ k, B ≤ k → k < U → ¬ S k) : RVauAt w' xb B U m t now := by
  obtain ⟨h1, h2, h3, MA, c, h4, h5, h6⟩ := h
  have hs := hg.size
  exact ⟨by omega, h2, h3, MA, c, h4.grew hg (hS xb h2 h3), h5.grew hg fun ad e => hS _ (h5.lt ad e).1 (h6 ad e).1, h6⟩
theorem RVauAt.new (h : RVauAt w xb B U m t now) (hb : Below w.heap.size w w') : RVauAt w' xb B U m t now := h.keep (Grew.of_new (S := fun _ => False) hb) fun _ _ _ h => h
theorem RVauAt.set (h : RVauAt w xb B U m t now) (now' : Nat) : RVauAt (w.setCell ⟨xb, 2, none⟩ (.int .i64 now')) xb B U m t now' := by
  obtain ⟨h1, h2, h3, MA, c, h4, h5, h6⟩ := h
  have h7 := h4.set 2 (.int .i64 now')
  exact ⟨by simpa using h1, h2, h3, MA, c, h7, h5.far (fun ad e => (h6 ad e).2) _, h6⟩
end
/-! ### New -/
def RNewVau (m : List UInt8) (t v : Int) (w : World) (e : Ending) (w' : World) : Prop :=
  Below w.heap.size w w' ∧ ((vOk m t v = false ∧ e = .returned (.tuple #[.pointer none, .int .i64 1])) ∨
    (vOk m t v = true ∧ ∃ xb, e = .returned (.tuple #[.pointer (some ⟨xb, 0, none⟩), .int .i64 0]) ∧ RVauAt w' xb w.heap.size w'.heap.size m t.toNat v.toNat))
/-- What the reference's Key answers, but for the key. -/
theorem rKey_e (m : List UInt8) (A : Option Addr) (n c : Nat) (t v : Int) (w : World) (hr : Reads w w.heap.size 1 A n (bv m)) (hn : n ≤ 140737488351232) :
    Calls Tryz.prog 42 #[.slice A n c, .int .i64 t, .int .i64 1, .int .i64 v] w fun e w' => ∃ K : Value, e = .returned (.tuple #[K, .int .i64 (if keyOk t 1 v = true then 0 else 1)]) ∧ Below w.heap.size w w' := by
  cases hk : keyOk t 1 v with
  | false =>
    refine (rKey_no m A n c t 1 v w hk).mono fun e w' ⟨hb, h⟩ => ?_
    rcases h with ⟨_, he⟩ | ⟨h0, _⟩
    · exact ⟨_, by rw [he]; rfl, hb⟩
    · rw [hk] at h0; cases h0
  | true =>
    obtain ⟨k1, _, _, _, k5, _⟩ := keyOk_iff.1 hk
    obtain ⟨t, rfl⟩ := Int.eq_ofNat_of_zero_le (show 0 ≤ t by omega)
    obtain ⟨v, rfl⟩ := Int.eq_ofNat_of_zero_le (show 0 ≤ v by omega)
    refine (rKey_yes m A n c w.heap.size t 1 v w hr (Nat.le_refl _) hn hk).mono fun e w' ⟨hb, h⟩ => ?_
    rcases h with ⟨h0, _⟩ | ⟨_, A2, c2, he, _⟩
    · rw [hk] at h0; cases h0
    · exact ⟨_, by rw [he]; rfl, hb⟩
set_option maxRecDepth 100000 in
set_option maxHeartbeats 4000000 in
theorem rVNew_any (m : List UInt8) (A : Option Addr) (n c : Nat) (t v : Int) (w : World) (hr : Reads w w.heap.size 1 A n (bv m)) (hn : n ≤ 140737488351232) :
    Calls Tryz.prog 19 #[.slice A n c, .int .i64 t, .int .i64 v] w (RNewVau m t v w) := by
  have hml : m.length = n := by have := hr.1; rw [length_bv] at this; omega
  obtain ⟨i0, hi0, hz0, hz1, hz2⟩ := info_parts byte_info
  have HK := Lib.hid (rKey_e m A n c t v w hr hn)
  have HML := Lib.hid hml
  have HR := Lib.hid hr
  cases hok : vOk m t v with
  | true =>
    obtain ⟨h16, h64, hk⟩ := vOk_iff.1 hok
    rw [if_pos hk] at HK
    obtain ⟨k1, _, _, _, k5, _⟩ := keyOk_iff.1 hk
    obtain ⟨t, rfl⟩ := Int.eq_ofNat_of_zero_le (show 0 ≤ t by omega)
    obtain ⟨v, rfl⟩ := Int.eq_ofNat_of_zero_le (show 0 ≤ v by omega)
    have HM := Lib.hid (show mayB n = true from decide_eq_true (by omega))
    have HOK := Lib.hid hok
    clear hr hml hok hk k1
    go_enter Tryz.func19, Tryz.ntmps19
    go_wp2_with fail
    refine (May_any _ _ _ _).mono ?_
    rw [HM.out]
    rintro e w1 ⟨rfl, rfl⟩
    go_wp2_with fail
    refine HK.out.mono ?_
    rintro e w2 ⟨K, rfl, hb2⟩
    have HB2 := Lib.hid hb2
    have hs2 := hb2.size
    clear hb2
    go_wp2_with (at_builtin; refine wpList_append_row rfl (.tmp 26) (.tmp 27) rfl Tryz.underlying27 hi0 hz0 hz1 hz2 rfl (by decide) rfl (Row.lit w2 #[] 5 (n := 0) (base := w2.heap.size) (size := 1) rfl (Nat.le_refl _) (by unfold maxLen; omega)) rfl ((HR.out.below HB2.out).below (((Below.refl w2.heap.size w2).alloc (Nat.le_refl _) _).mono hs2)) (bv_one _) (by unfold maxLen; omega) (by omega) (by simp) ?_; intro A3 c3 w3 hrow3 hgr3 hat3; have HB3 : Hid (Below w2.heap.size w2 w3) := Lib.hid (((Below.refl _ _).alloc (Nat.le_refl _) _).grown hgr3 (by simp) (fun k hk => by simp at hk; omega)); have HR3 : Hid (Row w3 w2.heap.size 1 A3 n c3 (bv m)) := Lib.hid (by rw [Nat.zero_add] at hrow3; exact hrow3); clear hrow3 hgr3 hat3)
    go_ret2
    have hs3 := HB3.out.size
    refine ⟨(thenB HB2.out HB3.out).alloc (by omega) _, .inr ⟨HOK.out, w3.heap.size, rfl, Nat.le_refl _, by omega, by simp, A3, c3, by rw [HML.out]; exact Blk.new _ _ _, by rw [HML.out]; exact (HR3.out.mono hs2).alloc _, fun ad e => ?_⟩⟩
    have := (HR3.out.lt ad e).2
    exact ⟨by simp; omega, by omega⟩
  | false =>
    have HOK := Lib.hid hok
    by_cases hmay : 16 ≤ n ∧ n ≤ 64
    · have hk : keyOk t 1 v = false := by
        cases h : keyOk t 1 v with
        | false => rfl
        | true => have := (vOk_iff (m := m) (t := t) (v := v)).2 ⟨by omega, by omega, h⟩; rw [hok] at this; cases this
      rw [if_neg (by rw [hk]; decide)] at HK
      have HM := Lib.hid (show mayB n = true from decide_eq_true hmay)
      clear hr hml hok hk hmay
      go_enter Tryz.func19, Tryz.ntmps19
      go_wp2_with fail
      refine (May_any _ _ _ _).mono ?_
      rw [HM.out]
      rintro e w1 ⟨rfl, rfl⟩
      go_wp2_with fail
      refine HK.out.mono ?_
      rintro e w2 ⟨K, rfl, hb2⟩
      have HB2 := Lib.hid hb2
      clear hb2
      go_wp2_with fail
      go_ret2
      exact ⟨HB2.out, .inl ⟨HOK.out, rfl⟩⟩
    · have HM := Lib.hid (show mayB n = false from decide_eq_false hmay)
      generalize (if keyOk t 1 v = true then (0 : Int) else 1) = er at HK
      clear hr hml hok hmay
      go_enter Tryz.func19, Tryz.ntmps19
      go_wp2_with fail
      refine (May_any _ _ _ _).mono ?_
      rw [HM.out]
      rintro e w1 ⟨rfl, rfl⟩
      go_wp2_with fail
      refine HK.out.mono ?_
      rintro e w2 ⟨K, rfl, hb2⟩
      have HB2 := Lib.hid hb2
      clear hb2
      go_wp2_with fail
      go_ret2
      exact ⟨HB2.out, .inl ⟨HOK.out, rfl⟩⟩
/-! ### Rotate -/
theorem rRotate_yes (xb B U : Nat) (m : List UInt8) (t now : Nat) (w : World) (h : RVauAt w xb B U m t now) (hn : now < 255) :
    Calls Tryz.prog 23 #[.pointer (some ⟨xb, 0, none⟩)] w fun e w' => e = .returned (.tuple #[.int .i64 (now + 1 : Nat), .int .i64 0]) ∧ RVauAt w' xb B U m t (now + 1) ∧ Grew (· = xb) w w' := by
  have HS := Lib.hid (h.set (now + 1))
  obtain ⟨_, _, _, MA, c, h4, _, _⟩ := h
  have c2 : w.cell? ⟨xb, 2, none⟩ = some (.int .i64 now) := h4.cell 2
  have f2 := h4.frozen 2
  have t1 : ((now : Int) == 255) = false := beq_eq_false_iff_ne.2 (by omega)
  have t2 : (now : Int) < 255 := by omega
  clear h4
  go_enter Tryz.func23, Tryz.ntmps23
  go_wp2_with fail
  go_ret2
  exact ⟨rfl, HS.out, (Grew.refl (· = xb) w).set (p := ⟨xb, 2, none⟩) (.inl rfl) _⟩
theorem rRotate_no (xb B U : Nat) (m : List UInt8) (t now : Nat) (w : World) (h : RVauAt w xb B U m t now) (hn : now = 255) :
    Calls Tryz.prog 23 #[.pointer (some ⟨xb, 0, none⟩)] w fun e w' => e = .returned (.tuple #[.int .i64 0, .int .i64 14]) ∧ w = w' := by
  subst hn
  obtain ⟨_, _, _, MA, c, h4, _, _⟩ := h
  have c2 : w.cell? ⟨xb, 2, none⟩ = some (.int .i64 255) := h4.cell 2
  clear h4
  go_enter Tryz.func23, Tryz.ntmps23
  go_wp2_with fail
  go_ret2
  exact ⟨rfl, rfl⟩
/-! ### turn -/
def turnS (back : Bool) (k l : List UInt8) : List UInt8 := if back = true then shoS k l else hidS k l
set_option maxRecDepth 100000 in
set_option maxHeartbeats 8000000 in
theorem rturn_any (xb B U : Nat) (m : List UInt8) (t now v : Nat) (s : ByteArray) (back : Bool) (w : World) (h : RVauAt w xb B U m t now) (hm : m.length ≤ 64) (hk : keyOk t 1 v = true) (hsh : shapedB s.data.toList = true) :
    Calls Tryz.prog 45 #[.pointer (some ⟨xb, 0, none⟩), .string s, .int .i64 v, .bool back] w fun e w' => e = .returned (.string ⟨(turnS back (vKey m t v) s.data.toList).toArray⟩) ∧ Below w.heap.size w w' := by
  have hsz := size_toList s
  have hsm : s.size ≤ maxLen := by have := (shapedB_iff.1 hsh).2.2; unfold maxLen; omega
  have HCUT := Lib.hid (fun w => rCut_any s w hsm)
  obtain ⟨l, hl⟩ : ∃ l, l = s.data.toList := ⟨_, rfl⟩
  rw [← hl] at HCUT hsh ⊢
  obtain ⟨p1, p2, p3, p4, p5⟩ := parts_len hsh
  have HCR := Lib.hid (cutR_yes hsh)
  have hnm := nm_mid hsh
  have H := Lib.hid h
  obtain ⟨hU1, hU2, hU3, MA, mc, h4, h5, h6⟩ := h
  have hlt := h4.lt
  have HC := Lib.hid (fun w1 (hb : Below w.heap.size w w1) => show w1.cell? ⟨xb, 0, none⟩ = some (.slice MA m.length mc) ∧ w1.cell? ⟨xb, 1, none⟩ = some (.int .i64 t) from ⟨(h4.below hb hlt).cell 0, (h4.below hb hlt).cell 1⟩)
  have HRD := Lib.hid h5.reads
  have HK := Lib.hid hk
  obtain ⟨kk, hkk⟩ : ∃ kk, kk = vKey m t v := ⟨_, rfl⟩
  have hkl : kk.length = 32 := by rw [hkk]; exact length_vKey m t v
  obtain ⟨a, ha⟩ : ∃ a : ByteArray, a = ⟨(binP l).toArray⟩ := ⟨_, rfl⟩
  obtain ⟨b, hb⟩ : ∃ b : ByteArray, b = ⟨(midP l).toArray⟩ := ⟨_, rfl⟩
  obtain ⟨c, hc⟩ : ∃ c : ByteArray, c = ⟨(lastP l).toArray⟩ := ⟨_, rfl⟩
  rw [← ha, ← hb, ← hc] at HCR
  have had : a.data.toList = binP l := by rw [ha]
  have hbd : b.data.toList = midP l := by rw [hb]
  have hcd : c.data.toList = lastP l := by rw [hc]
  have hsa : a.size ≤ 6 := by rw [← size_toList, had, p1]; omega
  have hsb : b.size ≤ 9 := by rw [← size_toList, hbd, p2]; omega
  have hsc : c.size ≤ 4 := by rw [← size_toList, hcd, p3]; omega
  obtain ⟨tw, htw⟩ : ∃ tw, tw = twkP l := ⟨_, rfl⟩
  have htl : tw.length = 10 := by rw [htw]; exact twk_len hsh
  have hac : (a ++ c).data.toList = tw := by rw [htw]; show (a ++ c).data.toList = binP l ++ lastP l; rw [Go.Joins.data_append, had, hcd]
  obtain ⟨xe, hxe⟩ : ∃ xe : ByteArray, xe = ⟨(encT kk tw (midP l)).toArray⟩ := ⟨_, rfl⟩
  obtain ⟨xd, hxd⟩ : ∃ xd : ByteArray, xd = ⟨(decT kk tw (midP l)).toArray⟩ := ⟨_, rfl⟩
  have hse : xe.size ≤ 9 := by rw [hxe, len_arr, (dec_encT kk tw hnm).2.2, p2]; omega
  have hsd : xd.size ≤ 9 := by rw [hxd, len_arr, (enc_decT kk tw hnm).2.2, p2]; omega
  have HENC := Lib.hid (fun cb B U w (h : RCipAt w cb B U kk tw) => show Calls Tryz.prog 79 #[.pointer (some ⟨cb, 0, none⟩), .string b] w (fun e w' => e = .returned (.tuple #[.string xe, .int .i64 0]) ∧ Below w.heap.size w w') by
    have h1 := rFEncrypt_any cb B U kk tw b w h (.inr hkl) (by omega) (by unfold maxLen; omega)
    unfold encR at h1
    rw [hbd, hnm, if_pos rfl, ← hxe] at h1
    exact h1)
  have HDEC := Lib.hid (fun cb B U w (h : RCipAt w cb B U kk tw) => show Calls Tryz.prog 78 #[.pointer (some ⟨cb, 0, none⟩), .string b] w (fun e w' => e = .returned (.tuple #[.string xd, .int .i64 0]) ∧ Below w.heap.size w w') by
    have h1 := rFDecrypt_any cb B U kk tw b w h (.inr hkl) (by omega) (by unfold maxLen; omega)
    unfold decR at h1
    rw [hbd, hnm, if_pos rfl, ← hxd] at h1
    exact h1)
  have HE1 := Lib.hid (show (a ++ xe ++ c : ByteArray) = ⟨(hidS kk l).toArray⟩ by rw [ha, hxe, hc, vcat3, htw]; rfl)
  have HE2 := Lib.hid (show (a ++ xd ++ c : ByteArray) = ⟨(shoS kk l).toArray⟩ by rw [ha, hxd, hc, vcat3, htw]; rfl)
  have HAC := Lib.hid hac
  have HC0 := Lib.hid (cipE_ok (key := kk) (tw := tw) (.inr hkl) (by omega))
  have HKK := Lib.hid hkk
  rw [← hkk]
  clear h4 h5 h6 hk hkl hkk ha hb hc had hbd hcd hxe hxd hac htw hnm hsh p1 p2 p3 p4 p5 hl hsz hU1 hU2 hU3 hsm htl
  go_enter Tryz.func45, Tryz.ntmps45
  go_wp2_with fail
  refine (HCUT.out _).mono ?_
  rw [HCR.out]
  rintro e w1 ⟨rfl, hb1⟩
  have HB1 := Lib.hid hb1
  obtain ⟨c0, c1⟩ := HC.out w1 hb1
  have HKY := Lib.hid (show Calls Tryz.prog 42 #[.slice MA m.length mc, .int .i64 t, .int .i64 1, .int .i64 v] w1.drew (fun e w2 => ∃ KA kc, e = .returned (.tuple #[.slice KA 32 kc, .int .i64 0]) ∧ Row w2 w1.heap.size 1 KA 32 kc (bv kk) ∧ Below w.heap.size w w2) from (rKey_yes m MA m.length mc w1.heap.size t 1 v w1.drew ((HRD.out.below hb1).more hb1.size) (Nat.le_refl _) (by omega) HK.out).mono (by
    rintro e w2 ⟨hb2, ⟨h0, _⟩ | ⟨_, KA, kc, rfl, hrow⟩⟩
    · rw [HK.out] at h0; cases h0
    rw [Int.toNat_natCast, Int.toNat_natCast] at hrow
    exact ⟨KA, kc, rfl, by rw [HKK.out]; exact hrow, HB1.out.drew.trans (Below.mono (show Below w1.heap.size w1.drew w2 from hb2) HB1.out.size)⟩))
  clear hb1
  go_wp2_with fail
  go_region_held3 (fun w' => w'.cell? ⟨xb, 0, none⟩ = some (.slice MA m.length mc) ∧ w'.cell? ⟨xb, 1, none⟩ = some (.int .i64 t))
    (go_keep)
    (first
      | (go_at_call 42; refine HKY.out.mono ?_; rintro e w2 ⟨KA, kc, rfl, hrow2, hb2⟩; obtain ⟨d0, d1⟩ := HC.out w2 hb2; have HROW := Lib.hid hrow2; have HB2 := Lib.hid hb2; clear hrow2 hb2))
  clear c0 c1 HKY
  obtain ⟨c3, w3, hrun, hrow3, hb3⟩ := run_bytes_str (P := Tryz.prog) Tryz.underlying9 Tryz.underlying27 Tryz.underlying5 (a ++ c) (by simp only [ByteArray.size_append]; unfold maxLen; omega) w2
  have hs2 := HB2.out.size
  have hs3 := hb3.size
  rw [HAC.out] at hrow3
  obtain ⟨k10, hk10⟩ : ∃ k10, k10 = (a ++ c).size := ⟨_, rfl⟩
  rw [← hk10] at hrun hrow3
  have HB3 := Lib.hid (thenB HB2.out hb3)
  have HNW := Lib.hid (rNew10_any kk tw KA (some ⟨w2.heap.size, 0, none⟩) 32 kc k10 c3 w3 (HROW.out.below hb3 (Nat.le_refl _)).reads HROW.out.2.1 HROW.out.2.2.1 hrow3.reads)
  clear hrow3 hb3 hk10
  go_wp2_with fail
  refine HNW.out.mono ?_
  rintro e w4 ⟨hb4, ⟨h0, _⟩ | ⟨_, cb, rfl, hcip⟩⟩
  · exact absurd HC0.out h0
  have HB4 := Lib.hid (thenB HB3.out hb4)
  have HCIP := Lib.hid hcip
  clear hb4 hcip hrun
  cases back
  · have HE4 := Lib.hid (HENC.out cb _ _ w4 HCIP.out)
    go_wp2_with fail
    refine HE4.out.mono ?_
    rintro e w5 ⟨rfl, hb5⟩
    have HB5 := Lib.hid (thenB HB4.out hb5)
    clear hb5
    go_wp2_with fail
    go_ret
    exact ⟨by show Ending.returned (.string (a ++ xe ++ c)) = _; rw [HE1.out]; rfl, HB5.out⟩
  · have HE4 := Lib.hid (HDEC.out cb _ _ w4 HCIP.out)
    go_wp2_with fail
    refine HE4.out.mono ?_
    rintro e w5 ⟨rfl, hb5⟩
    have HB5 := Lib.hid (thenB HB4.out hb5)
    clear hb5
    go_wp2_with fail
    go_ret
    exact ⟨by show Ending.returned (.string (a ++ xd ++ c)) = _; rw [HE2.out]; rfl, HB5.out⟩
end Go.Proofs.YtogpnlfbdhddmaaGreatDoor
