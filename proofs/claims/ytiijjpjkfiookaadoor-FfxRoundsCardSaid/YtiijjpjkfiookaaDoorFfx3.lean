/- A cipher of ffx in memory; THE WALK of its mask. -/
import Derived.Test.YtiijjpjkfiookaaDoorFfx2
import Derived.Test.YtiijjpjkfiookaaDoorJoin
import Derived.Test.YtiijjpjkfiookaaDoorFacts2
import Derived.Test.YtiijjpjkfiookaaDoorFactsTail
namespace Go.Proofs.YtiijjpjkfiookaaDoor
open Go.RowKit

/-- A cipher at block cb; what it owns lies in blocks of X. -/
def CipAt (w : World) (cb : Nat) (X : Nat → Prop) (key tw : List UInt8) : Prop :=
  ∃ (kb : Nat) (A : Option Addr) (c : Nat), Blk w cb 62 #[.pointer (some ⟨kb, 0, none⟩), .slice A tw.length c] ∧ Row w 0 1 A tw.length c (bv tw) ∧ (∀ ad, A = some ad → X ad.block ∧ ad.block ≠ cb ∧ ad.block ≠ kb) ∧ KeyAt w kb X key ∧ X kb ∧ kb ≠ cb
section
variable {w w' : World} {cb : Nat} {X X' : Nat → Prop} {key tw : List UInt8}
theorem CipAt.lt (h : CipAt w cb X key tw) : cb < w.heap.size := by obtain ⟨_, _, _, hb, _⟩ := h; exact hb.lt
theorem CipAt.grew {S : Nat → Prop} (h : CipAt w cb X key tw) (hg : Grew S w w') (h1 : ¬ S cb) (h2 : ∀ k, X k → ¬ S k) : CipAt w' cb X key tw := by
  obtain ⟨kb, A, c, hb, hr, ha, hk, hx, hne⟩ := h
  exact ⟨kb, A, c, hb.grew hg h1, hr.grew hg (fun ad e => h2 _ (ha ad e).1), ha, hk.grew hg (h2 _ hx) h2, hx, hne⟩
theorem CipAt.mono (h : CipAt w cb X key tw) (hx : ∀ k, k < w.heap.size → X k → X' k) : CipAt w cb X' key tw := by
  obtain ⟨kb, A, c, hb, hr, ha, hk, hx2, hne⟩ := h
  exact ⟨kb, A, c, hb, hr, fun ad e => ⟨hx _ (hr.lt ad e).2 (ha ad e).1, (ha ad e).2⟩, hk.mono hx, hx _ hk.lt hx2, hne⟩
theorem CipAt.within (h : CipAt w cb X key tw) : CipAt w cb (fun k => X k ∧ k < w.heap.size) key tw := h.mono fun _ hk hx => ⟨hx, hk⟩
theorem CipAt.below {B : Nat} (h : CipAt w cb X key tw) (hb : Below B w w') (hB : w.heap.size ≤ B) : CipAt w' cb X key tw :=
  (h.within.grew (Grew.of_below (S := fun k => w.heap.size ≤ k) hb fun k hk hk2 => by omega) (by have := h.lt; omega) (fun k hk => by omega)).mono fun _ _ hx => hx.1
end
/-- A cipher behind work: only blocks of its own have turned. -/
def CipOut (cb : Nat) (X : Nat → Prop) (key tw : List UInt8) (w w' : World) : Prop :=
  ∃ X2 : Nat → Prop, (∀ k, X2 k → (X k ∧ k < w.heap.size) ∨ w.heap.size ≤ k) ∧ CipAt w' cb X2 key tw ∧ Grew X w w'
/-- The value lists these parts, with room. -/
def ListC (L : List (List UInt8)) (v : Value) (w : World) : Prop := ∃ A c B, v = .slice A L.length c ∧ L.length ≤ c ∧ B ≤ w.heap.size ∧ Parts w (· < B) A L
theorem ListC.grows {L : List (List UInt8)} {v : Value} {w w' : World} (h : ListC L v w) (g : Grows w w') : ListC L v w' := by
  obtain ⟨A, c, B, e, hc, hB, hp⟩ := h
  exact ⟨A, c, B, e, hc, Nat.le_trans hB (show Below _ _ _ from g).size, hp.keep fun k hk => (show Below _ _ _ from g).block k (by omega)⟩
theorem st_listc (L : List (List UInt8)) : Stable (ListC L) := fun _ _ _ h g => h.grows g
theorem ListC.lit {L : List (List UInt8)} {w : World} {t : TypeId} {cs : Array Value} (h : ∀ i (hi : i < L.length), ∃ v, cs[i]? = some v ∧ BytesV L[i] v w) (hm : ∀ l ∈ L, l.length ≤ 1000) : ListC L (.slice (some ⟨w.heap.size, 0, none⟩) L.length L.length) (w.alloc (.cells cs t)) :=
  ⟨_, L.length, w.heap.size + 1, rfl, Nat.le_refl _, by simp, (Parts.lit (R := (· < w.heap.size)) (fun i hi => by
    obtain ⟨v, h1, h2⟩ := h i hi
    exact ⟨v, h1, h2.part (Nat.le_trans (hm _ (List.getElem_mem hi)) (by decide))⟩) (fun k hk => hk)).mono fun k hk => by rcases hk with hk | hk <;> omega⟩
theorem join_v (L : List (List UInt8)) (v : Value) (w : World) (h : ListC L v w) (h2 : 2 ≤ L.length) (hlen : L.length ≤ 100) (h0 : 0 < L.flatten.length) (hsum : L.flatten.length ≤ 100000) :
    Calls Tryd.prog 55 #[v, .slice none 0 0] w (RowOut L.flatten w) := by
  obtain ⟨A, c, B, rfl, hc, -, hp⟩ := h
  exact Join_any L A c _ w hp h2 hc hlen h0 hsum
def h8 (n : Nat) : List UInt8 := [1, 2, 1, 0, 0, 10, 10, UInt8.ofNat (n / 2)]
theorem ffHead_eq (n : Nat) (tw : List UInt8) : [h8 n, numB n 4, numB tw.length 4, tw].flatten = ffHead n tw := by simp [h8, ffHead]
theorem ffIn_eq (n i x : Nat) (tw : List UInt8) : [ffHead n tw, List.replicate (padN tw.length (wdN n)) 0, ffTail i x (wdN n)].flatten = ffIn n i x tw := by simp [ffIn]
theorem andNot3 {m : Nat} (h : m ≤ 10) : bits .andNot .i64 (m : Int) 3 = ((m / 4 * 4 : Nat) : Int) := by
  have e : ∀ m : Nat, m < 11 → bits .andNot .i64 (m : Int) 3 = ((m / 4 * 4 : Nat) : Int) := by decide +kernel
  exact e m (by omega)
/-- The value is a row of its own from N on that reads these bytes. -/
def RowV (N : Nat) (l : List UInt8) (v : Value) (w : World) : Prop := ∃ A c, v = .slice A l.length c ∧ Row w N 1 A l.length c (bv l)
theorem st_rowv (N : Nat) (l : List UInt8) : Stable (RowV N l) := fun _ _ _ h g => by
  obtain ⟨A, c, e, hr⟩ := h
  exact ⟨A, c, e, hr.below g (Nat.le_refl _)⟩
/-- What mask answers. -/
def MaskOut (cb : Nat) (X : Nat → Prop) (key tw : List UInt8) (n i x : Nat) (w : World) (e : Ending) (w' : World) : Prop := e = .returned (.int .i64 (maskV key tw n i x : Nat)) ∧ CipOut cb X key tw w w'
set_option maxRecDepth 100000 in
set_option maxHeartbeats 8000000 in
theorem mask_any (cb : Nat) (X : Nat → Prop) (key tw : List UInt8) (n i x : Nat) (w : World) (h : CipAt w cb X key tw) (hk : key.length = 16 ∨ key.length = 32) (ht : tw.length ≤ 16) (h6 : 6 ≤ n) (h32 : n ≤ 32) (hi : i ≤ 9) (hx : x < 9223372036854775808) :
    Calls Tryd.prog 46 #[.pointer (some ⟨cb, 0, none⟩), .int .i64 n, .int .i64 i, .int .i64 x] w (MaskOut cb X key tw n i x w) := by
  obtain ⟨kb, A, c, hb, hr, ha, hkey, hxk, hne⟩ := h
  have hcl := hb.lt
  have hrc := hr.2.1
  have hrm := hr.2.2.1
  unfold maxLen at hrm
  obtain ⟨u, hu⟩ : ∃ u, u = n / 2 := ⟨_, rfl⟩
  have hu16 : u ≤ 16 := by omega
  have q0 : ((n : Nat) : Int).tdiv 2 = (u : Int) := by rw [Int.tdiv_eq_ediv_of_nonneg (by omega)]; omega
  have q1 : (n : Int) / 2 = (u : Int) := by omega
  have q2 : (n : Int) - (u : Int) = ((n - u : Nat) : Int) := by omega
  have HWD := Lib.hid (fun w => Width_any ((n - u : Nat) : Int) w)
  rw [widV_ok (show 1 ≤ n - u by omega) (show n - u ≤ 16 by omega), show cntB (10 ^ (n - u) - 1) = wdN n by rw [hu]; rfl] at HWD
  obtain ⟨wd, hwd⟩ : ∃ wd, wd = wdN n := ⟨_, rfl⟩
  have hw27 := wd_le h32 h6
  rw [← hwd] at HWD hw27
  obtain ⟨t, htl⟩ : ∃ t, t = tw.length := ⟨_, rfl⟩
  rw [← htl] at ht hr hrc hb
  have HU := Lib.hid hu
  have HWDE := Lib.hid hwd
  have HTL := Lib.hid htl
  have HB := Lib.hid hb
  have HR := Lib.hid hr
  have HA := Lib.hid ha
  have HKEY := Lib.hid hkey
  have HK := Lib.hid hk
  have HH8 := Lib.hid (show (UInt8.ofNat (n / 2)).toNat = u by rw [← hu]; exact u8_of (by omega))
  have hub : (u : Int) % 256 = (u : Int) := by omega
  have c0 : w.cell? ⟨cb, 0, none⟩ = some (.pointer (some ⟨kb, 0, none⟩)) := hb.cell 0
  have c1 : w.cell? ⟨cb, 1, none⟩ = some (.slice A t c) := hb.cell 1
  clear hb hr ha hkey hk hu hwd htl
  go_enter Tryd.func46, Tryd.ntmps46
  go_wp2_with fail
  refine (HWD.out _).mono ?_
  rintro e w1 ⟨rfl, hb1⟩
  have HB1 := Lib.hid hb1
  have hs1 := hb1.size
  have d1 : w1.cell? ⟨cb, 1, none⟩ = some (.slice A t c) := (hb1.cell (p := ⟨cb, 1, none⟩) hcl).trans c1
  have hcl1 : cb < w1.heap.size := by omega
  clear hb1 c0 c1
  go_wp2_with fail
  have hg0 : Below w1.heap.size w1 w1.drew := (Below.refl _ _).drew
  obtain ⟨F, hF⟩ : ∃ F, F = nthF [eqv (.int .i64 n), eqv (.int .i64 u), eqv (.int .u8 u), BytesV (h8 n), eqv (.int .i64 n), BytesV (numB n 4), eqv (.pointer (some ⟨cb, 0, none⟩)), eqv (.pointer (some ⟨cb, 0, none⟩)), eqv (.pointer (some ⟨cb, 1, none⟩)), eqv (.slice A t c), eqv (.int .i64 t), BytesV (numB t 4), eqv (.pointer (some ⟨cb, 0, none⟩)), eqv (.pointer (some ⟨cb, 0, none⟩)), eqv (.pointer (some ⟨cb, 1, none⟩)), eqv (.slice A t c), ListC [h8 n, numB n 4, numB t 4, tw], BytesV (ffHead n tw), BytesV (ffHead n tw)] := ⟨_, rfl⟩
  have E0 := Lib.hid (show F 0 = eqv (.int .i64 n) by rw [hF]; rfl)
  have E1 := Lib.hid (show F 1 = eqv (.int .i64 u) by rw [hF]; rfl)
  have E2 := Lib.hid (show F 2 = eqv (.int .u8 u) by rw [hF]; rfl)
  have E3 := Lib.hid (show F 3 = BytesV (h8 n) by rw [hF]; rfl)
  have E4 := Lib.hid (show F 4 = eqv (.int .i64 n) by rw [hF]; rfl)
  have E5 := Lib.hid (show F 5 = BytesV (numB n 4) by rw [hF]; rfl)
  have E6 := Lib.hid (show F 6 = eqv (.pointer (some ⟨cb, 0, none⟩)) by rw [hF]; rfl)
  have E7 := Lib.hid (show F 7 = eqv (.pointer (some ⟨cb, 0, none⟩)) by rw [hF]; rfl)
  have E8 := Lib.hid (show F 8 = eqv (.pointer (some ⟨cb, 1, none⟩)) by rw [hF]; rfl)
  have E9 := Lib.hid (show F 9 = eqv (.slice A t c) by rw [hF]; rfl)
  have E10 := Lib.hid (show F 10 = eqv (.int .i64 t) by rw [hF]; rfl)
  have E11 := Lib.hid (show F 11 = BytesV (numB t 4) by rw [hF]; rfl)
  have E12 := Lib.hid (show F 12 = eqv (.pointer (some ⟨cb, 0, none⟩)) by rw [hF]; rfl)
  have E13 := Lib.hid (show F 13 = eqv (.pointer (some ⟨cb, 0, none⟩)) by rw [hF]; rfl)
  have E14 := Lib.hid (show F 14 = eqv (.pointer (some ⟨cb, 1, none⟩)) by rw [hF]; rfl)
  have E15 := Lib.hid (show F 15 = eqv (.slice A t c) by rw [hF]; rfl)
  have E16 := Lib.hid (show F 16 = ListC [h8 n, numB n 4, numB t 4, tw] by rw [hF]; rfl)
  have E17 := Lib.hid (show F 17 = BytesV (ffHead n tw) by rw [hF]; rfl)
  have E18 := Lib.hid (show F 18 = BytesV (ffHead n tw) by rw [hF]; rfl)
  have hst : ∀ j v w w', F j v w → Grows w w' → F j v w' := by rw [hF]; exact nth_stable (by repeat (first | exact st_nil | exact st_eqv _ | exact st_any | exact st_bytes _ | exact st_listc _ | refine st_cons ?_ ?_))
  have HST0 := Lib.hid hst
  clear hF hst
  refine wp_region_facts F Grows (fun _ => True) (by kernel_rfl) (by kernel_rfl) grows_refl grows_trans HST0.out (trivial) ?_ ?_
  · intro V; refine ⟨?_, ?_, ?_, ?_, ?_, ?_, ?_, ?_, ?_, ?_, ?_, ?_, ?_, ?_, ?_, ?_, ?_, ?_, ?_, trivial⟩
    · intro wx hg hJ hdep
      clear hdep
      clear hg
      go_wp2_with fail
      exact ⟨rfl, grows_refl _, trivial, by rw [E0.out]; rfl⟩
    · intro wx hg hJ hdep
      have v0 : V 0 = (.int .i64 n) := by have h := hdep 0 rfl; rw [E0.out] at h; exact h
      clear hdep
      clear hg
      go_wp2_with fail
      exact ⟨rfl, grows_refl _, trivial, by rw [E1.out]; rfl⟩
    · intro wx hg hJ hdep
      have v1 : V 1 = (.int .i64 u) := by have h := hdep 1 rfl; rw [E1.out] at h; exact h
      clear hdep
      clear hg
      go_wp2_with fail
      exact ⟨rfl, grows_refl _, trivial, by rw [E2.out]; rfl⟩
    · intro wx hg hJ hdep
      have v2 : V 2 = (.int .u8 u) := by have h := hdep 2 rfl; rw [E2.out] at h; exact h
      clear hdep
      clear hg
      go_wp2_with fail
      have hb8 : bv (h8 n) = [.int .u8 1, .int .u8 2, .int .u8 1, .int .u8 0, .int .u8 0, .int .u8 10, .int .u8 10, .int .u8 u] := by unfold h8 bv; simp [HH8.out]
      have hrow := Row.lit wx #[.int .u8 1, .int .u8 2, .int .u8 1, .int .u8 0, .int .u8 0, .int .u8 10, .int .u8 10, .int .u8 u] 5 (n := 8) (size := 1) (base := wx.heap.size) rfl (Nat.le_refl _) (by decide)
      exact ⟨rfl, (Below.refl _ _).alloc (Nat.le_refl _) _, trivial, by rw [E3.out]; refine BytesV.of_row (base := wx.heap.size) ?_; rw [hb8]; exact hrow⟩
    · intro wx hg hJ hdep
      clear hdep
      clear hg
      go_wp2_with fail
      exact ⟨rfl, grows_refl _, trivial, by rw [E4.out]; rfl⟩
    · intro wx hg hJ hdep
      have v4 : V 4 = (.int .i64 n) := by have h := hdep 4 rfl; rw [E4.out] at h; exact h
      clear hdep
      clear hg
      go_wp2_with fail
      refine (number_any n 4 wx (by decide) (by omega)).mono ?_
      rintro e w2 ⟨A5, c5, rfl, hv5, hb5⟩
      have HV5 := Lib.hid hv5
      have HG5 := Lib.hid hb5
      clear hv5 hb5
      go_wp2_with fail
      exact ⟨rfl, HG5.out, trivial, by rw [E5.out]; exact BytesV.of_row HV5.out⟩
    · intro wx hg hJ hdep
      clear hdep
      clear hg
      go_wp2_with fail
      exact ⟨rfl, grows_refl _, trivial, by rw [E6.out]; rfl⟩
    · intro wx hg hJ hdep
      have v6 : V 6 = (.pointer (some ⟨cb, 0, none⟩)) := by have h := hdep 6 rfl; rw [E6.out] at h; exact h
      clear hdep
      clear hg
      go_wp2_with fail
      exact ⟨rfl, grows_refl _, trivial, by rw [E7.out]; rfl⟩
    · intro wx hg hJ hdep
      have v7 : V 7 = (.pointer (some ⟨cb, 0, none⟩)) := by have h := hdep 7 rfl; rw [E7.out] at h; exact h
      clear hdep
      clear hg
      go_wp2_with fail
      exact ⟨rfl, grows_refl _, trivial, by rw [E8.out]; rfl⟩
    · intro wx hg hJ hdep
      have v8 : V 8 = (.pointer (some ⟨cb, 1, none⟩)) := by have h := hdep 8 rfl; rw [E8.out] at h; exact h
      clear hdep
      have k1 := ((hg0.trans hg).cell (p := ⟨cb, 1, none⟩) hcl1).trans d1
      clear hg
      go_wp2_with fail
      exact ⟨rfl, grows_refl _, trivial, by rw [E9.out]; rfl⟩
    · intro wx hg hJ hdep
      have v9 : V 9 = (.slice A t c) := by have h := hdep 9 rfl; rw [E9.out] at h; exact h
      clear hdep
      clear hg
      go_wp2_with fail
      exact ⟨rfl, grows_refl _, trivial, by rw [E10.out]; rfl⟩
    · intro wx hg hJ hdep
      have v10 : V 10 = (.int .i64 t) := by have h := hdep 10 rfl; rw [E10.out] at h; exact h
      clear hdep
      clear hg
      go_wp2_with fail
      refine (number_any t 4 wx (by decide) (by omega)).mono ?_
      rintro e w2 ⟨A5, c5, rfl, hv5, hb5⟩
      have HV5 := Lib.hid hv5
      have HG5 := Lib.hid hb5
      clear hv5 hb5
      go_wp2_with fail
      exact ⟨rfl, HG5.out, trivial, by rw [E11.out]; exact BytesV.of_row HV5.out⟩
    · intro wx hg hJ hdep
      clear hdep
      clear hg
      go_wp2_with fail
      exact ⟨rfl, grows_refl _, trivial, by rw [E12.out]; rfl⟩
    · intro wx hg hJ hdep
      have v12 : V 12 = (.pointer (some ⟨cb, 0, none⟩)) := by have h := hdep 12 rfl; rw [E12.out] at h; exact h
      clear hdep
      clear hg
      go_wp2_with fail
      exact ⟨rfl, grows_refl _, trivial, by rw [E13.out]; rfl⟩
    · intro wx hg hJ hdep
      have v13 : V 13 = (.pointer (some ⟨cb, 0, none⟩)) := by have h := hdep 13 rfl; rw [E13.out] at h; exact h
      clear hdep
      clear hg
      go_wp2_with fail
      exact ⟨rfl, grows_refl _, trivial, by rw [E14.out]; rfl⟩
    · intro wx hg hJ hdep
      have v14 : V 14 = (.pointer (some ⟨cb, 1, none⟩)) := by have h := hdep 14 rfl; rw [E14.out] at h; exact h
      clear hdep
      have k1 := ((hg0.trans hg).cell (p := ⟨cb, 1, none⟩) hcl1).trans d1
      clear hg
      go_wp2_with fail
      exact ⟨rfl, grows_refl _, trivial, by rw [E15.out]; rfl⟩
    · intro wx hg hJ hdep
      have h3 : (BytesV (h8 n)) (V 3) wx := by have h := hdep 3 rfl; rw [E3.out] at h; exact h
      have h5 : (BytesV (numB n 4)) (V 5) wx := by have h := hdep 5 rfl; rw [E5.out] at h; exact h
      have h11 : (BytesV (numB t 4)) (V 11) wx := by have h := hdep 11 rfl; rw [E11.out] at h; exact h
      have v15 : V 15 = (.slice A t c) := by have h := hdep 15 rfl; rw [E15.out] at h; exact h
      clear hdep
      have htw : BytesV tw (.slice A t c) wx := BytesV.of_row ((HR.out.below HB1.out (Nat.le_refl _)).below (hg0.trans hg) (Nat.le_refl _))
      have HL := Lib.hid (fun (t' : TypeId) => ListC.lit (L := [h8 n, numB n 4, numB t 4, tw]) (w := wx) (t := t') (cs := #[V 3, V 5, V 11, .slice A t c]) (fun i hi => by
        have h4 : i < 4 := hi
        have : i = 0 ∨ i = 1 ∨ i = 2 ∨ i = 3 := by omega
        rcases this with rfl | rfl | rfl | rfl
        · exact ⟨_, rfl, h3⟩
        · exact ⟨_, rfl, h5⟩
        · exact ⟨_, rfl, h11⟩
        · exact ⟨_, rfl, htw⟩) (by
        intro l hl
        simp at hl
        rcases hl with rfl | rfl | rfl | rfl
        · simp [h8]
        · rw [length_numB]; decide
        · rw [length_numB]; decide
        · have := HTL.out; omega))
      obtain ⟨A3, n3, c3, e3⟩ := h3.form
      obtain ⟨A5, n5, c5, e5⟩ := h5.form
      obtain ⟨A11, n11, c11, e11⟩ := h11.form
      rw [e3, e5, e11] at HL
      rw [e3, e5, e11]
      clear hg h3 h5 h11 htw
      go_wp2_with fail
      exact ⟨rfl, (Below.refl _ _).alloc (Nat.le_refl _) _, trivial, by rw [E16.out]; exact HL.out _⟩
    · intro wx hg hJ hdep
      have h16 : (ListC [h8 n, numB n 4, numB t 4, tw]) (V 16) wx := by have h := hdep 16 rfl; rw [E16.out] at h; exact h
      clear hdep
      have hl : [h8 n, numB n 4, numB t 4, tw].flatten = ffHead n tw := by rw [HTL.out]; exact ffHead_eq n tw
      have hll := length_ffHead n tw
      have htt := HTL.out
      have hm := join_v [h8 n, numB n 4, numB t 4, tw] (V 16) wx h16 (show 2 ≤ 4 by decide) (show 4 ≤ 100 by decide) (by rw [hl]; omega) (by rw [hl]; omega)
      rw [hl] at hm
      have HM := Lib.hid hm
      obtain ⟨A16, c16, B16, e16, _⟩ := h16
      have e16' : V 16 = .slice A16 4 c16 := e16
      rw [e16'] at HM
      rw [e16']
      clear hg hm hl hll htt
      go_wp2_with fail
      refine HM.out.mono ?_
      rintro e w2 ⟨A5, c5, rfl, hv5, hb5⟩
      have HV5 := Lib.hid hv5
      have HG5 := Lib.hid hb5
      clear hv5 hb5
      go_wp2_with fail
      exact ⟨rfl, HG5.out, trivial, by rw [E17.out]; exact BytesV.of_row HV5.out⟩
    · intro wx hg hJ hdep
      have h17 : (BytesV (ffHead n tw)) (V 17) wx := by have h := hdep 17 rfl; rw [E17.out] at h; exact h
      clear hdep
      have H17 := Lib.hid h17
      obtain ⟨A17, n17, c17, e17⟩ := h17.form
      rw [e17] at H17
      rw [e17]
      clear hg h17
      go_wp2_with fail
      exact ⟨rfl, grows_refl _, trivial, by rw [E18.out]; exact H17.out⟩
  · intro V wx hg hJ hall
    have v0 : V 0 = (.int .i64 n) := by have h := hall 0 (by decide); rw [E0.out] at h; exact h
    have v1 : V 1 = (.int .i64 u) := by have h := hall 1 (by decide); rw [E1.out] at h; exact h
    have v2 : V 2 = (.int .u8 u) := by have h := hall 2 (by decide); rw [E2.out] at h; exact h
    have h3 : (BytesV (h8 n)) (V 3) wx := by have h := hall 3 (by decide); rw [E3.out] at h; exact h
    have v4 : V 4 = (.int .i64 n) := by have h := hall 4 (by decide); rw [E4.out] at h; exact h
    have h5 : (BytesV (numB n 4)) (V 5) wx := by have h := hall 5 (by decide); rw [E5.out] at h; exact h
    have v6 : V 6 = (.pointer (some ⟨cb, 0, none⟩)) := by have h := hall 6 (by decide); rw [E6.out] at h; exact h
    have v7 : V 7 = (.pointer (some ⟨cb, 0, none⟩)) := by have h := hall 7 (by decide); rw [E7.out] at h; exact h
    have v8 : V 8 = (.pointer (some ⟨cb, 1, none⟩)) := by have h := hall 8 (by decide); rw [E8.out] at h; exact h
    have v9 : V 9 = (.slice A t c) := by have h := hall 9 (by decide); rw [E9.out] at h; exact h
    have v10 : V 10 = (.int .i64 t) := by have h := hall 10 (by decide); rw [E10.out] at h; exact h
    have h11 : (BytesV (numB t 4)) (V 11) wx := by have h := hall 11 (by decide); rw [E11.out] at h; exact h
    have v12 : V 12 = (.pointer (some ⟨cb, 0, none⟩)) := by have h := hall 12 (by decide); rw [E12.out] at h; exact h
    have v13 : V 13 = (.pointer (some ⟨cb, 0, none⟩)) := by have h := hall 13 (by decide); rw [E13.out] at h; exact h
    have v14 : V 14 = (.pointer (some ⟨cb, 1, none⟩)) := by have h := hall 14 (by decide); rw [E14.out] at h; exact h
    have v15 : V 15 = (.slice A t c) := by have h := hall 15 (by decide); rw [E15.out] at h; exact h
    have h16 : (ListC [h8 n, numB n 4, numB t 4, tw]) (V 16) wx := by have h := hall 16 (by decide); rw [E16.out] at h; exact h
    have h17 : (BytesV (ffHead n tw)) (V 17) wx := by have h := hall 17 (by decide); rw [E17.out] at h; exact h
    have h18 : (BytesV (ffHead n tw)) (V 18) wx := by have h := hall 18 (by decide); rw [E18.out] at h; exact h
    clear hall
    simp only [fillTo, Act.put, List.setIfInBounds_toArray, List.set_cons_succ, List.set_cons_zero, Nat.reduceAdd, Nat.zero_add, v0, v1, v2, v4, v6, v7, v8, v9, v10, v12, v13, v14, v15]
    clear v0 v1 v2 v4 v6 v7 v8 v9 v10 v12 v13 v14 v15
    obtain ⟨A10, n10, c10, hv10⟩ := h18.form
    have hbx := hg0.trans hg
    have HBY10 := Lib.hid h18
    have HBX := Lib.hid (HB1.out.trans (hbx.mono hs1))
    have hsx := hbx.size
    rw [hv10] at HBY10
    rw [hv10]
    have d1x := (hbx.cell (p := ⟨cb, 1, none⟩) hcl1).trans d1
    clear hg h3 h5 h11 h16 h17 h18 hbx hv10 d1 HWD q0 q1 q2
    have hcx : cb < wx.heap.size := by omega
    obtain ⟨i0, hi0, hz0, hz1, hz2⟩ := info_parts byte_info
    have hib : (i : Int) % 256 = (i : Int) := by omega
    have HN := Lib.hid (fun w => number_any x wd w (by omega) hx)
    go_wp2_with fail
    refine (HN.out _).mono ?_
    rintro e w3 ⟨A3, c3, rfl, hr3, hb3⟩
    rw [length_numB] at hr3
    rw [length_numB]
    have hlit := (Row.lit wx #[.int .u8 i] 5 (n := 1) (size := 1) (base := wx.heap.size) rfl (Nat.le_refl _) (by decide)).below hb3 (Nat.le_refl _)
    have HLIT := Lib.hid hlit
    have HR3 := Lib.hid hr3
    have HB3 := Lib.hid (((Below.refl wx.heap.size wx).alloc (Nat.le_refl _) (.cells #[.int .u8 i] 5)).trans (hb3.mono (by simp)))
    clear hlit hr3 hb3 HN
    have hsx3 := HB3.out.size
    go_upto_region 4 with (at_builtin; refine wpList_append_row rfl (.tmp 41) (.tmp 44) rfl Tryd.underlying32 hi0 hz0 hz1 hz2 rfl (by decide) rfl HLIT.out rfl HR3.out.reads (bv_one _) (by unfold maxLen; omega) (by omega) (by omega) ?_; intro A11 c11 w4 hrow4 hgr4 hat4)
    have hb4 : Below wx.heap.size wx w4 := HB3.out.grown hgr4 hsx3 (fun j hj => by have e : wx.heap.size = j := Option.some.inj hj; omega)
    have HB4 := Lib.hid hb4
    have hrow4' : Row w4 wx.heap.size 1 A11 (1 + wd) c11 (bv (ffTail i x wd)) := by
      have e : bv (ffTail i x wd) = [.int .u8 i] ++ bv (numB x wd) := by
        unfold ffTail
        rw [show (UInt8.ofNat i :: numB x wd) = [UInt8.ofNat i] ++ numB x wd from rfl, bv_append]
        congr 1
        simp only [bv, List.map_cons, List.map_nil]
        rw [u8_of (show i < 256 by omega)]
      rw [e]; exact hrow4
    have HR4 := Lib.hid hrow4'
    have hs4 := hb4.size
    have d4 := (hb4.cell (p := ⟨cb, 1, none⟩) hcx).trans d1x
    obtain ⟨pd, hpd⟩ : ∃ pd, pd = padN t wd := ⟨_, rfl⟩
    have HPD := Lib.hid hpd
    have hpl : pd < 16 := by rw [hpd]; exact Nat.mod_lt _ (by decide)
    have hpi : ((48 : Int) - (t : Int) - (1 + (wd : Int))) % 16 = (pd : Int) := by rw [hpd]; unfold padN; omega
    have hpt : ((48 : Int) - (t : Int) - (1 + (wd : Int))).tmod 16 = (pd : Int) := by rw [Int.tmod_eq_emod_of_nonneg (by omega)]; exact hpi
    have hmk := fun W => run_make (P := Tryd.prog) W 32 5 i0 (.int .u8 0) Tryd.underlying32 hi0 hz0 .i64 .i64 pd (pd : Int) (by omega) (by omega) (by rw [hz2]; omega) (by omega)
    rw [hz1, show ((pd : Int)).toNat = pd by omega, Nat.mul_one] at hmk
    have hrowF := made_row w4 (.int .u8 0) 5 pd pd (by omega) (by unfold maxLen; omega)
    clear hpd hrow4 hrow4' hgr4 hat4 hb4 hi0 hz0 hz1 hz2 HLIT HR3 d1x HB3
    obtain ⟨w5, hw5⟩ : ∃ w5, w5 = w4.alloc (.cells (madeCells #[.int .u8 0] pd) 5) := ⟨_, rfl⟩
    have HW5 := Lib.hid hw5
    rw [← hw5] at hrowF
    have HRF := Lib.hid hrowF
    have hb5 : Below w4.heap.size w4 w5 := by rw [hw5]; exact (Below.refl _ _).alloc (Nat.le_refl _) _
    have HB5 := Lib.hid hb5
    have hs5 := hb5.size
    have c50 : w5.cell? ⟨cb, 0, none⟩ = some (.pointer (some ⟨kb, 0, none⟩)) := by
      refine (hb5.cell (p := ⟨cb, 0, none⟩) (by show cb < w4.heap.size; omega)).trans ((HB4.out.cell (p := ⟨cb, 0, none⟩) hcx).trans ((HBX.out.cell (p := ⟨cb, 0, none⟩) hcl).trans (HB.out.cell 0)))
    clear hw5 hrowF hb5
    go_wp2_with fail
    rw [show w4.alloc (.cells (madeCells #[.int .u8 0] pd) 5) = w5 from HW5.out.symm]
    have hg5 : Below w5.heap.size w5 w5.drew := (Below.refl _ _).drew
    have hcx5 : cb < w5.heap.size := by omega
    clear hmk hpi hpt d4
    skip
    obtain ⟨F, hF⟩ : ∃ F, F = nthF [eqv (.pointer (some ⟨cb, 0, none⟩)), eqv (.pointer (some ⟨cb, 0, none⟩)), eqv (.pointer (some ⟨cb, 0, none⟩)), eqv (.agg #[.pointer (some ⟨kb, 0, none⟩)]), eqv (.slice A10 n10 c10), eqv (.slice (some ⟨w4.heap.size, 0, none⟩) pd pd), eqv (.slice A11 (1 + wd) c11), ListC [ffHead n tw, List.replicate pd 0, ffTail i x wd], RowV w5.heap.size (ffIn n i x tw)] := ⟨_, rfl⟩
    have E0 := Lib.hid (show F 0 = eqv (.pointer (some ⟨cb, 0, none⟩)) by rw [hF]; rfl)
    have E1 := Lib.hid (show F 1 = eqv (.pointer (some ⟨cb, 0, none⟩)) by rw [hF]; rfl)
    have E2 := Lib.hid (show F 2 = eqv (.pointer (some ⟨cb, 0, none⟩)) by rw [hF]; rfl)
    have E3 := Lib.hid (show F 3 = eqv (.agg #[.pointer (some ⟨kb, 0, none⟩)]) by rw [hF]; rfl)
    have E4 := Lib.hid (show F 4 = eqv (.slice A10 n10 c10) by rw [hF]; rfl)
    have E5 := Lib.hid (show F 5 = eqv (.slice (some ⟨w4.heap.size, 0, none⟩) pd pd) by rw [hF]; rfl)
    have E6 := Lib.hid (show F 6 = eqv (.slice A11 (1 + wd) c11) by rw [hF]; rfl)
    have E7 := Lib.hid (show F 7 = ListC [ffHead n tw, List.replicate pd 0, ffTail i x wd] by rw [hF]; rfl)
    have E8 := Lib.hid (show F 8 = RowV w5.heap.size (ffIn n i x tw) by rw [hF]; rfl)
    have hst : ∀ j v w w', F j v w → Grows w w' → F j v w' := by rw [hF]; exact nth_stable (by repeat (first | exact st_nil | exact st_eqv _ | exact st_any | exact st_bytes _ | exact st_listc _ | exact st_rowv _ _ | refine st_cons ?_ ?_))
    have HST0 := Lib.hid hst
    clear hF hst
    refine wp_region_facts_tail 9 F Grows (fun _ => True) (by kernel_rfl) (by kernel_rfl) (by kernel_rfl) (by decide) grows_refl grows_trans HST0.out (trivial) ?_ ?_
    · intro V; refine ⟨?_, ?_, ?_, ?_, ?_, ?_, ?_, ?_, ?_, trivial⟩
      · intro wx hg hJ hdep
        clear hdep
        clear hg
        go_wp2_with fail
        exact ⟨rfl, grows_refl _, trivial, by rw [E0.out]; rfl⟩
      · intro wx hg hJ hdep
        have v0 : V 0 = (.pointer (some ⟨cb, 0, none⟩)) := by have h := hdep 0 rfl; rw [E0.out] at h; exact h
        clear hdep
        clear hg
        go_wp2_with fail
        exact ⟨rfl, grows_refl _, trivial, by rw [E1.out]; rfl⟩
      · intro wx hg hJ hdep
        have v1 : V 1 = (.pointer (some ⟨cb, 0, none⟩)) := by have h := hdep 1 rfl; rw [E1.out] at h; exact h
        clear hdep
        clear hg
        go_wp2_with fail
        exact ⟨rfl, grows_refl _, trivial, by rw [E2.out]; rfl⟩
      · intro wx hg hJ hdep
        have v2 : V 2 = (.pointer (some ⟨cb, 0, none⟩)) := by have h := hdep 2 rfl; rw [E2.out] at h; exact h
        clear hdep
        have k1 := ((hg5.trans hg).cell (p := ⟨cb, 0, none⟩) hcx5).trans c50
        clear hg
        go_wp2_with fail
        exact ⟨rfl, grows_refl _, trivial, by rw [E3.out]; rfl⟩
      · intro wx hg hJ hdep
        clear hdep
        clear hg
        go_wp2_with fail
        exact ⟨rfl, grows_refl _, trivial, by rw [E4.out]; rfl⟩
      · intro wx hg hJ hdep
        clear hdep
        clear hg
        go_wp2_with fail
        exact ⟨rfl, grows_refl _, trivial, by rw [E5.out]; rfl⟩
      · intro wx hg hJ hdep
        clear hdep
        clear hg
        go_wp2_with fail
        exact ⟨rfl, grows_refl _, trivial, by rw [E6.out]; rfl⟩
      · intro wx hg hJ hdep
        have v4 : V 4 = (.slice A10 n10 c10) := by have h := hdep 4 rfl; rw [E4.out] at h; exact h
        have v5 : V 5 = (.slice (some ⟨w4.heap.size, 0, none⟩) pd pd) := by have h := hdep 5 rfl; rw [E5.out] at h; exact h
        have v6 : V 6 = (.slice A11 (1 + wd) c11) := by have h := hdep 6 rfl; rw [E6.out] at h; exact h
        clear hdep
        have hbw := hg5.trans hg
        have hh1 : BytesV (ffHead n tw) (.slice A10 n10 c10) wx := ((HBY10.out.grows HB4.out).grows HB5.out).grows hbw
        have hh2 : BytesV (List.replicate pd 0) (.slice (some ⟨w4.heap.size, 0, none⟩) pd pd) wx := by
          have h9 := HRF.out.below hbw (Nat.le_refl _)
          refine BytesV.of_row (base := w4.heap.size) ?_
          have e : bv (List.replicate pd 0) = List.replicate pd (.int .u8 0) := by simp [bv]
          rw [e]; exact h9
        have hh3 : BytesV (ffTail i x wd) (.slice A11 (1 + wd) c11) wx := BytesV.of_row ((HR4.out.below HB5.out (Nat.le_refl _)).below hbw (Nat.le_refl _))
        have HL := Lib.hid (fun (t' : TypeId) => ListC.lit (L := [ffHead n tw, List.replicate pd 0, ffTail i x wd]) (w := wx) (t := t') (cs := #[.slice A10 n10 c10, .slice (some ⟨w4.heap.size, 0, none⟩) pd pd, .slice A11 (1 + wd) c11]) (fun j hj => by
          have h4 : j < 3 := hj
          have : j = 0 ∨ j = 1 ∨ j = 2 := by omega
          rcases this with rfl | rfl | rfl
          · exact ⟨_, rfl, hh1⟩
          · exact ⟨_, rfl, hh2⟩
          · exact ⟨_, rfl, hh3⟩) (by
          intro l hl
          simp at hl
          rcases hl with rfl | rfl | rfl
          · rw [length_ffHead]; have := HTL.out; omega
          · simp; omega
          · rw [length_ffTail]; omega))
        clear hg hh1 hh2 hh3 hbw
        go_wp2_with fail
        exact ⟨rfl, (Below.refl _ _).alloc (Nat.le_refl _) _, trivial, by rw [E7.out]; exact HL.out _⟩
      · intro wx hg hJ hdep
        have h7 : (ListC [ffHead n tw, List.replicate pd 0, ffTail i x wd]) (V 7) wx := by have h := hdep 7 rfl; rw [E7.out] at h; exact h
        clear hdep
        have hl : [ffHead n tw, List.replicate pd 0, ffTail i x wd].flatten = ffIn n i x tw := by rw [HPD.out, HTL.out, HWDE.out]; exact ffIn_eq n i x tw
        have htt := HTL.out
        have hll := length_inB n i x tw (by omega) h32 h6
        have hll2 : 0 < (ffIn n i x tw).length := by unfold ffIn; rw [List.length_append, length_ffHead]; omega
        have hm := join_v [ffHead n tw, List.replicate pd 0, ffTail i x wd] (V 7) wx h7 (show 2 ≤ 3 by decide) (show 3 ≤ 100 by decide) (by rw [hl]; exact hll2) (by rw [hl]; omega)
        rw [hl] at hm
        have HM := Lib.hid hm
        obtain ⟨A16, c16, B16, e16, _⟩ := h7
        have e16' : V 7 = .slice A16 3 c16 := e16
        have hsz := (hg5.trans hg).size
        rw [e16'] at HM
        rw [e16']
        clear hg hm hl hll hll2 htt
        go_wp2_with fail
        refine HM.out.mono ?_
        rintro e w6 ⟨A5, c5, rfl, hv5, hb5⟩
        have HV5 := Lib.hid hv5
        have HG5 := Lib.hid hb5
        clear hv5 hb5
        go_wp2_with fail
        exact ⟨rfl, HG5.out, trivial, by rw [E8.out]; exact ⟨_, _, rfl, HV5.out.mono hsz⟩⟩
    · intro V wx hg hJ hall
      have v0 : V 0 = (.pointer (some ⟨cb, 0, none⟩)) := by have h := hall 0 (by decide); rw [E0.out] at h; exact h
      have v1 : V 1 = (.pointer (some ⟨cb, 0, none⟩)) := by have h := hall 1 (by decide); rw [E1.out] at h; exact h
      have v2 : V 2 = (.pointer (some ⟨cb, 0, none⟩)) := by have h := hall 2 (by decide); rw [E2.out] at h; exact h
      have v3 : V 3 = (.agg #[.pointer (some ⟨kb, 0, none⟩)]) := by have h := hall 3 (by decide); rw [E3.out] at h; exact h
      have v4 : V 4 = (.slice A10 n10 c10) := by have h := hall 4 (by decide); rw [E4.out] at h; exact h
      have v5 : V 5 = (.slice (some ⟨w4.heap.size, 0, none⟩) pd pd) := by have h := hall 5 (by decide); rw [E5.out] at h; exact h
      have v6 : V 6 = (.slice A11 (1 + wd) c11) := by have h := hall 6 (by decide); rw [E6.out] at h; exact h
      have h7 : (ListC [ffHead n tw, List.replicate pd 0, ffTail i x wd]) (V 7) wx := by have h := hall 7 (by decide); rw [E7.out] at h; exact h
      have h8 : (RowV w5.heap.size (ffIn n i x tw)) (V 8) wx := by have h := hall 8 (by decide); rw [E8.out] at h; exact h
      clear hall
      simp only [List.take_succ_cons, List.take_zero, List.drop_succ_cons, List.drop_zero, fillTo, Act.put, List.setIfInBounds_toArray, List.set_cons_succ, List.set_cons_zero, Nat.reduceAdd, Nat.zero_add, v0, v1, v2, v3, v4, v5, v6]
      clear v0 v1 v2 v3 v4 v5 v6
      obtain ⟨A8, c8, hv8, hrow8⟩ := h8
      have hbz := hg5.trans hg
      have hsz := hbz.size
      have hin := length_inB n i x tw (by have := HTL.out; omega) h32 h6
      have hkz := (((HKEY.out.below HBX.out (Nat.le_refl _)).below HB4.out (Nat.le_refl _)).below HB5.out (Nat.le_refl _)).below hbz (Nat.le_refl _)
      have hkbl : kb < w.heap.size := HKEY.out.lt
      have HCH := Lib.hid (chain_any kb wx.heap.size X key (ffIn n i x tw) A8 c8 wx hkz HK.out hrow8.reads (Nat.le_refl _) (fun ad e => by have := (hrow8.lt ad e).1; omega) hrow8.2.1 hrow8.2.2.1 hin.1)
      have HBZ := Lib.hid ((((HBX.out.trans (HB4.out.mono (by omega))).trans (HB5.out.mono (by omega)))).trans (hbz.mono (by omega)))
      rw [hv8]
      clear hg h7 hrow8 hbz hkz hv8 hin
      go_wp2_with fail
      refine HCH.out.mono ?_
      rintro e w6 ⟨X2, hx2, hkey6, hg6, A13, c13, rfl, hrow13⟩
      have hcip : CipOut cb X key tw w w6 := by
        refine ⟨fun k => X2 k ∨ (X k ∧ k < w.heap.size), fun k hk => ?_, ⟨kb, A, c, ?_, ?_, fun ad e => ⟨.inr ⟨(HA.out ad e).1, (HR.out.lt ad e).2⟩, (HA.out ad e).2⟩, hkey6.mono fun k _ hk => .inl hk, .inr ⟨hxk, hkbl⟩, hne⟩, ?_⟩
        · rcases hk with hk | hk
          · rcases hx2 k hk with h1 | h1
            · by_cases hkw : k < w.heap.size
              · exact .inl ⟨h1.1, hkw⟩
              · exact .inr (by omega)
            · exact .inr (by omega)
          · exact .inl hk
        · rw [← HTL.out]; exact (HB.out.below HBZ.out hcl).grew hg6 (fun e => hne e.symm)
        · rw [← HTL.out]; exact (HR.out.below HBZ.out (Nat.le_refl _)).grew hg6 (fun ad e => (HA.out ad e).2.2)
        · exact (Grew.of_new HBZ.out).then_ hg6 (fun k _ e => by have e2 : k = kb := e; rw [e2]; exact hxk)
      have HCIP := Lib.hid hcip
      have HR13 := Lib.hid hrow13
      have hc13 := hrow13.2.1
      have hm13 := hrow13.2.2.1
      unfold maxLen at hm13
      clear hx2 hkey6 hg6 hrow13 hcip HCH
      go_wp2_with fail
      clear hsz hm13 hc13 c50 hcx5 hg5 hcx hs4 hsx3 hsx
      have hc13 := HR13.out.2.1
      have hm13 := HR13.out.2.2.1
      unfold maxLen at hm13
      obtain ⟨D, hD⟩ : ∃ D, D = 4 + (wd + 3) / 4 * 4 := ⟨_, rfl⟩
      have hD16 : D ≤ 16 := by omega
      have HDD := Lib.hid hD
      have hd1 : bits .andNot .i64 ((wd : Int) + 3) 3 = (((wd + 3) / 4 * 4 : Nat) : Int) := by
        have := andNot3 (m := wd + 3) (by omega)
        rwa [show ((wd + 3 : Nat) : Int) = (wd : Int) + 3 by omega] at this
      obtain ⟨D4, hD4⟩ : ∃ D4, D4 = (wd + 3) / 4 * 4 := ⟨_, rfl⟩
      rw [← hD4] at hd1 hD
      have hd2 : (4 : Int) + (D4 : Int) = (D : Int) := by omega
      have hd3 : (D : Int) ≤ (c13 : Int) := by omega
      have hd4 : (0 : Int) ≤ (D : Int) := by omega
      obtain ⟨hf, hhf⟩ : ∃ hf, hf = halfN n i := ⟨_, rfl⟩
      have HHF := Lib.hid (fun w => half_any n i w (by omega) (by omega))
      rw [← hhf] at HHF
      have hfr : 1 ≤ hf ∧ hf ≤ 16 := by rw [hhf]; unfold halfN; omega
      have HHE := Lib.hid hhf
      have hg7 : Below w6.heap.size w6 w6.drew := (Below.refl _ _).drew
      obtain ⟨rs, hrs⟩ : ∃ rs, rs = restD (10 ^ hf) ((cbc (rksOf key) (ffIn n i x tw)).take D) := ⟨_, rfl⟩
      have HRS := Lib.hid hrs
      clear hhf hD hD4 hrs
      obtain ⟨F, hF⟩ : ∃ F, F = nthF [eqv (.slice A13 16 c13), eqv (.int .i64 wd), eqv (.int .i64 ((wd : Int) + 3)), eqv (.int .i64 D4), eqv (.int .i64 D), eqv (.slice A13 D c13), eqv (.int .i64 n), eqv (.int .i64 i), eqv (.int .i64 hf), eqv (.tuple #[.int .i64 rs, .int .i64 0]), eqv (.tuple #[.int .i64 rs, .int .i64 0]), eqv (.int .i64 rs), eqv (.int .i64 0), eqv (.int .i64 rs), eqv (.int .i64 0)] := ⟨_, rfl⟩
      have E0 := Lib.hid (show F 0 = eqv (.slice A13 16 c13) by rw [hF]; rfl)
      have E1 := Lib.hid (show F 1 = eqv (.int .i64 wd) by rw [hF]; rfl)
      have E2 := Lib.hid (show F 2 = eqv (.int .i64 ((wd : Int) + 3)) by rw [hF]; rfl)
      have E3 := Lib.hid (show F 3 = eqv (.int .i64 D4) by rw [hF]; rfl)
      have E4 := Lib.hid (show F 4 = eqv (.int .i64 D) by rw [hF]; rfl)
      have E5 := Lib.hid (show F 5 = eqv (.slice A13 D c13) by rw [hF]; rfl)
      have E6 := Lib.hid (show F 6 = eqv (.int .i64 n) by rw [hF]; rfl)
      have E7 := Lib.hid (show F 7 = eqv (.int .i64 i) by rw [hF]; rfl)
      have E8 := Lib.hid (show F 8 = eqv (.int .i64 hf) by rw [hF]; rfl)
      have E9 := Lib.hid (show F 9 = eqv (.tuple #[.int .i64 rs, .int .i64 0]) by rw [hF]; rfl)
      have E10 := Lib.hid (show F 10 = eqv (.tuple #[.int .i64 rs, .int .i64 0]) by rw [hF]; rfl)
      have E11 := Lib.hid (show F 11 = eqv (.int .i64 rs) by rw [hF]; rfl)
      have E12 := Lib.hid (show F 12 = eqv (.int .i64 0) by rw [hF]; rfl)
      have E13 := Lib.hid (show F 13 = eqv (.int .i64 rs) by rw [hF]; rfl)
      have E14 := Lib.hid (show F 14 = eqv (.int .i64 0) by rw [hF]; rfl)
      have hst : ∀ j v w w', F j v w → Grows w w' → F j v w' := by rw [hF]; exact nth_stable (by repeat (first | exact st_nil | exact st_eqv _ | exact st_any | refine st_cons ?_ ?_))
      have HST0 := Lib.hid hst
      clear hF hst
      refine wp_region_facts F Grows (fun _ => True) (by kernel_rfl) (by kernel_rfl) grows_refl grows_trans HST0.out (trivial) ?_ ?_
      · intro V; refine ⟨?_, ?_, ?_, ?_, ?_, ?_, ?_, ?_, ?_, ?_, ?_, ?_, ?_, ?_, ?_, trivial⟩
        · intro wx hg hJ hdep
          clear hdep
          clear hg
          go_wp2_with fail
          exact ⟨rfl, grows_refl _, trivial, by rw [E0.out]; rfl⟩
        · intro wx hg hJ hdep
          clear hdep
          clear hg
          go_wp2_with fail
          exact ⟨rfl, grows_refl _, trivial, by rw [E1.out]; rfl⟩
        · intro wx hg hJ hdep
          have v1 : V 1 = (.int .i64 wd) := by have h := hdep 1 rfl; rw [E1.out] at h; exact h
          clear hdep
          clear hg
          go_wp2_with fail
          exact ⟨rfl, grows_refl _, trivial, by rw [E2.out]; rfl⟩
        · intro wx hg hJ hdep
          have v2 : V 2 = (.int .i64 ((wd : Int) + 3)) := by have h := hdep 2 rfl; rw [E2.out] at h; exact h
          clear hdep
          clear hg
          go_wp2_with fail
          exact ⟨rfl, grows_refl _, trivial, by rw [E3.out]; rfl⟩
        · intro wx hg hJ hdep
          have v3 : V 3 = (.int .i64 D4) := by have h := hdep 3 rfl; rw [E3.out] at h; exact h
          clear hdep
          clear hg
          go_wp2_with fail
          exact ⟨rfl, grows_refl _, trivial, by rw [E4.out]; rfl⟩
        · intro wx hg hJ hdep
          have v0 : V 0 = (.slice A13 16 c13) := by have h := hdep 0 rfl; rw [E0.out] at h; exact h
          have v4 : V 4 = (.int .i64 D) := by have h := hdep 4 rfl; rw [E4.out] at h; exact h
          clear hdep
          clear hg
          go_wp2_with fail
          exact ⟨rfl, grows_refl _, trivial, by rw [E5.out]; rfl⟩
        · intro wx hg hJ hdep
          clear hdep
          clear hg
          go_wp2_with fail
          exact ⟨rfl, grows_refl _, trivial, by rw [E6.out]; rfl⟩
        · intro wx hg hJ hdep
          clear hdep
          clear hg
          go_wp2_with fail
          exact ⟨rfl, grows_refl _, trivial, by rw [E7.out]; rfl⟩
        · intro wx hg hJ hdep
          have v6 : V 6 = (.int .i64 n) := by have h := hdep 6 rfl; rw [E6.out] at h; exact h
          have v7 : V 7 = (.int .i64 i) := by have h := hdep 7 rfl; rw [E7.out] at h; exact h
          clear hdep
          clear hg
          go_wp2_with fail
          refine (HHF.out _).mono ?_
          rintro e w8 ⟨rfl, rfl⟩
          go_wp2_with fail
          exact ⟨rfl, grows_refl _, trivial, by rw [E8.out]; rfl⟩
        · intro wx hg hJ hdep
          have v5 : V 5 = (.slice A13 D c13) := by have h := hdep 5 rfl; rw [E5.out] at h; exact h
          have v8 : V 8 = (.int .i64 hf) := by have h := hdep 8 rfl; rw [E8.out] at h; exact h
          clear hdep
          have hrd := (HR13.out.below (hg7.trans hg) (Nat.le_refl _)).reads.take (k := D) hD16
          rw [Nat.mul_one, ← bv_take] at hrd
          have hlen : ((cbc (rksOf key) (ffIn n i x tw)).take D).length ≤ 64 := by rw [List.length_take]; omega
          have hm := Rest_any A13 D c13 wx.heap.size ((cbc (rksOf key) (ffIn n i x tw)).take D) (hf : Int) wx hrd (Nat.le_refl _) (by omega)
          rw [restR_ok (powV_ok hfr.1 hfr.2) (Nat.pow_pos (by decide)) (by omega), ← HRS.out] at hm
          have HM := Lib.hid hm
          clear hg hm hrd hlen
          go_wp2_with fail
          refine HM.out.mono ?_
          rintro e w8 ⟨rfl, hb8⟩
          have HB8 := Lib.hid hb8
          clear hb8
          go_wp2_with fail
          exact ⟨rfl, HB8.out, trivial, by rw [E9.out]; rfl⟩
        · intro wx hg hJ hdep
          have v9 : V 9 = (.tuple #[.int .i64 rs, .int .i64 0]) := by have h := hdep 9 rfl; rw [E9.out] at h; exact h
          clear hdep
          clear hg
          go_wp2_with fail
          exact ⟨rfl, grows_refl _, trivial, by rw [E10.out]; rfl⟩
        · intro wx hg hJ hdep
          have v10 : V 10 = (.tuple #[.int .i64 rs, .int .i64 0]) := by have h := hdep 10 rfl; rw [E10.out] at h; exact h
          clear hdep
          clear hg
          go_wp2_with fail
          exact ⟨rfl, grows_refl _, trivial, by rw [E11.out]; rfl⟩
        · intro wx hg hJ hdep
          have v10 : V 10 = (.tuple #[.int .i64 rs, .int .i64 0]) := by have h := hdep 10 rfl; rw [E10.out] at h; exact h
          clear hdep
          clear hg
          go_wp2_with fail
          exact ⟨rfl, grows_refl _, trivial, by rw [E12.out]; rfl⟩
        · intro wx hg hJ hdep
          have v11 : V 11 = (.int .i64 rs) := by have h := hdep 11 rfl; rw [E11.out] at h; exact h
          clear hdep
          clear hg
          go_wp2_with fail
          exact ⟨rfl, grows_refl _, trivial, by rw [E13.out]; rfl⟩
        · intro wx hg hJ hdep
          have v12 : V 12 = (.int .i64 0) := by have h := hdep 12 rfl; rw [E12.out] at h; exact h
          clear hdep
          clear hg
          go_wp2_with fail
          exact ⟨rfl, grows_refl _, trivial, by rw [E14.out]; rfl⟩
      · intro V wx hg hJ hall
        have v0 : V 0 = (.slice A13 16 c13) := by have h := hall 0 (by decide); rw [E0.out] at h; exact h
        have v1 : V 1 = (.int .i64 wd) := by have h := hall 1 (by decide); rw [E1.out] at h; exact h
        have v2 : V 2 = (.int .i64 ((wd : Int) + 3)) := by have h := hall 2 (by decide); rw [E2.out] at h; exact h
        have v3 : V 3 = (.int .i64 D4) := by have h := hall 3 (by decide); rw [E3.out] at h; exact h
        have v4 : V 4 = (.int .i64 D) := by have h := hall 4 (by decide); rw [E4.out] at h; exact h
        have v5 : V 5 = (.slice A13 D c13) := by have h := hall 5 (by decide); rw [E5.out] at h; exact h
        have v6 : V 6 = (.int .i64 n) := by have h := hall 6 (by decide); rw [E6.out] at h; exact h
        have v7 : V 7 = (.int .i64 i) := by have h := hall 7 (by decide); rw [E7.out] at h; exact h
        have v8 : V 8 = (.int .i64 hf) := by have h := hall 8 (by decide); rw [E8.out] at h; exact h
        have v9 : V 9 = (.tuple #[.int .i64 rs, .int .i64 0]) := by have h := hall 9 (by decide); rw [E9.out] at h; exact h
        have v10 : V 10 = (.tuple #[.int .i64 rs, .int .i64 0]) := by have h := hall 10 (by decide); rw [E10.out] at h; exact h
        have v11 : V 11 = (.int .i64 rs) := by have h := hall 11 (by decide); rw [E11.out] at h; exact h
        have v12 : V 12 = (.int .i64 0) := by have h := hall 12 (by decide); rw [E12.out] at h; exact h
        have v13 : V 13 = (.int .i64 rs) := by have h := hall 13 (by decide); rw [E13.out] at h; exact h
        have v14 : V 14 = (.int .i64 0) := by have h := hall 14 (by decide); rw [E14.out] at h; exact h
        clear hall
        simp only [fillTo, Act.put, List.setIfInBounds_toArray, List.set_cons_succ, List.set_cons_zero, Nat.reduceAdd, Nat.zero_add, v0, v1, v2, v3, v4, v5, v6, v7, v8, v9, v10, v11, v12, v13, v14]
        clear v0 v1 v2 v3 v4 v5 v6 v7 v8 v9 v10 v11 v12 v13 v14
        have HBW := Lib.hid (hg7.trans hg)
        clear hg
        go_wp2_with fail
        go_ret
        refine ⟨by unfold maskV; rw [HRS.out, HHE.out, HDD.out, HWDE.out]; rfl, ?_⟩
        obtain ⟨X3, q1, q2, q3⟩ := HCIP.out
        exact ⟨X3, q1, q2.below HBW.out (Nat.le_refl _), q3.trans (Grew.of_new HBW.out)⟩
end Go.Proofs.YtiijjpjkfiookaaDoor
