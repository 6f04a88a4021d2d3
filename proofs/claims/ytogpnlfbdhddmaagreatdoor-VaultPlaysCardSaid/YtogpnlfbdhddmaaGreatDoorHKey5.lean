/- THE WALKS of keys' reference; the small case of the laws of keys. -/
import Derived.Test.YtogpnlfbdhddmaaGreatDoorGKeys
import Derived.Test.YtogpnlfbdhddmaaGreatDoorHRText
import Derived.Test.YtogpnlfbdhddmaaGreatDoorHRefFold
namespace Go.Proofs.YtogpnlfbdhddmaaGreatDoor
open Go.RowKit

def mayB (n : Nat) : Bool := decide (16 ≤ n ∧ n ≤ 64)
theorem May_any (A : Option Addr) (n c : Nat) (w : World) : Calls Tryz.prog 41 #[.slice A n c] w fun e w' => e = .returned (.bool (mayB n)) ∧ w = w' := by
  by_cases h1 : (16 : Int) ≤ n
  · by_cases h2 : (n : Int) ≤ 64
    · have HE := Lib.hid (show mayB n = true from decide_eq_true (by omega))
      have d1 : decide ((16 : Int) ≤ n) = true := decide_eq_true h1
      have d2 : decide ((n : Int) ≤ 64) = true := decide_eq_true h2
      go_enter Tryz.func41, Tryz.ntmps41
      go_wp2_with fail
      go_ret
      exact ⟨by rw [HE.out]; rfl, rfl⟩
    · have HE := Lib.hid (show mayB n = false from decide_eq_false (by omega))
      have d1 : decide ((16 : Int) ≤ n) = true := decide_eq_true h1
      have d2 : decide ((n : Int) ≤ 64) = false := decide_eq_false h2
      go_enter Tryz.func41, Tryz.ntmps41
      go_wp2_with fail
      go_ret
      exact ⟨by rw [HE.out]; rfl, rfl⟩
  · have HE := Lib.hid (show mayB n = false from decide_eq_false (by omega))
    have d1 : decide ((16 : Int) ≤ n) = false := decide_eq_false h1
    go_enter Tryz.func41, Tryz.ntmps41
    go_wp2_with fail
    go_ret
    exact ⟨by rw [HE.out]; rfl, rfl⟩

/-- What the reference's Key answers. -/
def rKeyOut (m : List UInt8) (t p v : Int) (w : World) (e : Ending) (w' : World) : Prop :=
  Below w.heap.size w w' ∧ ((keyOk t p v = false ∧ e = .returned (.tuple #[.slice none 0 0, .int .i64 1])) ∨
     (keyOk t p v = true ∧ ∃ A c, e = .returned (.tuple #[.slice A 32 c, .int .i64 0]) ∧ Row w' w.heap.size 1 A 32 c (bv (keyB m t.toNat p v.toNat))))
theorem rKey_no (m : List UInt8) (A : Option Addr) (n c : Nat) (t p v : Int) (w : World) (hk : keyOk t p v = false) :
    Calls Tryz.prog 42 #[.slice A n c, .int .i64 t, .int .i64 p, .int .i64 v] w (rKeyOut m t p v w) := by
  have hno : ¬ (1 ≤ t ∧ t ≤ 64 ∧ 1 ≤ p ∧ p ≤ 4 ∧ 1 ≤ v ∧ v ≤ 255) := fun hh => by rw [keyOk_iff.2 hh] at hk; cases hk
  have HK := Lib.hid hk
  clear hk
  by_cases h1 : t < 1
  · clear hno
    go_enter Tryz.func42, Tryz.ntmps42
    go_wp2_with fail
    refine (rName_any _ _).mono ?_
    generalize nameS p = ns
    generalize nameB p = nb
    rintro e w1 ⟨rfl, rfl⟩
    go_wp2_with fail
    go_ret2
    exact ⟨Below.refl _ _, .inl ⟨HK.out, rfl⟩⟩
  by_cases h2 : 64 < t
  · clear hno
    go_enter Tryz.func42, Tryz.ntmps42
    go_wp2_with fail
    refine (rName_any _ _).mono ?_
    generalize nameS p = ns
    generalize nameB p = nb
    rintro e w1 ⟨rfl, rfl⟩
    go_wp2_with fail
    go_ret2
    exact ⟨Below.refl _ _, .inl ⟨HK.out, rfl⟩⟩
  by_cases h3 : 1 ≤ p ∧ p ≤ 4
  · have HN := Lib.hid (nameB_iff.2 h3)
    by_cases h4 : v < 1
    · clear hno h3
      go_enter Tryz.func42, Tryz.ntmps42
      go_wp2_with fail
      refine (rName_any _ _).mono ?_
      rw [HN.out]
      generalize nameS p = ns
      rintro e w1 ⟨rfl, rfl⟩
      go_wp2_with fail
      go_ret2
      exact ⟨Below.refl _ _, .inl ⟨HK.out, rfl⟩⟩
    · have h5 : 255 < v := by omega
      clear hno h3
      go_enter Tryz.func42, Tryz.ntmps42
      go_wp2_with fail
      refine (rName_any _ _).mono ?_
      rw [HN.out]
      generalize nameS p = ns
      rintro e w1 ⟨rfl, rfl⟩
      go_wp2_with fail
      go_ret2
      exact ⟨Below.refl _ _, .inl ⟨HK.out, rfl⟩⟩
  · have HN := Lib.hid (nameB_no h3)
    clear hno h3
    go_enter Tryz.func42, Tryz.ntmps42
    go_wp2_with fail
    refine (rName_any _ _).mono ?_
    rw [HN.out]
    generalize nameS p = ns
    rintro e w1 ⟨rfl, rfl⟩
    go_wp2_with fail
    go_ret2
    exact ⟨Below.refl _ _, .inl ⟨HK.out, rfl⟩⟩
set_option maxHeartbeats 2000000 in
theorem rKey_yes (m : List UInt8) (A : Option Addr) (n c B : Nat) (t : Nat) (p : Int) (v : Nat) (w : World) (hr : Reads w B 1 A n (bv m)) (hB : B ≤ w.heap.size) (hn : n ≤ 140737488351232) (hk : keyOk t p v = true) :
    Calls Tryz.prog 42 #[.slice A n c, .int .i64 t, .int .i64 p, .int .i64 v] w (rKeyOut m t p v w) := by
  obtain ⟨h1, h2, h3, h4, h5, h6⟩ := keyOk_iff.1 hk
  have HN := Lib.hid (nameB_iff.2 ⟨h3, h4⟩)
  have HK := Lib.hid hk
  have HR := Lib.hid hr
  have hns := nameS_size p
  obtain ⟨ns, hnse⟩ : ∃ ns, ns = nameS p := ⟨_, rfl⟩
  have HNS := Lib.hid hnse
  rw [← hnse] at hns
  obtain ⟨d, hd⟩ : ∃ d : ByteArray, d = ⟨(dec t).toArray⟩ := ⟨_, rfl⟩
  obtain ⟨d2, hd2⟩ : ∃ d : ByteArray, d = ⟨(dec v).toArray⟩ := ⟨_, rfl⟩
  have hds : d.size ≤ 3 := by rw [hd, len_arr]; exact dec_le t (by omega)
  have hds2 : d2.size ≤ 3 := by rw [hd2, len_arr]; exact dec_le v (by omega)
  have HT := Lib.hid (fun w => rText13_any t w (by omega))
  have HV := Lib.hid (fun w => rText13_any v w (by omega))
  rw [← hd] at HT
  rw [← hd2] at HV
  have HKB := Lib.hid (show foldB m (bytesOf [tenantS, d, ns, versionS, d2]) = keyB m t p v by rw [hd, hd2, hnse]; exact keyB_flat m t p v)
  have HKL := Lib.hid (length_keyB m t p v)
  clear hk hr hnse hd hd2
  go_enter Tryz.func42, Tryz.ntmps42
  go_wp2_with fail
  refine (rName_any _ _).mono ?_
  rw [HN.out, ← HNS.out]
  rintro e w1 ⟨rfl, rfl⟩
  go_wp2_with fail
  refine (HT.out _).mono ?_
  rintro e w1 ⟨rfl, hb1⟩
  go_wp2_with fail
  refine (HV.out _).mono ?_
  rintro e w2 ⟨rfl, hb2⟩
  have hb12 := thenB hb1 hb2
  have hs12 := hb12.size
  go_wp2_with fail
  obtain ⟨LA, lc, LB, hv, hlc, hLB, hp⟩ := StrsV.lit [tenantS, d, ns, versionS, d2] 9 w2
  injection hv with q1 q2 q3
  subst q1
  have hm := rFold_any m [tenantS, d, ns, versionS, d2] A n c w.heap.size (some ⟨w2.heap.size, 0, none⟩) 5 _ _ (((HR.out.more hB).below hb12).alloc hs12 _) (by simp; omega) (by omega) hp (fun k hk => Nat.lt_of_lt_of_le hk hLB) (by simp)
    (by intro s hs; simp at hs; rcases hs with rfl | rfl | rfl | rfl | rfl; exact Nat.le_of_lt (by decide); omega; omega; exact Nat.le_of_lt (by decide); omega)
  rw [HKB.out] at hm
  refine hm.mono ?_
  rintro e w3 ⟨A3, c3, rfl, hrow, hb3⟩
  rw [HKL.out]
  rw [HKL.out] at hrow
  have HROW := Lib.hid hrow
  have HB3 := Lib.hid (hb12.trans (((Below.refl w2.heap.size w2).alloc (Nat.le_refl _) _).trans (hb3.mono (by simp)) |>.mono hs12))
  have hs3 : w.heap.size ≤ (w2.alloc (.cells ([tenantS, d, ns, versionS, d2].map Value.string).toArray 9)).heap.size := by simp; omega
  clear hrow hb3 hm hp
  go_wp2_with fail
  go_ret2
  exact ⟨HB3.out, .inr ⟨HK.out, A3, c3, rfl, HROW.out.mono hs3⟩⟩
end Go.Proofs.YtogpnlfbdhddmaaGreatDoor
