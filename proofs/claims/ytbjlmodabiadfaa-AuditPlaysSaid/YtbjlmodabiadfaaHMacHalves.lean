/- THE WALK of (*mac.Maker).halves. -/
import Derived.Test.YtbjlmodabiadfaaHMacMem
import Derived.BigRegion
import Derived.Deep.DeepCutAuto
namespace Go.Proofs.Ytbjlmodabiadfaa
open Go.RowKit

theorem oct_xor (a b : UInt8) : bits .xor .u8 (a.toNat : Int) (b.toNat : Int) = ((a ^^^ b).toNat : Int) := by
  rw [u8_xor_nat _ _ a.toNat_lt b.toNat_lt, UInt8.toNat_xor]
/-- Behind i places of the two halves. -/
def HalfRel (w : World) (mb : Nat) (k : Value) (kb : List UInt8) (i : Value) (wr : World) : Prop :=
  ∃ (j : Nat) (x y : List UInt8), j ≤ 64 ∧ i = .int .i64 j ∧ x.length = 64 ∧ y.length = 64 ∧ (∀ t, t < 64 → x.getD t 0 = if t < j then kb.getD t 0 ^^^ 54 else kb.getD t 0) ∧ (∀ t, t < 64 → y.getD t 0 = if t < j then kb.getD t 0 ^^^ 92 else kb.getD t 0) ∧
    Blk wr mb 85 (mk k 0 1 x y).toArray ∧ Grew (· = mb) w wr
theorem half_step {x kb : List UInt8} {j : Nat} {p : UInt8} (hj : j < 64) (hx : x.length = 64) (h : ∀ t, t < 64 → x.getD t 0 = if t < j then kb.getD t 0 ^^^ p else kb.getD t 0) :
    ∀ t, t < 64 → (x.set j (x[j]'(by omega) ^^^ p)).getD t 0 = if t < j + 1 then kb.getD t 0 ^^^ p else kb.getD t 0 := fun t ht => by
  have hjx := h j hj
  rw [if_neg (by omega), List.getD_eq_getElem?_getD, List.getElem?_eq_getElem (by omega), Option.getD_some] at hjx
  by_cases e : t = j
  · subst e
    rw [if_pos (by omega), List.getD_eq_getElem?_getD, List.getElem?_set_self (by omega), Option.getD_some, hjx]
  · rw [List.getD_eq_getElem?_getD, List.getElem?_set_ne (by omega), ← List.getD_eq_getElem?_getD, h t ht]
    by_cases h1 : t < j
    · rw [if_pos h1, if_pos (by omega)]
    · rw [if_neg h1, if_neg (by omega)]
theorem half_end {x kb : List UInt8} {p : UInt8} (hx : x.length = 64) (hk : kb.length = 64) (h : ∀ t, t < 64 → x.getD t 0 = if t < 64 then kb.getD t 0 ^^^ p else kb.getD t 0) : x = kb.map (· ^^^ p) := by
  apply List.ext_getElem (by simp [hx, hk])
  intro t h1 h2
  have := h t (by omega)
  rw [if_pos (by omega), List.getD_eq_getElem?_getD, List.getD_eq_getElem?_getD, List.getElem?_eq_getElem h1, List.getElem?_eq_getElem (by omega), Option.getD_some, Option.getD_some] at this
  simpa using this
theorem key_cut {key k : List UInt8} (hk : k = if 64 < key.length then Sha.sum key else key) : k.length ≤ 64 ∧ (bv k).take (Nat.min k.length 64) ++ (bv (zeros 64)).drop (Nat.min k.length 64) = bv (keyBlock key) := by
  have hl : k.length ≤ 64 := by
    rw [hk]; split
    · rw [Sha.length_sum]; omega
    · omega
  refine ⟨hl, ?_⟩
  have e : keyBlock key = k ++ List.replicate (64 - k.length) 0 := by rw [hk]; rfl
  rw [e, show Nat.min k.length 64 = k.length from Nat.min_eq_left hl, List.take_of_length_le (by rw [length_bv]; exact Nat.le_refl _), bv_append, ← bv_drop]
  congr 2
  rw [zeros, List.drop_replicate]

theorem half_drew {w wr : World} {mb : Nat} {k : Value} {kb : List UInt8} {i : Value} (h : HalfRel w mb k kb i wr) : HalfRel w mb k kb i wr.drew := by
  obtain ⟨j, x, y, hj, hi, hxl, hyl, hx, hy, hblk, hgr⟩ := h
  exact ⟨j, x, y, hj, hi, hxl, hyl, hx, hy, hblk.drew, hgr.drew⟩
/-- The key, or its digest. -/
def KeyRel (w : World) (mb : Nat) (kk : List UInt8) (s2 : Value) (wx : World) : Prop := Part wx (fun k => k ≠ mb ∧ k < wx.heap.size) s2 kk ∧ Below w.heap.size w wx
set_option maxRecDepth 100000 in
set_option maxHeartbeats 4000000 in
theorem halves_any (mb : Nat) (A : Option Addr) (n c : Nat) (key : List UInt8) (w : World) (hb : Blk w mb 85 (mk (.slice A n c) 0 1 (zeros 64) (zeros 64)).toArray) (hr : Row w 0 1 A n c (bv key)) (ha : ∀ ad, A = some ad → ad.block ≠ mb) (hn : n ≤ 140737488351232) :
    Calls Try.prog 48 #[.pointer (some ⟨mb, 0, none⟩)] w fun e w' => e = .returned (.tuple #[]) ∧ Blk w' mb 85 (mk (.slice A n c) 0 1 (halfX key) (halfY key)).toArray ∧ Grew (· = mb) w w' := by
  have hkl : key.length = n := by have := hr.1; rw [length_bv] at this; omega
  have c0 : w.cell? ⟨mb, 0, none⟩ = some (.slice A n c) := hb.cell 0
  have HB := Lib.hid hb
  have HR := Lib.hid hr
  have HA := Lib.hid ha
  have HKL := Lib.hid hkl
  have hml := hb.lt
  clear hb hr ha hkl
  generalize hkk : (if 64 < key.length then Sha.sum key else key) = kk
  have HKK := Lib.hid hkk
  clear hkk
  go_enter Try.func48, Try.ntmps48
  go_upto_if 10 with fail
  go_cut [2] (fun s2 wx => KeyRel w mb kk s2 wx)
  case first =>
    by_cases h64 : 64 < n
    · have hd : decide (64 < (n : Int)) = true := by simp; omega
      have hparts := Parts.one (t := 22) (w := w) (R := fun k => k < w.heap.size) (Part.of_row HR.out hn fun ad e => (HR.out.lt ad e).2) (fun k hk => hk)
      have hcall := sSum_any [key] _ 1 _ _ hparts (fun k hk => by simp; omega) (by simp) (by simp [HKL.out]; omega)
      rw [show Sha.sum [key].flatten = kk by rw [← HKK.out, if_pos (by rw [HKL.out]; exact h64)]; simp] at hcall
      have SUMK := Lib.hid hcall
      clear hparts hcall
      go_wp2_with fail
      refine (SUMK.out).mono ?_
      rintro e w1 ⟨A1, c1, rfl, hrow1, hb1⟩
      have HROW1 := Lib.hid hrow1
      have HB1 := Lib.hid hb1
      clear hrow1 hb1
      go_wp2_with fail
      go_meet
      have hw : Below w.heap.size w w1 := ((Below.refl _ _).alloc (Nat.le_refl _) _).trans (HB1.out.mono (by simp))
      exact ⟨Part.of_row HROW1.out (by rw [← HKK.out, if_pos (by rw [HKL.out]; exact h64), Sha.length_sum]; omega) fun ad e => by have := HROW1.out.lt ad e; simp at this; omega, hw⟩
    · have hd : decide (64 < (n : Int)) = false := by simp; omega
      go_wp2_with fail
      go_meet
      have e : kk = key := by rw [← HKK.out, if_neg (by rw [HKL.out]; exact h64)]
      exact ⟨by rw [e]; exact Part.of_row HR.out hn fun ad e => ⟨HA.out ad e, (HR.out.lt ad e).2⟩, Below.refl _ _⟩
  case rest =>
    obtain ⟨hpart, hbw⟩ := hcut
    obtain ⟨A2, n2, c2, rfl, hkn, hnc2, hn2, hrd⟩ := hpart.reads (B := wc.heap.size) (fun k hk => hk.2)
    obtain ⟨hk64, hcut64⟩ := key_cut HKK.out.symm
    have hblk : Blk wc mb 85 (mkh (.slice A n c) 0 1 ++ bv (zeros 64) ++ bv (zeros 64)).toArray := HB.out.below hbw hml
    have hz : (bv (zeros 64)).length = 64 := by rw [length_bv]; simp [zeros]
    have HBW := Lib.hid hbw
    have HCUT := Lib.hid hcut64
    have HKN := Lib.hid hkn
    have HPART := Lib.hid hpart
    clear hbw hcut64 hkn hpart
    have hkb : (mkh (.slice A n c) 0 1 ++ bv (keyBlock key)).length = 68 := by rw [List.length_append, length_bv, length_keyBlock]; rfl
    have HKB := Lib.hid hkb
    clear hkb
    go_wp2_with (first
      | (with_reducible refine wpList_copy_blk rfl (.tmp 17) (.tmp 18) _ _ rfl Try.underlying22 byte_size (pre := mkh (.slice A n c) 0 1) rfl rfl hblk hz rfl hrd (bv_one kk) ?_; intro w2 hblk2 hon2; rw [← HKN.out, HCUT.out, ← List.append_nil (mkh (.slice A n c) 0 1 ++ bv (keyBlock key) ++ bv (zeros 64))] at hblk2; obtain ⟨_, _, _, hrd2⟩ := (HPART.out.keep (fun k hk => hon2.block k hk.1)).its (B := wc.heap.size) (fun k hk => hk.2))
      | (with_reducible refine wpList_copy_blk rfl (.tmp 23) (.tmp 24) _ _ rfl Try.underlying22 byte_size HKB.out rfl hblk2 hz rfl hrd2 (bv_one kk) ?_; intro w3 hblk3 hon3; rw [← HKN.out, HCUT.out, List.append_nil] at hblk3))
    have hst : HalfRel w mb (.slice A n c) (keyBlock key) (.int .i64 0) w3 := ⟨0, keyBlock key, keyBlock key, by omega, rfl, length_keyBlock key, length_keyBlock key, fun t _ => by simp, fun t _ => by simp, hblk3,
      ((Grew.of_new HBW.out).trans (Grew.of_only hon2)).trans (Grew.of_only hon3)⟩
    have HST := Lib.hid hst
    clear hst hblk hrd hblk2 hblk3 hon2 hon3 hrd2
    go_loopw [3, 26] (fun _ i wr => HalfRel w mb (.slice A n c) (keyBlock key) i wr) (fun _ i _ => 64 - (intOf i).toNat)
    case atStart => exact HST.out
    case round =>
      clear HST
      obtain ⟨j, x, y, hj, rfl, hxl, hyl, hx, hy, hblk, hgr⟩ := hrel
      by_cases hlt : j < 64
      · have c1 : wr.cell? ⟨mb, 4 + j, none⟩ = some (.int .u8 ((x[j]'(by omega)).toNat : Int)) := (hblk.cell (4 + j)).trans (mk_xat _ _ _ _ _ _ (by omega))
        have c2 : wr.cell? ⟨mb, 68 + j, none⟩ = some (.int .u8 ((y[j]'(by omega)).toNat : Int)) := (hblk.cell (68 + j)).trans (mk_yat _ _ _ _ _ _ hxl (by omega))
        have f1 := hblk.frozen (4 + j)
        have f2 := hblk.frozen (68 + j)
        have hb2 := hblk.set (4 + j) (.int .u8 ((x[j]'(by omega) ^^^ 54).toNat : Int))
        rw [mk_setx _ _ _ _ _ _ _ (by omega)] at hb2
        have hb3 := hb2.set (68 + j) (.int .u8 ((y[j]'(by omega) ^^^ 92).toNat : Int))
        rw [mk_sety _ _ _ _ _ _ _ (by simp [hxl]) (by omega)] at hb3
        have HX := Lib.hid (half_step hlt hxl hx)
        have HY := Lib.hid (half_step hlt hyl hy)
        have hne : HalfRel w mb (.slice A n c) (keyBlock key) (.int .i64 ((j : Int) + 1)) _ := ⟨j + 1, _, _, by omega, by go_num, by simp [hxl], by simp [hyl], HX.out, HY.out, hb3, (hgr.set (p := ⟨mb, 4 + j, none⟩) (.inl rfl) _).set (p := ⟨mb, 68 + j, none⟩) (.inl rfl) _⟩
        have HNE := Lib.hid hne
        have e1 := oct_xor (x[j]'(by omega)) 54
        have e2 := oct_xor (y[j]'(by omega)) 92
        rw [show ((54 : UInt8).toNat : Int) = 54 from rfl] at e1
        rw [show ((92 : UInt8).toNat : Int) = 92 from rfl] at e2
        clear hx hy hblk hgr hb2 hb3 hne HX HY
        generalize x[j]'(by omega) = xj at c1 e1 HNE
        generalize y[j]'(by omega) = yj at c2 e2 HNE
        go_wp2_with fail
        go_region
        go_wp2_with fail
        go_region
        go_wp2_with fail
        go_roundw
        case rel =>
          have h := half_drew (half_drew HNE.out)
          rw [UInt8.toNat_xor, UInt8.toNat_xor] at h
          exact h
        case measure => simp [intOf]; omega
      · obtain rfl : j = 64 := by omega
        have hxe : x = halfX key := half_end hxl (length_keyBlock key) hx
        have hye : y = halfY key := half_end hyl (length_keyBlock key) hy
        rw [hxe, hye] at hblk
        have HBLK := Lib.hid hblk
        have HGR := Lib.hid hgr
        clear hx hy hblk hgr hxe hye
        go_wp2_with fail
        go_end0
        exact ⟨rfl, HBLK.out, HGR.out⟩
end Go.Proofs.Ytbjlmodabiadfaa
