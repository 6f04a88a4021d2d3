/- THE WALKS of the reference of aes: back, New, Encrypt. -/
import Derived.Test.YtogpnlfbdhddmaaGreatDoorHRAes7
namespace Go.Proofs.YtogpnlfbdhddmaaGreatDoor
open Go.RowKit

theorem RowsP.keep2 {S : Nat → Prop} {w w' : World} {B U n c : Nat} {A : Option Addr} {L : List (List UInt8)} (h : RowsP w B U A n c L) (hU : U ≤ w.heap.size) (hg : Grew S w w') (hS : ∀ k, B ≤ k → k < U → ¬ S k) : RowsP w' B U A n c L := by
  obtain ⟨h1, vs, h2, h3, h4⟩ := h
  refine ⟨h1, vs, h2.grew hg fun ad e => hS _ (h2.lt ad e).1 (h3 ad e), h3, fun i hi => ?_⟩
  obtain ⟨v, h5, h6⟩ := h4 i hi
  exact ⟨v, h5, h6.keep fun k hk => hg.block k (by have := hk.2.1; omega) (hS k hk.1 hk.2.1)⟩
/-- Behind i bytes of the map the other way: some row. -/
def RBackRel (w : World) (i : Value) (wr : World) : Prop :=
  ∃ (j : Nat) (l : List UInt8), j ≤ 256 ∧ i = .int .i64 j ∧ l.length = 256 ∧ Row wr w.heap.size 1 (some ⟨w.heap.size, 0, none⟩) 256 256 (bv l) ∧ Below w.heap.size w wr
set_option maxRecDepth 100000 in
set_option maxHeartbeats 4000000 in
theorem rback_any (PB : Option Addr) (cb : Nat) (w : World) (hrb : Reads w w.heap.size 1 PB 256 (bv sbL)) :
    Calls Tryz.prog 143 #[.slice PB 256 cb] w fun e w' => ∃ A c, e = .returned (.slice A 256 c) ∧ Below w.heap.size w w' := by
  have hmk := make256
  obtain ⟨gb, ob, rfl, hgb, hcb⟩ := hrb.2 (by decide)
  have HST := Lib.hid (show RBackRel w (.int .i64 0) (w.alloc (.cells (bv (zeros' 256)).toArray 5)) from ⟨0, zeros' 256, by omega, rfl, by simp [zeros'], Row.lit w (bv (zeros' 256)).toArray 5 (by simp [zeros', length_bv]) (Nat.le_refl _) (by decide), (Below.refl _ _).alloc (Nat.le_refl _) _⟩)
  have HCB := Lib.hid hcb
  clear hcb hrb
  generalize zeros' 256 = z at *
  go_enter Tryz.func143, Tryz.ntmps143
  go_wp2_with fail
  go_loopw [4] (fun i wr => RBackRel w i wr) (fun i _ => 256 - (intOf i).toNat)
  case atStart => exact HST.out
  case round =>
    clear HST hmk
    obtain ⟨j, l, hj, rfl, hl, hrow, hbl⟩ := hrel
    by_cases hlt : j < 256
    · obtain ⟨x, hx⟩ : ∃ x, x = sbL[j]'(by rw [length_sbL]; exact hlt) := ⟨_, rfl⟩
      have hxl := x.toNat_lt
      have c3 := (hbl.cell (p := ⟨gb, ob + j, none⟩) hgb).trans (HCB.out j _ (bv_at sbL j (by rw [length_sbL]; exact hlt)))
      rw [← hx] at c3
      have f1 := row_free0 hrow (j := x.toNat) hxl
      have c1 := row_byte0 hrow (j := x.toNat) (by omega)
      have HNX := Lib.hid (show ∀ u : UInt8, RBackRel w (.int .i64 ((j : Int) + 1)) (wr.setCell ⟨w.heap.size, x.toNat, none⟩ (.int .u8 (u.toNat : Int))) from fun u =>
        ⟨j + 1, l.set x.toNat u, by omega, by go_num, by rw [List.length_set]; exact hl, row_set0 hrow (j := x.toNat) hxl (c := u) rfl, hbl.setCell (Nat.le_refl _) _⟩)
      have hji : (j : Int) < 256 := by omega
      have HU := Lib.hid (show ((j : Int) % 256) = ((UInt8.ofNat j).toNat : Int) by rw [u8_of hlt]; omega)
      have hjm : (j : Int) % 256 = (j : Int) := by omega
      have HU2 := Lib.hid (show (j : Int) = ((UInt8.ofNat j).toNat : Int) by rw [u8_of hlt])
      generalize (l[x.toNat]'_).toNat = Y at c1
      generalize x.toNat = X at *
      have hxi : (X : Int) < 256 := by omega
      clear hrow hbl hx
      go_wp2_with fail
      go_roundw
      case rel =>
        have h := HNX.out (UInt8.ofNat j)
        rw [← HU2.out] at h
        exact h
      case measure => simp [intOf]; omega
    · obtain rfl : j = 256 := by omega
      have HBL := Lib.hid hbl
      clear hrow hbl
      go_wp2_with fail
      go_ret
      exact ⟨_, _, rfl, HBL.out⟩
/-- A key of the reference at block kb; all of it lies in [B, U). -/
def RKeyAt (w : World) (kb B U : Nat) (key : List UInt8) : Prop :=
  U ≤ w.heap.size ∧ B ≤ kb ∧ kb < U ∧ ∃ A c PB cb PU cu, Blk w kb 202 #[.slice A (key.length / 4 + 7) c, .slice PB 256 cb, .slice PU 256 cu] ∧ RowsP w B U A (key.length / 4 + 7) c (rksOf key) ∧
    Row w B 1 PB 256 cb (bv sbL) ∧ ∀ ad, PB = some ad → ad.block < U
section
variable {w w' : World} {kb B U B' U' : Nat} {key : List UInt8}
theorem RKeyAt.keep {S : Nat → Prop} (h : RKeyAt w kb B U key) (hg : Grew S w w') (hS : ∀ k, B ≤ k → k < U → ¬ S k) : RKeyAt w' kb B U key := by
  obtain ⟨h1, h2, h3, A, c, PB, cb, PU, cu, h4, h5, h6, h7⟩ := h
  have hs := hg.size
  exact ⟨by omega, h2, h3, A, c, PB, cb, PU, cu, h4.grew hg (hS kb h2 h3), h5.keep2 h1 hg hS, h6.grew hg fun ad e => hS _ (h6.lt ad e).1 (h7 ad e), h7⟩
theorem RKeyAt.new (h : RKeyAt w kb B U key) (hb : Below w.heap.size w w') : RKeyAt w' kb B U key := h.keep (Grew.of_new (S := fun _ => False) hb) fun _ _ _ h => h
theorem RKeyAt.wide (h : RKeyAt w kb B U key) (hB : B' ≤ B) (hU : U ≤ U') (hU' : U' ≤ w.heap.size) : RKeyAt w kb B' U' key := by
  obtain ⟨h1, h2, h3, A, c, PB, cb, PU, cu, h4, h5, h6, h7⟩ := h
  exact ⟨hU', by omega, by omega, A, c, PB, cb, PU, cu, h4, (h5.low hB).mono hU, h6.mono hB, fun ad e => Nat.lt_of_lt_of_le (h7 ad e) hU⟩
end
/-- A new key of the reference, in new blocks. -/
def RNewKey (key : List UInt8) (w : World) (e : Ending) (w' : World) : Prop :=
  ∃ kb, e = .returned (.tuple #[.pointer (some ⟨kb, 0, none⟩), .int .i64 0]) ∧ RKeyAt w' kb w.heap.size w'.heap.size key ∧ Below w.heap.size w w'
set_option maxRecDepth 100000 in
set_option maxHeartbeats 4000000 in
theorem rNew04_any (key : List UInt8) (KA : Option Addr) (kn kc : Nat) (w : World) (hk : key.length = 16 ∨ key.length = 32) (hrk : Reads w w.heap.size 1 KA kn (bv key)) (hkc : kn ≤ kc) (hkm : kc ≤ 9223372036854775807) :
    Calls Tryz.prog 108 #[.slice KA kn kc] w (RNewKey key w) := by
  have hn : key.length = kn := by have := hrk.1; rw [length_bv] at this; omega
  have HRK := Lib.hid hrk
  have HK := Lib.hid hk
  obtain ⟨L, hL⟩ : ∃ L, L = key.length / 4 + 7 := ⟨_, rfl⟩
  have HL := Lib.hid hL
  have hd : (kn : Int) = 16 ∨ (kn : Int) = 32 := by omega
  clear hrk hk hL
  rcases hd with hd | hd
  · have d1 : ((kn : Int) != 16) = false := by rw [hd]; rfl
    clear hn hd
    go_enter Tryz.func108, Tryz.ntmps108
    go_wp2_with fail
    refine (rBoxes_any _).mono ?_
    rintro e w1 ⟨PB, cb, rfl, hrow1, hb1⟩
    have HR1 := Lib.hid hrow1
    have HB1 := Lib.hid hb1
    have HRN := Lib.hid (rRounds_any key KA PB kn kc cb w1 HK.out ((HRK.out.below hb1).more hb1.size) hkc hkm hrow1.reads)
    clear hrow1 hb1
    go_wp2_with fail
    refine HRN.out.mono ?_
    rintro e w2 ⟨A, c, rfl, hrows, hb2⟩
    have HRS := Lib.hid hrows
    have HB2 := Lib.hid hb2
    have HR2 := Lib.hid (HR1.out.below hb2 (Nat.le_refl _))
    clear hrows hb2
    go_wp2_with fail
    refine (rback_any PB cb w2 HR2.out.reads).mono ?_
    rintro e w3 ⟨PU, cu, rfl, hb3⟩
    have HB3 := Lib.hid hb3
    clear hb3
    go_wp2_with fail
    go_ret2
    have hs1 := HB1.out.size
    have hs2 := HB2.out.size
    have hs3 := HB3.out.size
    have hr := ((HRS.out.new (Nat.le_refl _) HB3.out).new hs3 ((Below.refl w3.heap.size w3).alloc (Nat.le_refl _) (.cells #[.slice A (key.length / 4 + 7) c, .slice PB 256 cb, .slice PU 256 cu] 202)))
    refine ⟨w3.heap.size, rfl, ⟨Nat.le_refl _, by omega, by simp, A, c, PB, cb, PU, cu, Blk.new _ _ _, (hr.low hs1).mono (by simp; omega), (HR2.out.below HB3.out (Nat.le_refl _)).alloc _, fun ad e => ?_⟩, (thenB (thenB HB1.out HB2.out) HB3.out).alloc (by omega) _⟩
    have := (HR1.out.lt ad e).2
    simp; omega
  · have d1 : ((kn : Int) != 16) = true := by rw [hd]; rfl
    have d2 : ((kn : Int) != 32) = false := by rw [hd]; rfl
    clear hn hd
    go_enter Tryz.func108, Tryz.ntmps108
    go_wp2_with fail
    refine (rBoxes_any _).mono ?_
    rintro e w1 ⟨PB, cb, rfl, hrow1, hb1⟩
    have HR1 := Lib.hid hrow1
    have HB1 := Lib.hid hb1
    have HRN := Lib.hid (rRounds_any key KA PB kn kc cb w1 HK.out ((HRK.out.below hb1).more hb1.size) hkc hkm hrow1.reads)
    clear hrow1 hb1
    go_wp2_with fail
    refine HRN.out.mono ?_
    rintro e w2 ⟨A, c, rfl, hrows, hb2⟩
    have HRS := Lib.hid hrows
    have HB2 := Lib.hid hb2
    have HR2 := Lib.hid (HR1.out.below hb2 (Nat.le_refl _))
    clear hrows hb2
    go_wp2_with fail
    refine (rback_any PB cb w2 HR2.out.reads).mono ?_
    rintro e w3 ⟨PU, cu, rfl, hb3⟩
    have HB3 := Lib.hid hb3
    clear hb3
    go_wp2_with fail
    go_ret2
    have hs1 := HB1.out.size
    have hs2 := HB2.out.size
    have hs3 := HB3.out.size
    have hr := ((HRS.out.new (Nat.le_refl _) HB3.out).new hs3 ((Below.refl w3.heap.size w3).alloc (Nat.le_refl _) (.cells #[.slice A (key.length / 4 + 7) c, .slice PB 256 cb, .slice PU 256 cu] 202)))
    refine ⟨w3.heap.size, rfl, ⟨Nat.le_refl _, by omega, by simp, A, c, PB, cb, PU, cu, Blk.new _ _ _, (hr.low hs1).mono (by simp; omega), (HR2.out.below HB3.out (Nat.le_refl _)).alloc _, fun ad e => ?_⟩, (thenB (thenB HB1.out HB2.out) HB3.out).alloc (by omega) _⟩
    have := (HR1.out.lt ad e).2
    simp; omega
theorem rNew04_no (KA : Option Addr) (kn kc : Nat) (w : World) (hk : ¬ (kn = 16 ∨ kn = 32)) :
    Calls Tryz.prog 108 #[.slice KA kn kc] w fun e w' => e = .returned (.tuple #[.pointer none, .int .i64 1]) ∧ w = w' := by
  have d1 : ((kn : Int) != 16) = true := bne_iff_ne.2 (by omega)
  have d2 : ((kn : Int) != 32) = true := bne_iff_ne.2 (by omega)
  clear hk
  go_enter Tryz.func108, Tryz.ntmps108
  go_wp2_with fail
  go_ret2
  exact ⟨rfl, rfl⟩
/-! ### Encrypt -/
theorem turn_of (a : List UInt8) (ha : a.length = 16) : ((List.range 16).map fun i => (a.map sb).getD (trn i) 0) = turnL a := by
  unfold turnL
  apply List.map_congr_left
  intro i _
  have : trn i < 16 := Nat.mod_lt _ (by decide)
  simp [List.getD_eq_getElem?_getD, List.getElem?_eq_getElem (show trn i < a.length by omega)]
/-- Behind i rounds of the reference. -/
def REncRel (w : World) (key p : List UInt8) (s6 s7 : Value) (wr : World) : Prop :=
  ∃ i A c, i < key.length / 4 + 7 ∧ s7 = .int .i64 ((i : Nat) + 1 : Int) ∧ s6 = .slice A 16 c ∧ Row wr w.heap.size 1 A 16 c (bv (aesAt (rksOf key) p i)) ∧ Below w.heap.size w wr
def REncOut (out : List UInt8) (w : World) (e : Ending) (w' : World) : Prop :=
  ∃ A c, e = .returned (.tuple #[.slice A 16 c, .int .i64 0]) ∧ Row w' w.heap.size 1 A 16 c (bv out) ∧ Below w.heap.size w w'
theorem RKeyAt.round {w : World} {kb B U r g o c n : Nat} {key : List UInt8} (hk : key.length = 16 ∨ key.length = 32) (h : RowsP w B U (some ⟨g, o, none⟩) n c (rksOf key)) (hr : r < n) (hn : n = key.length / 4 + 7) (hU : U ≤ w.heap.size) (_hkb : kb < U) :
    ∃ g' o' c', w.cell? ⟨g, o + r, none⟩ = some (.slice (some ⟨g', o', none⟩) 16 c') ∧ Reads w w.heap.size 1 (some ⟨g', o', none⟩) 16 (bv ((rksOf key).getD r [])) := by
  obtain ⟨g0, o0, g', o', c', hA, _, hc, _, _, _, hrd⟩ := h.row (i := r) (m := 16) hr (rks_len key hk (by omega)) (by decide)
  injection hA with hA
  injection hA with h1 h2
  subst h1 h2
  exact ⟨g', o', c', hc, hrd.more hU⟩
set_option maxRecDepth 100000 in
set_option maxHeartbeats 8000000 in
theorem rEncrypt04_any (kb B U : Nat) (key p : List UInt8) (PA : Option Addr) (pc : Nat) (w : World) (h : RKeyAt w kb B U key) (hk : key.length = 16 ∨ key.length = 32) (hp : p.length = 16) (hr : Reads w w.heap.size 1 PA 16 (bv p)) :
    Calls Tryz.prog 148 #[.pointer (some ⟨kb, 0, none⟩), .slice PA 16 pc] w (REncOut (aesE (rksOf key) p) w) := by
  obtain ⟨h1, h2, h3, A, c, PB, cb, PU, cu, h4, h5, h6, h7⟩ := h
  obtain ⟨n, hn⟩ : ∃ n, n = key.length / 4 + 7 := ⟨_, rfl⟩
  rw [← hn] at h4 h5
  have hn0 : 11 ≤ n := by omega
  have hn15 : n ≤ 15 := by omega
  obtain ⟨g, o, rfl⟩ : ∃ g o, A = some ⟨g, o, none⟩ := by obtain ⟨_, vs, hv, _⟩ := h5; exact ra_some hv (by omega)
  have HK := Lib.hid hk
  have HN := Lib.hid hn
  have H5 := Lib.hid h5
  have H6 := Lib.hid h6
  have HBLK := Lib.hid h4
  have c0 : w.cell? ⟨kb, 0, none⟩ = some (.slice (some ⟨g, o, none⟩) n c) := h4.cell 0
  have hkl := h4.lt
  have HCL := Lib.hid (fun w1 (hb : Below w.heap.size w w1) => show w1.cell? ⟨kb, 0, none⟩ = some (.slice (some ⟨g, o, none⟩) n c) ∧ w1.cell? ⟨kb, 1, none⟩ = some (.slice PB 256 cb) from ⟨(h4.below hb hkl).cell 0, (h4.below hb hkl).cell 1⟩)
  have HRD := Lib.hid (fun w1 r (hb : Below w.heap.size w w1) (hr : r < n) => RKeyAt.round (kb := kb) hk (h5.new h1 hb) hr hn (by have := hb.size; omega) h3)
  have HLN := Lib.hid (fun r (hr : r < n) => rks_len key hk (r := r) (by omega))
  have HKS := Lib.hid (show (rksOf key).length = n by rw [length_rks, hn])
  obtain ⟨g0, o0, c0', hc0, hrd0⟩ := HRD.out w 0 (Below.refl _ _) (by omega)
  rw [Nat.add_zero] at hc0
  have HLAY := Lib.hid (rlay_any p ((rksOf key).getD 0 []) PA _ pc c0' w hp (HLN.out 0 (by omega)) hr hrd0)
  have hpl := Lib.hid hp
  have hn1 : (0 : Int) < (n : Int) := by omega
  clear h1 h2 h3 h4 h5 h6 h7 hk hn hr hrd0 hp
  go_enter Tryz.func148, Tryz.ntmps148
  go_wp2_with fail
  refine HLAY.out.mono ?_
  rintro e w1 ⟨A1, c1, rfl, hrow1, hb1⟩
  have HST := Lib.hid (show REncRel w key p (.slice A1 16 c1) (.int .i64 1) w1 from ⟨0, A1, c1, by rw [← HN.out]; omega, rfl, rfl, hrow1, hb1⟩)
  clear hrow1 hb1 HLAY hc0 c0
  go_wp2_with fail
  go_loopw [6, 7] (fun s6 s7 wr => REncRel w key p s6 s7 wr) (fun _ i _ => n - (intOf i).toNat)
  case atStart => exact HST.out
  case round =>
    clear HST
    obtain ⟨i, A2, c2, hi, rfl, rfl, hrow, hb⟩ := hrel
    rw [← HN.out] at hi
    have HROW := Lib.hid hrow
    have HB := Lib.hid hb
    obtain ⟨k0, k1⟩ := HCL.out wr hb
    have hl16 : (aesAt (rksOf key) p i).length = 16 := length_aesAt hpl.out (fun r hr => HLN.out r (by rw [← HKS.out]; exact hr)) i (by rw [HKS.out]; exact hi)
    have HL16 := Lib.hid hl16
    have hsz := hb.size
    clear hrow hb hl16
    by_cases hlt : i + 1 < n
    · have t1 : (i : Int) + 1 < (n : Int) := by omega
      have HSW := Lib.hid (rswap_any (aesAt (rksOf key) p i) A2 PB c2 cb wr HL16.out (HROW.out.reads) ((H6.out.below HB.out (Nat.le_refl _)).reads))
      go_wp2_with fail
      refine HSW.out.mono ?_
      rintro e w3 ⟨A3, c3, rfl, hrow3, hb3⟩
      have HB3 := Lib.hid (HB.out.trans (hb3.mono hsz))
      have HSH := Lib.hid (rshift_any ((aesAt (rksOf key) p i).map sb) A3 c3 w3 (by rw [List.length_map]; exact HL16.out) hrow3.reads)
      have hs3 := hb3.size
      clear hrow3 hb3
      go_wp2_with fail
      refine HSH.out.mono ?_
      rintro e w4 ⟨A4, c4, rfl, hrow4, hb4⟩
      rw [turn_of _ HL16.out] at hrow4
      have HR4 := Lib.hid hrow4
      have HB4 := Lib.hid (HB3.out.trans (hb4.mono (by omega)))
      obtain ⟨k2, k3⟩ := HCL.out w4 HB4.out
      have hs4 := hb4.size
      clear hrow4 hb4 k0 k1
      by_cases hmid : i + 1 < n - 1
      · have t2 : (i : Int) + 1 < (n : Int) - 1 := by omega
        have HMX := Lib.hid (fun t => rmix_any (turnL (aesAt (rksOf key) p i)) A4 _ c4 4 (w4.alloc (.cells #[.int .i64 2, .int .i64 3, .int .i64 1, .int .i64 1] t)) (length_turnL _) (((HR4.out.reads).alloc (Nat.le_refl _) _).more (by simp)) ((Reads.lit w4 (size := 1) (n := 4) #[.int .i64 2, .int .i64 3, .int .i64 1, .int .i64 1] t rfl).more (by simp)))
        go_wp2_with fail
        refine (HMX.out _).mono ?_
        rintro e w5 ⟨A5, c5, rfl, hrow5, hb5⟩
        have HR5 := Lib.hid hrow5
        have HB5 := Lib.hid ((HB4.out.alloc HB4.out.size _).trans (hb5.mono (by simp; omega)))
        obtain ⟨k4, k5⟩ := HCL.out w5 HB5.out
        obtain ⟨g', o', c', hc', hrd'⟩ := HRD.out w5 (i + 1) HB5.out hlt
        have HLAY := Lib.hid (rlay_any (mixL (turnL (aesAt (rksOf key) p i))) ((rksOf key).getD (i + 1) []) A5 _ c5 c' w5 (length_mixL _) (HLN.out _ hlt) hrow5.reads hrd')
        have j1 : ((i : Int) + 1).toNat = i + 1 := by omega
        have hs5 : w4.heap.size + 1 ≤ w5.heap.size := by have := hb5.size; simpa using this
        clear hrow5 hb5 hrd' k2 k3
        go_wp2_with fail
        refine HLAY.out.mono ?_
        rintro e w6 ⟨A6, c6, rfl, hrow6, hb6⟩
        have HFN := Lib.hid (show REncRel w key p (.slice A6 16 c6) (.int .i64 ((i : Int) + 1 + 1)) w6 from ⟨i + 1, A6, c6, by rw [← HN.out]; exact hlt, by go_num, rfl, by rw [aesAt_mid (by rw [HKS.out]; exact hmid)]; exact hrow6.mono (by omega), HB5.out.trans (hb6.mono (by omega))⟩)
        clear hrow6 hb6
        go_wp2_with fail
        go_roundw
        case rel => exact HFN.out
        case measure => simp [intOf]; omega
      · have t2 : ¬ (i : Int) + 1 < (n : Int) - 1 := by omega
        obtain ⟨g', o', c', hc', hrd'⟩ := HRD.out w4 (i + 1) HB4.out hlt
        have HLAY := Lib.hid (rlay_any (turnL (aesAt (rksOf key) p i)) ((rksOf key).getD (i + 1) []) A4 _ c4 c' w4 (length_turnL _) (HLN.out _ hlt) HR4.out.reads hrd')
        have j1 : ((i : Int) + 1).toNat = i + 1 := by omega
        clear hrd'
        go_wp2_with fail
        refine HLAY.out.mono ?_
        rintro e w6 ⟨A6, c6, rfl, hrow6, hb6⟩
        have HFN := Lib.hid (show REncRel w key p (.slice A6 16 c6) (.int .i64 ((i : Int) + 1 + 1)) w6 from ⟨i + 1, A6, c6, by rw [← HN.out]; exact hlt, by go_num, rfl, by rw [aesAt_last (by rw [HKS.out]; exact hmid)]; exact hrow6.mono (by omega), HB4.out.trans (hb6.mono (by omega))⟩)
        clear hrow6 hb6
        go_wp2_with fail
        go_roundw
        case rel => exact HFN.out
        case measure => simp [intOf]; omega
    · have t1 : ¬ (i : Int) + 1 < (n : Int) := by omega
      have hie : i = n - 1 := by omega
      go_wp2_with fail
      go_ret2
      have hr := HROW.out
      rw [hie, ← HKS.out] at hr
      exact ⟨A2, c2, rfl, hr, HB.out⟩
end Go.Proofs.YtogpnlfbdhddmaaGreatDoor
