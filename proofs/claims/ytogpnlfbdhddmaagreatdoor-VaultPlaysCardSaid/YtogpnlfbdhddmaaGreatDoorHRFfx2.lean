/- A cipher of the reference of ffx in memory; THE WALK of its mask. -/
import Derived.Test.YtogpnlfbdhddmaaGreatDoorHRFfx1
import Derived.Test.YtogpnlfbdhddmaaGreatDoorGFfx
namespace Go.Proofs.YtogpnlfbdhddmaaGreatDoor
open Go.RowKit

/-- A cipher of the reference at block cb; all of it lies in [B, U). -/
def RCipAt (w : World) (cb B U : Nat) (key tw : List UInt8) : Prop :=
  ∃ kb, RKeyAt w kb B U key ∧ B ≤ cb ∧ cb < U ∧ ∃ TA c, Blk w cb 166 #[.pointer (some ⟨kb, 0, none⟩), .slice TA tw.length c] ∧ Row w B 1 TA tw.length c (bv tw) ∧ ∀ ad, TA = some ad → ad.block < U
section
variable {w w' : World} {cb B U B' U' : Nat} {key tw : List UInt8}
theorem RCipAt.keep {S : Nat → Prop} (h : RCipAt w cb B U key tw) (hg : Grew S w w') (hS : ∀ k, B ≤ k → k < U → ¬ S k) : RCipAt w' cb B U key tw := by
  obtain ⟨kb, h1, h2, h3, TA, c, h4, h5, h6⟩ := h
  exact ⟨kb, h1.keep hg hS, h2, h3, TA, c, h4.grew hg (hS cb h2 h3), h5.grew hg fun ad e => hS _ (h5.lt ad e).1 (h6 ad e), h6⟩
theorem RCipAt.new (h : RCipAt w cb B U key tw) (hb : Below w.heap.size w w') : RCipAt w' cb B U key tw := h.keep (Grew.of_new (S := fun _ => False) hb) fun _ _ _ h => h
theorem RCipAt.wide (h : RCipAt w cb B U key tw) (hB : B' ≤ B) (hU : U ≤ U') (hU' : U' ≤ w.heap.size) : RCipAt w cb B' U' key tw := by
  obtain ⟨kb, h1, h2, h3, TA, c, h4, h5, h6⟩ := h
  exact ⟨kb, h1.wide hB hU hU', by omega, by omega, TA, c, h4, h5.mono hB, fun ad e => Nat.lt_of_lt_of_le (h6 ad e) hU⟩
theorem RCipAt.top (h : RCipAt w cb B U key tw) : U ≤ w.heap.size := by obtain ⟨kb, h1, _⟩ := h; exact h1.1
end
theorem rbytes_k (n k : Nat) (w : World) (hk : k ≤ 8) : Calls Tryz.prog 147 #[.int .i64 n, .int .i64 k] w fun e w' => ∃ A c, e = .returned (.slice A k c) ∧ Row w' w.heap.size 1 A k c (bv (numB n k)) ∧ Below w.heap.size w w' :=
  (rbytes_any n k w hk).mono fun e w' ⟨A, c, he, hr, hb⟩ => by rw [length_numB] at he hr; exact ⟨A, c, he, hr, hb⟩
/-- Behind z noughts. -/
def RFPadRel (w : World) (n t pad : Nat) (tw : List UInt8) (s12 : Value) (gg : Nat) (wr : World) : Prop :=
  ∃ z M A c, z ≤ pad ∧ M = 16 + t + z ∧ gg = pad - z ∧ s12 = .slice A M c ∧ Row wr w.heap.size 1 A M c (bv (ffHead n tw ++ List.replicate z 0)) ∧ Below w.heap.size w wr
/-- Behind b blocks. -/
def RCbcRel (w : World) (US P cp : Nat) (PA : Option Addr) (key p : List UInt8) (s13 s14 : Value) (wr : World) : Prop :=
  ∃ b a A c, a = 16 * b ∧ a ≤ P ∧ s14 = .int .i64 (a : Nat) ∧ s13 = .slice A 16 c ∧ Row wr US 1 A 16 c (bv (cbcAt (rksOf key) p b)) ∧ Row wr w.heap.size 1 PA P cp (bv p) ∧ (∀ ad, PA = some ad → ad.block < US) ∧ US ≤ wr.heap.size ∧ Below w.heap.size w wr
/-- Behind k bytes of a block. -/
def RXorRel (w : World) (US P cp g o c : Nat) (PA : Option Addr) (p s blk : List UInt8) (s15 : Value) (wr : World) : Prop :=
  ∃ k : Nat, k ≤ 16 ∧ s15 = .int .i64 k ∧ Row wr US 1 (some ⟨g, o, none⟩) 16 c (bv (setsTo (fun i => s.getD i 0 ^^^ blk.getD i 0) s k)) ∧ Row wr w.heap.size 1 PA P cp (bv p) ∧ US ≤ wr.heap.size ∧ Below w.heap.size w wr
theorem lay_any16 {l old : List UInt8} (hl : l.length = 16) (ho : old.length = 16) : setsTo (fun j => l.getD j 0 ^^^ old.getD j 0) l 16 = xorL l old := by
  rw [setsTo_all _ _ hl]
  apply List.ext_getElem?
  intro i
  by_cases hi : i < 16
  · rw [getD_xorL l old i (by omega) (by omega)]
    simp [hi, List.getD_eq_getElem?_getD, List.getElem?_eq_getElem (show i < l.length by omega), List.getElem?_eq_getElem (show i < old.length by omega)]
  · rw [List.getElem?_eq_none (by simp; omega), List.getElem?_eq_none (by rw [length_xorL]; omega)]
set_option maxRecDepth 100000 in
set_option maxHeartbeats 16000000 in
theorem rmask_any (cb B U : Nat) (key tw : List UInt8) (n i x : Nat) (w : World) (h : RCipAt w cb B U key tw) (hk : key.length = 16 ∨ key.length = 32) (ht : tw.length ≤ 16) (h6 : 6 ≤ n) (h32 : n ≤ 32) (hi : i ≤ 9) :
    Calls Tryz.prog 112 #[.pointer (some ⟨cb, 0, none⟩), .int .i64 n, .int .i64 i, .int .i64 x] w fun e w' => e = .returned (.int .i64 (maskV key tw n i x : Nat)) ∧ Below w.heap.size w w' := by
  have hcip := h
  obtain ⟨kb, hkey, hb1, hb2, TA, tc, hblk, hrow, htl⟩ := h
  have hcl := hblk.lt
  obtain ⟨u, hu⟩ : ∃ u, u = n / 2 := ⟨_, rfl⟩
  have hu16 : u ≤ 16 := by omega
  have q0 : ((n : Nat) : Int).tdiv 2 = (u : Int) := by rw [Int.tdiv_eq_ediv_of_nonneg (by omega)]; omega
  have q1 : (n : Int) / 2 = (u : Int) := by omega
  have q2 : (n : Int) - (u : Int) = ((n - u : Nat) : Int) := by omega
  have HWD := Lib.hid (fun w => rWidth_any ((n - u : Nat) : Int) w)
  rw [widV_ok (show 1 ≤ n - u by omega) (show n - u ≤ 16 by omega), show cntB (10 ^ (n - u) - 1) = wdN n by rw [hu]; rfl] at HWD
  obtain ⟨wd, hwd⟩ : ∃ wd, wd = wdN n := ⟨_, rfl⟩
  have hw27 := wd_le h32 h6
  rw [← hwd] at HWD hw27
  obtain ⟨t, htle⟩ : ∃ t, t = tw.length := ⟨_, rfl⟩
  rw [← htle] at ht hrow hblk
  have htcap := hrow.2.1
  have HH8 := Lib.hid (show (UInt8.ofNat (n / 2)).toNat = u by rw [← hu]; exact u8_of (by omega))
  have hub : (u : Int) % 256 = (u : Int) := by omega
  have HC1 := Lib.hid (fun w1 (hb : Below w.heap.size w w1) => show w1.cell? ⟨cb, 1, none⟩ = some (.slice TA t tc) from (hblk.below hb hcl).cell 1)
  have HC0 := Lib.hid (fun w1 (hb : Below w.heap.size w w1) => show w1.cell? ⟨cb, 0, none⟩ = some (.pointer (some ⟨kb, 0, none⟩)) from (hblk.below hb hcl).cell 0)
  have HTW := Lib.hid (hrow.reads)
  have HKEY := Lib.hid hkey
  have HK := Lib.hid hk
  have HTLE := Lib.hid htle
  have HWDE := Lib.hid hwd
  have HUE := Lib.hid hu
  have HFH := Lib.hid (length_ffHead n tw)
  have HPAD := Lib.hid (show padN tw.length (wdN n) = (48 - t - (1 + wd)) % 16 by rw [← htle, ← hwd]; rfl)
  have HLEN := Lib.hid (length_inB n i x tw (by rw [← htle]; exact ht) h32 h6)
  obtain ⟨i0, hi0, hz0, hz1, hz2⟩ := info_parts byte_info
  clear hcip hkey hblk hrow htl hk htle hwd hu
  go_enter Tryz.func112, Tryz.ntmps112
  go_wp2_with fail
  refine (HWD.out _).mono ?_
  rintro e w1 ⟨rfl, rfl⟩
  have HP1 := Lib.hid (show Row (w.alloc (.cells #[.int .u8 1, .int .u8 2, .int .u8 1, .int .u8 0, .int .u8 0, .int .u8 10, .int .u8 10, .int .u8 u] 5)) w.heap.size 1 (some ⟨w.heap.size, 0, none⟩) 8 8 (bv (h8 n)) by
    have h := Row.lit w (base := w.heap.size) (size := 1) (n := 8) #[.int .u8 1, .int .u8 2, .int .u8 1, .int .u8 0, .int .u8 0, .int .u8 10, .int .u8 10, .int .u8 u] 5 rfl (Nat.le_refl _) (by decide)
    unfold h8
    rw [show bv [1, 2, 1, 0, 0, 10, 10, UInt8.ofNat (n / 2)] = [.int .u8 1, .int .u8 2, .int .u8 1, .int .u8 0, .int .u8 0, .int .u8 10, .int .u8 10, .int .u8 u] by simp [bv, HH8.out]]
    exact h)
  go_wp2_with fail
  refine (rbytes_k n 4 _ (by decide)).mono ?_
  rintro e w2 ⟨A2, c2, rfl, hrow2, hb2'⟩
  have HR2 := Lib.hid hrow2
  have HP2 := Lib.hid (HP1.out.below hb2' (Nat.le_refl _))
  have HB2 := Lib.hid (((Below.refl w.heap.size w).alloc (Nat.le_refl _) _).trans (hb2'.mono (by simp)))
  have hs2 : w.heap.size + 1 ≤ w2.heap.size := by have := hb2'.size; simpa using this
  clear hrow2 hb2'
  go_upto_region 5 with (at_builtin; refine wpList_append_row rfl (.tmp 28) (.tmp 30) rfl Tryz.underlying27 hi0 hz0 hz1 hz2 rfl (by decide) rfl HP2.out rfl HR2.out.reads (bv_one _) (by unfold maxLen; omega) (by omega) (by omega) ?_; intro A3 c3 w3 hrow3 hgr3 hat3; have HB3 := Lib.hid (below_append0 HB2.out (by omega) HP2.out hgr3); have HP3 := Lib.hid hrow3; have hs3 := hgr3.size; clear hrow3 hgr3 hat3)
  have k1 := HC1.out w3 HB3.out
  go_wp2_with fail
  refine (rbytes_k t 4 _ (by decide)).mono ?_
  rintro e w4 ⟨A4, c4, rfl, hrow4, hb4⟩
  have HR4 := Lib.hid hrow4
  have HP4 := Lib.hid (HP3.out.below hb4 (Nat.le_refl _))
  have HB4 := Lib.hid (HB3.out.trans (hb4.mono (by omega)))
  have hs4 := hb4.size
  clear hrow4 hb4 k1
  go_upto_region 6 with (at_builtin; refine wpList_append_row rfl (.tmp 32) (.tmp 38) rfl Tryz.underlying27 hi0 hz0 hz1 hz2 rfl (by decide) rfl HP4.out rfl HR4.out.reads (bv_one _) (by unfold maxLen; omega) (by omega) (by omega) ?_; intro A5 c5 w5 hrow5 hgr5 hat5; have HB5 := Lib.hid (below_append0 HB4.out (by omega) HP4.out hgr5); have HP5 := Lib.hid hrow5; have hs5 := hgr5.size; clear hrow5 hgr5 hat5)
  have k1 := HC1.out w5 HB5.out
  go_wp2_with (at_builtin; refine wpList_append_row rfl (.tmp 40) (.tmp 44) rfl Tryz.underlying27 hi0 hz0 hz1 hz2 rfl (by decide) rfl HP5.out rfl (HTW.out.below HB5.out) (bv_one _) (by unfold maxLen; omega) (by omega) (by omega) ?_; intro A6 c6 w6 hrow6 hgr6 hat6; have HB6 := Lib.hid (below_append0 HB5.out (by omega) HP5.out hgr6); have HP6 := Lib.hid hrow6; have hs6 := hgr6.size; clear hrow6 hgr6 hat6)
  obtain ⟨pad, hpad⟩ : ∃ pad, pad = (48 - t - (1 + wd)) % 16 := ⟨_, rfl⟩
  have hpad16 : pad < 16 := by omega
  have HPD := Lib.hid hpad
  have HST := Lib.hid (show RFPadRel w n t pad tw (.slice A6 (8 + 4 + 4 + t) c6) pad w6 from ⟨0, 8 + 4 + 4 + t, A6, c6, by omega, by omega, by omega, rfl, by
    have h := HP6.out
    rw [← bv_append, ← bv_append, ← bv_append] at h
    rw [List.replicate_zero, List.append_nil]
    have e : ffHead n tw = h8 n ++ numB n 4 ++ numB t 4 ++ tw := by rw [HTLE.out]; rfl
    rw [e]; exact h, HB6.out⟩)
  clear k1 hpad HP1 HP2 HP3 HP4 HP5 HP6 HR2 HR4 HB2 HB3 HB4 HB5 HB6 hs2 hs3 hs4 hs5 hs6
  have hib : (i : Int) % 256 = (i : Int) := by omega
  have HIB := Lib.hid (show (i : Int) = ((UInt8.ofNat i).toNat : Int) by rw [u8_of (by omega)])
  have hmk := make16r
  go_loopg [12] pad (fun gg s12 wx => RFPadRel w n t pad tw s12 gg wx)
  case atStart => exact HST.out
  case round =>
    clear HST
    obtain ⟨z, M, A, c, hz, hM, hgg, rfl, hrow, hb⟩ := hrel
    have HGG := Lib.hid hgg
    have HROW := Lib.hid hrow
    have HB := Lib.hid hb
    have hsz := hb.size
    have HM := Lib.hid hM
    have hM50 : M ≤ 50 := by omega
    clear hrow hb hgg
    by_cases hlt : z < pad
    · have hne : ¬ ((M : Int) + 1 + (wd : Int)) % 16 = 0 := by have := HPD.out; omega
      clear hM hmk
      go_wp2_with (at_builtin; refine wpList_append_row rfl (.tmp 53) (.tmp 54) rfl Tryz.underlying27 hi0 hz0 hz1 hz2 rfl (by decide) rfl (HROW.out.alloc _) rfl (Reads.lit _ _ _ (n := 1) rfl) (by intro v hv; simp at hv; rcases hv with rfl; rfl) (by unfold maxLen; omega) (by omega) (by simp; omega) ?_; intro A2 c2 w2 hrow2 hgr2 hat2; have HB2 := Lib.hid (below_append HB.out hsz HROW.out hgr2); have HR2 := Lib.hid hrow2; clear hrow2 hgr2 hat2)
      go_roundg (pad - z - 1)
      case measure => have := HGG.out; omega
      case rel =>
        refine ⟨z + 1, M + 1, A2, c2, by omega, by have := HM.out; omega, by omega, rfl, ?_, HB2.out⟩
        have h := HR2.out
        rw [List.replicate_succ', ← List.append_assoc, bv_append]
        exact h
    · obtain rfl : z = pad := by omega
      have hne : ((M : Int) + 1 + (wd : Int)) % 16 = 0 := by have := HPD.out; omega
      clear hM
      go_wp2_with (at_builtin; refine wpList_append_row rfl (.tmp 56) (.tmp 59) rfl Tryz.underlying27 hi0 hz0 hz1 hz2 rfl (by decide) rfl (HROW.out.alloc _) rfl (Reads.lit _ _ _ (n := 1) rfl) (by intro v hv; simp at hv; rcases hv with rfl; rfl) (by unfold maxLen; omega) (by omega) (by simp; omega) ?_; intro A2 c2 w2 hrow2 hgr2 hat2; have HB2 := Lib.hid (below_append HB.out hsz HROW.out hgr2); have HR2 := Lib.hid hrow2; have hs2 := hgr2.size; clear hrow2 hgr2 hat2)
      refine (rbytes_k x wd _ (by omega)).mono ?_
      rintro e w3 ⟨A3, c3, rfl, hrow3, hb3⟩
      have HR3 := Lib.hid hrow3
      have HP3 := Lib.hid (HR2.out.below hb3 (Nat.le_refl _))
      have HB3 := Lib.hid (HB2.out.trans (hb3.mono (by have := HB2.out.size; omega)))
      clear hrow3 hb3 hne
      go_wp2_with (at_builtin; refine wpList_append_row rfl (.tmp 61) (.tmp 64) rfl Tryz.underlying27 hi0 hz0 hz1 hz2 rfl (by decide) rfl HP3.out rfl HR3.out.reads (bv_one _) (by unfold maxLen; omega) (by omega) HB3.out.size ?_; intro A4 c4 w4 hrow4 hgr4 hat4; have HB4 := Lib.hid (below_append0 HB3.out HB3.out.size HP3.out hgr4); have HP4 := Lib.hid hrow4; clear hrow4 hgr4 hat4)
      obtain ⟨p, hp⟩ : ∃ p, p = ffIn n i x tw := ⟨_, rfl⟩
      obtain ⟨P, hP⟩ : ∃ P, P = M + 1 + wd := ⟨_, rfl⟩
      have hPr : Row w4 w.heap.size 1 A4 P c4 (bv p) := by
        have h := HP4.out
        have e : p = ffHead n tw ++ List.replicate z 0 ++ [UInt8.ofNat i] ++ numB x wd := by
          rw [hp]; unfold ffIn ffTail; rw [HPAD.out, ← HPD.out, ← HWDE.out]; simp
        rw [e, bv_append, bv_append, hP]
        rw [HIB.out] at h
        exact h
      have hpl : p.length = P := by have := hPr.1; rw [length_bv] at this; omega
      have hP16 : P % 16 = 0 ∧ P ≤ 64 := by rw [← hpl, hp]; exact HLEN.out
      have HPE := Lib.hid hp
      have HPL := Lib.hid hpl
      have HPR := Lib.hid hPr
      obtain ⟨hP1, hP2⟩ := hP16
      have HST := Lib.hid (show RCbcRel w w4.heap.size P c4 A4 key p (.slice (some ⟨w4.heap.size, 0, none⟩) 16 16) (.int .i64 0) (w4.alloc (.cells (bv (zeros' 16)).toArray 5)) from
        ⟨0, 0, _, 16, by omega, by omega, rfl, rfl, Row.lit w4 (bv (zeros' 16)).toArray 5 rfl (Nat.le_refl _) (by decide), hPr.alloc _, fun ad e => (hPr.lt ad e).2, by simp, HB4.out.alloc HB4.out.size _⟩)
      have hUw : w.heap.size ≤ w4.heap.size := HB4.out.size
      generalize w4.heap.size = US at HST hUw ⊢
      rw [← hP]
      clear hPr hpl hp hP HPR HP4 HB4 HB3 HP3 HR3 HR2 HB2 HROW HB hs2 hsz hmk
      go_loopw [13, 14] (fun s13 s14 wx => RCbcRel w US P c4 A4 key p s13 s14 wx) (fun _ i _ => P - (intOf i).toNat)
      case atStart => exact HST.out
      case round =>
        clear HST
        obtain ⟨b, a, A, c, ha, haP, rfl, rfl, hrow, hpr, hAl, hUx, hb⟩ := hrel
        have HA := Lib.hid ha
        have HPR := Lib.hid hpr
        have HAL := Lib.hid hAl
        have HB := Lib.hid hb
        have hsl : (cbcAt (rksOf key) p b).length = 16 := length_cbcAt HK.out p b (by rw [HPL.out]; omega)
        obtain ⟨s, hs⟩ : ∃ s, s = cbcAt (rksOf key) p b := ⟨_, rfl⟩
        rw [← hs] at hrow hsl
        have HS := Lib.hid hs
        have HSL := Lib.hid hsl
        obtain ⟨g, o, rfl⟩ := ra_some hrow (by decide)
        by_cases hlt : a < P
        · have hai : (a : Int) < (P : Int) := by omega
          have ha16 : a + 16 ≤ P := by omega
          obtain ⟨gp, op, hA4⟩ := ra_some hpr (by omega)
          subst hA4
          have hgpU := hAl _ rfl
          simp only at hgpU
          obtain ⟨blk, hblk⟩ : ∃ blk, blk = (p.drop a).take 16 := ⟨_, rfl⟩
          have hbl16 : blk.length = 16 := by rw [hblk, List.length_take, List.length_drop, HPL.out]; omega
          have HBLK := Lib.hid hblk
          have HBL := Lib.hid hbl16
          have HST := Lib.hid (show RXorRel w US P c4 g o c (some ⟨gp, op, none⟩) p s blk (.int .i64 0) wr from ⟨0, by omega, rfl, hrow, hpr, hUx, hb⟩)
          have hgU := hrow.at_.1
          clear hrow hpr hAl hb ha hs hsl hblk hbl16 HPR HB hUx
          go_wp2_with fail
          go_loopw [15] (fun s15 wx => RXorRel w US P c4 g o c (some ⟨gp, op, none⟩) p s blk s15 wx) (fun i _ => 16 - (intOf i).toNat)
          case atStart => exact HST.out
          case round =>
            clear HST
            obtain ⟨k, hk16, rfl, hrow, hpr, hUx, hb⟩ := hrel
            by_cases hk : k < 16
            · have hki : (k : Int) < 16 := by omega
              obtain ⟨q, hq⟩ : ∃ q, q = a + k := ⟨_, rfl⟩
              have hsk : k < s.length := by rw [HSL.out]; exact hk
              have hbk : k < blk.length := by rw [HBL.out]; exact hk
              have hqp : q < p.length := by rw [HPL.out]; omega
              have hbq : blk[k]'hbk = p[q]'hqp := by
                have h1 : blk[k]? = p[q]? := by rw [HBLK.out, List.getElem?_take, if_pos hk, List.getElem?_drop, hq]
                rw [List.getElem?_eq_getElem hbk, List.getElem?_eq_getElem hqp] at h1
                exact Option.some.inj h1
              have c1 := hrow.cell (j := k) (u := .int .u8 ((s[k]'hsk).toNat : Int)) (by
                rw [bv_at _ k (by rw [length_setsTo]; exact hsk)]
                congr 4
                have h := setsTo_from (fun i => s.getD i 0 ^^^ blk.getD i 0) s k k (Nat.le_refl _)
                rw [List.getElem?_eq_getElem (by rw [length_setsTo]; exact hsk), List.getElem?_eq_getElem hsk] at h
                exact Option.some.inj h)
              have f1 := hrow.free (j := k) (by have := hrow.2.1; omega)
              have c2 := hpr.cell (j := q) (bv_at p q hqp)
              rw [← hbq] at c2
              have hset := hrow.set (j := k) (by have := hrow.2.1; omega) (.int .u8 (((s[k]'hsk) ^^^ (blk[k]'hbk)).toNat : Int))
              rw [← bv_set] at hset
              have hns : ((setsTo (fun i => s.getD i 0 ^^^ blk.getD i 0) s k).set k ((s[k]'hsk) ^^^ (blk[k]'hbk))) = setsTo (fun i => s.getD i 0 ^^^ blk.getD i 0) s (k + 1) := by
                show _ = (setsTo (fun i => s.getD i 0 ^^^ blk.getD i 0) s k).set k (s.getD k 0 ^^^ blk.getD k 0)
                congr 1
                simp [List.getD_eq_getElem?_getD, List.getElem?_eq_getElem hsk, List.getElem?_eq_getElem hbk]
              rw [hns] at hset
              have HNX := Lib.hid (show RXorRel w US P c4 g o c (some ⟨gp, op, none⟩) p s blk (.int .i64 ((k : Int) + 1)) (wr.setCell ⟨g, o + k, none⟩ (.int .u8 (((s[k]'hsk) ^^^ (blk[k]'hbk)).toNat : Int))) from
                ⟨k + 1, by omega, by go_num, hset, hpr.far (fun ad e => by cases e; show gp ≠ g; omega) _, by simpa using hUx, hb.setCell (by show w.heap.size ≤ g; omega) _⟩)
              have hxe := bx_xor (s[k]'hsk) (blk[k]'hbk)
              have k1 : (a : Int) + (k : Int) = (q : Int) := by omega
              have k2 : (q : Int) < (P : Int) := by rw [HPL.out] at hqp; omega
              have k3 : IntKind.i64.wrap ((a : Int) + (k : Int)) = (q : Int) := by rw [k1]; exact IntWalk.i64_in _ (by omega)
              clear hrow hpr hUx hb hset hns hbq hqp hq
              generalize ((s[k]'hsk) ^^^ (blk[k]'hbk)).toNat = Z at hxe HNX
              generalize (s[k]'hsk).toNat = Z1 at c1 hxe
              generalize (blk[k]'hbk).toNat = Z2 at c2 hxe
              go_wp2_with fail
              go_region
              go_wp2_with fail
              go_roundw
              case rel => exact (show RXorRel w US P c4 g o c (some ⟨gp, op, none⟩) p s blk _ _ by
                obtain ⟨j', r1, r2, r3, r4, r5, r6⟩ := HNX.out
                exact ⟨j', r1, r2, r3.drew, r4.drew, r5, r6.drew⟩)
              case measure => simp [intOf]; omega
            · obtain rfl : k = 16 := by omega
              rw [lay_any16 HSL.out HBL.out] at hrow
              have HPR := Lib.hid hpr
              have HB := Lib.hid hb
              have hk0 := HC0.out wr hb
              have HEN := Lib.hid (rEncrypt04_any kb B U key (xorL s blk) _ c wr (HKEY.out.keep (Grew.of_below hb (S := fun k => w.heap.size ≤ k) fun _ _ h => h) (fun k _ hk2 h => by have := HKEY.out.1; omega)) HK.out (by rw [length_xorL, HSL.out, HBL.out]; rfl) hrow.reads)
              have hbs := hb.size
              clear hrow hpr hb
              go_wp2_with fail
              refine HEN.out.mono ?_
              rintro e w6 ⟨A6, c6, rfl, hrow6, hb6⟩
              have HFN := Lib.hid (show RCbcRel w US P c4 (some ⟨gp, op, none⟩) key p (.slice A6 16 c6) (.int .i64 ((a : Int) + 16)) w6 from
                ⟨b + 1, a + 16, A6, c6, by have := HA.out; omega, ha16, by go_num, rfl, by
                  show Row w6 US 1 A6 16 c6 (bv (aesE (rksOf key) (xorL (cbcAt (rksOf key) p b) ((p.drop (16 * b)).take 16))))
                  rw [← HS.out, ← HA.out, ← HBLK.out]
                  exact hrow6.mono hUx, HPR.out.below hb6 (Nat.le_refl _), HAL.out, by have := hb6.size; omega, HB.out.trans (hb6.mono hbs)⟩)
              clear hrow6 hb6
              go_wp2_with fail
              go_roundw
              case rel => exact HFN.out
              case measure => simp [intOf]; omega
        · have haP2 : a = P := by omega
          have hcb : s = cbc (rksOf key) p := by
            rw [HS.out]; unfold cbc; rw [HPL.out]
            congr 1
            have := HA.out; omega
          rw [hcb] at hrow
          have HROW := Lib.hid hrow
          have hcap := hrow.2.1
          obtain ⟨d, hd⟩ : ∃ d, d = (wd + 3) / 4 * 4 + 4 := ⟨_, rfl⟩
          have e1 : ((wd : Int) + 3) / 4 * 4 + 4 = (d : Int) := by omega
          have hd12 : d ≤ 12 := by omega
          have hdc : (d : Int) ≤ (c : Int) := by omega
          have HDG := Lib.hid (fun w => show Calls Tryz.prog 110 #[.int .i64 n, .int .i64 i] w (fun e w' => e = .returned (.int .i64 (halfN n i : Nat)) ∧ w' = w) from (rdigits_any n i w (by omega) (by omega)).mono fun e w' h => ⟨h.1, h.2.symm⟩)
          have HRS := Lib.hid (fun m => show Calls Tryz.prog 149 #[.slice (some ⟨g, o, none⟩) d c, .int .i64 (halfN n i : Nat)] (wr.drewN m) (fun e w' => e = .returned (.tuple #[.int .i64 (maskV key tw n i x : Nat), .int .i64 0]) ∧ w' = wr.drewN m) from by
            have hrd : Reads (wr.drewN m) wr.heap.size 1 (some ⟨g, o, none⟩) d (bv ((cbc (rksOf key) p).take d)) := by
              have h := (HROW.out.reads).take (k := d) (by omega)
              rw [Nat.mul_one, ← bv_take] at h
              exact h.drewN m
            refine (rRest_any (some ⟨g, o, none⟩) d c wr.heap.size _ (halfN n i : Nat) (wr.drewN m) hrd (by omega)).mono fun e w' h => ⟨?_, h.2.symm⟩
            rw [h.1, restR_ok (half_powV h6 h32) (pow_pos' _) (by rw [List.length_take]; omega)]
            unfold maskV
            rw [HPE.out, hd, HWDE.out, Nat.add_comm])
          clear hrow hpr hAl hb hcb ha hs hsl HS HPR hd haP2
          generalize halfN n i = hN at HDG HRS
          have hdi : (0 : Int) ≤ (d : Int) := by omega
          go_wp2_with fail
          go_quiet (first | (go_at_call 110; exact Calls.quiet_of_same (HDG.out _)) | (go_at_call 149; exact Calls.quiet_of_same (HRS.out _)))
          go_wp2_with fail
          go_ret
          exact ⟨rfl, below_drewN HB.out _⟩
end Go.Proofs.YtogpnlfbdhddmaaGreatDoor
