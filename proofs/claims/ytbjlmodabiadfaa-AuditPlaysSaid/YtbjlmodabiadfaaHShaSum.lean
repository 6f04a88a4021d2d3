/- THE WALK of (*sha.Hash).Sum, and of sha.Sum. -/
import Derived.Test.YtbjlmodabiadfaaHShaWrite
import Derived.Deep.RegionHeld3
import Derived.Deep.DeepCutAuto
import Derived.Laws.NewBlocks
namespace Go.Proofs.Ytbjlmodabiadfaa
open Go.RowKit

/-- A copy of a digest, for its end: in new blocks, and what does not fill a block lies apart. -/
def EndRel (w : World) (l : List UInt8) (s3 : Value) (wx : World) : Prop :=
  ∃ (eb : Nat) (X : Nat → Prop), s3 = .pointer (some ⟨eb, 0, none⟩) ∧ w.heap.size ≤ eb ∧ HashAt wx eb X l 0 ∧ (∀ k, X k → w.heap.size ≤ k ∧ k < wx.heap.size) ∧ Below w.heap.size w wx

theorem end_first {w w1 : World} {l : List UInt8} {A1 : Option Addr} {n c1 sa sb sc sd se sf sg sh : Nat} (hs : Sha.run Sha.start l = ⟨sa, sb, sc, sd, se, sf, sg, sh⟩) (hrow : Row w1 w.drew.heap.size 1 A1 n c1 (bv (Sha.left l))) (hb : Below w.drew.heap.size w.drew w1) :
    EndRel w l (.pointer (some ⟨w1.heap.size, 0, none⟩)) (w1.alloc (.cells #[.int .u32 (sa : Int), .int .u32 (sb : Int), .int .u32 (sc : Int), .int .u32 (sd : Int), .int .u32 (se : Int), .int .u32 (sf : Int), .int .u32 (sg : Int), .int .u32 (sh : Int), .slice A1 n c1, .int .i64 0] 109)) := by
  have hsz : w.heap.size ≤ w1.heap.size := hb.size
  refine ⟨w1.heap.size, fun k => w.heap.size ≤ k ∧ k < w1.heap.size, rfl, hsz, ⟨A1, n, c1, ?_, (hrow.mono (Nat.zero_le _)).alloc _, ?_, fun ad e => ?_⟩, fun k hk => ⟨hk.1, by simp; omega⟩, ?_⟩
  · rw [hs]
    exact Blk.new w1 109 _
  · have := hrow.1
    rw [length_bv, Sha.length_left] at this
    omega
  · have := hrow.lt ad e
    exact ⟨⟨this.1, this.2⟩, by omega⟩
  · have hb2 : Below w.heap.size w w1 := ⟨hb.os, hb.tape, hb.output, hb.size, hb.block⟩
    exact hb2.alloc hsz _
theorem end_second {w w1 : World} {l : List UInt8} {A1 : Option Addr} {n c1 sa sb sc sd se sf sg sh : Nat} {x0 x1 x2 x3 x4 x5 x6 x7 x8 x9 : Value} (hs : Sha.run Sha.start l = ⟨sa, sb, sc, sd, se, sf, sg, sh⟩)
    (hrow : Row w1 (w.alloc (.cells #[x0, x1, x2, x3, x4, x5, x6, x7, x8, x9] 109)).drew.heap.size 1 A1 n c1 (bv (Sha.left l))) (hb : Below (w.alloc (.cells #[x0, x1, x2, x3, x4, x5, x6, x7, x8, x9] 109)).drew.heap.size (w.alloc (.cells #[x0, x1, x2, x3, x4, x5, x6, x7, x8, x9] 109)).drew w1) :
    EndRel w l (.pointer (some ⟨w.heap.size, 0, none⟩)) ((((((((((w1.setCell ⟨w.heap.size, 0, none⟩ (.int .u32 (sa : Int))).setCell ⟨w.heap.size, 1, none⟩ (.int .u32 (sb : Int))).setCell ⟨w.heap.size, 2, none⟩ (.int .u32 (sc : Int))).setCell ⟨w.heap.size, 3, none⟩ (.int .u32 (sd : Int))).setCell ⟨w.heap.size, 4, none⟩ (.int .u32 (se : Int))).setCell
      ⟨w.heap.size, 5, none⟩ (.int .u32 (sf : Int))).setCell ⟨w.heap.size, 6, none⟩ (.int .u32 (sg : Int))).setCell ⟨w.heap.size, 7, none⟩ (.int .u32 (sh : Int))).setCell ⟨w.heap.size, 8, none⟩ (.slice A1 n c1)).setCell ⟨w.heap.size, 9, none⟩ (.int .i64 0)) := by
  have e : (w.alloc (.cells #[x0, x1, x2, x3, x4, x5, x6, x7, x8, x9] 109)).drew.heap.size = w.heap.size + 1 := by simp
  have hk : Blk w1 w.heap.size 109 #[x0, x1, x2, x3, x4, x5, x6, x7, x8, x9] := (hb.block w.heap.size (by omega)).trans (Blk.new w 109 _)
  have hsz : w.heap.size + 1 ≤ w1.heap.size := by have := hb.size; omega
  rw [e] at hrow
  have ha : ∀ ad, A1 = some ad → ad.block ≠ w.heap.size := fun ad h => by have := (hrow.lt ad h).1; omega
  have hbw : Below w.heap.size w w1 := ((Below.refl _ w).alloc (Nat.le_refl _) _).trans (Below.mono (B := (w.alloc (.cells #[x0, x1, x2, x3, x4, x5, x6, x7, x8, x9] 109)).heap.size) ⟨hb.os, hb.tape, hb.output, hb.size, hb.block⟩ (by simp))
  refine ⟨w.heap.size, fun k => w.heap.size < k ∧ k < w1.heap.size, rfl, Nat.le_refl _, ⟨A1, n, c1, ?_, ?_, ?_, fun ad h => ?_⟩, fun k hk => ⟨by omega, by simp [World.setCell]; omega⟩, ?_⟩
  · rw [hs]
    have k0 : Blk _ w.heap.size 109 #[.int .u32 (sa : Int), x1, x2, x3, x4, x5, x6, x7, x8, x9] := hk.set 0 (.int .u32 (sa : Int))
    have k1 : Blk _ w.heap.size 109 #[.int .u32 (sa : Int), .int .u32 (sb : Int), x2, x3, x4, x5, x6, x7, x8, x9] := k0.set 1 (.int .u32 (sb : Int))
    have k2 : Blk _ w.heap.size 109 #[.int .u32 (sa : Int), .int .u32 (sb : Int), .int .u32 (sc : Int), x3, x4, x5, x6, x7, x8, x9] := k1.set 2 (.int .u32 (sc : Int))
    have k3 : Blk _ w.heap.size 109 #[.int .u32 (sa : Int), .int .u32 (sb : Int), .int .u32 (sc : Int), .int .u32 (sd : Int), x4, x5, x6, x7, x8, x9] := k2.set 3 (.int .u32 (sd : Int))
    have k4 : Blk _ w.heap.size 109 #[.int .u32 (sa : Int), .int .u32 (sb : Int), .int .u32 (sc : Int), .int .u32 (sd : Int), .int .u32 (se : Int), x5, x6, x7, x8, x9] := k3.set 4 (.int .u32 (se : Int))
    have k5 : Blk _ w.heap.size 109 #[.int .u32 (sa : Int), .int .u32 (sb : Int), .int .u32 (sc : Int), .int .u32 (sd : Int), .int .u32 (se : Int), .int .u32 (sf : Int), x6, x7, x8, x9] := k4.set 5 (.int .u32 (sf : Int))
    have k6 : Blk _ w.heap.size 109 #[.int .u32 (sa : Int), .int .u32 (sb : Int), .int .u32 (sc : Int), .int .u32 (sd : Int), .int .u32 (se : Int), .int .u32 (sf : Int), .int .u32 (sg : Int), x7, x8, x9] := k5.set 6 (.int .u32 (sg : Int))
    have k7 : Blk _ w.heap.size 109 #[.int .u32 (sa : Int), .int .u32 (sb : Int), .int .u32 (sc : Int), .int .u32 (sd : Int), .int .u32 (se : Int), .int .u32 (sf : Int), .int .u32 (sg : Int), .int .u32 (sh : Int), x8, x9] := k6.set 7 (.int .u32 (sh : Int))
    have k8 : Blk _ w.heap.size 109 #[.int .u32 (sa : Int), .int .u32 (sb : Int), .int .u32 (sc : Int), .int .u32 (sd : Int), .int .u32 (se : Int), .int .u32 (sf : Int), .int .u32 (sg : Int), .int .u32 (sh : Int), .slice A1 n c1, x9] := k7.set 8 (.slice A1 n c1)
    have k9 : Blk _ w.heap.size 109 #[.int .u32 (sa : Int), .int .u32 (sb : Int), .int .u32 (sc : Int), .int .u32 (sd : Int), .int .u32 (se : Int), .int .u32 (sf : Int), .int .u32 (sg : Int), .int .u32 (sh : Int), .slice A1 n c1, .int .i64 0] := k8.set 9 (.int .i64 0)
    exact k9
  · exact (((((((((((hrow.mono (Nat.zero_le _)).far (p := ⟨w.heap.size, 0, none⟩) ha _).far (p := ⟨w.heap.size, 1, none⟩) ha _).far (p := ⟨w.heap.size, 2, none⟩) ha _).far (p := ⟨w.heap.size, 3, none⟩) ha _).far (p := ⟨w.heap.size, 4, none⟩) ha _).far (p := ⟨w.heap.size, 5, none⟩) ha _).far (p := ⟨w.heap.size, 6, none⟩) ha _).far (p := ⟨w.heap.size, 7, none⟩) ha _).far (p := ⟨w.heap.size, 8, none⟩) ha _).far (p := ⟨w.heap.size, 9, none⟩) ha _)
  · have := hrow.1
    rw [length_bv, Sha.length_left] at this
    omega
  · have := hrow.lt ad h
    exact ⟨⟨by omega, this.2⟩, by omega⟩
  · exact (((((((((hbw.setCell (Nat.le_refl _) _).setCell (Nat.le_refl _) _).setCell (Nat.le_refl _) _).setCell (Nat.le_refl _) _).setCell (Nat.le_refl _) _).setCell (Nat.le_refl _) _).setCell (Nat.le_refl _) _).setCell (Nat.le_refl _) _).setCell (Nat.le_refl _) _).setCell (Nat.le_refl _) _

/-- The end of a text, so far: its first byte, noughts, k bytes of its length. -/
def PadRel (wc : World) (K : Nat) (N : Int) (s5 i : Value) (wr : World) : Prop :=
  ∃ (k : Nat) (A : Option Addr) (c : Nat), k ≤ 8 ∧ i = .int .i64 k ∧ s5 = .slice A (1 + K + k) c ∧ Row wr wc.heap.size 1 A (1 + K + k) c (bv (128 :: (List.replicate K 0 ++ (Sha.eight N).take k))) ∧ Below wc.heap.size wc wr

theorem pad_next {wc w2 : World} {K k c2 : Nat} {n : Nat} {A2 : Option Addr} (h : k < 8) (hr : Row w2 wc.heap.size 1 A2 (1 + K + k + 1) c2 (bv (128 :: (List.replicate K 0 ++ (Sha.eight (8 * (n : Int))).take k)) ++ [.int .u8 ((n : Int) * 8 / 2 ^ (56 - 8 * k) % 256)])) (hb : Below wc.heap.size wc w2) :
    PadRel wc K (8 * (n : Int)) (.slice A2 (1 + K + k + 1) c2) (.int .i64 ((k : Int) + 1)) w2 := by
  refine ⟨k + 1, A2, c2, by omega, by go_num, by rw [Nat.add_assoc], ?_, hb⟩
  rw [Sha.eight_next _ k h]
  have e : bv (128 :: (List.replicate K 0 ++ ((Sha.eight (8 * (n : Int))).take k ++ [Sha.by8 (8 * (n : Int)) (56 - 8 * k)]))) = bv (128 :: (List.replicate K 0 ++ (Sha.eight (8 * (n : Int))).take k)) ++ [.int .u8 ((n : Int) * 8 / 2 ^ (56 - 8 * k) % 256)] := by
    rw [← List.append_assoc, ← List.cons_append, bv_append]
    congr 1
    simp only [bv, List.map_cons, List.map_nil, Sha.by8_toNat]
    rw [Int.mul_comm]
  rw [e, ← Nat.add_assoc]
  exact hr
theorem pad_all {n K m : Nat} (hk : K = (119 - n) % 64) (hn : n = m % 64) : 128 :: (List.replicate K 0 ++ Sha.eight (8 * (m : Int))) = Sha.pad m := by
  unfold Sha.pad
  rw [hk, hn]

theorem ix8 (s : Sha.St) (k : Nat) (h : k < 8) (w : World) : (Instr.index 106 (.agg #[.int .u32 (s.a : Int), .int .u32 (s.b : Int), .int .u32 (s.c : Int), .int .u32 (s.d : Int), .int .u32 (s.e : Int), .int .u32 (s.f : Int), .int .u32 (s.g : Int), .int .u32 (s.h : Int)]) (.int .i64 (k : Int))).run Try.prog w = .ok (.int .u32 (s.list.getD k 0 : Nat)) w := by
  obtain rfl | rfl | rfl | rfl | rfl | rfl | rfl | rfl : k = 0 ∨ k = 1 ∨ k = 2 ∨ k = 3 ∨ k = 4 ∨ k = 5 ∨ k = 6 ∨ k = 7 := by omega
  all_goals kernel_rfl
theorem dig_out (x : Nat) (hx : x < 4294967296) : bv (Sha.out4 x) = [.int .u8 ((x : Int) / 16777216), .int .u8 ((x : Int) / 65536 % 256), .int .u8 ((x : Int) / 256 % 256), .int .u8 ((x : Int) % 256)] := by
  simp only [bv, Sha.out4, List.map_cons, List.map_nil, UInt8.toNat_ofNat', Nat.shiftRight_eq_div_pow]
  rw [show ((x / 2 ^ 24 % 2 ^ 8 : Nat) : Int) = (x : Int) / 16777216 by omega, show ((x / 2 ^ 16 % 2 ^ 8 : Nat) : Int) = (x : Int) / 65536 % 256 by omega, show ((x / 2 ^ 8 % 2 ^ 8 : Nat) : Int) = (x : Int) / 256 % 256 by omega, show ((x % 2 ^ 8 : Nat) : Int) = (x : Int) % 256 by omega]
/-- The digest, so far: k words. -/
def DigRel (w5 : World) (s : Sha.St) (s7 i : Value) (wr : World) : Prop :=
  ∃ (k : Nat) (A : Option Addr) (c : Nat), k ≤ 8 ∧ i = .int .i64 k ∧ s7 = .slice A (4 * k) c ∧ Row wr w5.heap.size 1 A (4 * k) c (bv ((s.list.take k).flatMap Sha.out4)) ∧ Below w5.heap.size w5 wr

theorem dig_next {w5 w7 : World} {s : Sha.St} {k x c7 : Nat} {A7 : Option Addr} (h : k < 8) (hx : s.list.getD k 0 = x) (hxl : x < 4294967296) (hr : Row w7 w5.heap.size 1 A7 (4 * k + 4) c7 (bv ((s.list.take k).flatMap Sha.out4) ++ [.int .u8 ((x : Int) / 16777216), .int .u8 ((x : Int) / 65536 % 256), .int .u8 ((x : Int) / 256 % 256), .int .u8 ((x : Int) % 256)])) (hb : Below w5.heap.size w5 w7) :
    DigRel w5 s (.slice A7 (4 * k + 4) c7) (.int .i64 ((k : Int) + 1)) w7 := by
  refine ⟨k + 1, A7, c7, by omega, by go_num, rfl, ?_, hb⟩
  rw [Sha.flat_next s k h, hx, bv_append, dig_out x hxl]
  exact hr

set_option maxRecDepth 100000 in
set_option maxHeartbeats 4000000 in
theorem HSum_any (hb : Nat) (X : Nat → Prop) (l : List UInt8) (w : World) (h : HashAt w hb X l l.length) (hl : l.length ≤ 1152921504606846976) :
    Calls Try.prog 51 #[.pointer (some ⟨hb, 0, none⟩)] w fun e w' => RowOut (Sha.sum l) w e w' := by
  have hbl := h.lt
  obtain ⟨A, n, c, hblk, hrow, hn, ha⟩ := h
  generalize hs : Sha.run Sha.start l = s at *
  obtain ⟨sa, sb, sc, sd, se, sf, sg, sh⟩ := s
  have d0 : w.cell? ⟨hb, 0, none⟩ = some (.int .u32 (sa : Int)) := hblk.cell 0
  have d1 : w.cell? ⟨hb, 1, none⟩ = some (.int .u32 (sb : Int)) := hblk.cell 1
  have d2 : w.cell? ⟨hb, 2, none⟩ = some (.int .u32 (sc : Int)) := hblk.cell 2
  have d3 : w.cell? ⟨hb, 3, none⟩ = some (.int .u32 (sd : Int)) := hblk.cell 3
  have d4 : w.cell? ⟨hb, 4, none⟩ = some (.int .u32 (se : Int)) := hblk.cell 4
  have d5 : w.cell? ⟨hb, 5, none⟩ = some (.int .u32 (sf : Int)) := hblk.cell 5
  have d6 : w.cell? ⟨hb, 6, none⟩ = some (.int .u32 (sg : Int)) := hblk.cell 6
  have d7 : w.cell? ⟨hb, 7, none⟩ = some (.int .u32 (sh : Int)) := hblk.cell 7
  have d8 : w.cell? ⟨hb, 8, none⟩ = some (.slice A n c) := hblk.cell 8
  have d9 : w.cell? ⟨hb, 9, none⟩ = some (.int .i64 (l.length : Int)) := hblk.cell 9
  have e0 := World.new_ne w _ d0
  have e1 := World.new_ne w _ d1
  have e2 := World.new_ne w _ d2
  have e3 := World.new_ne w _ d3
  have e4 := World.new_ne w _ d4
  have e5 := World.new_ne w _ d5
  have e6 := World.new_ne w _ d6
  have e7 := World.new_ne w _ d7
  have e8 := World.new_ne w _ d8
  have e9 := World.new_ne w _ d9
  have hn64 : n < 64 := by omega
  have hnm : n ≤ 140737488355328 := by omega
  have hal : ∀ {o : Obj}, w.heap.size < ((w.alloc o).drew).heap.size := fun {o} => by simp
  have HS := Lib.hid hs
  have HN := Lib.hid hn
  have HA := Lib.hid ha
  have HROW := Lib.hid hrow
  have HBLK := Lib.hid hblk
  have HRD : Hid (Reads w w.heap.size 1 A n (bv (Sha.left l))) := Lib.hid hrow.reads
  clear hs hn ha hrow hblk
  go_enter Try.func51, Try.ntmps51
  go_upto_region 1 with fail
  go_cut [3] (fun s3 wx => EndRel w l s3 wx)
  case first =>
    go_region_held3 (fun w' => w'.cell? ⟨hb, 0, none⟩ = some (.int .u32 (sa : Int)) ∧ w'.cell? ⟨hb, 1, none⟩ = some (.int .u32 (sb : Int)) ∧ w'.cell? ⟨hb, 2, none⟩ = some (.int .u32 (sc : Int)) ∧ w'.cell? ⟨hb, 3, none⟩ = some (.int .u32 (sd : Int)) ∧ w'.cell? ⟨hb, 4, none⟩ = some (.int .u32 (se : Int)) ∧ w'.cell? ⟨hb, 5, none⟩ = some (.int .u32 (sf : Int)) ∧ w'.cell? ⟨hb, 6, none⟩ = some (.int .u32 (sg : Int)) ∧ w'.cell? ⟨hb, 7, none⟩ = some (.int .u32 (sh : Int)) ∧ w'.cell? ⟨hb, 8, none⟩ = some (.slice A n c))
      (go_keep)
      (first
        | (refine (sClone_any A n c w.heap.size (Sha.left l) w.drew HRD.out (Nat.le_refl _) hnm).mono ?_; rintro e w1 ⟨A1, c1, rfl, hrow1, hb1⟩; have hcb := fun o => hb1.cell (p := ⟨hb, o, none⟩) hbl; have hfb := fun o => hb1.frozen (p := ⟨hb, o, none⟩) hbl; simp at hcb hfb; have HROW1 := Lib.hid hrow1; have HB1 := Lib.hid hb1; clear hrow1 hb1)
        | (refine (sClone_any A n c w.heap.size (Sha.left l) (w.alloc _).drew (HRD.out.alloc (Nat.le_refl _) _) (Nat.le_of_lt hal) hnm).mono ?_; rintro e w1 ⟨A1, c1, rfl, hrow1, hb1⟩; have hcb := fun o => hb1.cell (p := ⟨hb, o, none⟩) (Nat.lt_trans hbl hal); have hfb := fun o => hb1.frozen (p := ⟨hb, o, none⟩) (Nat.lt_trans hbl hal); have hcn := fun o => hb1.cell (p := ⟨w.heap.size, o, none⟩) hal; have hfn := fun o => hb1.frozen (p := ⟨w.heap.size, o, none⟩) hal; simp at hcb hfb; have HROW1 := Lib.hid hrow1; have HB1 := Lib.hid hb1; clear hrow1 hb1))
    · go_wp2_with fail
      go_meet
      exact end_first HS.out HROW1.out HB1.out
    · go_wp2_with fail
      go_meet
      exact end_second HS.out HROW1.out HB1.out
  case rest =>
    obtain ⟨eb, X2, rfl, heb, hash, hX2, hbx⟩ := hcut
    clear d0 d1 d2 d3 d4 d5 d6 d7 e0 e1 e2 e3 e4 e5 e6 e7 e8 e9
    have d8' : wc.cell? ⟨hb, 8, none⟩ = some (.slice A n c) := (hbx.cell (p := ⟨hb, 8, none⟩) hbl).trans d8
    have d9' : wc.cell? ⟨hb, 9, none⟩ = some (.int .i64 (l.length : Int)) := (hbx.cell (p := ⟨hb, 9, none⟩) hbl).trans d9
    clear d8 d9
    have HASH := Lib.hid hash
    have HX2 := Lib.hid hX2
    have HBX := Lib.hid hbx
    clear hash hX2 hbx
    obtain ⟨K, hK, hKi⟩ : ∃ K : Nat, K = (119 - n) % 64 ∧ (119 - (n : Int)) % 64 = (K : Int) := ⟨(119 - n) % 64, rfl, by omega⟩
    have hK64 : K < 64 := by omega
    have HK := Lib.hid hK
    clear hK
    obtain ⟨i0, hi, hz0, hz1, hz2⟩ := info_parts byte_info
    have hmk := fun W => run_make (P := Try.prog) W 22 5 i0 (.int .u8 0) Try.underlying22 hi hz0 .i64 .i64 (1 + (K : Int)) 72 (by omega) (by omega) (by rw [hz2]; omega) (by omega)
    rw [hz1, show (1 + (K : Int)).toNat = 1 + K by omega, show (72 : Int).toNat = 72 from rfl, Nat.mul_one] at hmk
    have hrow0 := made_row wc (.int .u8 0) 5 (1 + K) 72 (by omega) (by unfold maxLen; omega)
    obtain ⟨u0, hu0⟩ := Option.isSome_iff_exists.1 (hrow0.at_.2.2.1 0 (by omega)).1
    have hfz0 := (hrow0.at_.2.2.1 0 (by omega)).2
    have hrow1 := hrow0.set (j := 0) (by omega) (.int .u8 128)
    rw [Nat.zero_add] at hu0 hfz0 hrow1
    rw [World.setCell_alloc_at _ _ _ _ _ rfl] at hrow1
    have hbx1 := HBX.out.alloc HBX.out.size (.cells ((madeCells #[.int .u8 0] 72).setIfInBounds 0 (.int .u8 128)) 5)
    have hbn : Below wc.heap.size wc (wc.alloc (.cells ((madeCells #[.int .u8 0] 72).setIfInBounds 0 (.int .u8 128)) 5)) := (Below.refl _ _).alloc (Nat.le_refl _) _
    have e0 : (List.replicate (1 + K) (Value.int .u8 0)).set 0 (.int .u8 128) = bv (128 :: (List.replicate K 0 ++ (Sha.eight (8 * (l.length : Int))).take 0)) := by
      rw [Nat.add_comm 1 K, List.replicate_succ]
      simp [bv]
    rw [e0] at hrow1
    have HST := Lib.hid (show PadRel wc K (8 * (l.length : Int)) (.slice (some ⟨wc.heap.size, 0, none⟩) (1 + K) 72) (.int .i64 0) _ from ⟨0, _, _, Nat.zero_le _, rfl, rfl, hrow1, hbn⟩)
    clear hrow0 hrow1 e0 hbn hbx1
    go_wp2_with fail
    go_loopw [5, 6, 37] (fun s5 _ i wr => PadRel wc K (8 * (l.length : Int)) s5 i wr) (fun _ _ i _ => 8 - (intOf i).toNat)
    case atStart => exact HST.out
    case round =>
      clear HST hu0 hfz0 hmk
      obtain ⟨k, A', c', hk, rfl, rfl, hrow, hbel⟩ := hrel
      have hsz := hbel.size
      by_cases hlt : k < 8
      · have HBEL := Lib.hid hbel
        have HROW2 := Lib.hid hrow
        clear hbel hrow
        go_wp2_with (at_builtin; refine wpList_append_row rfl (.tmp 40) (.tmp 47) rfl Try.underlying22 hi hz0 hz1 hz2 rfl (by decide) rfl (HROW2.out.alloc _) rfl (Reads.lit _ _ _ (n := 1) rfl) (by intro v hv; simp at hv; rcases hv with rfl; rfl) (by unfold maxLen; omega) (by omega) (by simp; omega) ?_; intro A2 c2 w2 hrow2 hgr2 hat2; have HB2 := Lib.hid (below_append HBEL.out hsz HROW2.out hgr2); have HR2 := Lib.hid hrow2; clear hrow2 hgr2 hat2)
        go_roundw
        case rel => exact ⟨_, _, _, pad_next hlt HR2.out HB2.out, rfl, rfl, rfl⟩
        case measure => simp [intOf]; omega
      · obtain rfl : k = 8 := by omega
        have hrow' := hrow
        rw [show (Sha.eight (8 * (l.length : Int))).take 8 = Sha.eight (8 * (l.length : Int)) from rfl, pad_all HK.out HN.out] at hrow'
        have hpl : (Sha.pad l.length).length = 1 + K + 8 := by have := hrow'.1; rw [length_bv] at this; omega
        have hA2 : ∀ ad, A' = some ad → wc.heap.size ≤ ad.block ∧ ad.block < wr.heap.size := fun ad e => hrow.lt ad e
        have hpart : Part wr (fun k => ∃ ad, A' = some ad ∧ k = ad.block) (.slice A' (1 + K + 8) c') (Sha.pad l.length) := Part.of_row hrow' (by omega) (fun ad e => ⟨ad, e, rfl⟩)
        have hparts := Parts.one (t := 22) hpart (fun k ⟨ad, e, hk⟩ => by rw [hk]; exact (hA2 ad e).2)
        have hx := HASH.out.grew (S := fun _ => False) (Grew.of_new hbel) (fun h => h) (fun _ _ h => h)
        have hx2 := hx.alloc (.cells #[.slice A' (1 + K + 8) c'] 22)
        have hebl := HASH.out.lt
        have HX3 := Lib.hid hx2
        have HPARTS := Lib.hid hparts
        have HPL := Lib.hid hpl
        have HA2 := Lib.hid hA2
        have HBEL := Lib.hid hbel
        clear hrow hrow' hpl hA2 hpart hparts hx hx2 hbel
        go_wp2_with fail
        refine (Write_any eb X2 l [Sha.pad l.length] _ _ _ _ 0 HX3.out HPARTS.out (fun k hk => ?_) (by simp) (by simp [HPL.out]; omega)).mono ?_
        · have hb2 := HBX.out
          rcases hk with ⟨ad, e, rfl⟩ | rfl
          · have h1 := HA2.out ad e
            exact ⟨by simp; omega, by omega, fun h => by have := (HX2.out _ h).2; omega⟩
          · exact ⟨by simp, by omega, fun h => by have := (HX2.out _ h).2; omega⟩
        rintro e w5 ⟨rfl, hash5, hgr5⟩
        simp only [List.flatten_cons, List.flatten_nil, List.append_nil] at hash5
        obtain ⟨A5, n5, c5, hblk5, _, _, _⟩ := hash5
        have hb5 : Below w.heap.size w w5 := by
          have h1 := HBX.out.trans (HBEL.out.mono HBX.out.size)
          have h2 := HBX.out.size
          refine (h1.alloc h1.size (.cells #[.slice A' (1 + K + 8) c'] 22)).trans (hgr5.below (by simp; omega) fun k _ hk => ?_)
          rcases hk with rfl | hk
          · exact heb
          · exact (HX2.out k hk).1
        have hfin : (Sha.run Sha.start (l ++ Sha.pad l.length)).bytes = Sha.sum l := rfl
        have hok5 := Sha.run_ok Sha.start_ok (l ++ Sha.pad l.length)
        generalize Sha.run Sha.start (l ++ Sha.pad l.length) = s5 at hblk5 hfin hok5
        have d0 : w5.cell? ⟨eb, 0, none⟩ = some (.int .u32 (s5.a : Int)) := hblk5.cell 0
        have d1 : w5.cell? ⟨eb, 1, none⟩ = some (.int .u32 (s5.b : Int)) := hblk5.cell 1
        have d2 : w5.cell? ⟨eb, 2, none⟩ = some (.int .u32 (s5.c : Int)) := hblk5.cell 2
        have d3 : w5.cell? ⟨eb, 3, none⟩ = some (.int .u32 (s5.d : Int)) := hblk5.cell 3
        have d4 : w5.cell? ⟨eb, 4, none⟩ = some (.int .u32 (s5.e : Int)) := hblk5.cell 4
        have d5 : w5.cell? ⟨eb, 5, none⟩ = some (.int .u32 (s5.f : Int)) := hblk5.cell 5
        have d6 : w5.cell? ⟨eb, 6, none⟩ = some (.int .u32 (s5.g : Int)) := hblk5.cell 6
        have d7 : w5.cell? ⟨eb, 7, none⟩ = some (.int .u32 (s5.h : Int)) := hblk5.cell 7
        have HFIN := Lib.hid hfin
        have HB5 := Lib.hid hb5
        clear hfin hb5 hblk5 hgr5
        go_wp2_with fail
        clear d0 d1 d2 d3 d4 d5 d6 d7
        go_loopw [7, 9, 55] (fun s7 _ i wr => DigRel w5 s5 s7 i wr) (fun _ _ i _ => 8 - (intOf i).toNat)
        case atStart => exact ⟨0, none, 0, Nat.zero_le _, rfl, rfl, Row.nil_ _ _ _, Below.refl _ _⟩
        case round =>
          obtain ⟨k, A6, c6, hk, rfl, rfl, hrow, hbel⟩ := hrel
          have hsz6 := hbel.size
          by_cases hlt : k < 8
          · have HBEL6 := Lib.hid hbel
            have HROW6 := Lib.hid hrow
            have hix := ix8 s5 k hlt
            have hxl : s5.list.getD k 0 < 4294967296 := Sha.list_lt hok5 k
            generalize hx : s5.list.getD k 0 = x at hix hxl
            have HX := Lib.hid hx
            clear hbel hrow hx
            go_wp2_with (at_builtin; refine wpList_append_row rfl (.tmp 58) (.tmp 70) rfl Try.underlying22 hi hz0 hz1 hz2 rfl (by decide) rfl (HROW6.out.alloc _) rfl (Reads.lit _ _ _ (n := 4) rfl) (by intro v hv; simp at hv; rcases hv with rfl | rfl | rfl | rfl <;> rfl) (by unfold maxLen; omega) (by omega) (by simp; omega) ?_; intro A7 c7 w7 hrow7 hgr7 hat7; have HB7 := Lib.hid (below_append HBEL6.out hsz6 HROW6.out hgr7); have HR7 := Lib.hid hrow7; clear hrow7 hgr7 hat7)
            go_roundw
            case rel => exact dig_next hlt HX.out hxl HR7.out HB7.out
            case measure => simp [intOf]; omega
          · obtain rfl : k = 8 := by omega
            have h8 : (s5.list.take 8).flatMap Sha.out4 = Sha.sum l := by rw [← HFIN.out, Sha.bytes_flat]; rfl
            rw [h8] at hrow
            have HROW6 := Lib.hid hrow
            have HBEL6 := Lib.hid hbel
            have hs5 := HB5.out.size
            clear hrow hbel h8 hok5
            go_wp2_with fail
            go_ret
            exact ⟨A6, c6, rfl, HROW6.out.mono hs5, HB5.out.trans (HBEL6.out.mono hs5)⟩
end Go.Proofs.Ytbjlmodabiadfaa
