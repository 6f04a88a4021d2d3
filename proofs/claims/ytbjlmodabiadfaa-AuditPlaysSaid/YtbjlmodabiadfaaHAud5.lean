/- Audit: records in other memory (the reference's helper). -/
import Derived.Test.YtbjlmodabiadfaaHRec
namespace Go.Proofs.Ytbjlmodabiadfaa
open Go.RowKit

/-- j records are copied. -/
def CopRel (w : World) (L : List Rec) (s3 s4 : Value) (wr : World) : Prop := ∃ (j : Nat) (A : Option Addr) (c : Nat), j ≤ L.length ∧ s4 = .int .i64 j ∧ s3 = .slice A j c ∧ RowRec wr w.heap.size (w.heap.size ≤ ·) A j c (L.take j) ∧ Below w.heap.size w wr
set_option maxRecDepth 100000 in
set_option maxHeartbeats 4000000 in
theorem rCopied_any (LA : Option Addr) (lc : Nat) (L : List Rec) (R : Nat → Prop) (w : World) (hL : Recs w R LA L) (hR : ∀ k, R k → k < w.heap.size) (hLn : L.length ≤ 1000000) :
    Calls Try.prog 29 #[.slice LA L.length lc] w (RecsOut L w) := by
  obtain ⟨i0, hi, hz0, hz1, hz2⟩ := info_parts byte_info
  obtain ⟨i1, hj, hy0, hy1, hy2⟩ := info_parts rec_info
  have HL := Lib.hid hL
  have HRR := Lib.hid hR
  clear hL hR
  go_enter Try.func29, Try.ntmps29
  go_wp2_with fail
  go_loopw [3, 4] (fun s3 s4 wr => CopRel w L s3 s4 wr) (fun _ i _ => L.length - (intOf i).toNat)
  case atStart => exact ⟨0, none, 0, Nat.zero_le _, rfl, rfl, RowRec.nil_ _ _ _, Below.refl _ _⟩
  case round =>
    obtain ⟨i, oA, oc, hi', rfl, rfl, hrow, hbel⟩ := hrel
    have hsz := hbel.size
    by_cases hlt : i < L.length
    · obtain ⟨lb, lo, hLA, hlR, hlc⟩ := (HL.out.keep fun k hk => hbel.block k (HRR.out k hk)) (by omega)
      have hlR' := HRR.out _ hlR
      obtain ⟨c0, c1, v2, c2, hp2⟩ := hlc i hlt
      have htk : L.take (i + 1) = L.take i ++ [L[i]] := List.take_succ_eq_append_getElem hlt
      have HTK := Lib.hid htk
      obtain ⟨tA, tn, tc, hv2, htl, htnc, htn, htr⟩ := hp2.reads (B := w.heap.size) HRR.out
      subst hv2
      generalize hLi : L[i] = r at c0 c1 htl htr
      have HLI := Lib.hid hLi
      have HROW := Lib.hid hrow
      have HBEL := Lib.hid hbel
      have HTR := Lib.hid htr
      have HTL := Lib.hid htl
      clear hlc hp2 htk hrow hbel htr hLi htl
      subst hLA
      have hj0 : (0 : Int) ≤ (i : Int) := by omega
      have hjl : (i : Int) < L.length := by omega
      go_upto_region 6 with (fail)
      refine name_world fun w5 x1 x2 x3 x4 => ?_
      have hblk : Blk w5 wr.heap.size 51 #[.int .i64 r.seq, .string r.text, .slice tA tn tc] := (by unfold Blk; rw [x1]; exact Blk.new wr _ _)
      have hb5 : Below wr.heap.size wr w5 := below_heap ((Below.refl _ _).alloc (Nat.le_refl _) _) x1 x2 x3 x4
      have hg5 : wr.heap.size < w5.heap.size := by rw [x1]; simp
      have d0 : w5.cell? ⟨wr.heap.size, 0, none⟩ = some (.int .i64 r.seq) := hblk.cell 0
      have d1 : w5.cell? ⟨wr.heap.size, 1, none⟩ = some (.string r.text) := hblk.cell 1
      have d2 : w5.cell? ⟨wr.heap.size, 2, none⟩ = some (.slice tA tn tc) := hblk.cell 2
      have HT5 := Lib.hid (HTR.out.below (hb5.mono hsz))
      have HB5 := Lib.hid hb5
      have HBLK := Lib.hid hblk
      clear x1 x2 x3 x4 c0 c1 c2 hblk hb5 HTR
      go_upto_region 7 with (at_builtin; refine wpList_append_row rfl (.tmp 16) (.tmp 18) rfl Try.underlying22 hi hz0 hz1 hz2 rfl (by decide) rfl (Row.lit w5 #[] 5 (n := 0) (base := w5.heap.size) (size := 1) rfl (Nat.le_refl _) (by unfold maxLen; omega)) rfl (HT5.out.alloc (by omega) _) (bv_one _) (by unfold maxLen; omega) (by omega) (by simp) ?_; intro A7 c7 w7 hrow7 hgr7 hat7; have HG7 := Lib.hid (show Below w5.heap.size w5 w7 from ((Below.refl _ _).alloc (Nat.le_refl _) _).grown hgr7 (by simp) (fun k hk => by simp at hk; omega)); have HR7 := Lib.hid (show Row w7 w5.heap.size 1 A7 tn c7 (bv r.tag) from by simpa using hrow7); have hblk7 := HBLK.out.below HG7.out hg5; have f7 := hblk7.frozen 2; have k0 : w7.cell? ⟨wr.heap.size, 0, none⟩ = some (.int .i64 r.seq) := hblk7.cell 0; have k1 : w7.cell? ⟨wr.heap.size, 1, none⟩ = some (.string r.text) := hblk7.cell 1; have k2 : w7.cell? ⟨wr.heap.size, 2, none⟩ = some (.slice tA tn tc) := hblk7.cell 2; have HBLK7 := Lib.hid hblk7; clear hrow7 hgr7 hat7 hblk7)
      have hrl := HROW.out.lt
      have hs7 := HG7.out.size
      have hbw : Below wr.heap.size wr (w7.setCell ⟨wr.heap.size, 2, none⟩ (.slice A7 tn c7)) := (HB5.out.trans (HG7.out.mono (by omega))).setCell (Nat.le_refl _) _
      have hr8 : Row (w7.setCell ⟨wr.heap.size, 2, none⟩ (.slice A7 tn c7)) w5.heap.size 1 A7 tn c7 (bv r.tag) := HR7.out.far (fun ad e => by have := HR7.out.lt ad e; simp; omega) _
      have hpp : Part (w7.setCell ⟨wr.heap.size, 2, none⟩ (.slice A7 tn c7)) (RTag (w.heap.size ≤ ·) oA (w7.setCell ⟨wr.heap.size, 2, none⟩ (.slice A7 tn c7))) (.slice A7 tn c7) r.tag := Part.of_row hr8 htn fun ad e => ⟨by have := hr8.lt ad e; omega, (hr8.lt ad e).2, fun ad' e' => by have := hr8.lt ad e; have := (hrl ad' e').2; omega⟩
      obtain ⟨vs, g1, g2, g3, g4, g5, g6⟩ := rec_ready (r := r) (v := .slice A7 tn c7) 51 HROW.out hbw hpp (g := w7.heap.size) (by simp)
      have HG1 := Lib.hid g1
      have HG2 := Lib.hid g2
      have HG3 := Lib.hid g3
      have HG4 := Lib.hid g4
      have HG5 := Lib.hid g5
      have HG6 := Lib.hid g6
      have HBW := Lib.hid (HBEL.out.trans ((hbw.mono (Nat.le_refl _)).mono hsz))
      have hs8 : (w7.setCell ⟨wr.heap.size, 2, none⟩ (.slice A7 tn c7)).heap.size = w7.heap.size := by simp
      have HS8 := Lib.hid hs8
      clear hs8
      clear g3 g4 g5 g6 g1 g2 hbw hr8 hpp hrl
      go_wp2_with (at_builtin; (refine wpList_append_row rfl (.tmp 21) (.tmp 23) rfl Try.underlying40 hj hy0 hy1 hy2 rec_cells (by decide) rfl HG3.out rfl HG5.out (rcv_one _ _ _ _) (by unfold maxLen; omega) (by omega) (by simp; omega) ?_; intro A10 c10 w10 hrow10 hgr10 hat10; have HR10 := Lib.hid (RowRec.snoc (r := r) (v := .slice A7 tn c7) HG1.out HG2.out HG4.out hrow10 hgr10 hat10 HG6.out); have HB10 := Lib.hid ((HBW.out.alloc (by simp; omega) _).grown hgr10 (by simp; omega) (HG3.out.blocks)); clear hrow10 hgr10 hat10))
      go_roundw
      case rel =>
        have hx := HR10.out
        rw [← HLI.out, ← HTK.out] at hx
        exact ⟨i + 1, A10, c10, by omega, by go_num, rfl, hx, HB10.out⟩
      case measure => simp [intOf]; omega
    · obtain rfl : i = L.length := by omega
      have hx := hrow
      rw [List.take_length] at hx
      have HX := Lib.hid hx
      have HBEL := Lib.hid hbel
      clear hrow hbel hx
      go_wp2_with fail
      go_ret
      exact ⟨_, _, rfl, HX.out, HBEL.out⟩
end Go.Proofs.Ytbjlmodabiadfaa
