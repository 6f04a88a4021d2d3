/- Audit: what a chain lists. -/
import Derived.Test.YtbjlmodabiadfaaHChain2
import Derived.Test.YtbjlmodabiadfaaHAud5
namespace Go.Proofs.Ytbjlmodabiadfaa
open Go.RowKit

/-- A copied record, ahead of its append. -/
theorem cop_ready {w wr w5 w2 : World} {oA : Option Addr} {i oc : Nat} {L : List Rec} {r : Rec} {A1 : Option Addr} {n1 : Nat} (hrow : RowRec wr w.heap.size (w.heap.size ≤ ·) oA i oc L) (hsz : w.heap.size ≤ wr.heap.size) (hb5 : Below wr.heap.size wr w5) (hr : Row w2 w5.heap.size 1 A1 r.tag.length n1 (bv r.tag)) (hb : Below w5.heap.size w5 w2) (hl : r.tag.length ≤ 140737488351232) :
    ∃ vs : List Value, L.length = i ∧ vs.length = i ∧ Row (w2.alloc (.cells #[.int .i64 r.seq, .string r.text, .slice A1 r.tag.length n1] 51)) w.heap.size 3 oA i oc (List.zipWith rcv L vs).flatten ∧
      (∀ i (h : i < L.length) (h' : i < vs.length), Part (w2.alloc (.cells #[.int .i64 r.seq, .string r.text, .slice A1 r.tag.length n1] 51)) (RTag (w.heap.size ≤ ·) oA (w2.alloc (.cells #[.int .i64 r.seq, .string r.text, .slice A1 r.tag.length n1] 51))) vs[i] L[i].tag) ∧
      Reads (w2.alloc (.cells #[.int .i64 r.seq, .string r.text, .slice A1 r.tag.length n1] 51)) (w2.heap.size + 1) 3 (some ⟨w2.heap.size, 0, none⟩) 1 (rcv r (.slice A1 r.tag.length n1)) ∧
      Part (w2.alloc (.cells #[.int .i64 r.seq, .string r.text, .slice A1 r.tag.length n1] 51)) (RTag (w.heap.size ≤ ·) oA (w2.alloc (.cells #[.int .i64 r.seq, .string r.text, .slice A1 r.tag.length n1] 51))) (.slice A1 r.tag.length n1) r.tag := by
  have hs5 := hb5.size
  have hbw := hb5.trans (hb.mono hs5)
  exact rec_ready _ hrow hbw (Part.of_row hr hl fun ad e => ⟨by have := hr.lt ad e; omega, (hr.lt ad e).2, fun ad' e' => by have := hr.lt ad e; have := (hrow.lt ad' e').2; omega⟩) rfl
set_option maxRecDepth 100000 in
set_option maxHeartbeats 4000000 in
theorem List_any (cb : Nat) (X : Nat → Prop) (x : Ch) (w : World) (h : ChainAt w cb X x) (hlen : x.recs.length ≤ 1000000) (htl : ∀ r ∈ x.recs, r.tag.length ≤ 140737488351232) :
    Calls Try.prog 38 #[.pointer (some ⟨cb, 0, none⟩)] w (RecsOut x.recs w) := by
  obtain ⟨i1, hj, hy0, hy1, hy2⟩ := info_parts rec_info
  obtain ⟨vk, vt, LA, lc, a1, a2, a3, a4, a5⟩ := h
  have c4 : w.cell? ⟨cb, 4, none⟩ = some (.slice LA x.recs.length lc) := a1.cell 4
  have hL := a4.recs
  have hRR : ∀ k, ((X k ∧ k ≠ cb) ∧ k < w.heap.size) ∨ (∃ ad, LA = some ad ∧ k = ad.block) → k < w.heap.size := fun k hk => by
    rcases hk with hk | ⟨ad, e, rfl⟩
    · exact hk.2
    · exact (a4.lt ad e).2
  generalize x.recs = L at hL c4 hlen htl
  have HL := Lib.hid hL
  have HRR := Lib.hid hRR
  have HTL := Lib.hid htl
  clear hL hRR a1 a2 a3 a4 a5 htl
  go_enter Try.func38, Try.ntmps38
  go_wp2_with fail
  go_loopw [3, 11] (fun s3 s4 wr => CopRel w L s3 s4 wr) (fun _ i _ => L.length - (intOf i).toNat)
  case atStart => exact ⟨0, none, 0, Nat.zero_le _, rfl, rfl, RowRec.nil_ _ _ _, Below.refl _ _⟩
  case round =>
    obtain ⟨i, oA, oc, hi', rfl, rfl, hrow, hbel⟩ := hrel
    have hsz := hbel.size
    by_cases hlt : i < L.length
    · obtain ⟨lb, lo, hLA, hlR, hlc⟩ := (HL.out.keep fun k hk => hbel.block k (HRR.out k hk)) (by omega)
      have hlR' := HRR.out _ hlR
      obtain ⟨d0, d1, v2, d2, hp2⟩ := hlc i hlt
      have htk : L.take (i + 1) = L.take i ++ [L[i]] := List.take_succ_eq_append_getElem hlt
      have htl := HTL.out L[i] (List.getElem_mem hlt)
      have HTK := Lib.hid htk
      obtain ⟨tA, tn, tc, hv2⟩ := hp2.form
      subst hv2
      generalize hLi : L[i] = r at d0 d1 hp2 htl
      have HLI := Lib.hid hLi
      have HROW := Lib.hid hrow
      have HBEL := Lib.hid hbel
      have HP2 := Lib.hid hp2
      clear hlc hp2 htk hrow hbel hLi hlR
      subst hLA
      have hj0 : (0 : Int) ≤ (i : Int) := by omega
      have hjl : (i : Int) < L.length := by omega
      clear c4
      go_upto_region 5 with (fail)
      refine name_world fun w5 x1 x2 x3 x4 => ?_
      have hblk : Blk w5 wr.heap.size 51 #[.int .i64 r.seq, .string r.text, .slice tA tn tc] := (by unfold Blk; rw [x1]; exact Blk.new wr _ _)
      have hb5 : Below wr.heap.size wr w5 := below_heap ((Below.refl _ _).alloc (Nat.le_refl _) _) x1 x2 x3 x4
      have k0 : w5.cell? ⟨wr.heap.size, 0, none⟩ = some (.int .i64 r.seq) := hblk.cell 0
      have k1 : w5.cell? ⟨wr.heap.size, 1, none⟩ = some (.string r.text) := hblk.cell 1
      have k2 : w5.cell? ⟨wr.heap.size, 2, none⟩ = some (.slice tA tn tc) := hblk.cell 2
      have HC := Lib.hid (copied_any r (.slice tA tn tc) _ w5 (HP2.out.keep fun k hk => hb5.block k (by have := HRR.out k hk; omega)) (fun k hk => by have := HRR.out k hk; have := hb5.size; omega))
      have HB5 := Lib.hid hb5
      clear x1 x2 x3 x4 d0 d1 d2 hblk hb5 HP2
      go_wp2_with fail
      refine HC.out.mono ?_
      rintro e w2 ⟨A1, n1, rfl, hr1, hb2⟩
      obtain ⟨vs, g1, g2, g3, g4, g5, g6⟩ := cop_ready HROW.out hsz HB5.out hr1 hb2 htl
      have hs5 := HB5.out.size
      have hs2 := hb2.size
      have HBW := Lib.hid (HBEL.out.trans ((HB5.out.trans (hb2.mono hs5)).mono hsz))
      have HG1 := Lib.hid g1
      have HG2 := Lib.hid g2
      have HG3 := Lib.hid g3
      have HG4 := Lib.hid g4
      have HG5 := Lib.hid g5
      have HG6 := Lib.hid g6
      clear g3 g4 g5 g6 g1 g2 hr1 hb2 HC
      go_wp2_with (at_builtin; (refine wpList_append_row rfl (.tmp 15) (.tmp 18) rfl Try.underlying40 hj hy0 hy1 hy2 rec_cells (by decide) rfl HG3.out rfl HG5.out (rcv_one _ _ _ _) (by unfold maxLen; omega) (by omega) (by simp; omega) ?_; intro A10 c10 w10 hrow10 hgr10 hat10; have HR10 := Lib.hid (RowRec.snoc (r := r) (v := .slice A1 r.tag.length n1) HG1.out HG2.out HG4.out hrow10 hgr10 hat10 HG6.out); have HB10 := Lib.hid ((HBW.out.alloc (by omega) _).grown hgr10 (by simp; omega) (HG3.out.blocks)); clear hrow10 hgr10 hat10))
      go_roundw
      case rel =>
        have hx := HR10.out
        rw [← HLI.out, ← HTK.out] at hx
        exact ⟨i + 1, A10, c10, by omega, by go_num, rfl, hx, HB10.out⟩
      case measure => simp [intOf]; omega
    · obtain rfl : i = L.length := by omega
      have hx := hrow
      rw [List.take_length] at hx
      have HX := Lib.hid hx
      have HBEL := Lib.hid hbel
      clear hrow hbel hx
      go_wp2_with fail
      go_ret
      exact ⟨_, _, rfl, HX.out, HBEL.out⟩
end Go.Proofs.Ytbjlmodabiadfaa
