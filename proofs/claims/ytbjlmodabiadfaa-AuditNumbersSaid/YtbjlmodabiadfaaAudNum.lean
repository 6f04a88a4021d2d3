/- THE WALK of the law AuditNumbers. -/
import Derived.Test.YtbjlmodabiadfaaChain6
import Derived.Test.YtbjlmodabiadfaaArgs2
import Derived.Deep.QuietTactic
import Derived.BigQuiet
import Derived.WalkLawsBesides
namespace Go.Proofs.Ytbjlmodabiadfaa
open Go.RowKit

/-- Behind j texts, m of them taken. -/
def NumRel (w : World) (cb : Nat) (key : List UInt8) (len : Nat) (s7 s8 : Value) (wr : World) : Prop :=
  ∃ (j m : Nat) (x : Ch) (X : Nat → Prop), j ≤ len ∧ j ≤ 30 ∧ m ≤ j ∧ s8 = .int .i64 j ∧ s7 = .int .i64 m ∧ ChainAt wr cb X x ∧ Good key x ∧ x.end_.seq = m ∧ x.recs.length = min m 12 ∧ (∀ k, X k → w.heap.size ≤ k) ∧ Below w.heap.size w wr
theorem put_out {w wr w2 : World} {cb : Nat} {X X' : Nat → Prop} (hcb : w.heap.size ≤ cb) (hX : ∀ k, X k → w.heap.size ≤ k) (hb : Below w.heap.size w wr) (hgr : Grew (fun k => k = cb ∨ X k) wr w2) (hX' : ∀ k, X' k → X k ∨ wr.heap.size ≤ k) : (∀ k, X' k → w.heap.size ≤ k) ∧ Below w.heap.size w w2 := by
  have hs := hb.size
  refine ⟨fun k hk => ?_, hb.trans (hgr.below (B := w.heap.size) hs fun k _ hk => ?_)⟩
  · rcases hX' k hk with h | h
    · exact hX k h
    · omega
  · rcases hk with rfl | hk
    · exact hcb
    · exact hX k hk
set_option maxRecDepth 100000 in
set_option maxHeartbeats 8000000 in
theorem AuditNumbers_walk (A : Option Addr) (n c : Nat) (key : List UInt8) (TA : Option Addr) (tn tc : Nat) (texts : List ByteArray) (w : World)
    (h1 : Reads w w.heap.size 1 A n (bv key)) (_h1c : n ≤ c ∧ c ≤ 140737488351232) (ht : texts.length = tn) (hT : Strs w (· < w.heap.size) TA texts) (hTc : tn ≤ tc ∧ tc ≤ 140737488351232 ∧ ∀ s ∈ texts, s.size ≤ 140737488351232) :
    Calls Try.prog 12 #[.slice A n c, .slice TA tn tc] w fun e w' => e = .returned (.bool true) ∧ Below w.heap.size w w' := by
  subst ht
  have hn0 : key.length = n := by have := h1.1; rw [length_bv] at this; omega
  have hsm := Lib.hid (small19_any w)
  have HN := Lib.hid (fun w' (h : Below w.heap.size w w') => aNew_any A n c w.heap.size key w' (h1.below h) h.size (by omega))
  have HT := Lib.hid hT
  have HTS := Lib.hid hTc.2.2
  have HN0 := Lib.hid hn0
  have htl : texts.length ≤ 140737488351232 := Nat.le_trans hTc.1 hTc.2.1
  clear h1 hT hn0 hTc
  go_enter Try.func12, Try.ntmps12
  go_wp2_with fail
  refine hsm.out.mono ?_
  rintro e w1 ⟨rfl, hb1⟩
  have HB1 := Lib.hid hb1
  have HC := Lib.hid (HN.out w1 hb1)
  clear hb1 hsm HN
  go_wp2_with fail
  refine HC.out.mono ?_
  rintro e w2 ⟨cb, rfl, hcb, hch, hb2⟩
  have hs1 := HB1.out.size
  have HB2 := Lib.hid (HB1.out.trans (hb2.mono hs1))
  have hs2 := hb2.size
  have HCH := Lib.hid hch
  clear hb2 hch HC
  by_cases hk : 256 < n
  · have e1 : decide (256 < (n : Int)) = true := by simp; omega
    go_wp2_with fail
    go_ret
    exact ⟨rfl, HB2.out⟩
  · have e1 : decide (256 < (n : Int)) = false := by simp; omega
    have hkn : key.length ≤ 140737488351232 := by have := HN0.out; omega
    have hcw : w.heap.size ≤ cb := by omega
    go_wp2_with fail
    go_loopw [7, 8] (fun s7 s8 wr => NumRel w cb key texts.length s7 s8 wr) (fun _ i _ => 30 - (intOf i).toNat)
    case atStart => exact ⟨0, 0, ⟨key, 0, [], []⟩, _, Nat.zero_le _, Nat.zero_le _, Nat.zero_le _, rfl, rfl, HCH.out, Good.new key, rfl, rfl, fun k hk => by omega, HB2.out⟩
    case round =>
      clear HCH HB2
      obtain ⟨j, m, x, X, hj1, hj2, hmj, rfl, rfl, hch, hgd, hes, hll, hX, hbel⟩ := hrel
      have hsz := hbel.size
      have HCH := Lib.hid hch
      have HGD := Lib.hid hgd
      have HX := Lib.hid hX
      have HBEL := Lib.hid hbel
      have HES := Lib.hid hes
      have HLL := Lib.hid hll
      by_cases hin : j < texts.length ∧ j < 30
      · obtain ⟨hlt, h30⟩ := hin
        obtain ⟨sb, so, hTA, hTR, hTc⟩ := HT.out (by omega)
        have cw0 := hTc j hlt
        have hsz0 := HTS.out texts[j] (List.getElem_mem hlt)
        generalize texts[j] = s at cw0 hsz0
        have c0 := (hbel.cell (p := ⟨sb, so + j, none⟩) hTR).trans cw0
        have HCW0 := Lib.hid cw0
        clear hTc hch hgd hX hbel hes hll cw0
        subst hTA
        have i1 : (0 : Int) ≤ (j : Int) := by omega
        have i2 : (j : Int) < (texts.length : Int) := by omega
        by_cases h1000 : 1000 < s.size
        · have e2 : decide (1000 < (s.size : Int)) = true := by simp; omega
          go_wp2_with fail
          go_ret
          exact ⟨rfl, HBEL.out⟩
        · have e2 : decide (1000 < (s.size : Int)) = false := by simp; omega
          by_cases h200 : s.size ≤ 200
          · have e3 : decide ((s.size : Int) ≤ 200) = true := by simp; omega
            have hgd := HGD.out
            have hes := HES.out
            have ha := hgd.add h200 (by omega)
            have hx1 : (x.add s).end_.seq = ((m + 1 : Nat) : Int) := by rw [ha.2.1]; show x.end_.seq + 1 = _; omega
            have hx2 : (x.add s).recs.length = min (m + 1) 12 := by rw [ha.2.2, HLL.out]; omega
            have hx3 := ha.1.end_seq
            rw [hx1, hx2] at hx3
            have hnx : (x.next s).seq = (m : Int) + 1 := by show x.end_.seq + 1 = _; omega
            have HC := Lib.hid (Add_yes cb X x s wr HCH.out h200 (by omega) (by omega) hgd.len (by rw [hgd.key_]; exact hkn) (Nat.le_trans hgd.end_tag (by decide)))
            have HGD' := Lib.hid ha.1
            have HES' := Lib.hid hx1
            have HLL' := Lib.hid hx2
            have HBS' := Lib.hid (show (x.add s).bseq = ((m : Int) + 1) - ((min (m + 1) 12 : Nat) : Int) by omega)
            have HNX := Lib.hid hnx
            clear hgd hes ha hx1 hx2 hx3 hnx
            obtain ⟨x', hx'⟩ : ∃ x', x.add s = x' := ⟨_, rfl⟩
            rw [hx'] at HGD' HES' HLL' HBS'
            have HX' := Lib.hid hx'
            clear hx'
            go_wp2_with fail
            refine HC.out.mono ?_
            intro e w3 h
            obtain ⟨rA, rc, X', he, hrow3, hch3, hg3, hX3, _⟩ := h
            rw [HNX.out] at he
            rw [HX'.out] at hch3
            subst he
            have hpo := put_out hcw HX.out HBEL.out hg3 fun k hk => (hX3 k hk).1
            have HXX := Lib.hid hpo.1
            have HB3 := Lib.hid hpo.2
            have HCH3 := Lib.hid hch3
            have hsw := hg3.size
            clear hrow3 hch3 hg3 hX3 hpo HC
            go_upto_region 12 with (fail)
            refine name_world fun w4 y1 y2 y3 y4 => ?_
            have hblk : Blk w4 w3.heap.size 51 #[.int .i64 ((m : Int) + 1), .string s, .slice rA (x.next s).tag.length rc] := (by unfold Blk; rw [y1]; exact Blk.new w3 _ _)
            have hb4 : Below w3.heap.size w3 w4 := below_heap ((Below.refl _ _).alloc (Nat.le_refl _) _) y1 y2 y3 y4
            have k0 : w4.cell? ⟨w3.heap.size, 0, none⟩ = some (.int .i64 ((m : Int) + 1)) := hblk.cell 0
            have k1 : w4.cell? ⟨w3.heap.size, 1, none⟩ = some (.string s) := hblk.cell 1
            have HB4' := Lib.hid (HB3.out.trans (hb4.mono HB3.out.size))
            have HCH' := Lib.hid (HCH3.out.new hb4)
            have hc4 : w4.cell? ⟨sb, so + j, none⟩ = some (.string s) := (HB4'.out.cell (p := ⟨sb, so + j, none⟩) hTR).trans HCW0.out
            clear y1 y2 y3 y4 hblk hb4
            go_wp2_with fail
            have e5 : ((m : Int) + 1 != (m : Int) + 1) = false := by simp
            have e6 : (s.toList != s.toList) = false := by simp
            go_quiet (fail)
            go_upto_region 18 with (fail)
            refine name_world fun wt y1 y2 y3 y4 => ?_
            have HBt := Lib.hid (below_heap HB4'.out y1 y2 y3 y4)
            have HCHt := Lib.hid (HCH'.out.new ⟨y2, y3, y4, by rw [y1]; exact Nat.le_refl _, fun k hk => by rw [y1]; rfl⟩)
            clear y1 y2 y3 y4 k0 k1 hc4 e5 e6
            have HC := Lib.hid (Head_any cb X' x' wt HCHt.out (Nat.le_trans HGD'.out.len (by decide)))
            rw [HES'.out] at HC
            go_wp2_with fail
            refine HC.out.mono ?_
            rintro e w5 ⟨hA, hc, rfl, _, hb5⟩
            have hch5 := HCHt.out.new hb5
            have HB5 := Lib.hid (HBt.out.trans (hb5.mono HBt.out.size))
            have HCH5 := Lib.hid hch5
            have HC := Lib.hid (Base_any cb X' x' w5 hch5)
            rw [HBS'.out] at HC
            clear hb5 hch5
            go_wp2_with fail
            refine HC.out.mono ?_
            rintro e w6 ⟨bA, bc, rfl, _, hb6⟩
            have hch6 := HCH5.out.new hb6
            have HB6 := Lib.hid (HB5.out.trans (hb6.mono HB5.out.size))
            have HCH6 := Lib.hid hch6
            have hp := HGD'.out
            have HC := Lib.hid (List_any cb X' x' w6 hch6 (Nat.le_trans hp.len (by decide)) (fun r hr => by have := (hp.ok r hr).2; omega))
            clear hb6 hch6 hp
            go_wp2_with fail
            refine HC.out.mono ?_
            rintro e w7 ⟨lA, lc, rfl, _, hb7⟩
            have hch7 := HCH6.out.new hb7
            have HB7 := Lib.hid (HB6.out.trans (hb7.mono HB6.out.size))
            have HCH7 := Lib.hid hch7
            have HLEN := Lib.hid (show (x'.recs.length : Int) = min (m + 1 : Int) 12 by have := HLL'.out; omega)
            clear hb7 hch7 HC
            go_wp2_with fail
            all_goals first
              | exact ⟨⟨j + 1, m + 1, x', X', by omega, by omega, by omega, by go_num, by go_num, HCH7.out, HGD'.out, HES'.out, HLL'.out, HXX.out, HB7.out⟩, by simp [intOf]; omega⟩
              | (exfalso; have := HLL'.out; omega)
          · have e3 : decide ((s.size : Int) ≤ 200) = false := by simp; omega
            have hgd := HGD.out
            have hx3 := hgd.end_seq
            rw [HES.out, HLL.out] at hx3
            have HBS := Lib.hid (show x.bseq = (m : Int) - ((min m 12 : Nat) : Int) by omega)
            have HC := Lib.hid (Add_no cb X x s wr HCH.out (.inl (by omega)) hsz0)
            clear hgd hx3
            go_wp2_with fail
            refine HC.out.mono ?_
            rintro e w3 ⟨rfl, hb3⟩
            have HB3 := Lib.hid (HBEL.out.trans (hb3.mono hsz))
            have HCH3 := Lib.hid (HCH.out.new hb3)
            clear hb3 HC
            go_upto_region 12 with (fail)
            refine name_world fun w4 y1 y2 y3 y4 => ?_
            have hb4 : Below w3.heap.size w3 w4 := below_heap ((Below.refl _ _).alloc (Nat.le_refl _) _) y1 y2 y3 y4
            have HBt := Lib.hid (HB3.out.trans (hb4.mono HB3.out.size))
            have HCHt := Lib.hid (HCH3.out.new hb4)
            have hc4 : w4.cell? ⟨sb, so + j, none⟩ = some (.string s) := (HBt.out.cell (p := ⟨sb, so + j, none⟩) hTR).trans HCW0.out
            clear y1 y2 y3 y4 hb4
            have HC := Lib.hid (Head_any cb X x w4 HCHt.out (Nat.le_trans HGD.out.len (by decide)))
            rw [HES.out] at HC
            go_wp2_with fail
            refine HC.out.mono ?_
            rintro e w5 ⟨hA, hc, rfl, _, hb5⟩
            have hch5 := HCHt.out.new hb5
            have HB5 := Lib.hid (HBt.out.trans (hb5.mono HBt.out.size))
            have HCH5 := Lib.hid hch5
            have HC := Lib.hid (Base_any cb X x w5 hch5)
            rw [HBS.out] at HC
            clear hb5 hch5
            go_wp2_with fail
            refine HC.out.mono ?_
            rintro e w6 ⟨bA, bc, rfl, _, hb6⟩
            have hch6 := HCH5.out.new hb6
            have HB6 := Lib.hid (HB5.out.trans (hb6.mono HB5.out.size))
            have HCH6 := Lib.hid hch6
            have hp := HGD.out
            have HC := Lib.hid (List_any cb X x w6 hch6 (Nat.le_trans hp.len (by decide)) (fun r hr => by have := (hp.ok r hr).2; omega))
            clear hb6 hch6 hp
            go_wp2_with fail
            refine HC.out.mono ?_
            rintro e w7 ⟨lA, lc, rfl, _, hb7⟩
            have hch7 := HCH6.out.new hb7
            have HB7 := Lib.hid (HB6.out.trans (hb7.mono HB6.out.size))
            have HCH7 := Lib.hid hch7
            have HLEN := Lib.hid (show (x.recs.length : Int) = min (m : Int) 12 by have := HLL.out; omega)
            clear hb7 hch7 HC
            go_wp2_with fail
            all_goals first
              | exact ⟨⟨j + 1, m, x, X, by omega, by omega, by omega, by go_num, rfl, HCH7.out, HGD.out, HES.out, HLL.out, HX.out, HB7.out⟩, by simp [intOf]; omega⟩
              | (exfalso; have := HLL.out; omega)
      · have hout : ¬ j < texts.length ∨ (j < texts.length ∧ ¬ j < 30) := by omega
        clear hin hch hgd hX hbel hes hll
        rcases hout with hlt | ⟨hlt, h30⟩
        all_goals
          go_wp2_with fail
          go_ret
          exact ⟨rfl, HBEL.out⟩
end Go.Proofs.Ytbjlmodabiadfaa
