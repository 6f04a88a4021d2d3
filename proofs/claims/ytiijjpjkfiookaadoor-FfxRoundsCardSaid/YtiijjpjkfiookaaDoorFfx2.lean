/- THE WALK of ffx's chain of blocks. -/
import Derived.Test.YtiijjpjkfiookaaDoorAes5
import Derived.Test.YtiijjpjkfiookaaDoorFfx1
namespace Go.Proofs.YtiijjpjkfiookaaDoor
open Go.RowKit

theorem cbc_succ (ks : List (List UInt8)) (p : List UInt8) (k : Nat) : cbcAt ks p (k + 1) = aesE ks (xorL (cbcAt ks p k) ((p.drop (16 * k)).take 16)) := rfl
/-- Ahead of block k. -/
def ChRel (w : World) (kb B : Nat) (X : Nat → Prop) (key p : List UInt8) (s1 s5 : Value) (gg : Nat) (wr : World) : Prop :=
  ∃ (k : Nat) (PA : Option Addr) (pc : Nat) (A : Option Addr) (c : Nat) (X2 : Nat → Prop), 16 * k ≤ p.length ∧ gg = p.length / 16 - k ∧ s1 = .slice PA (p.length - 16 * k) pc ∧ p.length - 16 * k ≤ pc ∧ pc ≤ 9223372036854775807 ∧ Reads wr B 1 PA (p.length - 16 * k) (bv (p.drop (16 * k))) ∧ (∀ ad, PA = some ad → 0 < p.length - 16 * k → ad.block < w.heap.size ∧ ad.block ≠ kb) ∧
    s5 = .slice A 16 c ∧ Row wr (w.heap.size + 1) 1 A 16 c (bv (cbcAt (rksOf key) p k)) ∧ (∀ ad, A = some ad → ¬ X2 ad.block ∧ ad.block ≠ kb) ∧ KeyAt wr kb X2 key ∧ (∀ j, X2 j → (X j ∧ j < w.heap.size) ∨ w.heap.size ≤ j) ∧ Grew (· = kb) w wr ∧ wr.cell? ⟨w.heap.size, 0, none⟩ = some (.pointer (some ⟨kb, 0, none⟩))
/-- Behind j bytes of a block. -/
def XoRel (w : World) (kb B : Nat) (X2 : Nat → Prop) (key q s t : List UInt8) (PA : Option Addr) (g o c : Nat) (i : Value) (gg : Nat) (wr : World) : Prop :=
  ∃ j : Nat, j ≤ 16 ∧ gg = 16 - j ∧ i = .int .i64 j ∧ Row wr (w.heap.size + 1) 1 (some ⟨g, o, none⟩) 16 c (bv (setsTo (fun i => s.getD i 0 ^^^ t.getD i 0) s j)) ∧ Reads wr B 1 PA q.length (bv q) ∧ KeyAt wr kb X2 key ∧ Grew (· = kb) w wr ∧ wr.cell? ⟨w.heap.size, 0, none⟩ = some (.pointer (some ⟨kb, 0, none⟩))
theorem XoRel.drew {w wr : World} {kb B g o c gg : Nat} {X2 : Nat → Prop} {key q s t : List UInt8} {PA : Option Addr} {i : Value} (h : XoRel w kb B X2 key q s t PA g o c i gg wr) : XoRel w kb B X2 key q s t PA g o c i gg wr.drew := by
  obtain ⟨j, h1, h2, h3, h4, h5, h6, h7, h8⟩ := h
  exact ⟨j, h1, h2, h3, h4.drew, h5.drew, h6.below (B := wr.heap.size) (Below.refl _ _).drew (Nat.le_refl _), h7.drew, h8⟩
/-- The chain's answer. -/
def ChainOut (kb : Nat) (X : Nat → Prop) (key out : List UInt8) (w : World) (e : Ending) (w' : World) : Prop :=
  ∃ X2 : Nat → Prop, (∀ k, X2 k → (X k ∧ k < w.heap.size) ∨ w.heap.size ≤ k) ∧ KeyAt w' kb X2 key ∧ Grew (· = kb) w w' ∧ ∃ A c, e = .returned (.slice A 16 c) ∧ Row w' w.heap.size 1 A 16 c (bv out)
theorem zeros_row (w : World) (t : TypeId) (ks : List (List UInt8)) (p : List UInt8) : Row (w.alloc (.cells (bv (zeros' 16)).toArray t)) w.heap.size 1 (some ⟨w.heap.size, 0, none⟩) 16 16 (bv (cbcAt ks p 0)) :=
  Row.lit w (bv (zeros' 16)).toArray t rfl (Nat.le_refl _) (by decide)
theorem make16' (w : World) : (Instr.makeSlice 32 (.int .i64 16) (.int .i64 16)).run Tryd.prog w = .ok (.slice (some ⟨w.heap.size, 0, none⟩) 16 16) (w.alloc (.cells (bv (zeros' 16)).toArray 5)) := by kernel_rfl
set_option maxRecDepth 100000 in
set_option maxHeartbeats 8000000 in
theorem chain_any (kb B : Nat) (X : Nat → Prop) (key p : List UInt8) (PA : Option Addr) (pc : Nat) (w : World) (h : KeyAt w kb X key) (hk : key.length = 16 ∨ key.length = 32) (hr : Reads w B 1 PA p.length (bv p)) (hB : B ≤ w.heap.size) (hpa : ∀ ad, PA = some ad → ad.block ≠ kb) (hpc : p.length ≤ pc) (hpm : pc ≤ 9223372036854775807) (h16 : p.length % 16 = 0) :
    Calls Tryd.prog 57 #[.agg #[.pointer (some ⟨kb, 0, none⟩)], .slice PA p.length pc] w (ChainOut kb X key (cbc (rksOf key) p) w) := by
  have hkl := h.lt
  have hmk := make16'
  have HK := Lib.hid hk
  have H16 := Lib.hid h16
  obtain ⟨w1, hw1⟩ : ∃ w1, w1 = w.alloc (.cells #[.pointer (some ⟨kb, 0, none⟩)] 60) := ⟨_, rfl⟩
  obtain ⟨w2, hw2⟩ : ∃ w2, w2 = w1.alloc (.cells (bv (zeros' 16)).toArray 5) := ⟨_, rfl⟩
  have hs1 : w1.heap.size = w.heap.size + 1 := by rw [hw1]; simp
  have hg1 : Below w.heap.size w w1 := by rw [hw1]; exact (Below.refl _ _).alloc (Nat.le_refl _) _
  have hg2 : Below w.heap.size w w2 := by rw [hw2]; exact hg1.alloc (by omega) _
  have hst : ChRel w kb B X key p (.slice PA p.length pc) (.slice (some ⟨w.heap.size + 1, 0, none⟩) 16 16) (p.length / 16) w2 := by
    refine ⟨0, PA, pc, _, 16, fun j => X j ∧ j < w.heap.size, by omega, rfl, rfl, hpc, hpm, hr.below (hg2.mono hB), fun ad e h0 => ?_, rfl, ?_, fun ad e => ?_, ?_, fun j hj => .inl hj, Grew.of_new hg2, by rw [hw2, hw1]; exact (World.cell?_alloc_lt _ _ _ (by simp)).trans (cell?_new _ _ _ 0)⟩
    · obtain ⟨b, o, e2, hb, _⟩ := hr.2 (by simpa using h0)
      have hne := hpa ad e
      rw [e] at e2; cases e2; exact ⟨by show b < _; omega, hne⟩
    · rw [hw2, ← hs1]
      exact zeros_row w1 _ _ _
    · cases e
      exact ⟨fun hx => by have := hx.2; show False; simp at this; omega, by show w.heap.size + 1 ≠ kb; omega⟩
    · exact h.within.below hg2 (Nat.le_refl _)
  have HST := Lib.hid hst
  have HPA := Lib.hid hpa
  have HW := Lib.hid hw1
  have HW2 := Lib.hid hw2
  clear h hk hr hpa hst hg1 hg2 h16 hs1 hw1 hw2
  go_enter Tryd.func57, Tryd.ntmps57
  go_wp2_with fail
  rw [show (w.alloc (.cells #[.pointer (some ⟨kb, 0, none⟩)] 60)).alloc (.cells (bv (zeros' 16)).toArray 5) = w2 by rw [HW2.out, HW.out]]
  go_loopg [1, 5] (p.length / 16) (fun gg s1 s5 wx => ChRel w kb B X key p s1 s5 gg wx)
  case atStart => exact HST.out
  case round =>
    clear HST hmk
    obtain ⟨k, PA2, pc2, A, c, X2, hk16, hgg, rfl, hpc2, hpm2, hrd, hpb, rfl, hrow, hax, hkey, hx2, hgw, hcell⟩ := hrel
    obtain ⟨og, hog⟩ : ∃ og, og = gk := ⟨_, rfl⟩
    have HOG := Lib.hid hog
    have HGG := Lib.hid hgg
    clear hog hgg
    obtain ⟨q, hq⟩ : ∃ q, p.drop (16 * k) = q := ⟨_, rfl⟩
    have hql : q.length = p.length - 16 * k := by rw [← hq, List.length_drop]
    rw [← hql] at hrd hpc2 hpb ⊢
    rw [hq] at hrd
    have HQ := Lib.hid hq
    have HQL := Lib.hid hql
    clear hq hql
    by_cases h0 : 0 < q.length
    · have hq16 : 16 ≤ q.length := by have := HQL.out; have := H16.out; omega
      obtain ⟨pg, po, rfl, hpg, hpcell⟩ := hrd.2 h0
      obtain ⟨g, o, hA⟩ : ∃ g o, A = some ⟨g, o, none⟩ := by
        cases A with
        | none => have := hrow.2.2.2.1 rfl; have := hrow.2.1; omega
        | some ad => obtain ⟨g, o, rfl, _⟩ := hrow.2.2.2.2 _ rfl; exact ⟨g, o, rfl⟩
      subst hA
      have hgl := hrow.at_.1
      have hgx := (hax _ rfl).1
      have hgk := (hax _ rfl).2
      have hpgw := (hpb _ rfl h0).1
      have hpgk := (hpb _ rfl h0).2
      simp only at hpgw hpgk hgx hgk
      have hc16 := hrow.2.1
      have hcm := hrow.2.2.1
      unfold maxLen at hcm
      obtain ⟨s, hs⟩ : ∃ s, cbcAt (rksOf key) p k = s := ⟨_, rfl⟩
      have HS := Lib.hid hs
      have hsl : s.length = 16 := by rw [← hs]; exact length_cbcAt HK.out p k hk16
      have HSL := Lib.hid hsl
      have HTL := Lib.hid (show (q.take 16).length = 16 by rw [List.length_take]; omega)
      rw [hs] at hrow
      have HST2 : Hid (XoRel w kb B X2 key q s (q.take 16) (some ⟨pg, po, none⟩) g o c (.int .i64 0) 16 wr) := Lib.hid ⟨0, by omega, rfl, rfl, hrow, hrd, hkey, hgw, hcell⟩
      have HX2 := Lib.hid hx2
      clear hrd hrow hkey hx2 hgw hcell hax hs hsl hpb hpcell
      have hgl2 : g < wr.heap.size := HST2.out.choose_spec.2.2.2.1.at_.2.1
      go_wp2_with fail
      go_loopg [6, 15] 16 (fun gg _ s15 wx => XoRel w kb B X2 key q s (q.take 16) (some ⟨pg, po, none⟩) g o c s15 gg wx)
      case atStart => exact HST2.out
      case round =>
        clear HST2
        obtain ⟨j, hj, hgg, rfl, hrow, hrd, hkey, hgw, hcell⟩ := hrel
        have HGJ := Lib.hid hgg
        clear hgg
        by_cases hj16 : j < 16
        · have c1 : wr.cell? ⟨g, o + j, none⟩ = some (u8v (s.getD j 0)) := by
            refine hrow.cell (j := j) ?_
            rw [bv_at _ j (by rw [length_setsTo, HSL.out]; exact hj16)]
            congr 3
            have := getD_setsTo_at (f := fun i => s.getD i 0 ^^^ (q.take 16).getD i 0) (l := s) (j := j)
            rw [← this, List.getD_eq_getElem?_getD, List.getElem?_eq_getElem (by rw [length_setsTo, HSL.out]; exact hj16)]
            rfl
          obtain ⟨pg2, po2, e2, _, hpcell⟩ := hrd.2 h0
          cases e2
          have c2 : wr.cell? ⟨pg, po + j, none⟩ = some (u8v ((q.take 16).getD j 0)) := by
            refine hpcell j _ ?_
            rw [bv_at _ j (by omega)]
            congr 3
            rw [List.getD_eq_getElem?_getD, List.getElem?_take, if_pos hj16, List.getElem?_eq_getElem (by omega)]
            rfl
          have f1 : wr.frozen? ⟨g, o + j, none⟩ = false := hrow.free (by omega)
          have hcell2 : (wr.setCell ⟨g, o + j, none⟩ (u8v (s.getD j 0 ^^^ (q.take 16).getD j 0))).cell? ⟨w.heap.size, 0, none⟩ = some (.pointer (some ⟨kb, 0, none⟩)) := (World.cell?_setCell_far _ _ _ _ (by show g ≠ w.heap.size; omega)).trans hcell
          have hg9 : Grew (· = g) wr (wr.setCell ⟨g, o + j, none⟩ (u8v (s.getD j 0 ^^^ (q.take 16).getD j 0))) := (Grew.refl (· = g) wr).set (p := ⟨g, o + j, none⟩) (.inl rfl) _
          have hset := hrow.set (j := j) (by omega) (u8v (s.getD j 0 ^^^ (q.take 16).getD j 0))
          rw [← bv_set] at hset
          have hne : XoRel w kb B X2 key q s (q.take 16) (some ⟨pg, po, none⟩) g o c (.int .i64 ((j : Int) + 1)) (15 - j) (wr.setCell ⟨g, o + j, none⟩ (u8v (s.getD j 0 ^^^ (q.take 16).getD j 0))) :=
            ⟨j + 1, by omega, by omega, by go_num, hset, hrd.setCell (by show B ≤ g; omega) _, hkey.grew hg9 (fun e => hgk e.symm) (fun k hk e => by subst e; exact hgx hk), hgw.then_ hg9 (fun k hk e => by have e2 : k = g := e; omega), hcell2⟩
          have HNE := Lib.hid hne
          have e1 := bx_xor (s.getD j 0) ((q.take 16).getD j 0)
          have hqj : (j : Int) < (q.length : Int) := by omega
          clear hne hset hg9 hcell2 hcell hgw hkey hrd hrow hpcell
          unfold u8v at c1 c2 HNE
          generalize ((s.getD j 0 ^^^ (q.take 16).getD j 0).toNat : Int) = Z at e1 HNE
          generalize ((s.getD j 0).toNat : Int) = Y1 at c1 e1
          generalize (((q.take 16).getD j 0).toNat : Int) = Y2 at c2 e1
          go_wp2_with fail
          go_region
          go_wp2_with fail
          go_roundg (15 - j)
          case measure => have := HGJ.out; omega
          case rel => exact HNE.out.drew
        · obtain rfl : j = 16 := by omega
          rw [setsTo_all _ _ HSL.out, map_xorL HSL.out HTL.out] at hrow
          have hxl : (xorL s (q.take 16)).length = 16 := by rw [length_xorL, HSL.out, HTL.out]; rfl
          have HE := Lib.hid (Encrypt_any kb X2 key (xorL s (q.take 16)) g o c wr hkey HK.out hxl hrow.reads hgk)
          have HRD := Lib.hid hrd
          have HGW := Lib.hid hgw
          have hkk : kb ≠ w.heap.size := by omega
          have hwl : w.heap.size < wr.heap.size := by have := hrow.at_.2.1; omega
          clear hkey hrow hrd hgw
          go_wp2_with fail
          refine HE.out.mono ?_
          rintro e w5 ⟨X3, hx3, hkey5, hg5, A5, c5, rfl, hrow5, ha5⟩
          have hcell5 := (hg5.cell (a := ⟨w.heap.size, 0, none⟩) hwl (fun e => hkk e.symm)).trans hcell
          have hnx : cbcAt (rksOf key) p (k + 1) = aesE (rksOf key) (xorL s (q.take 16)) := by rw [cbc_succ, HS.out, HQ.out]
          rw [← hnx] at hrow5
          have hrd5 : Reads w5 B 1 (some ⟨pg, po, none⟩) q.length (bv q) := ⟨HRD.out.1, fun h6 => by
            obtain ⟨b', o', e6, h7, h8⟩ := HRD.out.2 h6
            cases e6
            exact ⟨pg, po, rfl, h7, fun j u hu => (hg5.cell (a := ⟨pg, po + j, none⟩) (by show pg < wr.heap.size; omega) hpgk).trans (h8 j u hu)⟩⟩
          have HREL : ∀ PA' pc', (q.length - 16 ≤ pc') → pc' ≤ 9223372036854775807 → (0 < q.length - 16 → PA' = some ⟨pg, po + 16, none⟩) → Hid (ChRel w kb B X key p (.slice PA' (q.length - 16) pc') (.slice A5 16 c5) (og - 1) w5) := fun PA' pc' h1 h2 h3 => Lib.hid (by
            have hql := HQL.out
            have hgq := HGG.out
            have hoq := HOG.out
            have hp16 := H16.out
            have e1 : q.length - 16 = p.length - 16 * (k + 1) := by omega
            have e2 : q.drop 16 = p.drop (16 * (k + 1)) := by rw [← HQ.out, List.drop_drop, show 16 * k + 16 = 16 * (k + 1) by omega]
            refine ⟨k + 1, PA', pc', A5, c5, X3, by omega, by omega, by rw [e1], by omega, h2, ?_, fun ad ea h0' => ?_, rfl, hrow5.mono (by omega), ha5, hkey5, fun j hj => ?_, HGW.out.trans hg5, hcell5⟩
            · rw [← e1, ← e2]
              have h5 := hrd5.cut (k := 16) (cap := pc2) hq16 (by omega)
              rw [Nat.mul_one, ← bv_drop] at h5
              by_cases h6 : 0 < q.length - 16
              · rw [if_neg (by omega)] at h5
                rw [h3 h6]
                rwa [Option.map_some, add_plain] at h5
              · refine ⟨h5.1, fun h7 => absurd h7 h6⟩
            · rw [h3 (by omega)] at ea; cases ea; exact ⟨hpgw, hpgk⟩
            · rcases hx3 j hj with h6 | h6
              · exact HX2.out j h6.1
              · exact .inr (by omega))
          have HREL2 := Lib.hid HREL
          have HRW5 := Lib.hid hrow5
          clear HREL hrow5 hkey5 hg5 ha5 hx3 hnx hrd5 hcell
          by_cases hp16 : pc2 = 16
          · subst hp16
            have hq17 : q.length - 16 = 0 := by omega
            have HF := HREL2.out (some ⟨pg, po, none⟩) 0 (by omega) (by omega) (fun h => absurd h (by omega))
            rw [hq17] at HF
            clear hq17
            go_wp2_with fail
            go_roundg (og - 1)
            case measure => have := HGG.out; have := HOG.out; have := HQL.out; omega
            case rel => exact HF.out
          · have hp17 : ¬ pc2 = 16 := hp16
            have HF := HREL2.out (some ⟨pg, po + 16, none⟩) (pc2 - 16) (by omega) (by omega) (fun _ => rfl)
            go_wp2_with fail
            go_roundg (og - 1)
            case measure => have := HGG.out; have := HOG.out; have := HQL.out; omega
            case rel => exact HF.out
    · have hqe : 16 * k = p.length := by have := HQL.out; omega
      have HCE := Lib.hid (show cbcAt (rksOf key) p k = cbc (rksOf key) p by unfold cbc; congr 1; omega)
      rw [HCE.out] at hrow
      have HROW := Lib.hid hrow
      have HKEY := Lib.hid hkey
      have HGW := Lib.hid hgw
      have HX2 := Lib.hid hx2
      have hq0 : ¬ (0 : Int) < (q.length : Int) := by omega
      clear hrow hkey hgw hx2 hrd hqe hax hpb
      go_wp2_with fail
      go_ret
      exact ⟨X2, HX2.out, HKEY.out, HGW.out, A, c, rfl, HROW.out.mono (by omega)⟩
end Go.Proofs.YtiijjpjkfiookaaDoor
