/- THE WALK of the reference's Rounds. -/
import Derived.Test.YtogpnlfbdhddmaaGreatDoorHRAes6
import Derived.StillTailTactics
import Derived.Deep.CutBlock
import Derived.BigRegion
namespace Go.Proofs.YtogpnlfbdhddmaaGreatDoor
open Go.RowKit

theorem rows_info : (Tryz.prog.info? 27).map (fun i => (i.zero, i.size, i.bytes)) = some (some (.slice none 0 0), 1, 24) := by kernel_rfl
theorem ra_some {w : World} {base size n cap : Nat} {A : Option Addr} {xs : List Value} (h : Row w base size A n cap xs) (hn : 0 < n) : ∃ g o, A = some ⟨g, o, none⟩ := by
  cases A with
  | none => have := h.2.2.2.1 rfl; have := h.2.1; omega
  | some ad => obtain ⟨g, o, rfl, _⟩ := h.2.2.2.2 _ rfl; exact ⟨g, o, rfl⟩
theorem reads_sub {w : World} {B g o n m q : Nat} {l : List UInt8} (h : Reads w B 1 (some ⟨g, o, none⟩) n (bv l)) (hq : q = m + 4) (hm : q ≤ n) : Reads w B 1 (some ⟨g, o + m, none⟩) 4 (bv ((l.drop m).take 4)) := by
  have hl := h.1
  rw [length_bv] at hl
  obtain ⟨b, o', e, hb, hc⟩ := h.2 (by omega)
  cases e
  refine ⟨by rw [length_bv, List.length_take, List.length_drop]; omega, fun _ => ⟨g, o + m, rfl, hb, fun j u hu => ?_⟩⟩
  rw [Nat.add_assoc]
  refine hc (m + j) u ?_
  rw [bv_take, List.getElem?_take] at hu
  split at hu
  · rw [bv_drop, List.getElem?_drop] at hu; exact hu
  · cases hu
/-- The first i words are made. -/
def WRel (w : World) (key : List UInt8) (s6 s7 : Value) (wr : World) : Prop :=
  ∃ i A c, i ≤ 4 * (key.length / 4 + 7) ∧ s7 = .int .i64 (i : Nat) ∧ s6 = .slice A i c ∧ RowsP wr w.heap.size wr.heap.size A i c ((List.range i).map (wordK key)) ∧ Below w.heap.size w wr
theorem words_get (key : List UInt8) {i j : Nat} (h : j < i) : ((List.range i).map (wordK key)).getD j [] = wordK key j := by simp [List.getD_eq_getElem?_getD, h]
/-- Word i is laid behind the others. -/
theorem wrel_next {w wr w2 : World} {key : List UInt8} {i c c2 U tg tn tc B2 : Nat} {A A2 : Option Addr} {TA : Option Addr} {vs : List Value} (hi : i < 4 * (key.length / 4 + 7)) (hU : U ≤ wr.heap.size) (hB : w.heap.size ≤ B2) (hUB : U ≤ B2)
    (hr : RowsP wr w.heap.size U A i c ((List.range i).map (wordK key))) (hvs : Row wr w.heap.size 1 A i c vs)
    (h4 : ∀ j (h : j < ((List.range i).map (wordK key)).length), ∃ v, vs[j]? = some v ∧ Part wr (fun k => w.heap.size ≤ k ∧ k < U ∧ ∀ ad, A = some ad → k ≠ ad.block) v ((List.range i).map (wordK key))[j])
    (hb : Below w.heap.size w wr) (ht : Row wr B2 1 TA tn tc (bv (wordK key i))) (htn : tn ≤ 100) (hrow : Row w2 w.heap.size 1 A2 (i + 1) c2 (vs ++ [.slice TA tn tc])) (hgr : (wr.alloc (.cells #[.slice TA tn tc] tg)).grownBy w2 (A.map (·.block)))
    (hat : A2 = A ∨ ∃ ad, A2 = some ad ∧ (wr.alloc (.cells #[.slice TA tn tc] tg)).heap.size ≤ ad.block) : WRel w key (.slice A2 (i + 1) c2) (.int .i64 ((i : Int) + 1)) w2 := by
  obtain ⟨h1, _, _, h3, _⟩ := hr
  have hsz : (wr.alloc (.cells #[.slice TA tn tc] tg)).heap.size = wr.heap.size + 1 := by simp
  have hba := hb.alloc hb.size (.cells #[.slice TA tn tc] tg)
  have hs2 := hgr.size
  refine ⟨i + 1, A2, c2, by omega, by go_num, rfl, ?_, hba.trans (Grew.below (S := fun k => w.heap.size ≤ k) (Grew.of_grown hgr fun k hk _ => hvs.blocks k hk) hba.size fun _ _ h => h)⟩
  have hL : (List.range (i + 1)).map (wordK key) = (List.range i).map (wordK key) ++ [wordK key i] := by rw [List.range_succ, List.map_append]; rfl
  rw [hL]
  refine RowsP.snoc (U := U) (wr := wr.alloc (.cells #[.slice TA tn tc] tg)) (by rw [hsz]; omega) h1 h3 (fun ad e => (hvs.lt ad e).1) (fun j hj => ?_) (by have := hvs.1; omega) ?_ hrow hgr hat
  · obtain ⟨v, h5, h6⟩ := h4 j hj
    exact ⟨v, h5, h6.keep fun k hk => Below.heap_alloc wr _ k (by have := hk.2.1; omega)⟩
  · exact Part.of_row (ht.alloc _) (by omega) fun ad e => by have := ht.lt ad e; exact ⟨by omega, by omega, by rw [hsz]; omega⟩
/-- The word that is laid on, as it is turned. -/
def TRel (w : World) (key : List UInt8) (i U c : Nat) (A : Option Addr) (l : List UInt8) (s8 : Value) (wx : World) : Prop :=
  ∃ tg tf ct, s8 = .slice (some ⟨tg, tf, none⟩) 4 ct ∧ Row wx U 1 (some ⟨tg, tf, none⟩) 4 ct (bv l) ∧ RowsP wx w.heap.size U A i c ((List.range i).map (wordK key)) ∧ U ≤ wx.heap.size ∧ Below w.heap.size w wx
theorem trel_lit {w wX : World} {key l : List UInt8} {i U c : Nat} {A : Option Addr} {cs : Array Value} {t : TypeId} (hr : RowsP wX w.heap.size U A i c ((List.range i).map (wordK key))) (hU : U ≤ wX.heap.size) (hb : Below w.heap.size w wX) (hl : l.length = 4) (hcs : cs.toList = bv l) :
    TRel w key i U c A l (.slice (some ⟨wX.heap.size, 0, none⟩) 4 4) (wX.alloc (.cells cs t)) := by
  have hz : cs.size = 4 * 1 := by rw [← Array.length_toList, hcs, length_bv, hl]
  refine ⟨wX.heap.size, 0, 4, rfl, by rw [← hcs]; exact Row.lit wX cs t hz hU (by decide), hr.new hU ((Below.refl _ _).alloc (Nat.le_refl _) _), by simp; omega, hb.alloc hb.size _⟩
theorem RowsP.drewN {w : World} {B U n c : Nat} {A : Option Addr} {L : List (List UInt8)} (h : RowsP w B U A n c L) (hU : U ≤ w.heap.size) (k : Nat) : RowsP (w.drewN k) B U A n c L := h.new hU (below_drewN (Below.refl _ _) k)
/-- j bytes of the word are laid on. -/
def XRel (w : World) (key : List UInt8) (i U c tg tf ct : Nat) (A : Option Addr) (l old : List UInt8) (s9 : Value) (wx : World) : Prop :=
  ∃ j : Nat, j ≤ 4 ∧ s9 = .int .i64 j ∧ Row wx U 1 (some ⟨tg, tf, none⟩) 4 ct (bv (setsTo (fun j => l.getD j 0 ^^^ old.getD j 0) l j)) ∧ RowsP wx w.heap.size U A i c ((List.range i).map (wordK key)) ∧ U ≤ wx.heap.size ∧ Below w.heap.size w wx
theorem lay_word {l old : List UInt8} (hl : l.length = 4) (ho : old.length = 4) : setsTo (fun j => l.getD j 0 ^^^ old.getD j 0) l 4 = xorL l old := by
  rw [setsTo_all _ _ hl]
  apply List.ext_getElem?
  intro i
  by_cases hi : i < 4
  · rw [getD_xorL l old i (by omega) (by omega)]
    simp [hi, List.getD_eq_getElem?_getD, List.getElem?_eq_getElem (show i < l.length by omega), List.getElem?_eq_getElem (show i < old.length by omega)]
  · rw [List.getElem?_eq_none (by simp; omega), List.getElem?_eq_none (by rw [length_xorL]; omega)]
/-- Behind r round keys; i words are there. -/
def KRel (w : World) (key : List UInt8) (i U0 : Nat) (A : Option Addr) (c : Nat) (s10 s11 : Value) (wr : World) : Prop :=
  ∃ r A2 c2, r ≤ key.length / 4 + 7 ∧ s11 = .int .i64 (4 * (r : Int)) ∧ s10 = .slice A2 r c2 ∧ RowsP wr U0 wr.heap.size A2 r c2 ((List.range r).map fun r => (rksOf key).getD r []) ∧
    RowsP wr w.heap.size U0 A i c ((List.range i).map (wordK key)) ∧ U0 ≤ wr.heap.size ∧ Below w.heap.size w wr
/-- j words from m on, in one. -/
def catW (key : List UInt8) (m j : Nat) : List UInt8 := (List.range j).flatMap fun t => wordK key (m + t)
theorem catW_succ (key : List UInt8) (m j : Nat) : catW key m (j + 1) = catW key m j ++ wordK key (m + j) := by unfold catW; rw [List.range_succ, List.flatMap_append]; simp
theorem catW_four {key : List UInt8} (hk : key.length = 16 ∨ key.length = 32) {r : Nat} (h : r < key.length / 4 + 7) : catW key (4 * r) 4 = (rksOf key).getD r [] := by
  rw [rks_words hk h, catW_succ, catW_succ, catW_succ, catW_succ]; rfl
/-- Behind j words of round key r. -/
def IRel (w : World) (key : List UInt8) (i U0 U1 r : Nat) (A : Option Addr) (c : Nat) (A2 : Option Addr) (c2 : Nat) (s12 s13 : Value) (wx : World) : Prop :=
  ∃ j A3 c3, j ≤ 4 ∧ s13 = .int .i64 (j : Nat) ∧ s12 = .slice A3 (4 * j) c3 ∧ Row wx U1 1 A3 (4 * j) c3 (bv (catW key (4 * r) j)) ∧ RowsP wx U0 U1 A2 r c2 ((List.range r).map fun r => (rksOf key).getD r []) ∧
    RowsP wx w.heap.size U0 A i c ((List.range i).map (wordK key)) ∧ U1 ≤ wx.heap.size ∧ Below w.heap.size w wx
theorem irel_next {w wr w2 : World} {key : List UInt8} {i U0 U1 r c c2 j c3 c4 : Nat} {A A2 A3 A4 : Option Addr} (hj : j < 4) (hB : w.heap.size ≤ U1) (h01 : U0 ≤ U1) (hU : U1 ≤ wr.heap.size) (hrow : Row wr U1 1 A3 (4 * j) c3 (bv (catW key (4 * r) j))) (ho : RowsP wr U0 U1 A2 r c2 ((List.range r).map fun r => (rksOf key).getD r []))
    (hw : RowsP wr w.heap.size U0 A i c ((List.range i).map (wordK key))) (hb : Below w.heap.size w wr) (hrow2 : Row w2 U1 1 A4 (4 * j + 4) c4 (bv (catW key (4 * r) j) ++ bv (wordK key (4 * r + j)))) (hgr : wr.grownBy w2 (A3.map (·.block))) :
    IRel w key i U0 U1 r A c A2 c2 (.slice A4 (4 * j + 4) c4) (.int .i64 ((j : Int) + 1)) w2 := by
  have hg : Grew (fun k => U1 ≤ k) wr w2 := Grew.of_grown hgr fun k hk _ => hrow.blocks k hk
  have hs := hgr.size
  refine ⟨j + 1, A4, c4, by omega, by go_num, rfl, ?_, ho.keep hU hg (fun k hk h => by omega), hw.keep (by omega) hg (fun k hk h => by omega), by omega, hb.trans (hg.below hb.size fun k _ h => by omega)⟩
  rw [catW_succ, bv_append]
  exact hrow2
theorem krel_next {w wr w2 : World} {key : List UInt8} {i c r cr cr2 U0 U1 tg tn tc : Nat} {A A2 A2' TA : Option Addr} {vs : List Value} (hr : r < key.length / 4 + 7) (h01 : U0 ≤ U1) (hU1 : U1 ≤ wr.heap.size) (hB : w.heap.size ≤ U0)
    (ho : RowsP wr U0 U1 A2 r cr ((List.range r).map fun r => (rksOf key).getD r [])) (hvs : Row wr U0 1 A2 r cr vs)
    (h4 : ∀ j (h : j < ((List.range r).map fun r => (rksOf key).getD r []).length), ∃ v, vs[j]? = some v ∧ Part wr (fun k => U0 ≤ k ∧ k < U1 ∧ ∀ ad, A2 = some ad → k ≠ ad.block) v ((List.range r).map fun r => (rksOf key).getD r [])[j])
    (hw : RowsP wr w.heap.size U0 A i c ((List.range i).map (wordK key))) (hb : Below w.heap.size w wr) (ht : Row wr U1 1 TA tn tc (bv ((rksOf key).getD r []))) (htn : tn ≤ 100) (hrow : Row w2 U0 1 A2' (r + 1) cr2 (vs ++ [.slice TA tn tc]))
    (hgr : (wr.alloc (.cells #[.slice TA tn tc] tg)).grownBy w2 (A2.map (·.block))) (hat : A2' = A2 ∨ ∃ ad, A2' = some ad ∧ (wr.alloc (.cells #[.slice TA tn tc] tg)).heap.size ≤ ad.block) :
    KRel w key i U0 A c (.slice A2' (r + 1) cr2) (.int .i64 (4 * (r : Int) + 4)) w2 := by
  obtain ⟨h1, _, _, h3, _⟩ := ho
  have hsz : (wr.alloc (.cells #[.slice TA tn tc] tg)).heap.size = wr.heap.size + 1 := by simp
  have hg : Grew (fun k => U0 ≤ k) (wr.alloc (.cells #[.slice TA tn tc] tg)) w2 := Grew.of_grown hgr fun k hk _ => hvs.blocks k hk
  have hs2 := hgr.size
  have hal : Below wr.heap.size wr (wr.alloc (.cells #[.slice TA tn tc] tg)) := (Below.refl _ _).alloc (Nat.le_refl _) _
  have hba := hb.alloc hb.size (.cells #[.slice TA tn tc] tg)
  refine ⟨r + 1, A2', cr2, by omega, by congr 1 <;> omega, rfl, ?_, (hw.new (by omega) hal).keep (by omega) hg (fun k hk h => by omega), by omega, hba.trans (hg.below hba.size fun k _ h => by omega)⟩
  have hL : (List.range (r + 1)).map (fun r => (rksOf key).getD r []) = (List.range r).map (fun r => (rksOf key).getD r []) ++ [(rksOf key).getD r []] := by rw [List.range_succ, List.map_append]; rfl
  rw [hL]
  refine RowsP.snoc (U := U1) (wr := wr.alloc (.cells #[.slice TA tn tc] tg)) (by rw [hsz]; omega) h1 h3 (fun ad e => (hvs.lt ad e).1) (fun j hj => ?_) (by have := hvs.1; omega) ?_ hrow hgr hat
  · obtain ⟨v, h5, h6⟩ := h4 j hj
    exact ⟨v, h5, h6.keep fun k hk => Below.heap_alloc wr _ k (by have := hk.2.1; omega)⟩
  · exact Part.of_row (ht.alloc _) (by omega) fun ad e => by have := ht.lt ad e; exact ⟨by omega, by omega, by rw [hsz]; omega⟩
theorem keys_all (key : List UInt8) : (List.range (key.length / 4 + 7)).map (fun r => (rksOf key).getD r []) = rksOf key := by
  apply List.ext_getElem?
  intro i
  by_cases hi : i < key.length / 4 + 7
  · simp [hi, List.getD_eq_getElem?_getD, List.getElem?_eq_getElem (show i < (rksOf key).length by rw [length_rks]; exact hi)]
  · rw [List.getElem?_eq_none (by simp; omega), List.getElem?_eq_none (by rw [length_rks]; omega)]
/-- What Rounds answers. -/
def RndsOut (key : List UInt8) (w : World) (e : Ending) (w' : World) : Prop :=
  ∃ A c, e = .returned (.slice A (key.length / 4 + 7) c) ∧ RowsP w' w.heap.size w'.heap.size A (key.length / 4 + 7) c (rksOf key) ∧ Below w.heap.size w w'
set_option maxRecDepth 100000 in
set_option maxHeartbeats 16000000 in
theorem rRounds_any (key : List UInt8) (KA PB : Option Addr) (kn kc cb : Nat) (w : World) (hk : key.length = 16 ∨ key.length = 32) (hrk : Reads w w.heap.size 1 KA kn (bv key)) (hkc : kn ≤ kc) (hkm : kc ≤ 9223372036854775807) (hrb : Reads w w.heap.size 1 PB 256 (bv sbL)) :
    Calls Tryz.prog 142 #[.slice KA kn kc, .slice PB 256 cb] w (RndsOut key w) := by
  have hkn : key.length = kn := by have := hrk.1; rw [length_bv] at this; omega
  obtain ⟨gk, ok, rfl, hgk, hck⟩ := hrk.2 (by omega)
  obtain ⟨gb, ob, rfl, hgb, hcb⟩ := hrb.2 (by decide)
  obtain ⟨n, hn⟩ : ∃ n, n = key.length / 4 := ⟨_, rfl⟩
  have hn48 : n = 4 ∨ n = 8 := by omega
  have hq : (kn : Int).tdiv 4 = (n : Int) := by rw [Int.tdiv_eq_ediv_of_nonneg (by omega)]; omega
  have hq2 : (kn : Int) / 4 = (n : Int) := by omega
  have HN48 := Lib.hid hn48
  have HN := Lib.hid hn
  have HK := Lib.hid hk
  have HKN := Lib.hid (show kn = 4 * n by omega)
  have HRK := Lib.hid hrk
  have HCB := Lib.hid hcb
  have hn4 : 4 ≤ n := by omega
  have hn8 : n ≤ 8 := by omega
  have hkni : 4 * (n : Int) ≤ (kc : Int) := by omega
  obtain ⟨i0, hi0, hz0, hz1, hz2⟩ := info_parts byte_info
  obtain ⟨i1, hi1, hy0, hy1, hy2⟩ := info_parts rows_info
  have HST := Lib.hid (show WRel w key (.slice none 0 0) (.int .i64 0) w from ⟨0, none, 0, by omega, rfl, rfl, RowsP.nil_ _ _ _, Below.refl _ _⟩)
  clear hk hrk hrb hcb hn48 hn hkn hck
  go_enter Tryz.func142, Tryz.ntmps142
  go_wp2_with fail
  clear hq hq2
  go_loopw [6, 7] (fun s6 s7 wr => WRel w key s6 s7 wr) (fun _ i _ => 4 * (n + 7) - (intOf i).toNat)
  case atStart => exact HST.out
  case round =>
    clear HST
    obtain ⟨i, A, c, hi, rfl, rfl, hrows, hbl⟩ := hrel
    rw [← HN.out] at hi
    have HROWS := Lib.hid hrows
    have HBL := Lib.hid hbl
    have hsz := hbl.size
    have hlen := hrows.1
    obtain ⟨hlen2, vs, hvs, hAl, h4⟩ := hrows
    have HVS := Lib.hid hvs
    have H4 := Lib.hid h4
    have hcap := hvs.2.1
    have hcm := hvs.2.2.1
    unfold maxLen at hcm
    clear hbl hlen hlen2 hvs h4 hAl
    by_cases hlt : i < 4 * (n + 7)
    · have hil : (i : Int) < 4 * ((n : Int) + 7) := by omega
      by_cases hin : i < n
      · have hini : (i : Int) < (n : Int) := by omega
        obtain ⟨m, hm⟩ : ∃ m, m = 4 * i := ⟨_, rfl⟩
        obtain ⟨q, hqm⟩ : ∃ q, q = m + 4 := ⟨_, rfl⟩
        have e1 : 4 * (i : Int) = (m : Int) := by omega
        have e2 : (m : Int) + 4 = (q : Int) := by omega
        have e3 : q - m = 4 := by omega
        have e4 : ¬ kc = m := by omega
        have e5 : (m : Int) ≤ (q : Int) := by omega
        have e6 : (q : Int) ≤ (kc : Int) := by have := HKN.out; omega
        have HSUB := Lib.hid (((reads_sub (HRK.out.below HBL.out) hqm (by have := HKN.out; omega)).more hsz).alloc (Nat.le_refl _) (.cells #[] 5))
        have HWK := Lib.hid (show (key.drop m).take 4 = wordK key i by rw [hm]; exact (word_key HK.out (by rw [← HN.out]; exact hin)).symm)
        clear hm hqm
        go_wp2_with (first
          | (at_builtin; refine wpList_append_row rfl (.tmp 28) (.tmp 35) rfl Tryz.underlying27 hi0 hz0 hz1 hz2 rfl (by decide) rfl (Row.lit wr #[] 5 (n := 0) (base := wr.heap.size) (size := 1) rfl (Nat.le_refl _) (by unfold maxLen; omega)) rfl HSUB.out (bv_one _) (by unfold maxLen; omega) (by omega) (by simp) ?_; intro A1 c1 w1 hrow1 hgr1 hat1; have HB1 : Hid (Below wr.heap.size wr w1) := Lib.hid (((Below.refl _ _).alloc (Nat.le_refl _) _).grown hgr1 (by simp) (fun k hk => by simp at hk; omega)); have HR1 : Hid (Row w1 wr.heap.size 1 A1 4 c1 (bv (wordK key i))) := Lib.hid (by rw [← HWK.out]; exact hrow1); have HV1 := Lib.hid (HVS.out.below HB1.out (Nat.le_refl _)); clear hrow1 hgr1 hat1)
          | (at_builtin; refine wpList_append_row rfl (.tmp 27) (.tmp 37) rfl Tryz.underlying44 hi1 hy0 hy1 hy2 rfl (by decide) rfl (HV1.out.alloc _) rfl (Reads.lit _ _ _ (n := 1) rfl) (by intro v hv; simp at hv; rcases hv with rfl; rfl) (by unfold maxLen; omega) (by omega) (by have := HB1.out.size; simp; omega) ?_; intro A2 c2 w2 hrow2 hgr2 hat2; have HNX := Lib.hid (wrel_next (by rw [← HN.out]; exact hlt) HB1.out.size hsz (Nat.le_refl _) (HROWS.out.new (Nat.le_refl _) HB1.out) HV1.out (fun j hj => by obtain ⟨v, h5, h6⟩ := H4.out j hj; exact ⟨v, h5, h6.keep fun k hk => HB1.out.block k hk.2.1⟩) (HBL.out.trans (HB1.out.mono hsz)) HR1.out (by decide) hrow2 hgr2 hat2); clear hrow2 hgr2 hat2))
        go_roundw
        case rel => exact HNX.out
        case measure => simp [intOf]; omega
      · have hini : ¬ (i : Int) < (n : Int) := by omega
        obtain ⟨p, hp⟩ : ∃ p, p = i - 1 := ⟨_, rfl⟩
        have e1 : (i : Int) - 1 = (p : Int) := by omega
        have e2 : (p : Int) < (i : Int) := by omega
        have hwl := words_get key (i := i) (j := p) (by omega)
        have hl4 := length_wordK HK.out (j := p) (by rw [← HN.out]; omega)
        obtain ⟨g, o, g1, o1, c1, rfl, hgU, hcell, hg1U, hBg1, hmc, hreads⟩ := HROWS.out.row (i := p) (m := 4) (by omega) (by rw [hwl]; exact hl4) (by decide)
        rw [hwl] at hreads
        have HRD := Lib.hid (hreads.alloc (Nat.le_refl _) (.cells #[] 5))
        have HP := Lib.hid hp
        clear hp hwl hl4 hreads hBg1 hmc
        go_upto_if 49 with (at_builtin; refine wpList_append_row rfl (.tmp 39) (.tmp 44) rfl Tryz.underlying27 hi0 hz0 hz1 hz2 rfl (by decide) rfl (Row.lit wr #[] 5 (n := 0) (base := wr.heap.size) (size := 1) rfl (Nat.le_refl _) (by unfold maxLen; omega)) rfl HRD.out (bv_one _) (by unfold maxLen; omega) (by omega) (by simp) ?_; intro A1 c2 w1 hrow1 hgr1 hat1; have HB1 : Hid (Below wr.heap.size wr w1) := Lib.hid (((Below.refl _ _).alloc (Nat.le_refl _) _).grown hgr1 (by simp) (fun k hk => by simp at hk; omega)); have HR1 : Hid (Row w1 wr.heap.size 1 A1 4 c2 (bv (wordK key p))) := Lib.hid hrow1; clear hrow1 hgr1 hat1)
        obtain ⟨tg, tf, rfl⟩ := ra_some HR1.out (by decide)
        have hbw := HBL.out.trans (HB1.out.mono hsz)
        obtain ⟨U, hUe⟩ : ∃ U, U = wr.heap.size := ⟨_, rfl⟩
        have HBW := Lib.hid hbw
        have HRW := Lib.hid (HROWS.out.new (Nat.le_refl _) HB1.out)
        have hU1 := HB1.out.size
        have hcellw := (HB1.out.cell (p := ⟨g, o + p, none⟩) hgU).trans hcell
        rw [← hUe] at hsz hgU hg1U HR1 HRW hU1
        have HLW := Lib.hid (show (wordK key p).length = 4 from length_wordK HK.out (by rw [← HN.out]; omega))
        have hil2 := hlt
        clear hbw hcell hcellw hUe HB1 HRD HVS H4 HROWS HBL e1 e2 hlt
        go_cut [8] (fun s8 wx => TRel w key i U c (some ⟨g, o, none⟩) (tword n i (wordK key p)) s8 wx)
        case first =>
          obtain ⟨a0, a1, a2, a3, htop⟩ := quad_of HLW.out
          have hr1 := HR1.out
          rw [htop] at hr1
          have n0 : w1.cell? ⟨tg, tf, none⟩ = some (.int .u8 (a0.toNat : Int)) := hr1.cell (j := 0) rfl
          have n1 : w1.cell? ⟨tg, tf + 1, none⟩ = some (.int .u8 (a1.toNat : Int)) := hr1.cell (j := 1) rfl
          have n2 : w1.cell? ⟨tg, tf + 2, none⟩ = some (.int .u8 (a2.toNat : Int)) := hr1.cell (j := 2) rfl
          have n3 : w1.cell? ⟨tg, tf + 3, none⟩ = some (.int .u8 (a3.toNat : Int)) := hr1.cell (j := 3) rfl
          have hbox : ∀ a : UInt8, w1.cell? ⟨gb, ob + a.toNat, none⟩ = some (.int .u8 ((sb a).toNat : Int)) := fun a => by
            have hl := a.toNat_lt
            have h := (HBW.out.cell (p := ⟨gb, ob + a.toNat, none⟩) hgb).trans (HCB.out a.toNat _ (bv_at sbL a.toNat (by rw [length_sbL]; exact hl)))
            have hs : sbL[a.toNat]'(by rw [length_sbL]; exact hl) = sb a := by
              have h := sbL_at a.toNat hl
              rw [UInt8.ofNat_toNat] at h
              simpa [List.getD_eq_getElem?_getD, List.getElem?_eq_getElem (show a.toNat < sbL.length by rw [length_sbL]; exact hl)] using h
            rw [hs] at h
            exact h
          have HTOP := Lib.hid htop
          clear hr1 htop
          by_cases hm0 : i % n = 0
          · have b0 := hbox a0
            have b1 := hbox a1
            have b2 := hbox a2
            have b3 := hbox a3
            have l0 := a0.toNat_lt
            have l1 := a1.toNat_lt
            have l2 := a2.toNat_lt
            have l3 := a3.toNat_lt
            obtain ⟨d, hd⟩ : ∃ d, d = i / n := ⟨_, rfl⟩
            have hd1 : 1 ≤ d := by rw [hd]; exact (Nat.le_div_iff_mul_le (by omega)).2 (by omega)
            have hd60 : d ≤ 60 := by rw [hd]; exact Nat.le_trans (Nat.div_le_self _ _) (by omega)
            obtain ⟨d1, hd2⟩ : ∃ d1, d1 = d - 1 := ⟨_, rfl⟩
            have hw : tword n i (wordK key p) = [sb a1 ^^^ rcG d1, sb a2, sb a3, sb a0] := by
              unfold tword; rw [if_pos hm0, HTOP.out, ← hd, ← hd2]; rfl
            have HPW := Lib.hid (fun w => show Calls Tryz.prog 185 #[.int .u8 2, .int .i64 d1] w (fun e w' => e = .returned (.int .u8 ((rcG d1).toNat : Int)) ∧ w' = w) from (rPow_any d1 w (by omega)).mono fun e w' h => ⟨h.1, h.2.symm⟩)
            have hxe := bx_xor (sb a1) (rcG d1)
            have hFIN : ∀ k, TRel w key i U c (some ⟨g, o, none⟩) (tword n i (wordK key p)) (.slice (some ⟨w1.heap.size, 0, none⟩) 4 4) ((w1.drewN k).alloc (.cells #[.int .u8 ((sb a1 ^^^ rcG d1).toNat : Int), .int .u8 ((sb a2).toNat : Int), .int .u8 ((sb a3).toNat : Int), .int .u8 ((sb a0).toNat : Int)] 5)) := fun k => by
              rw [hw]; exact trel_lit (HRW.out.drewN hU1 k) hU1 (below_drewN HBW.out k) rfl rfl
            have HFIN := Lib.hid hFIN
            have k0 : (i : Int) / (n : Int) = (d : Int) := by rw [hd]; exact (Int.natCast_ediv _ _).symm
            have k1 : (i : Int).tdiv (n : Int) = (d : Int) := by rw [Int.tdiv_eq_ediv_of_nonneg (by omega)]; exact k0
            have k2 : IntKind.i64.wrap (d : Int) = (d : Int) := IntWalk.i64_in _ (by omega)
            have k3 : IntKind.i64.wrap ((d : Int) - 1) = (d1 : Int) := by rw [show (d : Int) - 1 = (d1 : Int) by omega]; exact IntWalk.i64_in _ (by omega)
            have k4 : ¬ (n : Int) = 0 := by omega
            have k5 : ¬ n = 0 := by omega
            have hmi : (i : Int) % (n : Int) = 0 := by omega
            have cw : ∀ d o u a, ({ heap := w1.heap, tape := w1.tape, drawn := d, os := o, output := u } : World).cell? a = w1.cell? a := fun _ _ _ _ => rfl
            clear hw hFIN hbox hd hd2 hd1 hd60
            generalize (sb a1 ^^^ rcG d1).toNat = S4 at hxe HFIN
            generalize (sb a0).toNat = S0 at b0 HFIN
            generalize (sb a1).toNat = S1 at b1 hxe
            generalize (sb a2).toNat = S2 at b2 HFIN
            generalize (sb a3).toNat = S3 at b3 HFIN
            generalize a0.toNat = X0 at n0 b0 l0
            generalize a1.toNat = X1 at n1 b1 l1
            generalize a2.toNat = X2 at n2 b2 l2
            generalize a3.toNat = X3 at n3 b3 l3
            have m0 : (X0 : Int) < 256 := by omega
            have m1 : (X1 : Int) < 256 := by omega
            have m2 : (X2 : Int) < 256 := by omega
            have m3 : (X3 : Int) < 256 := by omega
            go_wp2_with fail
            go_still_tail 30, (by kernel_rfl)
            still_call (HPW.out _)
            repeat still_step
            refine wpStill_nil ?_
            clear cw k0 k1 k2 k3
            change wpList _ _ _ _ _ w1.drew
            go_wp2_with fail
            go_meet
            exact HFIN.out 1
          · have hmi : ¬ (i : Int) % (n : Int) = 0 := by omega
            have hmi2 : ¬ i % n = 0 := hm0
            by_cases hm4 : n = 8 ∧ i % n = 4
            · obtain ⟨h8, hm4⟩ := hm4
              have b0 := hbox a0
              have b1 := hbox a1
              have b2 := hbox a2
              have b3 := hbox a3
              have l0 := a0.toNat_lt
              have l1 := a1.toNat_lt
              have l2 := a2.toNat_lt
              have l3 := a3.toNat_lt
              have hw : tword n i (wordK key p) = [sb a0, sb a1, sb a2, sb a3] := by
                unfold tword; rw [if_neg hm0, if_pos ⟨h8, hm4⟩, HTOP.out]; rfl
              have hFIN : ∀ k, TRel w key i U c (some ⟨g, o, none⟩) (tword n i (wordK key p)) (.slice (some ⟨w1.heap.size, 0, none⟩) 4 4) ((w1.drewN k).alloc (.cells #[.int .u8 ((sb a0).toNat : Int), .int .u8 ((sb a1).toNat : Int), .int .u8 ((sb a2).toNat : Int), .int .u8 ((sb a3).toNat : Int)] 5)) := fun k => by
                rw [hw]; exact trel_lit (HRW.out.drewN hU1 k) hU1 (below_drewN HBW.out k) rfl rfl
              have HFIN := Lib.hid hFIN
              subst h8
              have hm8 : (i : Int) % 8 = 4 := by omega
              have hm9 : i % 8 = 4 := hm4
              have cw : ∀ d o u a, ({ heap := w1.heap, tape := w1.tape, drawn := d, os := o, output := u } : World).cell? a = w1.cell? a := fun _ _ _ _ => rfl
              clear hw hFIN hbox hm4 hm0
              generalize (sb a0).toNat = S0 at b0 HFIN
              generalize (sb a1).toNat = S1 at b1 HFIN
              generalize (sb a2).toNat = S2 at b2 HFIN
              generalize (sb a3).toNat = S3 at b3 HFIN
              generalize a0.toNat = X0 at n0 b0 l0
              generalize a1.toNat = X1 at n1 b1 l1
              generalize a2.toNat = X2 at n2 b2 l2
              generalize a3.toNat = X3 at n3 b3 l3
              have m0 : (X0 : Int) < 256 := by omega
              have m1 : (X1 : Int) < 256 := by omega
              have m2 : (X2 : Int) < 256 := by omega
              have m3 : (X3 : Int) < 256 := by omega
              go_wp2_with fail
              go_still_tail 24, (by kernel_rfl)
              clear cw
              change wpList _ _ _ _ _ w1.drew
              go_wp2_with fail
              go_meet
              exact HFIN.out 1
            · have hw : tword n i (wordK key p) = wordK key p := by unfold tword; rw [if_neg hm0, if_neg hm4]
              have HFIN := Lib.hid (show TRel w key i U c (some ⟨g, o, none⟩) (tword n i (wordK key p)) (.slice (some ⟨tg, tf, none⟩) 4 c2) w1 from ⟨tg, tf, c2, rfl, by rw [hw]; exact HR1.out, HRW.out, hU1, HBW.out⟩)
              clear hw hbox n0 n1 n2 n3
              by_cases h8 : n = 8
              · subst h8
                have hm5 : ¬ (i : Int) % 8 = 4 := by omega
                have hm6 : ¬ i % 8 = 4 := by omega
                clear hm4 hm0
                go_wp2_with fail
                go_meet
                exact HFIN.out
              · have hn8' : ¬ (n : Int) = 8 := by omega
                clear hm4 hm0
                go_wp2_with fail
                go_meet
                exact HFIN.out
        case rest =>
          obtain ⟨t0, ht0⟩ : ∃ t0, t0 = tword n i (wordK key p) := ⟨_, rfl⟩
          rw [← ht0] at hcut
          obtain ⟨g8, o8, c8, rfl, hrow8, hrows8, hU8, hb8⟩ := hcut
          obtain ⟨old, hold⟩ : ∃ old, old = wordK key (i - n) := ⟨_, rfl⟩
          obtain ⟨u, hu⟩ : ∃ u, u = i - n := ⟨_, rfl⟩
          have hlt0 : t0.length = 4 := by rw [ht0]; exact length_tword _ _ HLW.out
          have hlo : old.length = 4 := by rw [hold]; exact length_wordK HK.out (by rw [← HN.out]; omega)
          have HWN := Lib.hid (show xorL t0 old = wordK key i by rw [ht0, hold, HN.out, HP.out]; exact (word_next HK.out (by rw [← HN.out]; omega) (by rw [← HN.out]; exact hil2)).symm)
          have HLT := Lib.hid hlt0
          have HLO := Lib.hid hlo
          have hwu := words_get key (i := i) (j := u) (by omega)
          rw [hu, ← hold] at hwu
          have HOLD := Lib.hid hwu
          have HU := Lib.hid hu
          have HST := Lib.hid (show XRel w key i U c g8 o8 c8 (some ⟨g, o, none⟩) t0 old (.int .i64 0) wc from ⟨0, by omega, rfl, hrow8, hrows8, hU8, hb8⟩)
          clear hrow8 hrows8 hU8 hb8 hlt0 hlo hwu hold ht0 hu HR1 HRW HBW HLW HP hU1
          go_wp2_with fail
          go_loopw [9] (fun s9 wx => XRel w key i U c g8 o8 c8 (some ⟨g, o, none⟩) t0 old s9 wx) (fun i _ => 4 - (intOf i).toNat)
          case atStart => exact HST.out
          case round =>
            clear HST
            obtain ⟨j, hj, rfl, hrow, hrows, hUx, hbx⟩ := hrel
            by_cases hj4 : j < 4
            · have hji : (j : Int) < 4 := by omega
              obtain ⟨g', o', g2, o2, c2', hA, hgU2, hcell, hg2U, hBg2, hmc, hreads⟩ := hrows.row (i := u) (m := 4) (by have := HU.out; omega) (by rw [HU.out, HOLD.out]; exact HLO.out) (by decide)
              injection hA with hA
              injection hA with hA1 hA2
              subst hA1 hA2
              rw [HU.out, HOLD.out] at hreads
              obtain ⟨_, _, he, _, hcr⟩ := hreads.2 (by decide)
              cases he
              have hlj : j < t0.length := by rw [HLT.out]; exact hj4
              have hoj : j < old.length := by rw [HLO.out]; exact hj4
              have c1 := hrow.cell (j := j) (u := .int .u8 ((t0[j]'hlj).toNat : Int)) (by
                rw [bv_at _ j (by rw [length_setsTo]; exact hlj)]
                congr 4
                have h := setsTo_from (fun j => t0.getD j 0 ^^^ old.getD j 0) t0 j j (Nat.le_refl _)
                rw [List.getElem?_eq_getElem (by rw [length_setsTo]; exact hlj), List.getElem?_eq_getElem hlj] at h
                exact Option.some.inj h)
              have f1 := hrow.free (j := j) (by have := hrow.2.1; omega)
              have c3 := hcr j _ (bv_at old j hoj)
              have hset := hrow.set (j := j) (by have := hrow.2.1; omega) (.int .u8 (((t0[j]'hlj) ^^^ (old[j]'hoj)).toNat : Int))
              rw [← bv_set] at hset
              have hg8 := hrow.at_
              have hns : ((setsTo (fun j => t0.getD j 0 ^^^ old.getD j 0) t0 j).set j ((t0[j]'hlj) ^^^ (old[j]'hoj))) = setsTo (fun j => t0.getD j 0 ^^^ old.getD j 0) t0 (j + 1) := by
                show _ = (setsTo (fun j => t0.getD j 0 ^^^ old.getD j 0) t0 j).set j (t0.getD j 0 ^^^ old.getD j 0)
                congr 1
                simp [List.getD_eq_getElem?_getD, List.getElem?_eq_getElem hlj, List.getElem?_eq_getElem hoj]
              rw [hns] at hset
              have HNX := Lib.hid (show XRel w key i U c g8 o8 c8 (some ⟨g, o, none⟩) t0 old (.int .i64 ((j : Int) + 1)) (wr.setCell ⟨g8, o8 + j, none⟩ (.int .u8 (((t0[j]'hlj) ^^^ (old[j]'hoj)).toNat : Int))) from
                ⟨j + 1, by omega, by go_num, hset, hrows.keep hUx ((Grew.refl (· = g8) wr).set (p := ⟨g8, o8 + j, none⟩) (.inl rfl) _) (fun k hk e => by have e2 : k = g8 := e; have := hg8.1; omega), by simpa using hUx, hbx.setCell (by have := hg8.1; show w.heap.size ≤ g8; omega) _⟩)
              have hxe := bx_xor (t0[j]'hlj) (old[j]'hoj)
              have k1 : (i : Int) - (n : Int) = (u : Int) := by have := HU.out; omega
              have k2 : (u : Int) < (i : Int) := by have := HU.out; omega
              have k3 : IntKind.i64.wrap (u : Int) = (u : Int) := IntWalk.i64_in _ (by omega)
              have k4 : IntKind.i64.wrap ((i : Int) - (n : Int)) = (u : Int) := by rw [k1]; exact k3
              clear hrow hrows hUx hbx hcr hreads hset hg8 hns hgU2 hg2U hBg2 hmc
              generalize ((t0[j]'hlj) ^^^ (old[j]'hoj)).toNat = Z at hxe HNX
              generalize (t0[j]'hlj).toNat = Z1 at c1 hxe
              generalize (old[j]'hoj).toNat = Z2 at c3 hxe
              go_wp2_with fail
              go_region
              go_wp2_with fail
              go_roundw
              case rel => exact (show XRel w key i U c g8 o8 c8 (some ⟨g, o, none⟩) t0 old _ _ by
                obtain ⟨j', q1, q2, q3, q4, q5, q6⟩ := HNX.out
                exact ⟨j', q1, q2, q3.drew, q4.new q5 (Below.refl _ _).drew, q5, q6.drew⟩)
              case measure => simp [intOf]; omega
            · obtain rfl : j = 4 := by omega
              rw [lay_word HLT.out HLO.out, HWN.out] at hrow
              have HROW := Lib.hid hrow
              have HROWS := Lib.hid hrows
              have HBX := Lib.hid hbx
              obtain ⟨hlen2, vs, hvs, hAl, h4⟩ := hrows
              have HVS := Lib.hid hvs
              have H4 := Lib.hid h4
              clear hrow hbx hlen2 hvs hAl h4
              go_wp2_with (at_builtin; refine wpList_append_row rfl (.tmp 134) (.tmp 136) rfl Tryz.underlying44 hi1 hy0 hy1 hy2 rfl (by decide) rfl (HVS.out.alloc _) rfl (Reads.lit _ _ _ (n := 1) rfl) (by intro v hv; simp at hv; rcases hv with rfl; rfl) (by unfold maxLen; omega) (by omega) (by have := HBX.out.size; simp; omega) ?_; intro A2 c2 w2 hrow2 hgr2 hat2; have HNX := Lib.hid (wrel_next (by rw [← HN.out]; exact hil2) hUx hsz (Nat.le_refl _) HROWS.out HVS.out H4.out HBX.out HROW.out (by decide) hrow2 hgr2 hat2); clear hrow2 hgr2 hat2)
              go_roundw
              case rel => exact HNX.out
              case measure => simp [intOf]; omega
    · have HI4 := Lib.hid (show i = 4 * (n + 7) by omega)
      have hi60 : i ≤ 60 := by omega
      have hil : ¬ (i : Int) < 4 * ((n : Int) + 7) := by omega
      obtain ⟨U0, hU0⟩ : ∃ U0, U0 = wr.heap.size := ⟨_, rfl⟩
      have HST := Lib.hid (show KRel w key i U0 A c (.slice none 0 0) (.int .i64 0) wr from ⟨0, none, 0, by omega, rfl, rfl, RowsP.nil_ _ _ _, by rw [hU0]; exact HROWS.out, by omega, HBL.out⟩)
      rw [← hU0] at hsz
      clear hlt hi HROWS HBL HVS H4 hU0
      go_wp2_with fail
      go_loopw [10, 11] (fun s10 s11 wx => KRel w key i U0 A c s10 s11 wx) (fun _ i _ => 4 * (n + 7) - (intOf i).toNat)
      case atStart => exact HST.out
      case round =>
        clear HST
        obtain ⟨r, A2, c2, hr, rfl, rfl, ho, hwrd, hU, hb⟩ := hrel
        rw [← HN.out] at hr
        have HO := Lib.hid ho
        have HW := Lib.hid hwrd
        have HB := Lib.hid hb
        clear ho hwrd hb
        by_cases hrn : r < n + 7
        · have t1 : 4 * (r : Int) < (i : Int) := by have := HI4.out; omega
          obtain ⟨U1, hU1⟩ : ∃ U1, U1 = wr.heap.size := ⟨_, rfl⟩
          have HST := Lib.hid (show IRel w key i U0 U1 r A c A2 c2 (.slice none 0 0) (.int .i64 0) wr from ⟨0, none, 0, by omega, rfl, rfl, Row.nil_ _ _ _, by rw [hU1]; exact HO.out, HW.out, by omega, HB.out⟩)
          rw [← hU1] at hU
          clear hU1 HO HW HB
          go_wp2_with fail
          go_loopw [12, 13] (fun s12 s13 wx => IRel w key i U0 U1 r A c A2 c2 s12 s13 wx) (fun _ i _ => 4 - (intOf i).toNat)
          case atStart => exact HST.out
          case round =>
            clear HST
            obtain ⟨j, A3, c3, hj, rfl, rfl, hrow3, ho, hwrd, hUx, hb⟩ := hrel
            have HROW3 := Lib.hid hrow3
            have HO := Lib.hid ho
            have HW := Lib.hid hwrd
            have HB := Lib.hid hb
            have hcm3 := hrow3.2.2.1
            unfold maxLen at hcm3
            by_cases hj4 : j < 4
            · have hji : (j : Int) < 4 := by omega
              obtain ⟨q, hq⟩ : ∃ q, q = 4 * r + j := ⟨_, rfl⟩
              have hwl := words_get key (i := i) (j := q) (by have := HI4.out; omega)
              have hl4 := length_wordK HK.out (j := q) (by have := HI4.out; rw [← HN.out]; omega)
              obtain ⟨g', o', g2, o2, c2', hA, hgU2, hcell, hg2U, hBg2, hmc, hreads⟩ := hwrd.row (i := q) (m := 4) (by have := HI4.out; omega) (by rw [hwl]; exact hl4) (by decide)
              subst hA
              rw [hwl] at hreads
              have HRD := Lib.hid hreads
              have e1 : 4 * (r : Int) + (j : Int) = (q : Int) := by omega
              have e2 : (q : Int) < (i : Int) := by have := HI4.out; omega
              have HQ := Lib.hid hq
              clear hrow3 ho hwrd hb hwl hl4 hreads hgU2 hg2U hBg2 hmc hq
              go_wp2_with (at_builtin; refine wpList_append_row rfl (.tmp 148) (.tmp 154) rfl Tryz.underlying27 hi0 hz0 hz1 hz2 rfl (by decide) rfl HROW3.out rfl HRD.out (bv_one _) (by unfold maxLen; omega) (by omega) hUx ?_; intro A4 c4 w4 hrow4 hgr4 hat4; rw [HQ.out] at hrow4; have HNX := Lib.hid (irel_next hj4 (Nat.le_trans hsz (by omega)) (by omega) hUx HROW3.out HO.out HW.out HB.out hrow4 hgr4); clear hrow4 hgr4 hat4)
              go_roundw
              case rel => exact HNX.out
              case measure => simp [intOf]; omega
            · obtain rfl : j = 4 := by omega
              rw [catW_four HK.out (by rw [← HN.out]; exact hrn)] at hrow3
              have HR3 := Lib.hid hrow3
              obtain ⟨hlen2, vs, hvs, hAl, h4⟩ := ho
              have HVS := Lib.hid hvs
              have H4 := Lib.hid h4
              clear hrow3 hwrd hb hlen2 hvs hAl h4 HROW3
              go_wp2_with (at_builtin; refine wpList_append_row rfl (.tmp 156) (.tmp 158) rfl Tryz.underlying44 hi1 hy0 hy1 hy2 rfl (by decide) rfl (HVS.out.alloc _) rfl (Reads.lit _ _ _ (n := 1) rfl) (by intro v hv; simp at hv; rcases hv with rfl; rfl) (by unfold maxLen; omega) (by omega) (by simp; omega) ?_; intro A5 c5 w5 hrow5 hgr5 hat5; have HNX := Lib.hid (krel_next (by rw [← HN.out]; exact hrn) hU hUx hsz HO.out HVS.out H4.out HW.out HB.out HR3.out (by decide) hrow5 hgr5 hat5); clear hrow5 hgr5 hat5)
              go_roundw
              case rel => exact HNX.out
              case measure => have := HI4.out; simp [intOf]; omega
        · obtain rfl : r = n + 7 := by omega
          have t1 : ¬ 4 * ((n : Int) + 7) < (i : Int) := by have := HI4.out; omega
          have HE := Lib.hid (keys_all key)
          go_wp2_with fail
          go_ret
          have ho := HO.out
          rw [HN.out, HE.out] at ho
          rw [HN.out]
          exact ⟨A2, c2, rfl, ho.low hsz, HB.out⟩
end Go.Proofs.YtogpnlfbdhddmaaGreatDoor
