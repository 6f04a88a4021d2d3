/- THE WALK of the law AuditBack. -/
import Derived.Test.YtbjlmodabiadfaaAudTurn
import Derived.Test.YtbjlmodabiadfaaRest
namespace Go.Proofs.Ytbjlmodabiadfaa
open Go.RowKit

/-- What a chain answers that is asked to add a text. -/
def Ch.ans (x : Ch) (s : ByteArray) : Rec := if s.size ≤ 200 ∧ x.end_.seq < 9223372036854775807 then x.next s else ⟨0, ⟨#[]⟩, []⟩
def Ch.err (x : Ch) (s : ByteArray) : Int := if s.size ≤ 200 ∧ x.end_.seq < 9223372036854775807 then 0 else 2
def AnsOut (cb : Nat) (X : Nat → Prop) (x : Ch) (s : ByteArray) (w : World) (e : Ending) (w' : World) : Prop :=
  ∃ A c X', e = .returned (.tuple #[.agg #[.int .i64 (x.ans s).seq, .string (x.ans s).text, .slice A (x.ans s).tag.length c], .int .i64 (x.err s)]) ∧ Row w' w.heap.size 1 A (x.ans s).tag.length c (bv (x.ans s).tag) ∧ ChainAt w' cb X' (x.put s) ∧ Grew (fun k => k = cb ∨ X k) w w' ∧
    (∀ k, X' k → (X k ∨ w.heap.size ≤ k) ∧ k < w'.heap.size ∧ ∀ ad, A = some ad → k ≠ ad.block) ∧ ∀ ad, A = some ad → ad.block ≠ cb
theorem Ans_any (cb : Nat) (X : Nat → Prop) (key : List UInt8) (x : Ch) (s : ByteArray) (w : World) (h : ChainAt w cb X x) (hg : Good key x) (hk : key.length ≤ 140737488351232) (hs : s.size ≤ 140737488351232) :
    Calls Try.prog 36 #[.pointer (some ⟨cb, 0, none⟩), .string s] w (AnsOut cb X x s w) := by
  have he := hg.end_seq
  have hb := hg.b0
  have ht := hg.top
  by_cases hc : s.size ≤ 200 ∧ x.end_.seq < 9223372036854775807
  · refine (Add_yes cb X x s w h hc.1 (by omega) hc.2 hg.len (by rw [hg.key_]; exact hk) (Nat.le_trans hg.end_tag (by decide))).mono ?_
    rintro e w' ⟨A, c, X', rfl, h1, h2, h3, h4, h5⟩
    have e1 : x.ans s = x.next s := if_pos hc
    have e2 : x.err s = 0 := if_pos hc
    have e3 : x.put s = x.add s := if_pos hc
    unfold AnsOut
    rw [e1, e2, e3]
    exact ⟨A, c, X', rfl, h1, h2, h3, h4, h5⟩
  · refine (Add_no cb X x s w h (by omega) hs).mono ?_
    rintro e w' ⟨rfl, hb⟩
    have e1 : x.ans s = ⟨0, ⟨#[]⟩, []⟩ := if_neg hc
    have e2 : x.err s = 2 := if_neg hc
    have e3 : x.put s = x := if_neg hc
    unfold AnsOut
    rw [e1, e2, e3]
    exact ⟨none, 0, fun k => X k ∧ k < w.heap.size, rfl, Row.nil_ _ _ _, h.tight.new hb, Grew.of_new hb, fun k hk => ⟨.inl hk.1, Nat.lt_of_lt_of_le hk.2 hb.size, fun ad e => by cases e⟩, fun ad e => by cases e⟩
/-- Two chains alike, apart. -/
structure Twin (w : World) (cb db : Nat) (X Y : Nat → Prop) (x : Ch) : Prop where
  c : ChainAt w cb X x
  d : ChainAt w db Y x
  ne : db ≠ cb
  xd : ¬ X db
  yc : ¬ Y cb
  xy : ∀ k, X k → Y k → False
  xl : ∀ k, X k → k < w.heap.size
  yl : ∀ k, Y k → k < w.heap.size
theorem Twin.new {w w' : World} {cb db : Nat} {X Y : Nat → Prop} {x : Ch} (h : Twin w cb db X Y x) (g : Below w.heap.size w w') : Twin w' cb db X Y x :=
  ⟨h.c.new g, h.d.new g, h.ne, h.xd, h.yc, h.xy, fun k hk => Nat.lt_of_lt_of_le (h.xl k hk) g.size, fun k hk => Nat.lt_of_lt_of_le (h.yl k hk) g.size⟩
/-- One record against its like. -/
theorem same_pair (r : Rec) (v v2 : Value) (w : World) (hp : Part w (· < w.heap.size) v r.tag) (hp2 : Part w (· < w.heap.size) v2 r.tag) :
    Calls Try.prog 31 #[.slice (some ⟨w.heap.size, 0, none⟩) 1 1, .slice (some ⟨w.heap.size + 1, 0, none⟩) 1 1] ((w.alloc (.cells #[.int .i64 r.seq, .string r.text, v] 51)).alloc (.cells #[.int .i64 r.seq, .string r.text, v2] 51)) fun e w' => e = .returned (.bool true) ∧ Below w.heap.size w w' := by
  have hz : (w.alloc (.cells #[.int .i64 r.seq, .string r.text, v] 51)).heap.size = w.heap.size + 1 := by simp
  have hL1 := recs_lit1 (t := 51) hp fun k hk => hk
  have hp2' := (hp2.keep (w' := w.alloc (.cells #[.int .i64 r.seq, .string r.text, v] 51)) fun k hk => Below.heap_alloc w _ k hk).mono (R' := (· < (w.alloc (.cells #[.int .i64 r.seq, .string r.text, v] 51)).heap.size)) fun k hk => by omega
  have hL2 := recs_lit1 (t := 51) hp2' fun k hk => hk
  rw [hz] at hL2
  have hL1' := hL1.keep (w' := (w.alloc (.cells #[.int .i64 r.seq, .string r.text, v] 51)).alloc (.cells #[.int .i64 r.seq, .string r.text, v2] 51)) fun k hk => Below.heap_alloc _ _ k (by rcases hk with hk | hk <;> omega)
  refine (rSame_yes _ 1 _ 1 [r] _ _ _ hL1' hL2 (fun k hk => by simp at hk ⊢; omega) (fun k hk => by simp at hk ⊢; omega) (by simp)).mono ?_
  rintro e w' ⟨rfl, q, rfl⟩
  exact ⟨rfl, below_drewN (((Below.refl _ _).alloc (Nat.le_refl _) _).alloc (by simp) _) q⟩
/-- Behind j more texts. -/
def BackRel (w : World) (cb db : Nat) (key : List UInt8) (len : Nat) (s17 : Value) (wr : World) : Prop :=
  ∃ (j : Nat) (x : Ch) (X Y : Nat → Prop), j ≤ len ∧ j ≤ 20 ∧ s17 = .int .i64 j ∧ Twin wr cb db X Y x ∧ Good key x ∧ (∀ k, X k → w.heap.size ≤ k) ∧ (∀ k, Y k → w.heap.size ≤ k) ∧ Below w.heap.size w wr
set_option maxRecDepth 100000 in
set_option maxHeartbeats 8000000 in
theorem AuditBack_walk (A : Option Addr) (n c : Nat) (key : List UInt8) (TA : Option Addr) (tn tc : Nat) (texts : List ByteArray) (MA : Option Addr) (mn mc : Nat) (more : List ByteArray) (w : World)
    (h1 : Reads w w.heap.size 1 A n (bv key)) (_h1c : n ≤ c ∧ c ≤ 140737488351232) (ht : texts.length = tn) (hT : Strs w (· < w.heap.size) TA texts) (hTc : tn ≤ tc ∧ tc ≤ 140737488351232 ∧ ∀ s ∈ texts, s.size ≤ 140737488351232)
    (hmt : more.length = mn) (hM : Strs w (· < w.heap.size) MA more) (hMc : mn ≤ mc ∧ mc ≤ 140737488351232 ∧ ∀ s ∈ more, s.size ≤ 140737488351232) :
    Calls Try.prog 13 #[.slice A n c, .slice TA tn tc, .slice MA mn mc] w fun e w' => e = .returned (.bool true) ∧ Below w.heap.size w w' := by
  subst hmt
  have HM := Lib.hid hM
  have HMS := Lib.hid hMc.2.2
  have hml : more.length ≤ 140737488351232 := Nat.le_trans hMc.1 hMc.2.1
  clear hM hMc
  subst ht
  have hn0 : key.length = n := by have := h1.1; rw [length_bv] at this; omega
  have hsm := Lib.hid (small19_any w)
  have HN := Lib.hid (fun w' (h : Below w.heap.size w w') => aNew_any A n c w.heap.size key w' (h1.below h) h.size (by omega))
  have H1 := Lib.hid h1
  have HT := Lib.hid hT
  have HTS := Lib.hid hTc.2.2
  have HN0 := Lib.hid hn0
  have htl : texts.length ≤ 140737488351232 := Nat.le_trans hTc.1 hTc.2.1
  clear h1 hT hn0 hTc
  go_enter Try.func13, Try.ntmps13
  go_wp2_with fail
  refine hsm.out.mono ?_
  rintro e w1 ⟨rfl, hb1⟩
  have HB1 := Lib.hid hb1
  have HC := Lib.hid (HN.out w1 hb1)
  clear hb1 hsm HN
  go_wp2_with fail
  refine HC.out.mono ?_
  rintro e w2 ⟨cb, rfl, hcb, hch, hb2⟩
  have hs1 := HB1.out.size
  have HB2 := Lib.hid (HB1.out.trans (hb2.mono hs1))
  have hs2 := hb2.size
  have HCH := Lib.hid hch
  clear hb2 hch HC
  by_cases hk : 256 < n
  · have e1 : decide (256 < (n : Int)) = true := by simp; omega
    go_wp2_with fail
    go_ret
    exact ⟨rfl, HB2.out⟩
  · have e1 : decide (256 < (n : Int)) = false := by simp; omega
    have hkn : key.length ≤ 140737488351232 := by have := HN0.out; omega
    have hcw : w.heap.size ≤ cb := by omega
    go_wp2_with fail
    go_loopw [9] (fun s13 wr => TurnRel w cb key texts.length 30 s13 wr) (fun i _ => 30 - (intOf i).toNat)
    case atStart => exact ⟨0, ⟨key, 0, [], []⟩, _, Nat.zero_le _, Nat.zero_le _, rfl, HCH.out, Good.new key, (show (0 : Int) ≤ ((0 : Nat) : Int) from Int.le_refl _), fun k hk => by omega, HB2.out⟩
    case round =>
      clear HCH HB2
      obtain ⟨j, x, X, hj1, hj2, rfl, hch, hgd, hes, hX, hbel⟩ := hrel
      have hsz := hbel.size
      have HCH := Lib.hid hch
      have HGD := Lib.hid hgd
      have HX := Lib.hid hX
      have HBEL := Lib.hid hbel
      have HES := Lib.hid hes
      clear hes
      by_cases hin : j < texts.length ∧ j < 30
      · obtain ⟨hlt, h12⟩ := hin
        obtain ⟨sb, so, hTA, hTR, hTc⟩ := (HT.out.keep fun k hk => hbel.block k hk) (by omega)
        have c0 := hTc j hlt
        have hsz0 := HTS.out texts[j] (List.getElem_mem hlt)
        generalize texts[j] = s at c0 hsz0
        clear hTc hch hgd hX hbel
        subst hTA
        have i1 : (0 : Int) ≤ (j : Int) := by omega
        have i2 : (j : Int) < (texts.length : Int) := by omega
        by_cases h1000 : s.size ≤ 1000
        · have e2 : decide ((s.size : Int) ≤ 1000) = true := by simp; omega
          go_wp2_with fail
          refine (Put_any cb X key x s wr HCH.out HGD.out hkn hsz0).mono ?_
          rintro e w3 ⟨v, X', rfl, hch3, hg3, hX3⟩
          have HREL := Lib.hid (turn_next (s := s) hlt h12 hcw HGD.out HES.out HX.out HBEL.out hch3 hg3 hX3)
          clear hch3 hg3 hX3
          go_wp2_with fail
          go_roundw
          case rel => exact HREL.out
          case measure => simp [intOf]; omega
        · have e2 : decide ((s.size : Int) ≤ 1000) = false := by simp; omega
          go_wp2_with fail
          go_roundw
          case rel => exact ⟨j + 1, x, X, by omega, by omega, by go_num, HCH.out, HGD.out, by have := HES.out; omega, HX.out, HBEL.out⟩
          case measure => simp [intOf]; omega
      · have hout : ¬ j < texts.length ∨ (j < texts.length ∧ ¬ j < 30) := by omega
        clear hin hch hgd hX hbel
        rcases hout with hlt | ⟨hlt, h12⟩
        all_goals
          go_wp2_with fail
          refine (Base_any cb X x wr HCH.out).mono ?_
          rintro e w3 ⟨bA, bc, rfl, hbrow, hb3⟩
          have hs3 := hb3.size
          have HB3 := Lib.hid (HBEL.out.trans (hb3.mono hsz))
          have hp3 := HGD.out
          have HC := Lib.hid (List_any cb X x w3 (HCH.out.new hb3) (Nat.le_trans hp3.len (by decide)) (fun r hr => by have := (hp3.ok r hr).2; omega))
          have HCH3 := Lib.hid (HCH.out.new hb3)
          have HBROW := Lib.hid hbrow
          clear hb3 hbrow hp3
          go_wp2_with fail
          refine HC.out.mono ?_
          rintro e w4 ⟨lA, lc, rfl, hrow4, hb4⟩
          have hs4 := hb4.size
          have HB4 := Lib.hid (HB3.out.trans (hb4.mono (by omega)))
          have hlr := hrow4.lt
          have hrec4 : Recs w4 (· < w4.heap.size) lA x.recs := hrow4.recs.mono fun k hk => (by
            rcases hk with hk | ⟨ad, e, rfl⟩
            · exact hk.2
            · exact (hlr ad e).2)
          have HREC := Lib.hid hrec4
          have HBR4 := Lib.hid (HBROW.out.below hb4 (Nat.le_refl _))
          have HCH4 := Lib.hid (HCH3.out.new hb4)
          have hgd := HGD.out
          have hvs := ver_seq _ _ _ _ hgd.ver_
          have hb0 := hgd.b0
          have htop := hgd.top
          have hokr : RecsOk x.recs := fun y hy => by
            have h1 := hvs.2 y hy
            have h2 := hgd.ok y hy
            have h3 := hgd.len
            exact ⟨by omega, by omega, by omega, by omega⟩
          have HOKR := Lib.hid hokr
          have hpart4 : Part w4 (· < w4.heap.size) (.slice bA x.btag.length bc) x.btag := Part.of_row HBR4.out (Nat.le_trans hgd.bt (by decide)) fun ad e => (HBR4.out.lt ad e).2
          have HP4 := Lib.hid hpart4
          have HV := Lib.hid (Verify_any A n c key x.bseq (.slice bA x.btag.length bc) x.btag lA lc x.recs w4 ((H1.out.below HB4.out).more HB4.out.size) (by omega) (by omega) (by omega) hpart4 (Nat.le_trans hgd.bt (by decide)) hrec4 (Nat.le_trans hgd.len (by decide)) hokr)
          have hvv : verV (ver key x.bseq x.btag x.recs) x.recs.length = .tuple #[.int .i64 x.recs.length, .int .i64 0] := by rw [← hgd.key_, hgd.ver_]; unfold verV; rw [if_pos rfl]
          rw [hvv] at HV
          clear hb4 hrow4 HC HBROW HB3 hlr hrec4 hgd hvs hokr hpart4 hvv
          go_wp2_with fail
          refine HV.out.mono ?_
          rintro e w5 ⟨rfl, hb5⟩
          have hs5 := hb5.size
          have hbw5 := HB4.out.trans (hb5.mono HB4.out.size)
          have HB5 := Lib.hid hbw5
          have HCH5 := Lib.hid (HCH4.out.new hb5)
          have hgd := HGD.out
          have HC := Lib.hid (Restore_any A n c key x.bseq bA x.btag.length bc x.btag lA lc x.recs w5 ((H1.out.below hbw5).more hbw5.size) (by omega) (by omega) (by omega) ((HP4.out.keep fun k hk => hb5.block k hk).mono fun k hk => by omega) (Nat.le_trans hgd.bt (by decide)) ((HREC.out.keep fun k hk => hb5.block k hk).mono fun k hk => by omega) (Nat.le_trans hgd.len (by decide)) HOKR.out)
          have hl12 := hgd.len
          clear hb5 hbw5 HV hgd
          go_wp2_with fail
          refine HC.out.mono ?_
          rintro e w6 (⟨_, db, Y, rfl, hdb, hch6, hY, hb6⟩ | ⟨hno, _⟩)
          rotate_left
          · exfalso
            have hgd := HGD.out
            exact hno ⟨hgd.b0, hgd.bt2, hgd.len, fun r hr => (hgd.ok r hr).1, by rw [← hgd.key_]; exact hgd.ver_⟩
          have hs6 := hb6.size
          have hxk : (⟨key, x.bseq, x.btag, x.recs⟩ : Ch) = x := by rw [← HGD.out.key_]
          rw [hxk] at hch6
          have hcb5 := HCH5.out.lt
          have htw : Twin w6 cb db (fun k => X k ∧ k < w5.heap.size) (fun k => Y k ∧ k < w6.heap.size) x := ⟨HCH5.out.tight.new hb6, hch6.tight, by omega, fun h => by omega, fun h => by have := hY cb h.1; omega, fun k h1 h2 => by have := hY k h2.1; omega, fun k h => by omega, fun k h => h.2⟩
          have HTW := Lib.hid htw
          have HY := Lib.hid (fun k (h : Y k ∧ k < w6.heap.size) => (show w.heap.size ≤ k by have := hY k h.1; have := HB5.out.size; omega))
          have HX2 := Lib.hid (fun k (h : X k ∧ k < w5.heap.size) => HX.out k h.1)
          have HB6 := Lib.hid (HB5.out.trans (hb6.mono HB5.out.size))
          have hdw : w.heap.size ≤ db := by have := HB5.out.size; omega
          have e9 : decide (12 < (x.recs.length : Int)) = false := by simp; omega
          clear hch6 hY hb6 hxk htw HC hdb
          go_wp2_with fail
          go_loopw [17] (fun s wr => BackRel w cb db key more.length s wr) (fun i _ => 20 - (intOf i).toNat)
          case atStart => exact ⟨0, x, _, _, Nat.zero_le _, Nat.zero_le _, rfl, HTW.out, HGD.out, HX2.out, HY.out, HB6.out⟩
          case round =>
            clear HTW HGD HX2 HY HB6 HCH HCH3 HCH4 HCH5 HB4 HB5 HBR4 HREC HOKR HP4 HX HBEL HES e9
            obtain ⟨j2, x2, X2, Y2, hj3, hj4, rfl, htw, hgd, hX, hY, hbel⟩ := hrel
            have hsz2 := hbel.size
            have HTW := Lib.hid htw
            have HGD := Lib.hid hgd
            have HX := Lib.hid hX
            have HY := Lib.hid hY
            have HBEL := Lib.hid hbel
            by_cases hin : j2 < more.length ∧ j2 < 20
            · obtain ⟨hlt2, h20⟩ := hin
              obtain ⟨sb, so, hMA, hMR, hMc⟩ := HM.out (by omega)
              have cw0 := hMc j2 hlt2
              have hsz0 := HMS.out more[j2] (List.getElem_mem hlt2)
              generalize more[j2] = s at cw0 hsz0
              have c0 := (hbel.cell (p := ⟨sb, so + j2, none⟩) hMR).trans cw0
              have HCW0 := Lib.hid cw0
              clear hMc htw hgd hX hY hbel cw0
              subst hMA
              have i1 : (0 : Int) ≤ (j2 : Int) := by omega
              have i2 : (j2 : Int) < (more.length : Int) := by omega
              by_cases h1000 : 1000 < s.size
              · have e2 : decide (1000 < (s.size : Int)) = true := by simp; omega
                go_wp2_with fail
                go_ret
                exact ⟨rfl, HBEL.out⟩
              · have e2 : decide (1000 < (s.size : Int)) = false := by simp; omega
                have HC := Lib.hid (Ans_any cb X2 key x2 s _ HTW.out.c HGD.out hkn hsz0)
                obtain ⟨a, ha⟩ : ∃ a, x2.ans s = a := ⟨_, rfl⟩
                obtain ⟨er, her⟩ : ∃ er, x2.err s = er := ⟨_, rfl⟩
                obtain ⟨x3, hx3⟩ : ∃ x3, x2.put s = x3 := ⟨_, rfl⟩
                have HA := Lib.hid ha
                have HER := Lib.hid her
                have HX3 := Lib.hid hx3
                have hgd3 := (HGD.out.put s).1
                rw [hx3] at hgd3
                have HGD3 := Lib.hid hgd3
                clear ha her hx3 hgd3
                go_wp2_with fail
                refine HC.out.mono ?_
                intro e v1 h
                obtain ⟨rA, rc, X', he, hrow, hch, hg, hX', _⟩ := h
                rw [HA.out] at he hrow
                rw [HER.out] at he
                rw [HX3.out] at hch
                subst he
                have hd1 := HTW.out.d.grew hg (fun h => by rcases h with h | h; exact HTW.out.ne h; exact HTW.out.xd h) (fun k hk _ h => by rcases h with h | h; subst h; exact HTW.out.yc hk; exact HTW.out.xy k h hk)
                have hv1 := hg.size
                have HD1 := Lib.hid hd1
                have HCH1 := Lib.hid hch
                have HROW1 := Lib.hid hrow
                have HX1 := Lib.hid hX'
                have HV1 := Lib.hid (HBEL.out.trans (hg.below (B := w.heap.size) hsz2 fun k _ h => by rcases h with rfl | h; exact hcw; exact HX.out k h))
                clear hrow hch hg hX' hd1 HC
                go_upto_region 22 with (fail)
                refine name_world fun v2 y1 y2 y3 y4 => ?_
                have hk2 : Blk v2 v1.heap.size 51 #[.int .i64 a.seq, .string a.text, .slice rA a.tag.length rc] := (by unfold Blk; rw [y1]; exact Blk.new v1 _ _)
                have hb2 : Below v1.heap.size v1 v2 := below_heap ((Below.refl _ _).alloc (Nat.le_refl _) _) y1 y2 y3 y4
                have hv2 : v1.heap.size < v2.heap.size := hk2.lt
                have HV2 := Lib.hid (HV1.out.trans (hb2.mono HV1.out.size))
                have c2 : v2.cell? ⟨sb, so + j2, none⟩ = some (.string s) := (HV2.out.cell (p := ⟨sb, so + j2, none⟩) hMR).trans HCW0.out
                have HK2 := Lib.hid hk2
                have HCH2 := Lib.hid (HCH1.out.new hb2)
                have HROW2 := Lib.hid (HROW1.out.below hb2 (Nat.le_refl _))
                have HC := Lib.hid (Ans_any db Y2 key x2 s v2 (HD1.out.new hb2) HGD.out hkn hsz0)
                clear y1 y2 y3 y4 hk2 hb2 HD1 HCH1 HROW1
                go_wp2_with fail
                refine HC.out.mono ?_
                intro e v3 h
                obtain ⟨sA, sc, Y', he, hrow, hch, hg, hY', _⟩ := h
                rw [HA.out] at he hrow
                rw [HER.out] at he
                rw [HX3.out] at hch
                subst he
                have hv3 := hg.size
                have hyl : ∀ k, Y2 k → k < v1.heap.size := fun k hk => Nat.lt_of_lt_of_le (HTW.out.yl k hk) hv1
                have hdb : db < v1.heap.size := Nat.lt_of_lt_of_le HTW.out.d.lt hv1
                have hc3 := HCH2.out.grew hg (fun h => by rcases h with h | h; exact HTW.out.ne h.symm; exact HTW.out.yc h) (fun k hk _ h => by
                  have := HX1.out k hk
                  rcases h with h | h
                  · subst h
                    rcases this.1 with h2 | h2
                    · exact HTW.out.xd h2
                    · have := HTW.out.d.lt; omega
                  · rcases this.1 with h2 | h2
                    · exact HTW.out.xy k h2 h
                    · have := HTW.out.yl k h; omega)
                have hr3 := HROW2.out.grew hg (fun ad e h => by
                  have := (HROW2.out.lt ad e).1
                  rcases h with h | h
                  · have := HTW.out.d.lt; omega
                  · have := HTW.out.yl _ h; omega)
                have hk3 := HK2.out.grew hg (fun h => by
                  rcases h with h | h
                  · omega
                  · have := hyl _ h; omega)
                have htw3 : Twin v3 cb db X' Y' x3 := ⟨hc3, hch, HTW.out.ne, fun h => by rcases (HX1.out db h).1 with h2 | h2; exact HTW.out.xd h2; have := HTW.out.d.lt; omega, fun h => by rcases (hY' cb h).1 with h2 | h2; exact HTW.out.yc h2; have := HTW.out.c.lt; omega, fun k h1 h2 => by
                  have q1 := HX1.out k h1
                  rcases (hY' k h2).1 with h3 | h3
                  · rcases q1.1 with h4 | h4
                    · exact HTW.out.xy k h4 h3
                    · have := HTW.out.yl k h3; omega
                  · omega, fun k h => by have := (HX1.out k h).2.1; omega, fun k h => (hY' k h).2.1⟩
                have HTW3 := Lib.hid htw3
                have HK3 := Lib.hid hk3
                have HR3 := Lib.hid hr3
                have HS3 := Lib.hid hrow
                have HV3 := Lib.hid (HV2.out.trans (hg.below (B := w.heap.size) HV2.out.size fun k _ h => by rcases h with rfl | h; exact hdw; exact HY.out k h))
                have HXN := Lib.hid (fun k (h : X' k) => (show w.heap.size ≤ k by rcases (HX1.out k h).1 with h2 | h2; exact HX.out k h2; omega))
                have HYN := Lib.hid (fun k (h : Y' k) => (show w.heap.size ≤ k by rcases (hY' k h).1 with h2 | h2; exact HY.out k h2; have := HV2.out.size; omega))
                clear hrow hch hg hY' hc3 hr3 hk3 htw3 HC hyl
                go_upto_region 23 with (fail)
                refine name_world fun v4 y1 y2 y3 y4 => ?_
                have hk4 : Blk v4 v3.heap.size 51 #[.int .i64 a.seq, .string a.text, .slice sA a.tag.length sc] := (by unfold Blk; rw [y1]; exact Blk.new v3 _ _)
                have hb4 : Below v3.heap.size v3 v4 := below_heap ((Below.refl _ _).alloc (Nat.le_refl _) _) y1 y2 y3 y4
                have hv4 : v3.heap.size < v4.heap.size := hk4.lt
                have hk5 := HK3.out.below hb4 (by omega)
                have hr4 := HR3.out.below hb4 (Nat.le_refl _)
                have hs4 := HS3.out.below hb4 (Nat.le_refl _)
                have p0 : v4.cell? ⟨v1.heap.size, 0, none⟩ = some (.int .i64 a.seq) := hk5.cell 0
                have p1 : v4.cell? ⟨v1.heap.size, 1, none⟩ = some (.string a.text) := hk5.cell 1
                have p2 : v4.cell? ⟨v1.heap.size, 2, none⟩ = some (.slice rA a.tag.length rc) := hk5.cell 2
                have r0 : v4.cell? ⟨v3.heap.size, 0, none⟩ = some (.int .i64 a.seq) := hk4.cell 0
                have r1 : v4.cell? ⟨v3.heap.size, 1, none⟩ = some (.string a.text) := hk4.cell 1
                have r2 : v4.cell? ⟨v3.heap.size, 2, none⟩ = some (.slice sA a.tag.length sc) := hk4.cell 2
                have hal : a.tag.length ≤ 140737488351232 := by
                  rw [← HA.out]
                  unfold Ch.ans
                  split
                  · exact Nat.le_trans (Nat.le_of_eq (length_tagB _ _ _ _)) (by decide)
                  · exact Nat.zero_le _
                have HV4 := Lib.hid (HV3.out.trans (hb4.mono HV3.out.size))
                have HTW4 := Lib.hid (HTW3.out.new hb4)
                have HC := Lib.hid (same_pair a (.slice rA a.tag.length rc) (.slice sA a.tag.length sc) v4 (Part.of_row hr4 hal fun ad e => (hr4.lt ad e).2) (Part.of_row hs4 hal fun ad e => (hs4.lt ad e).2))
                have e7 : (er != er) = false := by simp
                have h14 : v1.heap.size < v4.heap.size := by omega
                clear y1 y2 y3 y4 hk4 hb4 hk5 hr4 hs4 HTW3 HK3 HR3 HS3
                go_wp2_with fail
                refine HC.out.mono ?_
                rintro e v5 ⟨rfl, hb5⟩
                have htw5 := HTW4.out.new hb5
                have HTW5 := Lib.hid htw5
                have HV5 := Lib.hid (HV4.out.trans (hb5.mono HV4.out.size))
                have hg3 := HGD3.out
                have HC := Lib.hid (List_any cb X' x3 v5 htw5.c (Nat.le_trans hg3.len (by decide)) (fun r hr => by have := (hg3.ok r hr).2; omega))
                clear htw5 hb5 hg3 HTW4
                go_wp2_with fail
                refine HC.out.mono ?_
                rintro e v6 ⟨l1, lc1, rfl, hrow6, hb6⟩
                have htw6 := HTW5.out.new hb6
                have HTW6 := Lib.hid htw6
                have HV6 := Lib.hid (HV5.out.trans (hb6.mono HV5.out.size))
                have HROW6 := Lib.hid hrow6
                have hg3 := HGD3.out
                have HC := Lib.hid (List_any db Y' x3 v6 htw6.d (Nat.le_trans hg3.len (by decide)) (fun r hr => by have := (hg3.ok r hr).2; omega))
                clear htw6 hb6 hg3 hrow6 HTW5
                go_wp2_with fail
                refine HC.out.mono ?_
                rintro e v7 ⟨l2, lc2, rfl, hrow7, hb7⟩
                have HTW7 := Lib.hid (HTW6.out.new hb7)
                have HV7 := Lib.hid (HV6.out.trans (hb7.mono HV6.out.size))
                have hq1 := HROW6.out.new hb7
                have HC := Lib.hid (rSame_yes l1 lc1 l2 lc2 x3.recs _ _ v7 hq1.recs hrow7.recs (fun k hk => by rcases hk with hk | ⟨ad, e, rfl⟩; exact hk.2; exact (hq1.lt ad e).2) (fun k hk => by rcases hk with hk | ⟨ad, e, rfl⟩; exact hk.2; exact (hrow7.lt ad e).2) (Nat.le_trans HGD3.out.len (by decide)))
                clear hrow7 hb7 hq1 HTW6 HROW6
                go_wp2_with fail
                refine HC.out.mono ?_
                rintro e v8 ⟨rfl, q8, rfl⟩
                have HTW8 := Lib.hid (HTW7.out.new (w' := v7.drewN q8) (below_drewN (Below.refl _ _) q8))
                have HV8 := Lib.hid (below_drewN HV7.out q8)
                clear HTW7 HC
                go_wp2_with fail
                go_roundw
                case rel => exact ⟨j2 + 1, x3, X', Y', by omega, by omega, by go_num, HTW8.out, HGD3.out, HXN.out, HYN.out, HV8.out⟩
                case measure => simp [intOf]; omega
            · have hout : ¬ j2 < more.length ∨ (j2 < more.length ∧ ¬ j2 < 20) := by omega
              clear hin htw hgd hX hY hbel
              rcases hout with hlt2 | ⟨hlt2, h20⟩
              all_goals
                go_wp2_with fail
                go_ret
                exact ⟨rfl, HBEL.out⟩
end Go.Proofs.Ytbjlmodabiadfaa
