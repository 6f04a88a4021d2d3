/- Audit: a chain of records. -/
import Derived.Test.YtbjlmodabiadfaaHChLaw
import Derived.Test.YtbjlmodabiadfaaHAudSmall
namespace Go.Proofs.Ytbjlmodabiadfaa
open Go.RowKit

attribute [local go_sem ↓] Go.wp_at_zero Go.wp_at_succ
/-- Which records may be restored. -/
def RestOk (key : List UInt8) (base : Int) (ahead : List UInt8) (L : List Rec) : Prop := 0 ≤ base ∧ (ahead.length = 0 ∨ ahead.length = 32) ∧ L.length ≤ 12 ∧ (∀ r ∈ L, r.text.size ≤ 200) ∧ ver key base ahead L = L.length
def RestNo (w : World) (e : Ending) (w' : World) : Prop := e = .returned (.tuple #[.pointer none, .int .i64 22]) ∧ Below w.heap.size w w'
/-- What Restore hands back. -/
def RestOut (key : List UInt8) (base : Int) (ahead : List UInt8) (L : List Rec) (w : World) (e : Ending) (w' : World) : Prop :=
  (RestOk key base ahead L ∧ ∃ cb X, e = .returned (.tuple #[.pointer (some ⟨cb, 0, none⟩), .int .i64 0]) ∧ w.heap.size ≤ cb ∧ ChainAt w' cb X ⟨key, base, ahead, L⟩ ∧ (∀ k, X k → w.heap.size ≤ k) ∧ Below w.heap.size w w') ∨
  (¬ RestOk key base ahead L ∧ RestNo w e w')
theorem rest_ready {w5 w6 : World} {cb N : Nat} {X : Nat → Prop} {A A1 : Option Addr} {c n1 : Nat} {vk vt : Value} {key bt : List UInt8} {L : List Rec} {r : Rec} (co : CO w5 cb X A c vk vt key bt L) (hcb : cb < w5.heap.size) (hN : N ≤ w5.heap.size) (hr : Row w6 w5.heap.size 1 A1 r.tag.length n1 (bv r.tag)) (hb : Below w5.heap.size w5 w6) (hl : r.tag.length ≤ 140737488351232) :
    ∃ vs : List Value, vs.length = L.length ∧ Row (w6.alloc (.cells #[.int .i64 r.seq, .string r.text, .slice A1 r.tag.length n1] 51)) 0 3 A L.length c (List.zipWith rcv L vs).flatten ∧
      (∀ i (h : i < L.length) (h' : i < vs.length), Part (w6.alloc (.cells #[.int .i64 r.seq, .string r.text, .slice A1 r.tag.length n1] 51)) (RTag (fun k => (X k ∨ N ≤ k) ∧ k ≠ cb) A (w6.alloc (.cells #[.int .i64 r.seq, .string r.text, .slice A1 r.tag.length n1] 51))) vs[i] L[i].tag) ∧
      Reads (w6.alloc (.cells #[.int .i64 r.seq, .string r.text, .slice A1 r.tag.length n1] 51)) (w6.heap.size + 1) 3 (some ⟨w6.heap.size, 0, none⟩) 1 (rcv r (.slice A1 r.tag.length n1)) ∧
      Part (w6.alloc (.cells #[.int .i64 r.seq, .string r.text, .slice A1 r.tag.length n1] 51)) (RTag (fun k => (X k ∨ N ≤ k) ∧ k ≠ cb) A (w6.alloc (.cells #[.int .i64 r.seq, .string r.text, .slice A1 r.tag.length n1] 51))) (.slice A1 r.tag.length n1) r.tag ∧
      CO (w6.alloc (.cells #[.int .i64 r.seq, .string r.text, .slice A1 r.tag.length n1] 51)) cb (fun k => X k ∨ N ≤ k) A c vk vt key bt L := by
  have hp : Part w6 (RTag (fun k => (X k ∨ N ≤ k) ∧ k ≠ cb) A w6) (.slice A1 r.tag.length n1) r.tag := Part.of_row hr hl fun ad e => ⟨⟨.inr (by have := (hr.lt ad e).1; omega), by have := (hr.lt ad e).1; omega⟩, (hr.lt ad e).2, fun ad' e' => by have := (hr.lt ad e).1; have := (co.row.lt ad' e').2; omega⟩
  have co' : CO w5 cb (fun k => X k ∨ N ≤ k) A c vk vt key bt L := co.mono fun k h => .inl h
  obtain ⟨vs, g1, g2, g3, g4, g5, g6⟩ := rec_ready (r := r) 51 co'.row hb hp rfl
  exact ⟨vs, g2, g3, g4, g5, g6, co'.new (hb.trans (((Below.refl _ _).alloc (Nat.le_refl _) _).mono hb.size))⟩
/-- i records are restored. -/
def RestRel (w : World) (cb : Nat) (key : List UInt8) (base : Int) (ahead : List UInt8) (L : List Rec) (s43 : Value) (wr : World) : Prop :=
  ∃ (i : Nat) (X : Nat → Prop), i ≤ L.length ∧ s43 = .int .i64 i ∧ ChainZ wr cb X ⟨key, base, ahead, L.take i⟩ 0 ∧ (∀ k, X k → w.heap.size ≤ k) ∧ Below w.heap.size w wr ∧ ∀ t (h : t < L.length), t < i → L[t].text.size ≤ 200
theorem rest_next {w wr w5 w6 w10 : World} {cb i : Nat} {X : Nat → Prop} {A A10 : Option Addr} {c c10 : Nat} {vk vt v : Value} {key ahead : List UInt8} {base : Int} {L : List Rec} {r : Rec} {vs : List Value} {T : TypeId} {cs : Array Value} (hi : i < L.length) (hr : L[i] = r) (ht : r.text.size ≤ 200) (hsm : ∀ t (h : t < L.length), t < i → L[t].text.size ≤ 200) (hcbw : w.heap.size ≤ cb) (hXw : ∀ k, X k → w.heap.size ≤ k) (hb : Below w.heap.size w wr) (hw5 : Below wr.heap.size wr w5) (hb6 : Below w5.heap.size w5 w6)
    (co : CO (w6.alloc (.cells cs T)) cb (fun k => X k ∨ w.heap.size ≤ k) A c vk vt key ahead (L.take i)) (hbk : Blk w5 cb 96 #[vk, .int .i64 base, .string ⟨#[]⟩, vt, .slice A i c, .int .i64 0])
    (h2 : vs.length = (L.take i).length) (h4 : ∀ j (h : j < (L.take i).length) (h' : j < vs.length), Part (w6.alloc (.cells cs T)) (RTag (fun k => (X k ∨ w.heap.size ≤ k) ∧ k ≠ cb) A (w6.alloc (.cells cs T))) vs[j] (L.take i)[j].tag)
    (hp : Part (w6.alloc (.cells cs T)) (RTag (fun k => (X k ∨ w.heap.size ≤ k) ∧ k ≠ cb) A (w6.alloc (.cells cs T))) v r.tag)
    (hrow1 : Row w10 0 3 A10 (i + 1) c10 ((List.zipWith rcv (L.take i) vs).flatten ++ rcv r v)) (hg : (w6.alloc (.cells cs T)).grownBy w10 (A.map (·.block))) (hat : A10 = A ∨ ∃ ad, A10 = some ad ∧ (w6.alloc (.cells cs T)).heap.size ≤ ad.block) :
    w10.cell? ⟨cb, 4, none⟩ = some (.slice A i c) ∧ w10.frozen? ⟨cb, 4, none⟩ = false ∧ RestRel w cb key base ahead L (.int .i64 ((i : Int) + 1)) (w10.setCell ⟨cb, 4, none⟩ (.slice A10 (i + 1) c10)) := by
  have hl : (L.take i).length = i := by simp; omega
  have hrow : Row w10 0 3 A10 ((L.take i).length + 1) c10 ((List.zipWith rcv (L.take i) vs).flatten ++ rcv r v) := by rw [hl]; exact hrow1
  have s5 := hw5.size
  have s6 := hb6.size
  have s0 := hb.size
  have hsz : (w6.alloc (.cells cs T)).heap.size = w6.heap.size + 1 := by simp
  have hcb5 := hbk.lt
  have hA : ∀ k, A.map (·.block) = some k → k ≠ cb ∧ w.heap.size ≤ k := fun k e => by
    cases A with
    | none => cases e
    | some ad =>
      simp only [Option.map_some, Option.some.injEq] at e
      subst e
      have h := co.own ad rfl
      refine ⟨h.2, ?_⟩
      rcases h.1 with h1 | h1
      · exact hXw _ h1
      · exact h1
  have b10 : Blk w10 cb 96 #[vk, .int .i64 base, .string ⟨#[]⟩, vt, .slice A i c, .int .i64 0] := ((hbk.below hb6 hcb5).alloc _).grown hg fun e => (hA cb e.symm).1 rfl
  have co10 := co.snoc (N := w.heap.size) (by omega) (by omega) rfl h2 h4 hrow hg hat hp
  have htk : L.take (i + 1) = L.take i ++ [r] := by rw [List.take_succ_eq_append_getElem hi, hr]
  refine ⟨b10.cell 4, b10.frozen 4, i + 1, fun k => (X k ∨ w.heap.size ≤ k) ∨ w.heap.size ≤ k, by omega, by go_num, ?_, fun k hk => ?_, ?_, fun t h hti => ?_⟩
  · refine CO.chainZ (x := ⟨key, base, ahead, L.take (i + 1)⟩) (A := A10) (c := c10) (vk := vk) (vt := vt) ?_ ?_
    · show CO _ cb _ A10 c10 vk vt key ahead (L.take (i + 1))
      rw [htk]
      exact co10.set 4 _
    · have hl2 : (L.take (i + 1)).length = i + 1 := by simp; omega
      show Blk _ cb _ #[vk, .int .i64 base, .string ⟨#[]⟩, vt, .slice A10 (L.take (i + 1)).length c10, .int .i64 0]
      rw [hl2]
      exact b10.set 4 _
  · rcases hk with (h | h) | h
    · exact hXw k h
    · exact h
    · exact h
  · have q := ((hb.trans (hw5.mono s0)).trans (hb6.mono (by omega))).alloc (by omega) (.cells cs T)
    exact (q.grown hg (by omega) fun k e => (hA k e).2).setCell hcbw _
  · by_cases e : t = i
    · subst e; rw [hr]; exact ht
    · exact hsm t h (by omega)
theorem rest_start {w w1 w2 : World} {cb : Nat} {key ahead : List UInt8} {base : Int} {A2 : Option Addr} {c2 : Nat} (hch : ChainAt w1 cb (w.heap.size ≤ ·) ⟨key, 0, [], []⟩) (hr : Row w2 w1.heap.size 1 A2 ahead.length c2 (bv ahead)) (hb : Below w1.heap.size w1 w2) (hl : ahead.length ≤ 140737488351232) (hw : w.heap.size ≤ w1.heap.size) :
    ∃ vk vt cA cc, Blk w2 cb 96 #[vk, .int .i64 0, .string ⟨#[]⟩, vt, .slice cA 0 cc, .int .i64 0] ∧
      ChainZ (((w2.setCell ⟨cb, 1, none⟩ (.int .i64 base)).setCell ⟨cb, 2, none⟩ (.string ⟨#[]⟩)).setCell ⟨cb, 3, none⟩ (.slice A2 ahead.length c2)) cb (w.heap.size ≤ ·) ⟨key, base, ahead, []⟩ 0 := by
  obtain ⟨vk, vt, cA, cc, blk, co⟩ := hch.co
  have hcb := blk.lt
  have b2 : Blk w2 cb 96 #[vk, .int .i64 0, .string ⟨#[]⟩, vt, .slice cA 0 cc, .int .i64 0] := blk.below hb hcb
  have co2 := co.new hb
  have hp : Part w2 (RTag (fun k => w.heap.size ≤ k ∧ k ≠ cb) cA w2) (.slice A2 ahead.length c2) ahead := Part.of_row hr hl fun ad e => ⟨⟨by have := (hr.lt ad e).1; omega, by have := (hr.lt ad e).1; omega⟩, (hr.lt ad e).2, fun ad' e' => by have := (hr.lt ad e).1; have := (co.row.lt ad' e').2; omega⟩
  have co3 : CO w2 cb (w.heap.size ≤ ·) cA cc vk (.slice A2 ahead.length c2) key ahead [] := ⟨co2.pk, hp, co2.row, co2.own⟩
  exact ⟨vk, vt, cA, cc, b2, CO.chainZ (x := ⟨key, base, ahead, []⟩) (((co3.set 1 _).set 2 _).set 3 _) (((b2.set 1 _).set 2 _).set 3 _)⟩
theorem ChainZ.new {w w' : World} {cb : Nat} {X : Nat → Prop} {x : Ch} {z : Int} (h : ChainZ w cb X x z) (g : Below w.heap.size w w') : ChainZ w' cb X x z := by
  obtain ⟨vk, vt, A, c, a1, a2, a3, a4, a5⟩ := h
  exact ((CO.mk a2 a3 a4 a5).new g).chainZ (a1.below g a1.lt)
/-- The last number is stored. -/
theorem ChainZ.count {w : World} {cb : Nat} {X : Nat → Prop} {x : Ch} {z : Int} (h : ChainZ w cb X x z) : w.cell? ⟨cb, 5, none⟩ = some (.int .i64 z) ∧ w.frozen? ⟨cb, 5, none⟩ = false ∧ cb < w.heap.size ∧ ChainAt (w.setCell ⟨cb, 5, none⟩ (.int .i64 x.end_.seq)) cb X x := by
  obtain ⟨vk, vt, A, c, a1, a2, a3, a4, a5⟩ := h
  exact ⟨a1.cell 5, a1.frozen 5, a1.lt, ((CO.mk a2 a3 a4 a5).set 5 _).chain (a1.set 5 _)⟩
theorem field_seq (a : Int) (b : ByteArray) (v : Value) (w : World) : (Instr.field 51 (.agg #[.int .i64 a, .string b, v]) 0).run Try.prog w = .ok (.int .i64 a) w := by kernel_rfl
set_option maxRecDepth 100000 in
set_option maxHeartbeats 8000000 in
theorem Restore_any (A : Option Addr) (n c : Nat) (key : List UInt8) (base : Int) (aA : Option Addr) (an ac : Nat) (ahead : List UInt8) (LA : Option Addr) (lc : Nat) (L : List Rec) (w : World) (hr : Reads w w.heap.size 1 A n (bv key)) (hn : n ≤ 140737488351232) (hb1 : -9223372036854775808 ≤ base) (hb2 : base ≤ 9223372036854775807)
    (hv : Part w (· < w.heap.size) (.slice aA an ac) ahead) (hal : ahead.length ≤ 256) (hL : Recs w (· < w.heap.size) LA L) (hLn : L.length ≤ 1000000) (hok : RecsOk L) :
    Calls Try.prog 40 #[.slice A n c, .int .i64 base, .slice aA an ac, .slice LA L.length lc] w (RestOut key base ahead L w) := by
  have hal2 : ahead.length = an := by obtain ⟨_, _, _, e, h, _⟩ := hv; injection e with _ e2 _; omega
  have HAL := Lib.hid hal2
  have HR := Lib.hid hr
  have HV := Lib.hid hv
  have HL := Lib.hid hL
  have HOK := Lib.hid hok
  clear hr hv hL hok hal2
  by_cases hneg : base < 0
  · have e1 : decide (base < 0) = true := by simp; omega
    go_enter Try.func40, Try.ntmps40
    go_wp2_with fail
    go_ret2
    exact .inr ⟨fun h => by have := h.1; omega, rfl, Below.refl _ _⟩
  · have e1 : decide (base < 0) = false := by simp; omega
    by_cases hbad : ¬ (an = 0 ∨ an = 32)
    · have e2 : ((an : Int) != 0) = true := by simp; omega
      have e3 : ((an : Int) != 32) = true := by simp; omega
      go_enter Try.func40, Try.ntmps40
      go_wp2_with fail
      go_ret2
      exact .inr ⟨fun h => hbad (by have := h.2.1; have := HAL.out; omega), rfl, Below.refl _ _⟩
    · have hgood : an = 0 ∨ an = 32 := Classical.not_not.1 hbad
      by_cases h12 : 12 < L.length
      · have e4 : decide (12 < (L.length : Int)) = true := by simp; omega
        rcases hgood with rfl | rfl
        all_goals
          go_enter Try.func40, Try.ntmps40
          go_wp2_with fail
          go_ret2
          exact .inr ⟨fun h => by have := h.2.2.1; omega, rfl, Below.refl _ _⟩
      · have e4 : decide (12 < (L.length : Int)) = false := by simp; omega
        rcases hgood with han | han
        all_goals
          subst han
          have hcal : ∀ w', Below w.heap.size w w' → Part w' (· < w'.heap.size) (.slice aA _ ac) ahead := fun w' hb => (HV.out.keep fun k hk => hb.block k hk).mono fun k hk => by have := hb.size; omega
          have HCAL := Lib.hid hcal
          have HN := Lib.hid (aNew_any A n c w.heap.size key w HR.out (Nat.le_refl _) hn)
          clear hcal
          go_enter Try.func40, Try.ntmps40
          go_wp2_with fail
          refine HN.out.mono ?_
          rintro e w1 ⟨cb, rfl, hcb, hch, hb1⟩
          have hs1 := hb1.size
          have HCH := Lib.hid hch
          have HC := Lib.hid (copied_any ⟨base, ⟨#[]⟩, ahead⟩ (.slice aA _ ac) (· < w1.heap.size) w1 (HCAL.out w1 hb1) (fun k hk => hk))
          have HB1 := Lib.hid hb1
          clear hch hb1 HN
          go_wp2_with fail
          refine HC.out.mono ?_
          rintro e w2 ⟨A2, c2, rfl, hrow2, hb2⟩
          obtain ⟨vk, vt, cA, cc, blk, hz⟩ := rest_start (base := base) HCH.out hrow2 hb2 (by simp only; omega) hs1
          have hs2 := hb2.size
          have m1 : w2.cell? ⟨cb, 1, none⟩ = some (.int .i64 0) := blk.cell 1
          have m2 : w2.cell? ⟨cb, 2, none⟩ = some (.string ⟨#[]⟩) := blk.cell 2
          have m3 : w2.cell? ⟨cb, 3, none⟩ = some vt := blk.cell 3
          have n1 := blk.frozen 1
          have n2 := blk.frozen 2
          have n3 := blk.frozen 3
          have hcb2 := blk.lt
          have HZ := Lib.hid hz
          have HB2 := Lib.hid (HB1.out.trans (hb2.mono hs1))
          clear hrow2 hb2 blk hz HC
          go_upto_region 5 with (fail)
          refine name_world fun w3 y1 y2 y3 y4 => ?_
          have HB3 := Lib.hid (below_heap (((HB2.out.setCell (p := ⟨cb, 1, none⟩) hcb (.int .i64 base)).setCell (p := ⟨cb, 2, none⟩) hcb (.string ⟨#[]⟩)).setCell (p := ⟨cb, 3, none⟩) hcb (.slice A2 ahead.length c2)) y1 y2 y3 y4)
          have HZ3 : Hid (ChainZ w3 cb (w.heap.size ≤ ·) ⟨key, base, ahead, []⟩ 0) := Lib.hid (by
            obtain ⟨vk, vt, A, c, a1, a2, a3, a4, a5⟩ := HZ.out
            have co : CO w3 cb (w.heap.size ≤ ·) A c vk vt key ahead [] := (CO.mk a2 a3 a4 a5).new ⟨y2, y3, y4, by rw [y1]; exact Nat.le_refl _, fun k hk => by rw [y1]⟩
            exact co.chainZ (x := ⟨key, base, ahead, []⟩) (by unfold Blk; rw [y1]; exact a1))
          clear y1 y2 y3 y4 m1 m2 m3 n1 n2 n3 HZ HB2 hcb2 hs2
          go_wp2_with fail
          go_loopw [43] (fun s wr => RestRel w cb key base ahead L s wr) (fun i _ => L.length - (intOf i).toNat)
          case atStart => exact ⟨0, _, Nat.zero_le _, rfl, HZ3.out, fun k hk => hk, HB3.out, fun t h ht => by omega⟩
          case round =>
            clear HZ3 HB3 HCH HB1
            obtain ⟨i, X, hi, rfl, hz, hXw, hbel, hsm⟩ := hrel
            have hsz := hbel.size
            have HBEL := Lib.hid hbel
            have HZZ := Lib.hid hz
            have HXW := Lib.hid hXw
            have HSM := Lib.hid hsm
            by_cases hlt : i < L.length
            · obtain ⟨lb, lo, hLA, hlR, hlc⟩ := (HL.out.keep fun k hk => hbel.block k hk) (by omega)
              obtain ⟨d0, d1, v2, d2, hp2⟩ := hlc i hlt
              obtain ⟨tA, tn, tc, hv2⟩ := hp2.form
              subst hv2
              have hrok := HOK.out L[i] (List.getElem_mem hlt)
              have hmem := List.getElem_mem hlt
              generalize hLi : L[i] = r at d0 d1 hp2 hrok hmem
              have HLI := Lib.hid hLi
              have HP2 := Lib.hid hp2
              have HMEM := Lib.hid hmem
              clear hlc hp2 hLi hbel hz hXw hsm hmem
              subst hLA
              have hj0 : (0 : Int) ≤ (i : Int) := by omega
              have hjl : (i : Int) < L.length := by omega
              go_upto_region 8 with (fail)
              refine name_world fun w5 x1 x2 x3 x4 => ?_
              have hblk : Blk w5 wr.heap.size 51 #[.int .i64 r.seq, .string r.text, .slice tA tn tc] := (by unfold Blk; rw [x1]; exact Blk.new wr _ _)
              have hb5 : Below wr.heap.size wr w5 := below_heap ((Below.refl _ _).alloc (Nat.le_refl _) _) x1 x2 x3 x4
              have hg5 : wr.heap.size < w5.heap.size := by rw [x1]; simp
              have k0 : w5.cell? ⟨wr.heap.size, 0, none⟩ = some (.int .i64 r.seq) := hblk.cell 0
              have k1 : w5.cell? ⟨wr.heap.size, 1, none⟩ = some (.string r.text) := hblk.cell 1
              have k2 : w5.cell? ⟨wr.heap.size, 2, none⟩ = some (.slice tA tn tc) := hblk.cell 2
              have HB5 := Lib.hid hb5
              clear x1 x2 x3 x4 d0 d1 d2 hblk
              by_cases h200 : 200 < r.text.size
              · have e5 : decide (200 < (r.text.size : Int)) = true := by simp; omega
                clear hb5
                go_wp2_with fail
                go_ret2
                exact .inr ⟨fun h => by have := h.2.2.2.1 r HMEM.out; omega, rfl, HBEL.out.trans (HB5.out.mono hsz)⟩
              · have e5 : decide (200 < (r.text.size : Int)) = false := by simp; omega
                obtain ⟨vk, vt, oA, oc, a1, a2, a3, a4, a5⟩ := HZZ.out
                have htl : (L.take i).length = i := by simp; omega
                have a1' : Blk wr cb 96 #[vk, .int .i64 base, .string ⟨#[]⟩, vt, .slice oA i oc, .int .i64 0] := by simpa only [htl] using a1
                have b5 := a1'.below hb5 a1'.lt
                have co5 : CO w5 cb X oA oc vk vt key ahead (L.take i) := (CO.mk a2 a3 a4 a5).new hb5
                have c4 : w5.cell? ⟨cb, 4, none⟩ = some (.slice oA i oc) := b5.cell 4
                have hcb5 : cb < w5.heap.size := b5.lt
                have HCP : Hid (∀ w', Below w5.heap.size w5 w' → Calls Try.prog 59 #[.agg #[.int .i64 r.seq, .string r.text, .slice tA tn tc]] w' (RecOut r w')) := Lib.hid fun w' hb => copied_any r (.slice tA tn tc) (· < w.heap.size) w' (HP2.out.keep fun k hk => (hb5.trans (hb.mono (by omega))).block k (by omega)) fun k hk => by have := hb.size; omega
                have HB5' := Lib.hid b5
                have HCO5 := Lib.hid co5
                have HTL := Lib.hid htl
                obtain ⟨i1, hj, hy0, hy1, hy2⟩ := info_parts rec_info
                clear hb5 a1 a2 a3 a4 a5 a1' b5 co5 htl
                go_wp2_with fail
                go_region_law (first | (have hrw := HG3.out; rw [HTL.out] at hrw; refine step_append_row (by rfl) (.tmp 55) (.tmp 58) (by rfl) Try.underlying40 hj hy0 hy1 hy2 rec_cells (by decide) (by rfl) hrw (by rfl) HG5.out (rcv_one _ _ _ _) (by unfold maxLen; omega) (by omega) (Nat.zero_le _) ?_; intro A10 c10 w10 hrow10 hgr10 hat10; have HNX := Lib.hid (rest_next (T := 51) (base := base) hlt HLI.out (by omega) HSM.out hcb HXW.out HBEL.out HB5.out HB6.out HG7.out HB5'.out HG2.out HG4.out HG6.out hrow10 hgr10 hat10); have q0 := HNX.out.1; have q1 := HNX.out.2.1; clear hrw hrow10 hgr10 hat10) | (go_simp; refine (HCP.out _ ((Below.refl _ _).drew)).mono ?_; rintro e w6 ⟨A1, n1, rfl, hr1, hb6'⟩; have hb6 : Below w5.heap.size w5 w6 := ⟨hb6'.os, hb6'.tape, hb6'.output, hb6'.size, hb6'.block⟩; obtain ⟨vs, g2, g3, g4, g5, g6, g7⟩ := rest_ready (N := w.heap.size) (r := r) HCO5.out hcb5 (by omega) hr1 hb6 (by omega); have c46 : w6.cell? ⟨cb, 4, none⟩ = some (.slice oA i oc) := (hb6.cell (p := ⟨cb, 4, none⟩) hcb5).trans c4; have hcb6 : cb < w6.heap.size := Nat.lt_of_lt_of_le hcb5 hb6.size; have HB6 := Lib.hid hb6; have HG2 := Lib.hid g2; have HG3 := Lib.hid g3; have HG4 := Lib.hid g4; have HG5 := Lib.hid g5; have HG6 := Lib.hid g6; have HG7 := Lib.hid g7; clear g3 g4 g5 g6 g7 g2 hr1 hb6 hb6'; dsimp only))
                all_goals
                  go_wp2_with fail
                  go_roundw
                  case rel => exact HNX.out.2.2
                  case measure => simp [intOf]; omega
            · obtain rfl : i = L.length := by omega
              have hall : ∀ r ∈ L, r.text.size ≤ 200 := fun r hr => by
                obtain ⟨t, ht, rfl⟩ := List.getElem_of_mem hr
                exact HSM.out t ht ht
              have hzz := HZZ.out
              rw [List.take_length] at hzz
              have HZ4 := Lib.hid hzz
              have hx := HCAL.out wr hbel
              have HC := Lib.hid (Verify_any A n c key base (.slice aA _ ac) ahead LA lc L wr ((HR.out.below hbel).more hsz) hn hb1 hb2 hx hal ((HL.out.keep fun k hk => hbel.block k hk).mono fun k hk => by omega) hLn HOK.out)
              have HALL := Lib.hid hall
              clear hbel hz hXw hsm hall hzz hx HSM HZZ
              by_cases hver : ver key base ahead L = L.length
              · have hvv : verV (ver key base ahead L) L.length = .tuple #[.int .i64 L.length, .int .i64 0] := by rw [hver]; unfold verV; rw [if_pos rfl]
                rw [hvv] at HC
                have HVER := Lib.hid hver
                clear hver hvv
                go_wp2_with fail
                refine HC.out.mono ?_
                rintro e w4 ⟨rfl, hb4⟩
                have hs4 := hb4.size
                have hz4 := HZ4.out.new hb4
                have hc5 := hz4.count
                have hcb4 := hc5.2.2.1
                have HZ5 := Lib.hid hz4
                have HB4 := Lib.hid (HBEL.out.trans (hb4.mono hsz))
                have HEND := Lib.hid (fun (w' : World) (hb : Below w4.heap.size w4 w') => end_any cb X ⟨key, base, ahead, L⟩ 0 w' (hz4.new hb) hLn)
                generalize hend : (Ch.mk key base ahead L).end_ = r at HEND
                have HE := Lib.hid hend
                clear hb4 hz4 hc5 HC HZ4 hend
                have hg0 : Below w4.heap.size w4 w4.drew := (Below.refl _ _).drew
                go_wp2_with fail
                obtain ⟨F, hF⟩ : ∃ F, F = nthF [eqv (.pointer (some ⟨cb, 0, none⟩)), eqv (.pointer (some ⟨cb, 0, none⟩)), eqv (.pointer (some ⟨cb, 5, none⟩)), eqv (.pointer (some ⟨cb, 0, none⟩)), RecV r, eqv (.int .i64 r.seq)] := ⟨_, rfl⟩
                have E0 := Lib.hid (show F 0 = eqv (.pointer (some ⟨cb, 0, none⟩)) by rw [hF]; rfl)
                have E1 := Lib.hid (show F 1 = eqv (.pointer (some ⟨cb, 0, none⟩)) by rw [hF]; rfl)
                have E2 := Lib.hid (show F 2 = eqv (.pointer (some ⟨cb, 5, none⟩)) by rw [hF]; rfl)
                have E3 := Lib.hid (show F 3 = eqv (.pointer (some ⟨cb, 0, none⟩)) by rw [hF]; rfl)
                have E4 := Lib.hid (show F 4 = RecV r by rw [hF]; rfl)
                have E5 := Lib.hid (show F 5 = eqv (.int .i64 r.seq) by rw [hF]; rfl)
                have hst : ∀ j v w w', F j v w → Grows w w' → F j v w' := by rw [hF]; exact nth_stable (by repeat (first | exact st_nil | exact st_eqv _ | exact st_any | exact st_rec _ | refine st_cons ?_ ?_))
                have HST0 := Lib.hid hst
                clear hF hst
                refine wp_region_facts_tail 6 F Grows (fun _ => True) (by kernel_rfl) (by kernel_rfl) (by kernel_rfl) (by decide) grows_refl grows_trans HST0.out (trivial) ?_ ?_
                · intro V; refine ⟨?_, ?_, ?_, ?_, ?_, ?_, trivial⟩
                  · intro wx hg hJ hdep
                    clear hdep
                    clear hg
                    go_wp2_with fail
                    exact ⟨rfl, grows_refl _, trivial, by rw [E0.out]; rfl⟩
                  · intro wx hg hJ hdep
                    have v0 : V 0 = (.pointer (some ⟨cb, 0, none⟩)) := by have h := hdep 0 rfl; rw [E0.out] at h; exact h
                    clear hdep
                    clear hg
                    go_wp2_with fail
                    exact ⟨rfl, grows_refl _, trivial, by rw [E1.out]; rfl⟩
                  · intro wx hg hJ hdep
                    have v1 : V 1 = (.pointer (some ⟨cb, 0, none⟩)) := by have h := hdep 1 rfl; rw [E1.out] at h; exact h
                    clear hdep
                    clear hg
                    go_wp2_with fail
                    exact ⟨rfl, grows_refl _, trivial, by rw [E2.out]; rfl⟩
                  · intro wx hg hJ hdep
                    clear hdep
                    clear hg
                    go_wp2_with fail
                    exact ⟨rfl, grows_refl _, trivial, by rw [E3.out]; rfl⟩
                  · intro wx hg hJ hdep
                    have v3 : V 3 = (.pointer (some ⟨cb, 0, none⟩)) := by have h := hdep 3 rfl; rw [E3.out] at h; exact h
                    clear hdep
                    have HM := Lib.hid (HEND.out wx (hg0.trans hg))
                    clear hg
                    go_wp2_with fail
                    refine HM.out.mono ?_
                    rintro e w6 ⟨v6, he6, hp6, hb6⟩
                    subst he6
                    have HP6 := Lib.hid hp6
                    have HG6 := Lib.hid hb6
                    clear hp6 hb6 HM
                    go_wp2_with fail
                    exact ⟨rfl, HG6.out, trivial, by rw [E4.out]; exact ⟨v6, rfl, by obtain ⟨A, n, c, e, h1, h2, _, h4⟩ := HP6.out.reads (B := wx.heap.size) (fun k hk => hk); exact ⟨A, n, c, _, e, h1, h2, HG6.out.size, h4⟩⟩⟩
                  · intro wx hg hJ hdep
                    have h4 : (RecV r) (V 4) wx := by have h := hdep 4 rfl; rw [E4.out] at h; exact h
                    clear hdep
                    obtain ⟨tv, hv, hbv⟩ := h4
                    obtain ⟨tA, tn, tc, rfl⟩ := hbv.form
                    have hfd := field_seq r.seq r.text (.slice tA tn tc) wx
                    have HV := Lib.hid hv
                    clear hbv hg hv
                    rw [HV.out]
                    go_wp2_with fail
                    exact ⟨rfl, grows_refl _, trivial, by rw [E5.out]; rfl⟩
                · intro V wx hg hJ hall
                  have v0 : V 0 = (.pointer (some ⟨cb, 0, none⟩)) := by have h := hall 0 (by decide); rw [E0.out] at h; exact h
                  have v1 : V 1 = (.pointer (some ⟨cb, 0, none⟩)) := by have h := hall 1 (by decide); rw [E1.out] at h; exact h
                  have v2 : V 2 = (.pointer (some ⟨cb, 5, none⟩)) := by have h := hall 2 (by decide); rw [E2.out] at h; exact h
                  have v3 : V 3 = (.pointer (some ⟨cb, 0, none⟩)) := by have h := hall 3 (by decide); rw [E3.out] at h; exact h
                  have h4 : (RecV r) (V 4) wx := by have h := hall 4 (by decide); rw [E4.out] at h; exact h
                  have v5 : V 5 = (.int .i64 r.seq) := by have h := hall 5 (by decide); rw [E5.out] at h; exact h
                  clear hall
                  simp only [List.take_succ_cons, List.take_zero, List.drop_succ_cons, List.drop_zero, fillTo, Act.put, List.setIfInBounds_toArray, List.set_cons_succ, List.set_cons_zero, Nat.reduceAdd, Nat.zero_add, v0, v1, v2, v3, v5]
                  clear v0 v1 v2 v3 v5
                  have hbx := hg0.trans hg
                  have hzx := HZ5.out.new hbx
                  have hcx := hzx.count
                  have HCX := Lib.hid hcx.2.2.2
                  have HBX := Lib.hid (HB4.out.trans (hbx.mono (by have := HB4.out.size; omega)))
                  have p5 := hcx.1
                  have q5 := hcx.2.1
                  clear hg h4 hbx hzx hcx
                  go_wp2_with fail
                  refine (a64_store cb 5 (.int .i64 0) r.seq wx p5 q5).mono ?_
                  rintro e w5 ⟨rfl, rfl⟩
                  go_wp2_with fail
                  go_ret2
                  have hlast := HCX.out
                  rw [HE.out] at hlast
                  exact .inl ⟨⟨by omega, by have := HAL.out; omega, by omega, HALL.out, HVER.out⟩, cb, X, rfl, hcb, hlast, HXW.out, HBX.out.setCell hcb _⟩
              · have hvv : ∃ k : Int, verV (ver key base ahead L) L.length = .tuple #[.int .i64 k, .int .i64 22] := ⟨_, by unfold verV; rw [if_neg hver]⟩
                obtain ⟨k, hvv⟩ := hvv
                rw [hvv] at HC
                have HVER := Lib.hid hver
                clear hver hvv
                go_wp2_with fail
                refine HC.out.mono ?_
                rintro e w4 ⟨rfl, hb4⟩
                have HB4 := Lib.hid (HBEL.out.trans (hb4.mono hsz))
                clear hb4 HC
                go_wp2_with fail
                go_ret2
                exact .inr ⟨fun h => HVER.out h.2.2.2.2, rfl, HB4.out⟩
end Go.Proofs.Ytbjlmodabiadfaa
