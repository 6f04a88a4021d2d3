/- THE WALK of the laws' small case (audit). -/
import Derived.Test.YtbjlmodabiadfaaHChain5
import Derived.Test.YtbjlmodabiadfaaHMacSmall
namespace Go.Proofs.Ytbjlmodabiadfaa
open Go.RowKit

theorem recs_lit1 {w : World} {R : Nat → Prop} {t : TypeId} {r : Rec} {v : Value} (h : Part w R v r.tag) (hR : ∀ k, R k → k < w.heap.size) : Recs (w.alloc (.cells #[.int .i64 r.seq, .string r.text, v] t)) (fun k => R k ∨ k = w.heap.size) (some ⟨w.heap.size, 0, none⟩) [r] := fun _ => by
  have hk : Blk (w.alloc (.cells #[.int .i64 r.seq, .string r.text, v] t)) w.heap.size t _ := Blk.new w t _
  refine ⟨w.heap.size, 0, rfl, .inr rfl, fun i hi => ?_⟩
  obtain rfl : i = 0 := by simp at hi; omega
  exact ⟨hk.cell 0, hk.cell 1, v, hk.cell 2, (h.keep fun k hk => Below.heap_alloc w _ k (hR k hk)).mono fun k hk => .inl hk⟩
theorem recs_lit2 {w : World} {R : Nat → Prop} {t : TypeId} {r r2 : Rec} {v v2 : Value} (h : Part w R v r.tag) (h2 : Part w R v2 r2.tag) (hR : ∀ k, R k → k < w.heap.size) : Recs (w.alloc (.cells #[.int .i64 r.seq, .string r.text, v, .int .i64 r2.seq, .string r2.text, v2] t)) (fun k => R k ∨ k = w.heap.size) (some ⟨w.heap.size, 0, none⟩) [r, r2] := fun _ => by
  have hk : Blk (w.alloc (.cells #[.int .i64 r.seq, .string r.text, v, .int .i64 r2.seq, .string r2.text, v2] t)) w.heap.size t _ := Blk.new w t _
  refine ⟨w.heap.size, 0, rfl, .inr rfl, fun i hi => ?_⟩
  match i, hi with
  | 0, _ => exact ⟨hk.cell 0, hk.cell 1, v, hk.cell 2, (h.keep fun k hk => Below.heap_alloc w _ k (hR k hk)).mono fun k hk => .inl hk⟩
  | 1, _ => exact ⟨hk.cell 3, hk.cell 4, v2, hk.cell 5, (h2.keep fun k hk => Below.heap_alloc w _ k (hR k hk)).mono fun k hk => .inl hk⟩
def t1a : List UInt8 := tagB [107] [] 1 [97]
def t2b : List UInt8 := tagB [107] t1a 2 [98]
def r1a : Rec := ⟨1, ⟨#[97]⟩, t1a⟩
def r2b : Rec := ⟨2, ⟨#[98]⟩, t2b⟩
theorem l1a : r1a.tag.length = 32 := length_tagB _ _ _ _
theorem l2b : r2b.tag.length = 32 := length_tagB _ _ _ _
theorem next1a : (Ch.mk [107] 0 [] []).next ⟨#[97]⟩ = r1a := by
  show Rec.mk (0 + 1) _ (tagB [107] [] (0 + 1) [97]) = r1a
  rw [show (0 : Int) + 1 = 1 by decide]
  unfold r1a t1a
  with_reducible rfl
theorem end1a : (Ch.mk [107] 0 [] [r1a]).end_ = r1a := end_last _ _ _ [] _
theorem next2b : (Ch.mk [107] 0 [] [r1a]).next ⟨#[98]⟩ = r2b := by
  show Rec.mk (1 + 1) _ (tagB [107] t1a (1 + 1) [98]) = r2b
  rw [show (1 : Int) + 1 = 2 by decide]
  unfold r2b t2b
  with_reducible rfl
theorem add1a : (Ch.mk [107] 0 [] []).add ⟨#[97]⟩ = ⟨[107], 0, [], [r1a]⟩ := by
  show Ch.trim _ _ _ ([] ++ [(Ch.mk [107] 0 [] []).next ⟨#[97]⟩]) = _
  rw [next1a]
  exact trim_short (by decide)
theorem add2b : (Ch.mk [107] 0 [] [r1a]).add ⟨#[98]⟩ = ⟨[107], 0, [], [r1a, r2b]⟩ := by
  show Ch.trim _ _ _ ([r1a] ++ [(Ch.mk [107] 0 [] [r1a]).next ⟨#[98]⟩]) = _
  rw [next2b]
  exact trim_short (by decide)
theorem ok1a : verOk [107] 0 [] r1a := ⟨by decide, by decide, by
  rw [show (0 : Int) + 1 = 1 by decide]
  show t1a = tagB [107] [] 1 [97]
  unfold t1a
  with_reducible rfl⟩
theorem ok2b : verOk [107] r1a.seq r1a.tag r2b := by
  show verOk [107] 1 t1a r2b
  refine ⟨by decide, by decide, ?_⟩
  rw [show (1 : Int) + 1 = 2 by decide]
  show t2b = tagB [107] t1a 2 [98]
  unfold t2b
  with_reducible rfl
theorem ver_two : ver [107] 0 [] [r1a, r2b] = 2 := by
  rw [ver_yes ok1a, ver_yes ok2b, ver_nil]
theorem ver_one : ver [107] 0 [] [r2b] = 0 := ver_no fun h => by have := h.2.1; revert this; decide
set_option maxRecDepth 100000 in
set_option maxHeartbeats 4000000 in
theorem small19_any (w : World) : Calls Try.prog 27 #[] w fun e w' => e = .returned (.bool true) ∧ Below w.heap.size w w' := by
  have kc := fun (W : World) (C : Array Value) (n c g : Nat) (hg : g = W.heap.size) => Go.Joins.run_convert_bytes_const_at (P := Try.prog) W 22 5 C n c g hg Try.underlying22 Try.underlying5
  go_enter Try.func27, Try.ntmps27
  go_wp2_with fail
  have hr0 := reads_const w [107] 5 (1, 2) #[.int .u8 107] w.heap.size 1 rfl rfl rfl
  refine (aNew_any (some ⟨w.heap.size, 0, none⟩) 1 1 (w.heap.size + 1) [107] _ hr0 (by simp) (by omega)).mono ?_
  rintro e w1 ⟨cb, rfl, hcb, hch, hb1⟩
  have HB1 := Lib.hid (((Below.refl w.heap.size w).alloc (Nat.le_refl _) (.cells #[.int .u8 107] 5 (1, 2))).trans (hb1.mono (by simp)))
  have hcb1 := hch.lt
  have hs1 : w.heap.size < w1.heap.size := by have := hb1.size; simp at this; omega
  have hcbw : w.heap.size ≤ cb := by simp at hcb; omega
  have HC := Lib.hid (Add_yes cb _ ⟨[107], 0, [], []⟩ ⟨#[97]⟩ w1 hch (by decide) (by decide) (by decide) (by decide) (by decide) (by decide))
  clear hr0 hch hb1 hcb
  go_wp2_with fail
  refine HC.out.mono ?_
  intro e w2 h
  obtain ⟨A2, c2, X2, he, hrow2, hch2, hg2, hX2, hA2⟩ := h
  rw [next1a, l1a] at he hrow2
  rw [add1a] at hch2
  have he' : e = .returned (.tuple #[.agg #[.int .i64 1, .string ⟨#[97]⟩, .slice A2 32 c2], .int .i64 0]) := he
  subst he'
  have hs2 := hg2.size
  have HB2 := Lib.hid (HB1.out.trans (hg2.below (B := w.heap.size) (by omega) (fun k hk hk' => by rcases hk' with rfl | hk'; exact hcbw; have := hk'; simp at this; omega)))
  have HROW2 := Lib.hid hrow2
  have HX2 := Lib.hid hX2
  have HA2 := Lib.hid hA2
  have hch2' := hch2.new ((Below.refl _ _).alloc (Nat.le_refl _) (.cells #[.int .i64 1, .string ⟨#[97]⟩, .slice A2 32 c2] 51))
  have HC2 := Lib.hid (Add_yes cb X2 ⟨[107], 0, [], [r1a]⟩ ⟨#[98]⟩ _ hch2' (by decide) (by rw [end1a]; decide) (by rw [end1a]; decide) (by decide) (by decide) (by rw [end1a, l1a]; decide))
  clear he hrow2 hch2 hg2 hX2 hA2 hch2' HC
  go_wp2_with fail
  refine HC2.out.mono ?_
  intro e w3 h
  obtain ⟨A3, c3, X3, he, hrow3, hch3, hg3, hX3, hA3⟩ := h
  rw [next2b, l2b] at he hrow3
  have he' : e = .returned (.tuple #[.agg #[.int .i64 2, .string ⟨#[98]⟩, .slice A3 32 c3], .int .i64 0]) := he
  subst he'
  have hs3 : w2.heap.size < w3.heap.size := by have := hg3.size; simp at this; omega
  have hbx : Blk w3 w2.heap.size 51 #[.int .i64 1, .string ⟨#[97]⟩, .slice A2 32 c2] := (Blk.new w2 _ _).grew hg3 (by rintro (h | h); omega; have := (HX2.out _ h).2.1; omega)
  have hr2 : Row w3 w1.heap.size 1 A2 32 c2 (bv t1a) := (HROW2.out.alloc _).grew hg3 (fun ad e => by rintro (h | h); exact HA2.out ad e h; exact (HX2.out _ h).2.2 ad e rfl)
  have HB3 := Lib.hid ((HB2.out.alloc (by omega) (.cells #[.int .i64 1, .string ⟨#[97]⟩, .slice A2 32 c2] 51)).trans (hg3.below (B := w.heap.size) (by simp; omega) (fun k hk hk' => by rcases hk' with rfl | hk'; exact hcbw; have := (HX2.out k hk').1; rcases this with this | this; simp at this; omega; omega)))
  have HROW3 := Lib.hid (hrow3.mono (base' := w1.heap.size) (by simp; omega))
  have HBX := Lib.hid hbx
  have HR2 := Lib.hid hr2
  clear he hrow3 hch3 hg3 hX3 hA3 HC2 hbx hr2 HX2 HA2 HROW2 HB2
  go_upto_region 6 with (fail)
  refine name_world fun w4 x1 x2 x3 x4 => ?_
  have hb4 : Below w3.heap.size w3 w4 := below_heap ((Below.refl _ _).alloc (Nat.le_refl _) _) x1 x2 x3 x4
  have by4 : Blk w4 w3.heap.size 51 #[.int .i64 2, .string ⟨#[98]⟩, .slice A3 32 c3] := by unfold Blk; rw [x1]; exact Blk.new w3 _ _
  have hs4 : w3.heap.size < w4.heap.size := by rw [x1]; simp
  have bx4 := HBX.out.below hb4 hs3
  have hr2 := HR2.out.below hb4 (Nat.le_refl _)
  have hr3 := HROW3.out.below hb4 (Nat.le_refl _)
  have a0 : w4.cell? ⟨w2.heap.size, 0, none⟩ = some (.int .i64 1) := bx4.cell 0
  have a1 : w4.cell? ⟨w2.heap.size, 1, none⟩ = some (.string ⟨#[97]⟩) := bx4.cell 1
  have a2 : w4.cell? ⟨w2.heap.size, 2, none⟩ = some (.slice A2 32 c2) := bx4.cell 2
  have b0 : w4.cell? ⟨w3.heap.size, 0, none⟩ = some (.int .i64 2) := by4.cell 0
  have b1 : w4.cell? ⟨w3.heap.size, 1, none⟩ = some (.string ⟨#[98]⟩) := by4.cell 1
  have b2 : w4.cell? ⟨w3.heap.size, 2, none⟩ = some (.slice A3 32 c3) := by4.cell 2
  have hp2 : Part w4 (· < w4.heap.size) (.slice A2 32 c2) r1a.tag := Part.of_row hr2 (by decide) fun ad e => (hr2.lt ad e).2
  have hp3 : Part w4 (· < w4.heap.size) (.slice A3 32 c3) r2b.tag := Part.of_row hr3 (by decide) fun ad e => (hr3.lt ad e).2
  have HB4 := Lib.hid (HB3.out.trans (hb4.mono (by omega)))
  have HBX4 := Lib.hid bx4
  have HBY4 := Lib.hid by4
  have HP2 := Lib.hid hp2
  have HP3 := Lib.hid hp3
  have hk := reads_const w4 [107] 5 (1, 2) #[.int .u8 107] w4.heap.size 1 rfl rfl rfl
  have hp2' := (hp2.keep (w' := w4.alloc (.cells #[.int .u8 107] 5 (1, 2))) fun k hk => Below.heap_alloc w4 _ k hk).mono (R' := (· < (w4.alloc (.cells #[.int .u8 107] 5 (1, 2))).heap.size)) fun k hk => by simp; omega
  have hp3' := (hp3.keep (w' := w4.alloc (.cells #[.int .u8 107] 5 (1, 2))) fun k hk => Below.heap_alloc w4 _ k hk).mono (R' := (· < (w4.alloc (.cells #[.int .u8 107] 5 (1, 2))).heap.size)) fun k hk => by simp; omega
  have hL := recs_lit2 (t := 51) hp2' hp3' fun k hk => hk
  have HV := Lib.hid (Verify_any (some ⟨w4.heap.size, 0, none⟩) 1 1 [107] 0 (.slice none 0 0) [] (some ⟨(w4.alloc (.cells #[.int .u8 107] 5 (1, 2))).heap.size, 0, none⟩) 2 [r1a, r2b] _ ((hk.alloc (by simp) _).more (by simp)) (by decide) (by decide) (by decide) (part_nil _ _) (by decide) (hL.mono fun k hk => by simp at hk ⊢; omega) (by decide) (by intro r hr; simp at hr; rcases hr with rfl | rfl; exact ⟨by decide, by decide, by decide, by rw [l1a]; decide⟩; exact ⟨by decide, by decide, by decide, by rw [l2b]; decide⟩))
  rw [ver_two] at HV
  have HV' : Hid (Calls Try.prog 30 #[.slice (some ⟨w4.heap.size, 0, none⟩) 1 1, .int .i64 0, .slice none 0 0, .slice (some ⟨w4.heap.size + 1, 0, none⟩) 2 2] ((w4.alloc (.cells #[.int .u8 107] 5 (1, 2))).alloc (.cells #[.int .i64 1, .string ⟨#[97]⟩, .slice A2 32 c2, .int .i64 2, .string ⟨#[98]⟩, .slice A3 32 c3] 51)) fun e w' => e = .returned (.tuple #[.int .i64 2, .int .i64 0]) ∧ Below w4.heap.size w4 w') := Lib.hid (by
    have h := HV.out
    have e1 : (w4.alloc (.cells #[.int .u8 107] 5 (1, 2))).heap.size = w4.heap.size + 1 := by simp
    rw [e1] at h
    exact h.mono fun e w' h => ⟨h.1, (((Below.refl _ _).alloc (Nat.le_refl _) _).alloc (by simp) _).trans (h.2.mono (by simp; omega))⟩)
  have h24 : w2.heap.size < w4.heap.size := by omega
  clear HV
  clear x1 x2 x3 x4 hb4 bx4 by4 hr2 hr3 hp2 hp3 hk hp2' hp3' hL HB3 HBX HROW3 HR2
  go_wp2_with fail
  refine HV'.out.mono ?_
  rintro e w5 ⟨rfl, hb5⟩
  have hs5 := hb5.size
  have by5 := HBY4.out.below hb5 hs4
  have bx5 := HBX4.out.below hb5 h24
  have HB5 := Lib.hid (HB4.out.trans (hb5.mono (by omega)))
  have hp3 := (HP3.out.keep fun k hk => hb5.block k hk).mono (R' := (· < w5.heap.size)) fun k hk => by omega
  have HBX5 := Lib.hid bx5
  have HBY5 := Lib.hid by5
  have hk := reads_const w5 [107] 5 (1, 2) #[.int .u8 107] w5.heap.size 1 rfl rfl rfl
  have hp3' := (hp3.keep (w' := w5.alloc (.cells #[.int .u8 107] 5 (1, 2))) fun k hk => Below.heap_alloc w5 _ k hk).mono (R' := (· < (w5.alloc (.cells #[.int .u8 107] 5 (1, 2))).heap.size)) fun k hk => by simp; omega
  have hL := recs_lit1 (t := 51) hp3' fun k hk => hk
  have HV := Lib.hid (Verify_any (some ⟨w5.heap.size, 0, none⟩) 1 1 [107] 0 (.slice none 0 0) [] (some ⟨(w5.alloc (.cells #[.int .u8 107] 5 (1, 2))).heap.size, 0, none⟩) 1 [r2b] _ ((hk.alloc (by simp) _).more (by simp)) (by decide) (by decide) (by decide) (part_nil _ _) (by decide) (hL.mono fun k hk => by simp at hk ⊢; omega) (by decide) (by intro r hr; simp at hr; rcases hr with rfl; exact ⟨by decide, by decide, by decide, by rw [l2b]; decide⟩))
  rw [ver_one] at HV
  have HV2 : Hid (Calls Try.prog 30 #[.slice (some ⟨w5.heap.size, 0, none⟩) 1 1, .int .i64 0, .slice none 0 0, .slice (some ⟨w5.heap.size + 1, 0, none⟩) 1 1] ((w5.alloc (.cells #[.int .u8 107] 5 (1, 2))).alloc (.cells #[.int .i64 2, .string ⟨#[98]⟩, .slice A3 32 c3] 51)) fun e w' => e = .returned (.tuple #[.int .i64 0, .int .i64 22]) ∧ Below w5.heap.size w5 w') := Lib.hid (by
    have h := HV.out
    have e1 : (w5.alloc (.cells #[.int .u8 107] 5 (1, 2))).heap.size = w5.heap.size + 1 := by simp
    rw [e1] at h
    exact h.mono fun e w' h => ⟨h.1, (((Below.refl _ _).alloc (Nat.le_refl _) _).alloc (by simp) _).trans (h.2.mono (by simp; omega))⟩)
  have g0 : w5.cell? ⟨w3.heap.size, 0, none⟩ = some (.int .i64 2) := by5.cell 0
  have g1 : w5.cell? ⟨w3.heap.size, 1, none⟩ = some (.string ⟨#[98]⟩) := by5.cell 1
  have g2 : w5.cell? ⟨w3.heap.size, 2, none⟩ = some (.slice A3 32 c3) := by5.cell 2
  have h25 : w2.heap.size < w5.heap.size := by omega
  have h35 : w3.heap.size < w5.heap.size := by omega
  clear hb5 by5 bx5 hp3 hk hp3' hL HV HV' HB4 HP3 HP2 a0 a1 a2 b0 b1 b2 HBX4 HBY4
  go_wp2_with fail
  refine HV2.out.mono ?_
  rintro e w6 ⟨rfl, hb6⟩
  have by6 := HBY5.out.below hb6 h35
  have bx6 := HBX5.out.below hb6 h25
  have HB6 := Lib.hid (HB5.out.trans (hb6.mono (by omega)))
  have k0 : w6.cell? ⟨w2.heap.size, 0, none⟩ = some (.int .i64 1) := bx6.cell 0
  have k2 : w6.cell? ⟨w2.heap.size, 2, none⟩ = some (.slice A2 32 c2) := bx6.cell 2
  have m0 : w6.cell? ⟨w3.heap.size, 0, none⟩ = some (.int .i64 2) := by6.cell 0
  clear hb6 by6 bx6 HV2 HB5 HBX5 HBY5 kc g0 g1 g2
  go_wp2_with fail
  go_ret
  exact ⟨rfl, HB6.out⟩
end Go.Proofs.Ytbjlmodabiadfaa
