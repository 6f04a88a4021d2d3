/- THE WALK of the reference's digest: a block's words. -/
import Derived.Test.YtbjlmodabiadfaaHRefSha1
import Derived.Test.YtbjlmodabiadfaaHShaBlock1
import Derived.Deep.RegionHeld3
import Derived.Deep.DrawnRows
namespace Go.Proofs.Ytbjlmodabiadfaa
open Go.RowKit

attribute [local go_sem ↓] Go.wp_at_zero Go.wp_at_succ
/-- What append leaves of another block. -/
theorem far_cell {wr w2 : World} {B n c bb i : Nat} {A : Option Addr} {xs : List Value} {o : Obj} {v : Value} (hb : bb < B) (hB : B ≤ wr.heap.size) (hrow : Row wr B 1 A n c xs) (hg : (wr.alloc o).drew.grownBy w2 (A.map (·.block))) (h : wr.cell? ⟨bb, i, none⟩ = some v) : w2.cell? ⟨bb, i, none⟩ = some v := by
  have h1 : (wr.alloc o).drew.cell? ⟨bb, i, none⟩ = wr.cell? ⟨bb, i, none⟩ := World.cell?_alloc_lt wr o ⟨bb, i, none⟩ (by show bb < _; omega)
  rw [← h, ← h1]
  refine World.cell?_of_block (a := ⟨bb, i, none⟩) (hg.block bb (by show bb < (wr.alloc o).heap.size; simp; omega) fun e => ?_)
  have := hrow.blocks bb e.symm
  omega
theorem rs0_int {x : Nat} (hx : x < 4294967296) : bits .xor .i64 (bits .xor .i64 (Sha.ror x 7 : Nat) (Sha.ror x 18 : Nat)) ((x : Int) / 8) = (Sha.s0 x : Nat) := by
  rw [i64_xor_nat (Sha.ror_lt hx) (Sha.ror_lt hx), show (x : Int) / (8 : Int) = ((x >>> 3 : Nat) : Int) by rw [Nat.shiftRight_eq_div_pow]; omega, i64_xor_nat (Sha.lt_xor (Sha.ror_lt hx) (Sha.ror_lt hx)) (Sha.lt_shr hx)]
  rfl
theorem rs1_int {x : Nat} (hx : x < 4294967296) : bits .xor .i64 (bits .xor .i64 (Sha.ror x 17 : Nat) (Sha.ror x 19 : Nat)) ((x : Int) / 1024) = (Sha.s1 x : Nat) := by
  rw [i64_xor_nat (Sha.ror_lt hx) (Sha.ror_lt hx), show (x : Int) / (1024 : Int) = ((x >>> 10 : Nat) : Int) by rw [Nat.shiftRight_eq_div_pow]; omega, i64_xor_nat (Sha.lt_xor (Sha.ror_lt hx) (Sha.ror_lt hx)) (Sha.lt_shr hx)]
  rfl
/-- t words are made. -/
def RBlkRel (w : World) (l : List UInt8) (s3 s4 : Value) (wr : World) : Prop :=
  ∃ (t : Nat) (A : Option Addr) (c : Nat), t ≤ 64 ∧ s4 = .int .i64 t ∧ s3 = .slice A t c ∧ Row wr w.heap.size 1 A t c (iv (Sha.sched l t)) ∧ Below w.heap.size w wr
theorem rblk_next {w w2 : World} {l : List UInt8} {t c2 : Nat} {A2 : Option Addr} {v : Int} (h : t < 64) (hv : v = (Sha.next l (Sha.sched l t) t : Nat)) (hr : Row w2 w.heap.size 1 A2 (t + 1) c2 (iv (Sha.sched l t) ++ [.int .i64 v])) (hb : Below w.heap.size w w2) : RBlkRel w l (.slice A2 (t + 1) c2) (.int .i64 ((t : Int) + 1)) w2 := by
  refine ⟨t + 1, A2, c2, by omega, by go_num, rfl, ?_, hb⟩
  have e : iv (Sha.sched l (t + 1)) = iv (Sha.sched l t) ++ [.int .i64 v] := by rw [Sha.sched, iv_append, hv]; rfl
  rw [e]; exact hr
theorem row_some {w : World} {base size n cap : Nat} {A : Option Addr} {xs : List Value} (h : Row w base size A n cap xs) (hn : 0 < n) : ∃ g o, A = some ⟨g, o, none⟩ := by
  obtain ⟨_, h2, _, h4, h5⟩ := h
  cases A with
  | none => have := h4 rfl; omega
  | some ad => obtain ⟨g, o, rfl, _⟩ := h5 _ rfl; exact ⟨g, o, rfl⟩
set_option maxRecDepth 100000 in
set_option maxHeartbeats 4000000 in
theorem rblock_any (bb bo c : Nat) (l : List UInt8) (w : World) (hl : l.length = 64) (hb : ∀ i (h : i < 64), w.cell? ⟨bb, bo + i, none⟩ = some (.int .u8 ((l[i]'(by omega)).toNat : Int))) (hbb : bb < w.heap.size) :
    Calls Try.prog 71 #[.slice (some ⟨bb, bo, none⟩) 64 c] w (IntsOut (Sha.sched l 64) w) := by
  obtain ⟨i0, hi, hz0, hz1, hz2⟩ := info_parts int_info
  go_enter Try.func71, Try.ntmps71
  go_wp2_with fail
  go_loopw [3, 4] (fun s3 s4 wr => RBlkRel w l s3 s4 wr) (fun _ i _ => 64 - (intOf i).toNat)
  case atStart => exact ⟨0, none, 0, by omega, rfl, rfl, Row.nil_ _ _ _, Below.refl _ _⟩
  case round =>
    obtain ⟨t, A, c1, ht, rfl, rfl, hrow, hbel⟩ := hrel
    have hsz := hbel.size
    have HROW := Lib.hid hrow
    have HBEL := Lib.hid hbel
    by_cases hlt : t < 64
    · by_cases h16 : t < 16
      · have hw : ∀ j (hj : j < 4), wr.cell? ⟨bb, bo + (4 * t + j), none⟩ = some (.int .u8 ((l[4 * t + j]'(by omega)).toNat : Int)) := fun j hj =>
          (hbel.cell (p := ⟨bb, bo + (4 * t + j), none⟩) hbb).trans (hb (4 * t + j) (by omega))
        have h0 := hw 0 (by omega)
        have h1 := hw 1 (by omega)
        have h2 := hw 2 (by omega)
        have h3 := hw 3 (by omega)
        have hnx : Sha.next l (Sha.sched l t) t = (l[4 * t + 0]'(by omega)).toNat * 16777216 + (l[4 * t + 1]'(by omega)).toNat * 65536 + (l[4 * t + 2]'(by omega)).toNat * 256 + (l[4 * t + 3]'(by omega)).toNat := by
          rw [show Sha.next l (Sha.sched l t) t = Sha.word l t from if_pos h16]
          unfold Sha.word
          simp only [List.getD_eq_getElem?_getD]
          rw [List.getElem?_eq_getElem (by omega), List.getElem?_eq_getElem (by omega), List.getElem?_eq_getElem (by omega), List.getElem?_eq_getElem (by omega)]
          rfl
        generalize l[4 * t + 0] = x0 at h0 hnx
        generalize l[4 * t + 1] = x1 at h1 hnx
        generalize l[4 * t + 2] = x2 at h2 hnx
        generalize l[4 * t + 3] = x3 at h3 hnx
        have b0 := x0.toNat_lt
        have b1 := x1.toNat_lt
        have b2 := x2.toNat_lt
        have b3 := x3.toNat_lt
        generalize x0.toNat = y0 at h0 hnx b0
        generalize x1.toNat = y1 at h1 hnx b1
        generalize x2.toNat = y2 at h2 hnx b2
        generalize x3.toNat = y3 at h3 hnx b3
        rw [Nat.add_zero] at h0
        have HNX := Lib.hid hnx
        have f1 : IntKind.i64.wrap (4 * (t : Int)) = 4 * (t : Int) := IntWalk.i64_in _ (by omega)
        have f2 : (0 : Int) ≤ 4 * (t : Int) := by omega
        have f3 : 4 * (t : Int) < 64 := by omega
        have f4 : (4 * (t : Int)).toNat = 4 * t := by omega
        have f5 : IntKind.i64.wrap (4 * (t : Int) + 1) = 4 * (t : Int) + 1 := IntWalk.i64_in _ (by omega)
        have f6 : (0 : Int) ≤ 4 * (t : Int) + 1 := by omega
        have f7 : 4 * (t : Int) + 1 < 64 := by omega
        have f8 : (4 * (t : Int) + 1).toNat = 4 * t + 1 := by omega
        have f9 : IntKind.i64.wrap (4 * (t : Int) + 2) = 4 * (t : Int) + 2 := IntWalk.i64_in _ (by omega)
        have f10 : (0 : Int) ≤ 4 * (t : Int) + 2 := by omega
        have f11 : 4 * (t : Int) + 2 < 64 := by omega
        have f12 : (4 * (t : Int) + 2).toNat = 4 * t + 2 := by omega
        have f13 : IntKind.i64.wrap (4 * (t : Int) + 3) = 4 * (t : Int) + 3 := IntWalk.i64_in _ (by omega)
        have f14 : (0 : Int) ≤ 4 * (t : Int) + 3 := by omega
        have f15 : 4 * (t : Int) + 3 < 64 := by omega
        have f16 : (4 * (t : Int) + 3).toNat = 4 * t + 3 := by omega
        have g0 : IntKind.i64.wrap (y0 : Int) = y0 := IntWalk.i64_in _ (by omega)
        have g1 : IntKind.i64.wrap (y1 : Int) = y1 := IntWalk.i64_in _ (by omega)
        have g2 : IntKind.i64.wrap (y2 : Int) = y2 := IntWalk.i64_in _ (by omega)
        have g3 : IntKind.i64.wrap (y3 : Int) = y3 := IntWalk.i64_in _ (by omega)
        have g4 : IntKind.i64.wrap ((y0 : Int) * 16777216) = y0 * 16777216 := IntWalk.i64_in _ (by omega)
        have g5 : IntKind.i64.wrap ((y1 : Int) * 65536) = y1 * 65536 := IntWalk.i64_in _ (by omega)
        have g6 : IntKind.i64.wrap ((y2 : Int) * 256) = y2 * 256 := IntWalk.i64_in _ (by omega)
        have g7 : IntKind.i64.wrap ((y0 : Int) * 16777216 + y1 * 65536) = (y0 : Int) * 16777216 + y1 * 65536 := IntWalk.i64_in _ (by omega)
        have g8 : IntKind.i64.wrap ((y0 : Int) * 16777216 + y1 * 65536 + y2 * 256) = (y0 : Int) * 16777216 + y1 * 65536 + y2 * 256 := IntWalk.i64_in _ (by omega)
        have g9 : IntKind.i64.wrap ((y0 : Int) * 16777216 + y1 * 65536 + y2 * 256 + y3) = (y0 : Int) * 16777216 + y1 * 65536 + y2 * 256 + y3 := IntWalk.i64_in _ (by omega)
        clear hrow hbel hw hb hnx
        go_wp2_with fail
        go_region_held3 (fun w' => w'.cell? ⟨bb, bo + 4 * t, none⟩ = some (.int .u8 (y0 : Int)) ∧ w'.cell? ⟨bb, bo + (4 * t + 1), none⟩ = some (.int .u8 (y1 : Int)) ∧ w'.cell? ⟨bb, bo + (4 * t + 2), none⟩ = some (.int .u8 (y2 : Int)) ∧ w'.cell? ⟨bb, bo + (4 * t + 3), none⟩ = some (.int .u8 (y3 : Int)))
          (go_keep)
          ((refine step_append_row (by rfl) (.tmp 15) (.tmp 49) (by rfl) Try.underlying116 hi hz0 hz1 hz2 (by rfl) (by decide) (by rfl) (HROW.out.alloc _).drew (by rfl) (Reads.lit _ _ _ (n := 1) rfl).drew (by intro v hv; simp at hv; rcases hv with rfl; rfl) (by unfold maxLen; omega) (by omega) (by simp; omega) ?_; intro A2 c2 w2 hrow2 hgr2 hat2; have k0 := far_cell hbb hsz HROW.out hgr2 h0; have k1 := far_cell hbb hsz HROW.out hgr2 h1; have k2 := far_cell hbb hsz HROW.out hgr2 h2; have k3 := far_cell hbb hsz HROW.out hgr2 h3; have HB2 := Lib.hid ((HBEL.out.alloc hsz _).drew.grown hgr2 (by simp; omega) HROW.out.blocks); have HR2 := Lib.hid hrow2; clear hrow2 hgr2 hat2))
        go_wp2_with fail
        go_roundw
        case rel => exact rblk_next hlt (by rw [HNX.out]; omega) HR2.out HB2.out
        case measure => simp [intOf]; omega
      · obtain ⟨g, o, hA⟩ := row_some hrow (by omega)
        subst hA
        have hbl := fun (j : Nat) (hj : j < t) => (hrow.cell (iv_at (Sha.sched l t) j (by rw [Sha.length_sched]; exact hj)))
        have c16 := hbl (t - 16) (by omega)
        have c15 := hbl (t - 15) (by omega)
        have c7 := hbl (t - 7) (by omega)
        have c2 := hbl (t - 2) (by omega)
        have b15 := Sha.sched_lt l t (t - 15)
        have b2 := Sha.sched_lt l t (t - 2)
        have b16 := Sha.sched_lt l t (t - 16)
        have b7 := Sha.sched_lt l t (t - 7)
        have HNX : Hid (Sha.next l (Sha.sched l t) t = ((Sha.sched l t).getD (t - 16) 0 + Sha.s0 ((Sha.sched l t).getD (t - 15) 0) + (Sha.sched l t).getD (t - 7) 0 + Sha.s1 ((Sha.sched l t).getD (t - 2) 0)) % 4294967296) := if_neg h16
        generalize (Sha.sched l t).getD (t - 15) 0 = x at c15 b15 HNX
        generalize (Sha.sched l t).getD (t - 2) 0 = y at c2 b2 HNX
        generalize (Sha.sched l t).getD (t - 16) 0 = u at c16 b16 HNX
        generalize (Sha.sched l t).getD (t - 7) 0 = v at c7 b7 HNX
        have g1 : IntKind.i64.wrap ((t : Int) - 16) = (t : Int) - 16 := IntWalk.i64_in _ (by omega)
        have g2 : (0 : Int) ≤ (t : Int) - 16 := by omega
        have g2' : (16 : Int) ≤ (t : Int) := by omega
        have g3 : (t : Int) - 16 < t := by omega
        have g4 : ((t : Int) - 16).toNat = t - 16 := by omega
        have g5 : IntKind.i64.wrap ((t : Int) - 7) = (t : Int) - 7 := IntWalk.i64_in _ (by omega)
        have g6 : (0 : Int) ≤ (t : Int) - 7 := by omega
        have g6' : (7 : Int) ≤ (t : Int) := by omega
        have g7 : (t : Int) - 7 < t := by omega
        have g8 : ((t : Int) - 7).toNat = t - 7 := by omega
        have hs0 := rs0_int b15
        have hs1 := rs1_int b2
        have e0 := Sha.s0_lt b15
        have e1 := Sha.s1_lt b2
        generalize Sha.s0 x = p at HNX hs0 e0
        generalize Sha.s1 y = q at HNX hs1 e1
        have g9 : IntKind.i64.wrap ((u : Int) + p) = (u : Int) + p := IntWalk.i64_in _ (by omega)
        have g10 : IntKind.i64.wrap ((u : Int) + p + v) = (u : Int) + p + v := IntWalk.i64_in _ (by omega)
        have g11 : IntKind.i64.wrap ((u : Int) + p + v + q) = (u : Int) + p + v + q := IntWalk.i64_in _ (by omega)
        have g12 : ((u : Int) + p + v + q).tmod 4294967296 = ((u : Int) + p + v + q) % 4294967296 := Int.tmod_eq_emod_of_nonneg (by omega)
        clear hrow hbel hb hbl
        go_wp2_with fail
        refine (rright_any x 7 _ b15 (by decide) (by decide)).mono ?_
        rintro e w5 ⟨rfl, k5, rfl⟩
        go_wp2_with fail
        refine (rright_any x 18 _ b15 (by decide) (by decide)).mono ?_
        rintro e w5 ⟨rfl, k6, rfl⟩
        go_wp2_with fail
        refine (rright_any y 17 _ b2 (by decide) (by decide)).mono ?_
        rintro e w5 ⟨rfl, k7, rfl⟩
        go_wp2_with fail
        refine (rright_any y 19 _ b2 (by decide) (by decide)).mono ?_
        rintro e w5 ⟨rfl, k8, rfl⟩
        go_wp2_with fail
        refine name_world fun w5 q1 q2 q3 q4 => ?_
        have R5 := Lib.hid (show Row w5 w.heap.size 1 (some ⟨g, o, none⟩) t c1 (iv (Sha.sched l t)) from HROW.out.of_block fun ad _ => by rw [q1]; rfl)
        have B5 := Lib.hid (below_heap HBEL.out q1 q2 q3 q4)
        have hs5 : w.heap.size ≤ w5.heap.size := B5.out.size
        have d16 : w5.cell? ⟨g, o + (t - 16), none⟩ = some (.int .i64 (u : Int)) := (World.cell?_of_block (a := ⟨g, o + (t - 16), none⟩) (by rw [q1]; rfl)).trans c16
        have d7 : w5.cell? ⟨g, o + (t - 7), none⟩ = some (.int .i64 (v : Int)) := (World.cell?_of_block (a := ⟨g, o + (t - 7), none⟩) (by rw [q1]; rfl)).trans c7
        clear q1 q2 q3 q4 c16 c15 c7 c2 HROW HBEL hs0 hs1
        go_region_law (refine step_append_row (by rfl) (.tmp 77) (.tmp 94) (by rfl) Try.underlying116 hi hz0 hz1 hz2 (by rfl) (by decide) (by rfl) (R5.out.alloc _).drew (by rfl) (Reads.lit _ _ _ (n := 1) rfl).drew (by intro v hv; simp at hv; rcases hv with rfl; rfl) (by unfold maxLen; omega) (by omega) (by simp; omega) ?_; intro A2 c2 w2 hrow2 hgr2 hat2)
        all_goals
          have HB2 := Lib.hid ((B5.out.alloc hs5 _).drew.grown hgr2 (by simp; omega) R5.out.blocks)
          have HR2 := Lib.hid hrow2
          clear hrow2 hgr2 hat2
          go_wp2_with fail
          go_roundw
          case rel => exact rblk_next hlt (by rw [HNX.out]; omega) HR2.out HB2.out
          case measure => simp [intOf]; omega
    · obtain rfl : t = 64 := by omega
      clear hrow hbel hb
      obtain ⟨ws, hws⟩ : ∃ ws, Sha.sched l 64 = ws := ⟨_, rfl⟩
      have HWS := Lib.hid hws
      have hwl : ws.length = 64 := by rw [← hws, Sha.length_sched]
      clear hws
      go_wp2_with fail
      go_ret
      exact ⟨A, c1, by rw [Sha.length_sched]; rfl, by rw [Sha.length_sched]; exact HROW.out, HBEL.out⟩
end Go.Proofs.Ytbjlmodabiadfaa
