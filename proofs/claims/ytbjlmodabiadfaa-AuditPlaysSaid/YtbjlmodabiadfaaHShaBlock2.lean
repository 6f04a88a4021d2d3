/- THE WALK of a block of the digest. -/
import Derived.Test.YtbjlmodabiadfaaHShaBlock1
import Derived.StillTailTactics
import Derived.Outline
namespace Go.Proofs.Ytbjlmodabiadfaa
open Go.RowKit
theorem zeros64 (w : World) (T : TypeId) : (w.alloc (.cells (Array.replicate 64 (.int .u32 0)) T)).rowIs w.heap.size T 64 (fun j => uv ((Sha.sched [] 0).getD j 0)) := by
  refine ⟨_, (MapKept.heap_alloc w _).1, by simp, fun i hi => ?_⟩
  rw [Array.getElem?_replicate, if_pos hi]
  simp [Sha.sched, uv]

theorem u32_size : (Try.prog.info? 74).map (·.size) = some 1 := by kernel_rfl
set_option maxRecDepth 100000 in
set_option maxHeartbeats 4000000 in
theorem block_any (sb kb bb bo n c : Nat) (s : Sha.St) (l : List UInt8) (tl : List Value) (T : TypeId) (w : World) (hn : 64 ≤ n) (hnc : n ≤ c) (hc : c ≤ maxLen) (hl : l.length = 64)
    (hs : Blk w sb T (s.vals ++ tl).toArray) (hk : ∀ i, i < 64 → w.cell? ⟨kb, i, none⟩ = some (uv (Sha.K.getD i 0))) (hkb : kb < w.heap.size)
    (hb : ∀ i (h : i < 64), w.cell? ⟨bb, bo + i, none⟩ = some (.int .u8 ((l[i]'(by omega)).toNat : Int))) (hbb : bb < w.heap.size) (hok : s.ok) :
    Calls Try.prog 66 #[.pointer (some ⟨sb, 0, none⟩), .pointer (some ⟨kb, 0, none⟩), .slice (some ⟨bb, bo, none⟩) n c] w fun e w' => e = .returned (.tuple #[]) ∧ Blk w' sb T ((Sha.block s l).vals ++ tl).toArray ∧ w.grownBy w' (some sb) := by
  unfold maxLen at hc
  go_enter Try.func66, Try.ntmps66
  go_wp2_with fail
  go_loopw [17] (fun i wr => SchedRel w w.heap.size 110 l i wr) (fun i _ => 64 - (intOf i).toNat)
  case atStart => exact ⟨0, by omega, rfl, zeros64 w _, (Below.refl _ _).alloc (Nat.le_refl _) _, by simp⟩
  case round =>
    obtain ⟨t, ht, rfl, hrow, hbel, hsize⟩ := hrel
    by_cases hlt : t < 64
    · by_cases h16 : t < 16
      · have hw : ∀ j (hj : j < 4), wr.cell? ⟨bb, bo + (4 * t + j), none⟩ = some (.int .u8 ((l[4 * t + j]'(by omega)).toNat : Int)) := fun j hj =>
          (hbel.cell (p := ⟨bb, bo + (4 * t + j), none⟩) hbb).trans (hb (4 * t + j) (by omega))
        have h0 := hw 0 (by omega)
        have h1 := hw 1 (by omega)
        have h2 := hw 2 (by omega)
        have h3 := hw 3 (by omega)
        rw [← Nat.add_assoc] at h0 h1 h2 h3
        rw [Nat.add_zero] at h0
        have hct := hrow.cell (i := t) hlt
        have hft := hrow.frozen t
        have HROW := Lib.hid hrow
        have HK := Lib.hid hk
        have HB := Lib.hid hb
        clear hrow hw hk hb
        go_wp2_with fail
        refine (word_any bb (bo + 4 * t) (n - 4 * t) (c - 4 * t) _ _ _ _ wr (by omega) (by unfold maxLen; omega) h0 h1 h2 h3).mono ?_
        rintro e w2 ⟨rfl, q, rfl⟩
        go_wp2_with fail
        go_roundw
        case rel =>
          refine sched_step hlt (rowIs_drewN HROW.out _) (below_drewN hbel _) hsize (Nat.le_refl _) (uv_eq ?_)
          rw [show Sha.next l (Sha.sched l t) t = Sha.word l t from if_pos h16]
          unfold Sha.word
          simp only [List.getD_eq_getElem?_getD]
          rw [List.getElem?_eq_getElem (by omega), List.getElem?_eq_getElem (by omega), List.getElem?_eq_getElem (by omega), List.getElem?_eq_getElem (by omega)]
          rfl
        case measure => simp [intOf]; omega
      · have c16 := hrow.cell (i := t - 16) (by omega)
        have c15 := hrow.cell (i := t - 15) (by omega)
        have c7 := hrow.cell (i := t - 7) (by omega)
        have c2 := hrow.cell (i := t - 2) (by omega)
        have hct := hrow.cell (i := t) hlt
        have hft := hrow.frozen t
        have b15 := Sha.sched_lt l t (t - 15)
        have b2 := Sha.sched_lt l t (t - 2)
        have b16 := Sha.sched_lt l t (t - 16)
        have b7 := Sha.sched_lt l t (t - 7)
        have HNX : Hid (Sha.next l (Sha.sched l t) t = ((Sha.sched l t).getD (t - 16) 0 + Sha.s0 ((Sha.sched l t).getD (t - 15) 0) + (Sha.sched l t).getD (t - 7) 0 + Sha.s1 ((Sha.sched l t).getD (t - 2) 0)) % 4294967296) := if_neg h16
        generalize (Sha.sched l t).getD (t - 15) 0 = x at c15 b15 HNX
        generalize (Sha.sched l t).getD (t - 2) 0 = y at c2 b2 HNX
        generalize (Sha.sched l t).getD (t - 16) 0 = u at c16 b16 HNX
        generalize (Sha.sched l t).getD (t - 7) 0 = v at c7 b7 HNX
        generalize hz : (Sha.sched l t).getD t 0 = z at hct
        unfold uv at c15 c2 c16 c7 hct
        have HROW := Lib.hid hrow
        have HK := Lib.hid hk
        have HB := Lib.hid hb
        clear hrow hk hb hz
        go_wp2_with fail
        go_quiet (fail)
        go_wp2_with fail
        have g1 : IntKind.i64.wrap ((t : Int) - 16) = (t : Int) - 16 := IntWalk.i64_in _ (by omega)
        have g2 : (0 : Int) ≤ (t : Int) - 16 := by omega
        have g2' : (16 : Int) ≤ (t : Int) := by omega
        have g3 : (t : Int) - 16 < 64 := by omega
        have g4 : ((t : Int) - 16).toNat = t - 16 := by omega
        have g5 : IntKind.i64.wrap ((t : Int) - 7) = (t : Int) - 7 := IntWalk.i64_in _ (by omega)
        have g6 : (0 : Int) ≤ (t : Int) - 7 := by omega
        have g6' : (7 : Int) ≤ (t : Int) := by omega
        have g7 : (t : Int) - 7 < 64 := by omega
        have g8 : ((t : Int) - 7).toNat = t - 7 := by omega
        have cw : ∀ d o u a, ({ heap := wr.heap, tape := wr.tape, drawn := d, os := o, output := u } : World).cell? a = wr.cell? a := fun _ _ _ _ => rfl
        go_still_tail 28, (by kernel_rfl)
        still_call (right_any x 7 _ b15 (by decide) (by decide))
        repeat still_step
        still_call (right_any x 18 _ b15 (by decide) (by decide))
        repeat still_step
        still_call (right_any y 17 _ b2 (by decide) (by decide))
        repeat still_step
        still_call (right_any y 19 _ b2 (by decide) (by decide))
        repeat still_step
        refine wpStill_nil ?_
        clear cw g1 g4 g5 g8
        change wpList _ _ _ _ _ (wr.drewN _).drew
        go_wp2_with fail
        go_roundw
        case rel =>
          refine sched_step hlt (rowIs_drewN HROW.out _) (below_drewN hbel _) hsize (Nat.le_refl _) (uv_eq ?_)
          rw [HNX.out, s0_int b15, s1_int b2]
          omega
        case measure => simp [intOf]; omega
    · obtain rfl : t = 64 := by omega
      have hws := hrow
      generalize hwsd : Sha.sched l 64 = ws at hws
      have HWSD := Lib.hid hwsd
      have hg0 : wr.heap.size = w.heap.size + 1 := hsize
      have hsb : ∀ i, wr.cell? ⟨sb, i, none⟩ = (s.vals ++ tl).toArray[i]? := fun i => (hbel.cell (p := ⟨sb, i, none⟩) hs.lt).trans (hs.cell i)
      have s0 := hsb 0
      have s1 := hsb 1
      have s2 := hsb 2
      have s3 := hsb 3
      have s4 := hsb 4
      have s5 := hsb 5
      have s6 := hsb 6
      have s7 := hsb 7
      simp [Sha.St.vals, Sha.St.list, uv] at s0 s1 s2 s3 s4 s5 s6 s7
      have HROW := Lib.hid hrow
      have HK := Lib.hid hk
      have HB := Lib.hid hb
      clear hrow hk hb hws hsb hwsd
      go_wp2_with fail
      clear s0 s1 s2 s3 s4 s5 s6 s7
      rw [show ((64 : Nat) : Int) = (64 : Int) from rfl]
      go_loopw [70] (fun i wr => RoundRel w w.heap.size (w.heap.size + 1) 110 106 s ws i wr) (fun i _ => 64 - (intOf i).toNat)
      case atStart =>
        refine ⟨0, by omega, rfl, ?_, (HROW.out.alloc _).congr fun j _ => by rw [HWSD.out], hbel.alloc hbel.size _⟩
        have := eight_new wr 106 s
        rw [hsize] at this
        exact this
      case round =>
        clear hbel hg0 hsize HROW
        obtain ⟨t, ht, rfl, hrow, hrow0, hbel⟩ := hrel
        by_cases hlt : t < 64
        · have hok2 := Sha.rounds_ok hok ws t
          have hrd : Sha.rounds s ws (t + 1) = Sha.rnd (Sha.rounds s ws t) (Sha.K.getD t 0) (ws.getD t 0) := rfl
          have hkt : wr.cell? ⟨kb, t, none⟩ = some (.int .u32 (Sha.K.getD t 0 : Nat)) := (hbel.cell (p := ⟨kb, t, none⟩) hkb).trans (HK.out t hlt)
          have hwt : wr.cell? ⟨w.heap.size, t, none⟩ = some (.int .u32 (ws.getD t 0 : Nat)) := hrow0.cell hlt
          have hkl := Sha.K_lt t
          have hwl : ws.getD t 0 < 4294967296 := by rw [← HWSD.out]; exact Sha.sched_lt l 64 t
          generalize Sha.rounds s ws t = st at hrow hok2 hrd
          generalize Sha.K.getD t 0 = kt at hkt hkl hrd
          generalize ws.getD t 0 = wt at hwt hwl hrd
          obtain ⟨a, b, cc, d, e, f, g, h⟩ := st
          obtain ⟨ha, hb', hc', hd, he, hf, hg, hh⟩ := hok2
          have v0 : wr.cell? ⟨w.heap.size + 1, 0, none⟩ = some (.int .u32 (a : Int)) := hrow.cell (by omega)
          have v1 : wr.cell? ⟨w.heap.size + 1, 1, none⟩ = some (.int .u32 (b : Int)) := hrow.cell (by omega)
          have v2 : wr.cell? ⟨w.heap.size + 1, 2, none⟩ = some (.int .u32 (cc : Int)) := hrow.cell (by omega)
          have v4 : wr.cell? ⟨w.heap.size + 1, 4, none⟩ = some (.int .u32 (e : Int)) := hrow.cell (by omega)
          have v5 : wr.cell? ⟨w.heap.size + 1, 5, none⟩ = some (.int .u32 (f : Int)) := hrow.cell (by omega)
          have v6 : wr.cell? ⟨w.heap.size + 1, 6, none⟩ = some (.int .u32 (g : Int)) := hrow.cell (by omega)
          have v7 : wr.cell? ⟨w.heap.size + 1, 7, none⟩ = some (.int .u32 (h : Int)) := hrow.cell (by omega)
          have HROW := Lib.hid hrow
          have HROW0 := Lib.hid hrow0
          have HRD := Lib.hid hrd
          have g64 : (t : Int) < 64 := by omega
          have cw : ∀ d o u a, ({ heap := wr.heap, tape := wr.tape, drawn := d, os := o, output := u } : World).cell? a = wr.cell? a := fun _ _ _ _ => rfl
          clear hrow hrow0 hrd
          go_wp2_with fail
          go_quiet (fail)
          go_wp2_with fail
          go_still_tail 32, (by kernel_rfl)
          still_call (right_any e 6 _ he (by decide) (by decide))
          repeat still_step
          still_call (right_any e 11 _ he (by decide) (by decide))
          repeat still_step
          still_call (right_any e 25 _ he (by decide) (by decide))
          repeat still_step
          refine wpStill_nil ?_
          change wpList _ _ _ _ _ (wr.drewN _).drew
          go_wp2_with fail
          go_still_tail 24, (by kernel_rfl)
          still_call (right_any a 2 _ ha (by decide) (by decide))
          repeat still_step
          still_call (right_any a 13 _ ha (by decide) (by decide))
          repeat still_step
          still_call (right_any a 22 _ ha (by decide) (by decide))
          repeat still_step
          refine wpStill_nil ?_
          change wpList _ _ _ _ _ (wr.drewN _).drew.drew
          clear cw
          go_wp2_with fail
          rw [rx_int (a := a) (b := b) (cc := cc) (d := d) he hf hg, ry_int (d := d) (e := e) (f := f) (g := g) (h := h) ha hb' hc']
          have hXl := rx_lt ⟨a, b, cc, d, e, f, g, h⟩ kt wt
          have hYl := ry_lt ⟨a, b, cc, d, e, f, g, h⟩
          have hrnd : Sha.rnd ⟨a, b, cc, d, e, f, g, h⟩ kt wt = ⟨(Sha.rx ⟨a, b, cc, d, e, f, g, h⟩ kt wt + Sha.ry ⟨a, b, cc, d, e, f, g, h⟩) % 4294967296, a, b, cc, (d + Sha.rx ⟨a, b, cc, d, e, f, g, h⟩ kt wt) % 4294967296, e, f, g⟩ := rfl
          generalize Sha.rx ⟨a, b, cc, d, e, f, g, h⟩ kt wt = X at hXl hrnd ⊢
          generalize Sha.ry ⟨a, b, cc, d, e, f, g, h⟩ = Y at hYl hrnd ⊢
          have HRND := Lib.hid hrnd
          refine name_world fun w5 e1 e2 e3 e4 => ?_
          have r1 : w5.rowIs (w.heap.size + 1) 106 8 _ := rowIs_heap HROW.out e1
          have r0 : w5.rowIs w.heap.size 110 64 _ := rowIs_heap HROW0.out e1
          have b5 := below_heap hbel (w' := w5) e1 e2 e3 e4
          have R1 := Lib.hid r1
          have R0 := Lib.hid r0
          have B5 := Lib.hid b5
          clear e1 e2 e3 e4 r1 r0 b5 hbel hrnd v0 v1 v2 v4 v5 v6 v7 hkt hwt g64
          go_region_law (refine step_copy_shift rfl (.tmp 133) (.tmp 134) rfl Try.underlying132 u32_size rfl rfl R1.out.drew (fun j _ => uv_one _) ?_; intro w2 hrow2 hgr2 hsz2)
          have k4 : w2.cell? ⟨w.heap.size + 1, 4, none⟩ = some (.int .u32 (d : Int)) := hrow2.cell (by omega)
          have k0 : w2.cell? ⟨w.heap.size + 1, 0, none⟩ = some (.int .u32 (a : Int)) := hrow2.cell (by omega)
          have f0 := hrow2.frozen 0
          have f4 := hrow2.frozen 4
          have HROW2 := Lib.hid hrow2
          have HGR2 := Lib.hid hgr2
          clear hrow2 hgr2 hsz2
          go_wp2_with fail
          go_roundw
          case rel => exact round_step hlt rfl HROW2.out HGR2.out R0.out B5.out (by rw [HRD.out, HRND.out])
          case measure => simp [intOf]; omega
        · obtain rfl : t = 64 := by omega
          go_wp2_with fail
          have hfin : Sha.block s l = Sha.add s (Sha.rounds s ws 64) := by unfold Sha.block; rw [HWSD.out]
          have HFIN := Lib.hid hfin
          generalize Sha.rounds s ws 64 = v at hrow HFIN
          have hst := fin_start hs hbel hrow
          clear hfin hrow hrow0 hbel HWSD HK HB
          go_loopw [146] (fun i wr => FinRel w sb (w.heap.size + 1) T 106 s v tl i wr) (fun i _ => 8 - (intOf i).toNat)
          case atStart => exact hst
          case round =>
            clear hst
            obtain ⟨k, hk8, rfl, ⟨cs, hblk, h1, h2⟩, hrow, hg⟩ := hrel
            have hsw := hs.lt
            by_cases hlk : k < 8
            · have d0 : wr.cell? ⟨sb, k, none⟩ = some (.int .u32 (s.list.getD k 0 : Nat)) := by
                rw [hblk.cell, h1 k hlk, if_neg (Nat.lt_irrefl _)]; rfl
              have d1 : wr.cell? ⟨w.heap.size + 1, k, none⟩ = some (.int .u32 (v.list.getD k 0 : Nat)) := hrow.cell hlk
              have d2 := hblk.frozen k
              have HST := Lib.hid (fin_step (w := w) (u := .int .u32 (((s.list.getD k 0 : Nat) + (v.list.getD k 0 : Nat) : Int) % 4294967296)) hlk hblk h1 h2 hrow hg (by omega) (uv_eq (by omega)))
              generalize s.list.getD k 0 = x at d0 HST
              generalize v.list.getD k 0 = y at d1 HST
              clear hblk h1 h2 hrow hg hs hok HFIN
              go_wp2_with fail
              go_region
              go_wp2_with fail
              go_roundw
              case rel => exact fin_drew HST.out
              case measure => simp [intOf]; omega
            · obtain rfl : k = 8 := by omega
              have HE := Lib.hid (fin_end hblk h1 h2)
              clear h1 h2 hs hok hblk hrow
              go_wp2_with fail
              go_end0
              exact ⟨rfl, by rw [HFIN.out]; exact HE.out, hg⟩
end Go.Proofs.Ytbjlmodabiadfaa
