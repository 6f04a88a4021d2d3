/- THE WALK of the reference's digest: the whole. -/
import Derived.Test.YtbjlmodabiadfaaHRefSha3
import Derived.Test.YtbjlmodabiadfaaHMacFns
import Derived.Deep.LoopGhost
namespace Go.Proofs.Ytbjlmodabiadfaa
open Go.RowKit

attribute [local go_sem ↓] Go.wp_at_zero Go.wp_at_succ
/-- i noughts are behind the text. -/
def RPadRel (w : World) (l : List UInt8) (n z : Nat) (g : Nat) (s3 : Value) (wr : World) : Prop :=
  ∃ (i m : Nat) (A : Option Addr) (c : Nat), g = z - i ∧ i ≤ z ∧ Hid (m = n + 1 + i) ∧ s3 = .slice A m c ∧ Row wr w.heap.size 1 A m c (bv (l ++ 128 :: List.replicate i 0)) ∧ Below w.heap.size w wr
theorem rpad_next {w w2 : World} {l : List UInt8} {n z i m c2 : Nat} {A2 : Option Addr} (hi : i < z) (hm : Hid (m = n + 1 + i)) (hr : Row w2 w.heap.size 1 A2 (m + 1) c2 (bv (l ++ 128 :: List.replicate i 0) ++ [.int .u8 0])) (hb : Below w.heap.size w w2) : RPadRel w l n z (z - (i + 1)) (.slice A2 (m + 1) c2) w2 := by
  refine ⟨i + 1, m + 1, A2, c2, rfl, hi, Lib.hid (by have := hm.out; omega), rfl, ?_, hb⟩
  have e : bv (l ++ 128 :: List.replicate (i + 1) 0) = bv (l ++ 128 :: List.replicate i 0) ++ [.int .u8 0] := by
    rw [List.replicate_succ', show l ++ 128 :: (List.replicate i 0 ++ [0]) = (l ++ 128 :: List.replicate i 0) ++ [0] by simp, bv_append]; rfl
  rw [e]; exact hr
/-- k bytes of the length are behind q. -/
def RLenRel (w : World) (q : List UInt8) (m : Nat) (n : Int) (s3 s5 : Value) (wr : World) : Prop :=
  ∃ (k : Nat) (s : Int) (A : Option Addr) (c : Nat), k ≤ 8 ∧ s = 7 - k ∧ s5 = .int .i64 s ∧ s3 = .slice A (m + k) c ∧ Row wr w.heap.size 1 A (m + k) c (bv (q ++ (Sha.eight n).take k)) ∧ Below w.heap.size w wr
theorem rlen_next {w w2 : World} {q : List UInt8} {m : Nat} {n s : Int} {k c2 : Nat} {A2 : Option Addr} (h : k < 8) (hs : s = 7 - (k + 1 : Nat)) (hr : Row w2 w.heap.size 1 A2 (m + k + 1) c2 (bv (q ++ (Sha.eight n).take k) ++ [.int .u8 (n / 2 ^ (56 - 8 * k) % 256)])) (hb : Below w.heap.size w w2) : RLenRel w q m n (.slice A2 (m + k + 1) c2) (.int .i64 s) w2 := by
  refine ⟨k + 1, s, A2, c2, by omega, hs, rfl, rfl, ?_, hb⟩
  rw [Sha.eight_next n k h, ← List.append_assoc, bv_append]
  have e : bv [Sha.by8 n (56 - 8 * k)] = [.int .u8 (n / 2 ^ (56 - 8 * k) % 256)] := by simp [bv, Sha.by8_toNat]
  rw [e]
  exact hr
/-- j blocks are taken in. -/
def RSumRel (w : World) (p : List UInt8) (m : Nat) (s7 s8 : Value) (wr : World) : Prop :=
  ∃ (j g o c : Nat), j ≤ m ∧ s8 = .int .i64 (64 * (j : Int)) ∧ s7 = .slice (some ⟨g, o, none⟩) 8 c ∧ 8 ≤ c ∧ At wr g o (Sha.blocks Sha.start p j).list ∧ Below w.heap.size w wr
theorem out4_cells {x : Nat} (h : x < 4294967296) : bv (Sha.out4 x) = #[.int .u8 (IntKind.u8.wrap (IntKind.i64.wrap ((x : Int) / 16777216))), .int .u8 (IntKind.u8.wrap (IntKind.i64.wrap ((x : Int) / 65536))), .int .u8 (IntKind.u8.wrap (IntKind.i64.wrap ((x : Int) / 256))), .int .u8 (IntKind.u8.wrap (x : Int))].toList := by
  rw [IntWalk.i64_in ((x : Int) / 16777216) (by omega), IntWalk.i64_in ((x : Int) / 65536) (by omega), IntWalk.i64_in ((x : Int) / 256) (by omega)]
  simp only [IntKind.wrap_u8']
  simp only [Sha.out4, bv, List.map_cons, List.map_nil, UInt8.toNat_ofNat', Nat.shiftRight_eq_div_pow]
  simp only [List.cons.injEq, Value.int.injEq, true_and, and_true]
  refine ⟨?_, ?_, ?_, ?_⟩ <;> omega
/-- k words are written. -/
def ROutRel (w : World) (v : Sha.St) (s9 s10 : Value) (wr : World) : Prop :=
  ∃ (k : Nat) (A : Option Addr) (c : Nat), k ≤ 8 ∧ s10 = .int .i64 k ∧ s9 = .slice A (4 * k) c ∧ Row wr w.heap.size 1 A (4 * k) c (bv ((v.list.take k).flatMap Sha.out4)) ∧ Below w.heap.size w wr
set_option maxRecDepth 100000 in
set_option maxHeartbeats 4000000 in
theorem rsum_any (A : Option Addr) (n c B : Nat) (l : List UInt8) (w : World) (hr : Reads w B 1 A n (bv l)) (hB : B ≤ w.heap.size) (hn : n ≤ 140737488351232) :
    Calls Try.prog 52 #[.slice A n c] w (RowOut (Sha.sum l) w) := by
  obtain ⟨i0, hi, hz0, hz1, hz2⟩ := info_parts byte_info
  have hln : l.length = n := by have := hr.1; rw [length_bv] at this; omega
  have HR := Lib.hid hr
  clear hr
  go_enter Try.func52, Try.ntmps52
  go_wp2_with (at_builtin; first
    | (refine wpList_append_row rfl (.tmp 11) (.tmp 12) rfl Try.underlying22 hi hz0 hz1 hz2 rfl (by decide) rfl (Row.lit w #[] 5 (n := 0) (base := w.heap.size) (size := 1) rfl (Nat.le_refl _) (by unfold maxLen; omega)) rfl (HR.out.alloc hB _) (bv_one _) (by unfold maxLen; omega) (by omega) (by simp) ?_; intro A7 c7 w7 hrow7 hgr7 hat7; have HB7 := Lib.hid (show Below w.heap.size w w7 from ((Below.refl _ _).alloc (Nat.le_refl _) _).grown hgr7 (by simp) (fun k hk => by simp at hk; omega)); have HR7 := Lib.hid (show Row w7 w.heap.size 1 A7 n c7 (bv l) from by simpa using hrow7); clear hrow7 hgr7 hat7; have hs7 := HB7.out.size)
    | (refine wpList_append_row rfl (.tmp 13) (.tmp 14) rfl Try.underlying22 hi hz0 hz1 hz2 rfl (by decide) rfl (HR7.out.alloc _) rfl (Reads.lit _ _ _ (n := 1) rfl) (by intro v hv; simp at hv; rcases hv with rfl; rfl) (by unfold maxLen; omega) (by omega) (by simp; omega) ?_; intro A8 c8 w8 hrow8 hgr8 hat8; have HB8 := Lib.hid (below_append HB7.out hs7 HR7.out hgr8); have HR8 := Lib.hid hrow8; clear hrow8 hgr8 hat8))
  obtain ⟨z, hz⟩ : ∃ z, z = (119 - n % 64) % 64 := ⟨_, rfl⟩
  have hz63 : z < 64 := by omega
  have HZ := Lib.hid hz
  clear hz HB7 HR7
  go_loopg [3] z (fun g s3 wr => RPadRel w l n z g s3 wr)
  case atStart => exact ⟨0, n + 1, A8, c8, rfl, by omega, Lib.hid rfl, rfl, by simpa [bv] using HR8.out, HB8.out⟩
  case round =>
    clear HB8 HR8 hs7
    obtain ⟨i, m, A1, c1, hgk, hiz, hm, rfl, hrow, hbel⟩ := hrel
    have hsz := hbel.size
    have HROW := Lib.hid hrow
    have HBEL := Lib.hid hbel
    have hmb : m ≤ 140737488351332 := by have := hm.out; omega
    clear hrow hbel
    by_cases hlt : i < z
    · have hd : (m : Int) % 64 ≠ 56 := by have := hm.out; have := HZ.out; omega
      go_wp2_with (at_builtin; refine wpList_append_row rfl (.tmp 20) (.tmp 21) rfl Try.underlying22 hi hz0 hz1 hz2 rfl (by decide) rfl (HROW.out.alloc _) rfl (Reads.lit _ _ _ (n := 1) rfl) (by intro v hv; simp at hv; rcases hv with rfl; rfl) (by unfold maxLen; omega) (by omega) (by simp; omega) ?_; intro A2 c2 w2 hrow2 hgr2 hat2; have HNX := Lib.hid (rpad_next hlt hm hrow2 (below_append HBEL.out hsz HROW.out hgr2)); clear hrow2 hgr2 hat2)
      go_roundg (z - (i + 1))
      case measure => omega
      case rel => exact HNX.out
    · have hd : (m : Int) % 64 = 56 := by have := hm.out; have := HZ.out; omega
      go_wp2_with fail
      obtain rfl : i = z := by omega
      obtain ⟨q, hq⟩ : ∃ q, l ++ 128 :: List.replicate i 0 = q := ⟨_, rfl⟩
      have HQ := Lib.hid hq
      have HROWQ := Lib.hid (show Row wr w.heap.size 1 A1 m c1 (bv q) by rw [← hq]; exact HROW.out)
      have HM56 := Lib.hid (show m % 64 = 56 by omega)
      clear hq HROW hd
      go_loopw [3, 5] (fun s3 s5 wx => RLenRel w q m (8 * (n : Int)) s3 s5 wx) (fun _ s5 _ => (intOf s5 + 1).toNat)
      case atStart => exact ⟨0, 7, A1, c1, by omega, rfl, rfl, rfl, by simpa using HROWQ.out, HBEL.out⟩
      case round =>
        clear HROWQ HBEL hsz
        obtain ⟨k, s, A2, c2, hk, rfl, rfl, rfl, hrow, hb⟩ := hrel
        have hsz := hb.size
        have HROW := Lib.hid hrow
        have HB := Lib.hid hb
        clear hrow hb
        by_cases hlk : k < 8
        · go_wp2_with (at_builtin; refine wpList_append_row rfl (.tmp 30) (.tmp 36) rfl Try.underlying22 hi hz0 hz1 hz2 rfl (by decide) rfl (HROW.out.alloc _) rfl (Reads.lit _ _ _ (n := 1) rfl) (by intro v hv; simp at hv; rcases hv with rfl; rfl) (by unfold maxLen; omega) (by omega) (by simp; omega) ?_; intro A3 c3 w2 hrow2 hgr2 hat2; have HB2 := Lib.hid (below_append HB.out hsz HROW.out hgr2); have HR2 := Lib.hid hrow2; clear hrow2 hgr2 hat2)
          go_roundw
          case rel =>
            have h := HR2.out
            rw [show 8 * (7 - k) = 56 - 8 * k by omega] at h
            exact rlen_next hlk (by omega) h HB2.out
          case measure => simp [intOf]; omega
        · obtain rfl : k = 8 := by omega
          obtain ⟨p, hp⟩ : ∃ p, q ++ Sha.eight (8 * (n : Int)) = p := ⟨_, rfl⟩
          have HP := Lib.hid hp
          have HROWP := Lib.hid (show Row wr w.heap.size 1 A2 (m + 8) c2 (bv p) by rw [← hp]; exact HROW.out)
          clear hp HROW
          go_wp2_with fail
          refine (rwords_any _).mono ?_
          rintro e w3 ⟨Ak, ck, rfl, hrk, hbk⟩
          rw [Sha.length_K] at hrk ⊢
          obtain ⟨kb, ko, hAk⟩ := row_some hrk (by omega)
          subst hAk
          have hk3 := hrk.at_iv
          have HK3 := Lib.hid hk3
          have hs3 := hbk.size
          have HB3 := Lib.hid (HB.out.trans (hbk.mono hsz))
          have HP3 := Lib.hid (HROWP.out.of_block (w' := w3) fun ad e => hbk.block _ (HROWP.out.lt ad e).2)
          clear hrk hbk hk3 HROWP HB
          go_wp2_with fail
          refine (rfirst_any _).mono ?_
          rintro e w4 ⟨Ah, ch, rfl, hrh, hbh⟩
          rw [show Sha.start.list.length = 8 from rfl] at hrh ⊢
          obtain ⟨hb, ho, hAh⟩ := row_some hrh (by omega)
          subst hAh
          have hh4 := hrh.at_iv
          have HH4 := Lib.hid hh4
          have hch := hrh.2.1
          have hs4 := hbh.size
          have HK4 := Lib.hid (HK3.out.below hbh)
          have HB4 := Lib.hid (HB3.out.trans (hbh.mono (by omega)))
          have hP4 := (HP3.out.of_block (w' := w4) fun ad e => hbh.block _ (HP3.out.lt ad e).2)
          clear hrh hbh hh4 HK3 HB3 HP3
          have hpl : p.length = m + 8 := by have := hP4.1; rw [length_bv] at this; omega
          obtain ⟨M, hM⟩ : ∃ M, m + 8 = 64 * M := ⟨(m + 8) / 64, by have := HM56.out; omega⟩
          obtain ⟨pb, po, hAp⟩ := row_some hP4 (by omega)
          subst hAp
          have hpc : ∀ j (hj : j < p.length), w4.cell? ⟨pb, po + j, none⟩ = some (.int .u8 ((p[j]).toNat : Int)) := fun j hj => hP4.cell (bv_at p j hj)
          have hpb := (hP4.lt _ rfl).2
          have hpcap := hP4.2.1
          have hpmax := hP4.2.2.1
          unfold maxLen at hpmax
          simp only at hpb
          have HPC := Lib.hid hpc
          have HPL := Lib.hid hpl
          have HM := Lib.hid hM
          rw [hM] at hpcap ⊢
          have HHM := Lib.hid hm
          clear hP4 hpc hpl hM hm hmb
          go_wp2_with fail
          go_loopw [7, 8] (fun s7 s8 wx => RSumRel w4 p M s7 s8 wx) (fun _ i _ => 64 * M - (intOf i).toNat)
          case atStart => exact ⟨0, hb, ho, ch, by omega, rfl, rfl, hch, HH4.out, Below.refl _ _⟩
          case round =>
            obtain ⟨j, g, o, c3, hj, rfl, rfl, hc3, hat, hbel⟩ := hrel
            have hsz5 := hbel.size
            have HAT := Lib.hid hat
            have HBEL5 := Lib.hid hbel
            have HK5 := Lib.hid (HK4.out.below hbel)
            by_cases hlt : j < M
            · obtain ⟨l5, hl5⟩ : ∃ l5, (p.drop (64 * j)).take 64 = l5 := ⟨_, rfl⟩
              have hl5l : l5.length = 64 := by have := HPL.out; have := HM.out; rw [← hl5]; simp; omega
              have hc5 : ∀ i (h : i < 64), wr.cell? ⟨pb, po + 64 * j + i, none⟩ = some (.int .u8 ((l5[i]'(by omega)).toNat : Int)) := fun i h => by
                have h1 := (hbel.cell (p := ⟨pb, po + (64 * j + i), none⟩) hpb).trans (HPC.out (64 * j + i) (by have := HPL.out; have := HM.out; omega))
                have h2 : l5[i]'(by omega) = p[64 * j + i]'(by have := HPL.out; have := HM.out; omega) := by simp only [← hl5, List.getElem_take, List.getElem_drop]
                rw [h2, Nat.add_assoc]
                exact h1
              have HC5 := Lib.hid (rblock_any pb (po + 64 * j) (c2 - 64 * j) l5 wr hl5l hc5 (by omega))
              have HL5 := Lib.hid hl5
              have f1 : (0 : Int) ≤ 64 * (j : Int) := by omega
              have f2 : 64 * (j : Int) ≤ 64 * (j : Int) + 64 := by omega
              have f3 : 64 * (j : Int) + 64 ≤ (c2 : Int) := by omega
              have f4 : (64 * (j : Int)).toNat = 64 * j := by omega
              have f5 : (64 * (j : Int) + 64).toNat = 64 * j + 64 := by omega
              have f6 : 64 * j + 64 - 64 * j = 64 := by omega
              clear hat hbel hc5 hl5
              go_wp2_with fail
              refine HC5.out.mono ?_
              rintro e w6 ⟨Aw, cw, rfl, hrw, hbw⟩
              rw [Sha.length_sched] at hrw ⊢
              obtain ⟨wb, wo, hAw⟩ := row_some hrw (by omega)
              subst hAw
              have hW6 := hrw.at_iv
              have hs6 := hbw.size
              have HB6 := Lib.hid (HBEL5.out.trans (hbw.mono hsz5))
              have HS6 := Lib.hid (rstep_any g o c3 wb wo cw kb ko ck (Sha.blocks Sha.start p j) (Sha.sched l5 64) w6 (HAT.out.below hbw) hc3 hW6 (Sha.length_sched _ _) (HK5.out.below hbw) (Sha.blocks_ok Sha.start_ok p j) (fun i => Sha.sched_lt l5 64 i))
              have hbk : Sha.blocks Sha.start p (j + 1) = Sha.add (Sha.blocks Sha.start p j) (Sha.rounds (Sha.blocks Sha.start p j) (Sha.sched l5 64) 64) := by
                rw [← HL5.out]; rfl
              have HBK := Lib.hid hbk
              clear hrw hbw hW6 hbk HC5 HL5 f1 f2 f3 f4 f5 f6
              go_wp2_with fail
              refine HS6.out.mono ?_
              rintro e w7' ⟨An, cn, rfl, hrn, hbn⟩
              rw [← HBK.out] at hrn ⊢
              rw [show (Sha.blocks Sha.start p (j + 1)).list.length = 8 from rfl] at hrn ⊢
              obtain ⟨nb, no, hAn⟩ := row_some hrn (by omega)
              subst hAn
              have hcn := hrn.2.1
              have HN7 := Lib.hid hrn.at_iv
              have HB7 := Lib.hid (HB6.out.trans (hbn.mono (by omega)))
              clear hrn hbn HS6 HBK
              go_wp2_with fail
              go_roundw
              case rel => exact ⟨j + 1, nb, no, cn, by omega, by go_num, rfl, hcn, HN7.out, HB7.out⟩
              case measure => simp [intOf]; omega
            · obtain rfl : j = M := by omega
              have hsum : Sha.sum l = (Sha.blocks Sha.start p j).bytes := by
                have hpl := HPL.out
                have hM := HM.out
                have hm := HHM.out
                have hz := HZ.out
                have e : l ++ Sha.pad l.length = p := by
                  rw [← HP.out, ← HQ.out]
                  unfold Sha.pad
                  rw [hln, ← hz]
                  simp
                unfold Sha.sum Sha.run
                rw [e, show p.length / 64 = j by omega]
              obtain ⟨v, hv⟩ : ∃ v, Sha.blocks Sha.start p j = v := ⟨_, rfl⟩
              rw [hv] at hsum hat
              have hvl : ∀ k, v.list.getD k 0 < 4294967296 := by rw [← hv]; exact Sha.list_lt (Sha.blocks_ok Sha.start_ok p j)
              have HSUM := Lib.hid hsum
              have HAT5 := Lib.hid hat
              have HB5 := Lib.hid (HB4.out.trans (hbel.mono (by omega)))
              clear hsum hat hbel hv HAT HBEL5 HK5
              go_wp2_with fail
              go_loopw [9, 10] (fun s9 s10 wx => ROutRel wr v s9 s10 wx) (fun _ i _ => 8 - (intOf i).toNat)
              case atStart => exact ⟨0, none, 0, by omega, rfl, rfl, Row.nil_ _ _ _, Below.refl _ _⟩
              case round =>
                obtain ⟨k, A9, c9, hk, rfl, rfl, hrow, hbel⟩ := hrel
                have hsz9 := hbel.size
                have HROW9 := Lib.hid hrow
                have HBEL9 := Lib.hid hbel
                by_cases hlk : k < 8
                · have d0 := (HAT5.out.below hbel).2 k (by simpa [Sha.St.list] using hlk)
                  have hgb := HAT5.out.1
                  have l0 := hvl k
                  have hfn := Sha.flat_next v k hlk
                  generalize v.list.getD k 0 = x at d0 l0 hfn
                  have HFN := Lib.hid hfn
                  have k1 : ((x : Int)).tdiv 16777216 = (x : Int) / 16777216 := Int.tdiv_eq_ediv_of_nonneg (by omega)
                  have k2 : ((x : Int)).tdiv 65536 = (x : Int) / 65536 := Int.tdiv_eq_ediv_of_nonneg (by omega)
                  have k3 : ((x : Int)).tdiv 256 = (x : Int) / 256 := Int.tdiv_eq_ediv_of_nonneg (by omega)
                  have k8 : (k : Int) < 8 := by omega
                  have k9 : (0 : Int) ≤ (k : Int) := by omega
                  clear hrow hbel hfn
                  go_wp2_with fail
                  go_region_held3 (fun w' => w'.cell? ⟨g, o + k, none⟩ = some (.int .i64 (x : Int)))
                    (go_keep)
                    ((refine step_append_row (by rfl) (.tmp 59) (.tmp 83) (by rfl) Try.underlying22 hi hz0 hz1 hz2 (by rfl) (by decide) (by rfl) (HROW9.out.alloc _).drew (by rfl) (Reads.lit _ _ _ (n := 4) rfl).drew (by intro v hv; simp at hv; rcases hv with rfl | rfl | rfl | rfl <;> rfl) (by unfold maxLen; omega) (by omega) (by simp; omega) ?_; intro A2' c3' w2 hrow2 hgr2 hat2; have k0 := far_cell hgb hsz9 HROW9.out hgr2 d0; have HB2 := Lib.hid ((HBEL9.out.alloc hsz9 _).drew.grown hgr2 (by simp; omega) HROW9.out.blocks); have HR2 := Lib.hid hrow2; clear hrow2 hgr2 hat2))
                  go_wp2_with fail
                  go_roundw
                  case rel =>
                    refine ⟨k + 1, A2', c3', by omega, by go_num, by rw [show 4 * (k + 1) = 4 * k + 4 by omega], ?_, HB2.out⟩
                    rw [HFN.out, bv_append, out4_cells l0, show 4 * (k + 1) = 4 * k + 4 by omega]
                    exact HR2.out
                  case measure => simp [intOf]; omega
                · obtain rfl : k = 8 := by omega
                  have HBX := Lib.hid (HB5.out.trans (hbel.mono (by omega)))
                  clear hrow hbel
                  go_wp2_with fail
                  go_ret
                  refine ⟨A9, c9, rfl, ?_, HBX.out⟩
                  rw [HSUM.out, Sha.bytes_flat]
                  exact HROW9.out.mono (by omega)
end Go.Proofs.Ytbjlmodabiadfaa
