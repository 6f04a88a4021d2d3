/- THE WALK of aes's Encrypt. -/
import Derived.Test.YtiijjpjkfiookaaDoorAes4
import Derived.Deep.CutBlock
namespace Go.Proofs.YtiijjpjkfiookaaDoor
open Go.RowKit

theorem getD_rks (key : List UInt8) {r : Nat} (h : r < key.length / 4 + 7) : (rksOf key).getD r [] = ((kexp key (3 * (key.length / 4) + 28)).drop (16 * r)).take 16 := rks_at key h
/-- The cells of round key r in the row of all. -/
theorem rk_cells {w : World} {base c2 g2 o2 r : Nat} {key : List UInt8} (hk : key.length = 16 ∨ key.length = 32) (hr : Row w base 16 (some ⟨g2, o2, none⟩) (key.length / 4 + 7) c2 (bv (kexp key (3 * (key.length / 4) + 28)))) (h : r < key.length / 4 + 7) :
    ∀ j u, (bv ((rksOf key).getD r [])).toArray[j]? = some u → w.cell? ⟨g2, o2 + r * 16 + j, none⟩ = some u := fun j u hu => by
  have hj : j < 16 := by
    have := (Array.getElem?_eq_some_iff.1 hu).1
    rw [bvA_size, rks_len key hk h] at this
    exact this
  rw [getD_rks key h, List.getElem?_toArray, bv_take, List.getElem?_take, if_pos hj, bv_drop, List.getElem?_drop] at hu
  rw [Nat.add_assoc, show r * 16 + j = 16 * r + j by omega]
  exact hr.cell hu
/-- The key's memory while a block is encrypted. -/
def EncMem (w wr : World) (kb : Nat) (kA A2 : Option Addr) (kc c2 : Nat) (y key : List UInt8) : Prop :=
  Blk wr kb 89 (ak (.slice kA key.length kc) 1 0 sbL y (.slice A2 (key.length / 4 + 7) c2)).toArray ∧ Row wr 0 16 A2 (key.length / 4 + 7) c2 (bv (kexp key (3 * (key.length / 4) + 28))) ∧ Row wr 0 1 kA key.length kc (bv key) ∧ Grew (· = kb) w wr
theorem EncMem.keep {w wr w3 : World} {kb b kc c2 : Nat} {kA A2 : Option Addr} {y key : List UInt8} (h : EncMem w wr kb kA A2 kc c2 y key) (hg : Grew (· = b) wr w3) (h1 : kb ≠ b) (h2 : ∀ ad, A2 = some ad → ad.block ≠ b) (h3 : ∀ ad, kA = some ad → ad.block ≠ b) (hb : w.heap.size ≤ b) : EncMem w w3 kb kA A2 kc c2 y key :=
  ⟨h.1.grew hg h1, h.2.1.grew hg h2, h.2.2.1.grew hg h3, h.2.2.2.then_ hg fun k hk e => by have e2 : k = b := e; omega⟩
theorem EncMem.alloc {w wr : World} {kb kc c2 : Nat} {kA A2 : Option Addr} {y key : List UInt8} (h : EncMem w wr kb kA A2 kc c2 y key) (o : Obj) : EncMem w (wr.alloc o) kb kA A2 kc c2 y key :=
  ⟨h.1.alloc o, h.2.1.alloc o, h.2.2.1.alloc o, h.2.2.2.alloc o⟩
/-- Behind i rounds. -/
def EncRel (w : World) (kb b : Nat) (kA A2 : Option Addr) (kc c2 : Nat) (y key p : List UInt8) (s8 : Value) (gg : Nat) (wr : World) : Prop :=
  ∃ i : Nat, i < key.length / 4 + 7 ∧ gg = key.length / 4 + 6 - i ∧ s8 = .int .i64 ((i : Int) + 1) ∧ Bk wr b 108 (aesAt (rksOf key) p i) ∧ EncMem w wr kb kA A2 kc c2 y key
/-- What Encrypt leaves. -/
def EncOut (kb : Nat) (X : Nat → Prop) (key out : List UInt8) (w : World) (e : Ending) (w' : World) : Prop :=
  ∃ X2 : Nat → Prop, (∀ k, X2 k → (X k ∧ k < w.heap.size) ∨ w.heap.size ≤ k) ∧ KeyAt w' kb X2 key ∧ Grew (· = kb) w w' ∧ ∃ A c, e = .returned (.tuple #[.slice A 16 c, .int .i64 0]) ∧ Row w' w.heap.size 1 A 16 c (bv out) ∧ ∀ ad, A = some ad → ¬ X2 ad.block ∧ ad.block ≠ kb
set_option maxRecDepth 100000 in
set_option maxHeartbeats 8000000 in
theorem Encrypt_any (kb : Nat) (X : Nat → Prop) (key p : List UInt8) (pg po pc : Nat) (w : World) (h : KeyAt w kb X key) (hk : key.length = 16 ∨ key.length = 32) (hp : p.length = 16) (hr : Reads w w.heap.size 1 (some ⟨pg, po, none⟩) 16 (bv p)) (hpk : pg ≠ kb) :
    Calls Tryd.prog 63 #[.pointer (some ⟨kb, 0, none⟩), .slice (some ⟨pg, po, none⟩) 16 pc] w (EncOut kb X key (aesE (rksOf key) p) w) := by
  have HRD := Lib.hid (ready_any kb X key w h hk)
  obtain ⟨pb, po', he, hpl, hpc⟩ := hr.2 (by decide)
  cases he
  have HPC := Lib.hid hpc
  have HK := Lib.hid hk
  have HP := Lib.hid hp
  have hkl := h.lt
  have hat : ∀ c w, (Instr.arrayAt 108 (.slice (some ⟨pg, po, none⟩) 16 c)).run Tryd.prog w = .ok (.pointer (some ⟨pg, po, none⟩)) w := fun c w => run_arrayAt w _ _ 16 _ 16 c Tryd.underlying108 (Nat.le_refl _)
  obtain ⟨n, hn⟩ : ∃ n, n = key.length / 4 + 7 := ⟨_, rfl⟩
  have hn0 : 11 ≤ n := by omega
  have hn15 : n ≤ 15 := by omega
  have HN := Lib.hid hn
  clear h hk hp hr hpc hn
  go_enter Tryd.func63, Tryd.ntmps63
  go_wp2_with fail
  refine HRD.out.mono ?_
  rintro e w1 ⟨rfl, hd, hg1⟩
  obtain ⟨kA, kc, y, A2, c2, hkr, hka, hy, hbk, hrr, hra⟩ := hd
  have hs1 := hg1.size
  obtain ⟨g2, o2, hA2⟩ : ∃ g o, A2 = some ⟨g, o, none⟩ := by
    cases A2 with
    | none => have := hrr.2.2.2.1 rfl; have := hrr.2.1; have := HN.out; omega
    | some ad => obtain ⟨g, o, rfl, _⟩ := hrr.2.2.2.2 _ rfl; exact ⟨g, o, rfl⟩
  subst hA2
  have hg2k := (hra _ rfl).2
  have hg2l := hrr.at_.2.1
  have HPC1 := Lib.hid (show ∀ j u, (bv p).toArray[j]? = some u → w1.cell? ⟨pg, po + j, none⟩ = some u from fun j u hu => (hg1.cell (a := ⟨pg, po + j, none⟩) hpl hpk).trans (HPC.out j u (by simpa using hu)))
  have HI := Lib.hid (block_info HP.out)
  have H1 := Lib.hid (bvA_one p)
  have HS := Lib.hid (show (16 : Nat) = (bv p).toArray.size by rw [bvA_size, HP.out])
  obtain ⟨ka, hkaq⟩ : ∃ ka, ka = (bv p).toArray := ⟨_, rfl⟩
  have HKA := Lib.hid hkaq
  rw [← hkaq] at HPC1 HI H1 HS
  have hm1 : EncMem w w1 kb kA (some ⟨g2, o2, none⟩) kc c2 y key := ⟨hbk, hrr, hkr, hg1⟩
  have hkb1 := hbk.lt
  obtain ⟨b, hb⟩ : ∃ b, b = w1.heap.size := ⟨_, rfl⟩
  have hkl1 : ∀ ad, kA = some ad → ad.block ≠ b := fun ad e => by have := (hkr.lt ad e).2; omega
  have hal1 : ∀ ad, (some ⟨g2, o2, none⟩ : Option Addr) = some ad → ad.block ≠ b := fun ad e => by cases e; show g2 ≠ b; omega
  have hbw : w.heap.size ≤ b := by omega
  have hkbb : kb ≠ b := by omega
  have HM1 := Lib.hid hm1
  have HKL1 := Lib.hid hkl1
  have HAL1 := Lib.hid hal1
  have HKO := Lib.hid hka
  have HRO := Lib.hid hra
  have HKR1 := Lib.hid hkr
  have HB := Lib.hid hb
  clear hbk hrr hkr hg1 hka hra hkaq hm1 hkl1 hal1 hb
  go_upto_region 5 with (first
    | (refine wpList_load_cells rfl 108 (.tmp 15) rfl pg po rfl ka _ HPC1.out Tryd.underlying108 rfl HI.out ?_)
    | (refine wpList_store_new rfl 108 (.tmp 6) (.tmp 16) rfl _ _ ka rfl rfl HI.out HS.out H1.out ?_))
  dsimp only [Act.put]
  have hb2 : Bk (w1.alloc (.cells ka 108)) b 108 p := by rw [HKA.out, HB.out]; exact Blk.new _ _ _
  have HB2 := Lib.hid hb2
  have HM2 := Lib.hid (HM1.out.alloc (.cells ka 108))
  rw [← HB.out]
  generalize w1.alloc (.cells ka 108) = w2 at HB2 HM2 ⊢
  have c516 : w2.cell? ⟨kb, 516, none⟩ = some (.slice (some ⟨g2, o2, none⟩) n c2) := by rw [HN.out]; exact (HM2.out.1.cell 516).trans (ak_rat _ _ _ _ _ _ length_sbL hy)
  have hr0 := rk_cells (r := 0) HK.out HM2.out.2.1 (by rw [← HN.out]; omega)
  rw [Nat.zero_mul, Nat.add_zero] at hr0
  have HR0 := Lib.hid hr0
  have hl0 := rks_len key HK.out (r := 0) (by rw [← HN.out]; omega)
  have HI0 := Lib.hid (block_info hl0)
  have HLAY := Lib.hid (lay_any b 108 p ((rksOf key).getD 0 []) w2 HB2.out HP.out hl0)
  clear hr0 hat hl0 HPC1 HI H1 HS HPC
  go_wp2_with (refine wpList_load_cells rfl 108 (.tmp 27) rfl g2 o2 rfl _ _ HR0.out Tryd.underlying108 rfl HI0.out ?_)
  refine HLAY.out.mono ?_
  rintro e w3 ⟨rfl, hb3, hg3⟩
  have HST : Hid (EncRel w kb b kA (some ⟨g2, o2, none⟩) kc c2 y key p (.int .i64 1) (n - 1) w3) := Lib.hid ⟨0, by omega, by have := HN.out; omega, rfl, hb3, HM2.out.keep hg3 hkbb HAL1.out HKL1.out hbw⟩
  clear hb3 hg3 HLAY HR0 HI0 HB2 HM2 c516 HM1
  go_wp2_with fail
  go_loopg [8] (n - 1) (fun gg s8 wx => EncRel w kb b kA (some ⟨g2, o2, none⟩) kc c2 y key p s8 gg wx)
  case atStart => exact HST.out
  case round =>
    clear HST
    obtain ⟨i, hi, hgg, rfl, hbk, hm⟩ := hrel
    have HGG := Lib.hid hgg
    rw [← HN.out] at hi
    clear hgg
    have c516 : wr.cell? ⟨kb, 516, none⟩ = some (.slice (some ⟨g2, o2, none⟩) n c2) := by rw [HN.out]; exact (hm.1.cell 516).trans (ak_rat _ _ _ _ _ _ length_sbL hy)
    have HBK := Lib.hid hbk
    have HM := Lib.hid hm
    have hks : (rksOf key).length = n := by rw [length_rks, HN.out]
    have HKS := Lib.hid hks
    clear hbk hm hks
    by_cases hlt : i + 1 < n
    · have hl16 : (aesAt (rksOf key) p i).length = 16 := length_aesAt HP.out (fun r hr => rks_len key HK.out (by rw [← HN.out, ← HKS.out]; exact hr)) i (by rw [HKS.out]; exact hi)
      have HT := Lib.hid (turn_any b kb 4 108 _ wr HBK.out hl16 (box_of HM.out.1) HM.out.1.lt hkbb)
      have hrk := rks_len key HK.out (r := i + 1) (by rw [← HN.out]; exact hlt)
      have HI := Lib.hid (block_info hrk)
      have HRK := Lib.hid hrk
      have HRC := Lib.hid (fun w5 (hm5 : EncMem w w5 kb kA (some ⟨g2, o2, none⟩) kc c2 y key) => rk_cells (r := i + 1) HK.out hm5.2.1 (by rw [← HN.out]; exact hlt))
      have HC5 := Lib.hid (fun w5 (hm5 : EncMem w w5 kb kA (some ⟨g2, o2, none⟩) kc c2 y key) => (show w5.cell? ⟨kb, 516, none⟩ = some (.slice (some ⟨g2, o2, none⟩) n c2) by rw [HN.out]; exact (hm5.1.cell 516).trans (ak_rat _ _ _ _ _ _ length_sbL hy)))
      have d1 : (i : Int) + 1 ≤ (n : Int) - 1 := by omega
      have d4 : (0 : Int) ≤ (i : Int) + 1 := by omega
      have d5 : (i : Int) + 1 < (n : Int) := by omega
      have d6 : ((i : Int) + 1).toNat = i + 1 := by omega
      clear hl16 hrk c516
      by_cases hmid : i + 1 < n - 1
      · have d3 : (i : Int) + 1 < (n : Int) - 1 := by omega
        have HAE := Lib.hid (aesAt_mid (ks := rksOf key) (b := p) (i := i) (by rw [HKS.out]; exact hmid))
        go_wp2_with fail
        refine HT.out.mono ?_
        rintro e w4 ⟨rfl, hb4, hg4⟩
        have HM4 := Lib.hid (HM.out.keep hg4 hkbb HAL1.out HKL1.out hbw)
        have HX := Lib.hid (mix_any b 108 _ w4 hb4 (length_turnL _))
        clear hb4 hg4
        go_wp2_with fail
        refine HX.out.mono ?_
        rintro e w5 ⟨rfl, hb5, hg5⟩
        have HM5 := Lib.hid (HM4.out.keep hg5 hkbb HAL1.out HKL1.out hbw)
        have c5 := HC5.out w5 HM5.out
        have HLY := Lib.hid (lay_any b 108 _ _ w5 hb5 (length_mixL _) HRK.out)
        rw [← HAE.out] at HLY
        clear hb5 hg5
        go_wp2_with (refine wpList_load_cells rfl 108 (.tmp 48) rfl g2 (o2 + (i + 1) * 16) rfl _ _ (HRC.out w5 HM5.out) Tryd.underlying108 rfl HI.out ?_)
        refine HLY.out.mono ?_
        rintro e w6 ⟨rfl, hb6, hg6⟩
        have HNE : Hid (EncRel w kb b kA (some ⟨g2, o2, none⟩) kc c2 y key p (.int .i64 ((i : Int) + 1 + 1)) (gk - 1) w6) := Lib.hid ⟨i + 1, by rw [← HN.out]; exact hlt, by have := HGG.out; have := HN.out; omega, by go_num, hb6, HM5.out.keep hg6 hkbb HAL1.out HKL1.out hbw⟩
        clear hb6 hg6
        go_wp2_with fail
        go_roundg (gk - 1)
        case measure => have := HGG.out; have := HN.out; omega
        case rel => exact HNE.out
      · have d3 : ¬ (i : Int) + 1 < (n : Int) - 1 := by omega
        have HAE := Lib.hid (aesAt_last (ks := rksOf key) (b := p) (i := i) (by rw [HKS.out]; exact hmid))
        go_wp2_with fail
        refine HT.out.mono ?_
        rintro e w5 ⟨rfl, hb5, hg5⟩
        have HM5 := Lib.hid (HM.out.keep hg5 hkbb HAL1.out HKL1.out hbw)
        have c5 := HC5.out w5 HM5.out
        have HLY := Lib.hid (lay_any b 108 _ _ w5 hb5 (length_turnL _) HRK.out)
        rw [← HAE.out] at HLY
        clear hb5 hg5
        go_wp2_with (refine wpList_load_cells rfl 108 (.tmp 48) rfl g2 (o2 + (i + 1) * 16) rfl _ _ (HRC.out w5 HM5.out) Tryd.underlying108 rfl HI.out ?_)
        refine HLY.out.mono ?_
        rintro e w6 ⟨rfl, hb6, hg6⟩
        have HNE : Hid (EncRel w kb b kA (some ⟨g2, o2, none⟩) kc c2 y key p (.int .i64 ((i : Int) + 1 + 1)) (gk - 1) w6) := Lib.hid ⟨i + 1, by rw [← HN.out]; exact hlt, by have := HGG.out; have := HN.out; omega, by go_num, hb6, HM5.out.keep hg6 hkbb HAL1.out HKL1.out hbw⟩
        clear hb6 hg6
        go_wp2_with fail
        go_roundg (gk - 1)
        case measure => have := HGG.out; have := HN.out; omega
        case rel => exact HNE.out
    · have hie : i = n - 1 := by omega
      have HOE := Lib.hid (show aesAt (rksOf key) p i = aesE (rksOf key) p by unfold aesE; rw [HKS.out, hie])
      have hl16 : (aesE (rksOf key) p).length = 16 := length_aesE HP.out HK.out
      have hrd : Reads wr (b + 1) 1 (some ⟨b, 0, none⟩) 16 (bv (aesE (rksOf key) p)) := by
        refine ⟨by rw [length_bv, hl16], fun _ => ⟨b, 0, rfl, by omega, fun j u hu => ?_⟩⟩
        rw [← HOE.out] at hu
        rw [Nat.zero_add, Blk.cell HBK.out]
        simpa using hu
      have HCL := Lib.hid (bClone_any (some ⟨b, 0, none⟩) 16 16 (b + 1) (aesE (rksOf key) p) wr hrd (by have := HBK.out.lt; omega) (by decide))
      have HL16 := Lib.hid hl16
      have d1 : ¬ (i : Int) + 1 ≤ (n : Int) - 1 := by omega
      have hbl := HBK.out.lt
      clear hrd hl16 hie c516
      go_wp2_with fail
      refine HCL.out.mono ?_
      rintro e w7 ⟨A7, c7, rfl, hrow7, hb7⟩
      rw [HL16.out] at hrow7
      have HROW := Lib.hid hrow7
      have HB7 := Lib.hid hb7
      have hl := HL16.out
      rw [hl]
      clear hrow7 hb7 hl
      go_wp2_with fail
      go_ret2
      have hm := HM.out
      refine ⟨OwnK X w w1, fun k hk => hk.imp id (·.1), .inr ⟨kA, kc, y, some ⟨g2, o2, none⟩, c2, hm.2.2.1.below HB7.out (Nat.le_refl _), HKO.out, hy, hm.1.below HB7.out hm.1.lt, hm.2.1.below HB7.out (Nat.le_refl _), HRO.out⟩, hm.2.2.2.trans (Grew.of_new HB7.out), A7, c7, rfl, HROW.out.mono hm.2.2.2.size, fun ad e => ⟨fun hx => ?_, ?_⟩⟩
      · have h1 := (HROW.out.lt ad e).1
        have h2 := HB.out
        rcases hx with hx | hx <;> omega
      · have h1 := (HROW.out.lt ad e).1
        have h2 := hm.1.lt
        omega
end Go.Proofs.YtiijjpjkfiookaaDoor
