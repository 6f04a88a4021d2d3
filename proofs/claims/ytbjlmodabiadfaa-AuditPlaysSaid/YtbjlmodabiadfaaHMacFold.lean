/- THE WALK of mac.Fold. -/
import Derived.Test.YtbjlmodabiadfaaHMacFns
import Derived.Test.YtbjlmodabiadfaaGMem
namespace Go.Proofs.Ytbjlmodabiadfaa
open Go.RowKit

def bytesOf (L : List ByteArray) : List (List UInt8) := L.map (·.data.toList)
theorem fold_next (k : List UInt8) (L : List ByteArray) (i : Nat) (h : i < L.length) : foldB k (bytesOf (L.take (i + 1))) = macB (foldB k (bytesOf (L.take i))) (Sha.eight L[i].data.toList.length ++ L[i].data.toList) := by
  rw [List.take_succ_eq_append_getElem h, bytesOf, List.map_append, foldB_append]
  rfl
theorem fold_le (k : List UInt8) (hk : k.length ≤ 140737488351232) : ∀ L, (foldB k L).length ≤ 140737488351232
  | [] => hk
  | s :: r => fold_le (macB k (Sha.eight s.length ++ s)) (by rw [length_macB]; omega) r
/-- Behind i labels. -/
def FoldRel (w : World) (key : List UInt8) (L : List ByteArray) (s5 i : Value) (wr : World) : Prop :=
  ∃ (j : Nat) (A : Option Addr) (n c : Nat), j ≤ L.length ∧ i = .int .i64 j ∧ s5 = .slice A n c ∧ Row wr w.heap.size 1 A n c (bv (foldB key (bytesOf (L.take j)))) ∧ Below w.heap.size w wr

set_option maxRecDepth 100000 in
set_option maxHeartbeats 4000000 in
theorem Fold_any (key : List UInt8) (L : List ByteArray) (A : Option Addr) (n c B : Nat) (LA : Option Addr) (lc : Nat) (R : Nat → Prop) (w : World) (hr : Reads w B 1 A n (bv key)) (hB : B ≤ w.heap.size) (hn : n ≤ 140737488351232) (hp : Strs w R LA L) (hR : ∀ k, R k → k < w.heap.size)
    (hlen : L.length ≤ 140737488351232) (hsz : ∀ s ∈ L, s.size ≤ 140737488351232) :
    Calls Try.prog 25 #[.slice A n c, .slice LA L.length lc] w (RowOut (foldB key (bytesOf L)) w) := by
  have hkl : key.length = n := by have := hr.1; rw [length_bv] at this; omega
  have hc := Lib.hid (bClone_any A n c B key w hr hB (by omega))
  have HKL := Lib.hid hkl
  have HP := Lib.hid hp
  have HR := Lib.hid hR
  have HSZ := Lib.hid hsz
  clear hr hkl hp hR hsz
  go_enter Try.func25, Try.ntmps25
  go_wp2_with fail
  refine hc.out.mono ?_
  rintro e w1 ⟨A1, c1, rfl, hrow1, hb1⟩
  have HST := Lib.hid (show FoldRel w key L (.slice A1 key.length c1) (.int .i64 0) w1 from ⟨0, A1, _, c1, Nat.zero_le _, rfl, rfl, hrow1, hb1⟩)
  clear hrow1 hb1 hc
  go_wp2_with fail
  go_loopw [5, 7, 12] (fun s5 _ i wr => FoldRel w key L s5 i wr) (fun _ _ i _ => L.length - (intOf i).toNat)
  case atStart => exact HST.out
  case round =>
    clear HST
    obtain ⟨j, A2, n2, c2, hj, rfl, rfl, hrow, hb⟩ := hrel
    have hs2 := hb.size
    by_cases hlt : j < L.length
    · obtain ⟨pb, po, hPA, hpR, hpc⟩ := (HP.out.keep fun k hk => hb.block k (HR.out k hk)) (by omega)
      have hcj := hpc j hlt
      have hsj := HSZ.out L[j] (List.getElem_mem hlt)
      have HFN := Lib.hid (fold_next key L j hlt)
      have hfl := fold_le key (by rw [HKL.out]; exact hn) (bytesOf (L.take j))
      generalize foldB key (bytesOf (L.take j)) = kk at hrow HFN hfl
      generalize L[j] = s at hcj hsj HFN
      have hkn : kk.length = n2 := by have := hrow.1; rw [length_bv] at this; omega
      have hn2 : n2 ≤ 140737488351232 := by omega
      have HROW := Lib.hid hrow
      have HB := Lib.hid hb
      clear hpc hfl hkn hrow hb
      subst hPA
      go_wp2_with fail
      refine (eight_any _ _).mono ?_
      rintro e w3 ⟨A3, c3, rfl, hrow3, hb3⟩
      obtain ⟨c4, w4, hrun4, hrow4, hb4⟩ := run_bytes_str (P := Try.prog) Try.underlying9 Try.underlying22 Try.underlying5 s (by unfold maxLen; omega) w3
      have HROW3 := Lib.hid hrow3
      have HB3 := Lib.hid hb3
      have HROW4 := Lib.hid hrow4
      have HB4 := Lib.hid hb4
      clear hrow3 hb3 hrow4 hb4
      go_wp2_with fail
      have hs3 := HB3.out.size
      have hs4 := HB4.out.size
      have hb34 := HB3.out.trans (HB4.out.mono hs3)
      have hm := Mac_any kk [Sha.eight s.size, s.data.toList] A2 n2 c2 wr.heap.size _ 2 _ (w4.alloc _) (((HROW.out.reads.below hb34).alloc (by omega) _)) (by simp; omega) hn2
        (Parts.two (t := 22) (R := fun k => k < w4.heap.size) (Part.of_row (HROW3.out.below HB4.out (Nat.le_refl _)) (by simp [Sha.length_eight]) fun ad e => by have := (HROW3.out.lt ad e).2; omega) (Part.of_row HROW4.out hsj fun ad e => (HROW4.out.lt ad e).2) (fun k hk => hk))
        (fun k hk => by simp; omega) (by simp) (by simp [Sha.length_eight]; omega)
      rw [show macB kk [Sha.eight s.size, s.data.toList].flatten = foldB key (bytesOf (L.take (j + 1))) by rw [HFN.out]; simp] at hm
      refine hm.mono ?_
      rintro e w5 ⟨A5, c5, rfl, hrow5, hb5⟩
      have HNX := Lib.hid (show FoldRel w key L (.slice A5 (foldB key (bytesOf (L.take (j + 1)))).length c5) (.int .i64 ((j : Int) + 1)) w5 from
        ⟨j + 1, A5, _, c5, by omega, by go_num, rfl, hrow5.mono (by simp; omega), ((HB.out.trans (hb34.mono hs2)).alloc (by omega) _).trans (hb5.mono (by simp; omega))⟩)
      clear hrow5 hb5 hm hb34
      go_wp2_with fail
      go_roundw
      case rel => exact HNX.out
      case measure => simp [intOf]; omega
    · obtain rfl : j = L.length := by omega
      have hl : (foldB key (bytesOf L)).length = n2 := by have := hrow.1; rw [length_bv, List.take_length] at this; omega
      rw [List.take_length] at hrow
      have HROW := Lib.hid hrow
      have HB := Lib.hid hb
      have HL := Lib.hid hl
      clear hrow hb hl
      go_wp2_with fail
      go_ret
      exact ⟨A2, c2, by rw [HL.out]; rfl, by rw [HL.out]; exact HROW.out, HB.out⟩
end Go.Proofs.Ytbjlmodabiadfaa
