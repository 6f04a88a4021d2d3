/- THE WALK of the reference's folding. -/
import Derived.Test.YtogpnlfbdhddmaaGreatDoorHRefMac
import Derived.Test.YtogpnlfbdhddmaaGreatDoorGMac
import Derived.Test.YtogpnlfbdhddmaaGreatDoorHRowStr
namespace Go.Proofs.YtogpnlfbdhddmaaGreatDoor
open Go.RowKit

attribute [local go_sem ↓] Go.wp_at_zero Go.wp_at_succ
theorem fold_le2 (k : List UInt8) (hk : k.length ≤ 140737488351232) : ∀ L, (foldB k L).length ≤ 140737488351232
  | [] => hk
  | s :: r => fold_le2 (macB k (Sha.eight s.length ++ s)) (by rw [length_macB]; omega) r
theorem fold_call {wr w4 : World} {base n2 c2 : Nat} {A2 A4 : Option Addr} {c4 : Nat} {kk out : List UInt8} {s : ByteArray} (hrow : Row wr base 1 A2 n2 c2 (bv kk)) (hb : Below wr.heap.size wr w4) (hrow4 : Row w4 wr.heap.size 1 A4 (8 + s.size) c4 (bv (Sha.eight s.size) ++ bv s.data.toList))
    (hf : out = macB kk (Sha.eight s.data.toList.length ++ s.data.toList)) (hn2 : n2 ≤ 140737488351232) (hsj : s.size ≤ 70368744170000) (c : Nat) : Calls Tryz.prog 105 #[.slice A2 n2 c, .slice A4 (8 + s.size) c4] w4 (RowOut out w4) := by
  rw [← bv_append] at hrow4
  have h := rMac_any A2 n2 c w4.heap.size kk A4 (8 + s.size) c4 (Sha.eight s.size ++ s.data.toList) w4 ((hrow.reads.below hb).more hb.size) hrow4.reads (Nat.le_refl _) hn2 (by omega)
  rw [show Sha.eight (s.size : Int) = Sha.eight (s.data.toList.length : Int) by rw [show s.data.toList.length = s.size from by rw [← length_bv]; exact length_str s], ← hf] at h
  exact h
set_option maxRecDepth 100000 in
set_option maxHeartbeats 4000000 in
theorem rFold_any (key : List UInt8) (L : List ByteArray) (A : Option Addr) (n c B : Nat) (LA : Option Addr) (lc : Nat) (R : Nat → Prop) (w : World) (hr : Reads w B 1 A n (bv key)) (hB : B ≤ w.heap.size) (hn : n ≤ 140737488351232) (hp : Strs w R LA L) (hR : ∀ k, R k → k < w.heap.size)
    (hlen : L.length ≤ 140737488351232) (hsz : ∀ s ∈ L, s.size ≤ 70368744170000) :
    Calls Tryz.prog 72 #[.slice A n c, .slice LA L.length lc] w (RowOut (foldB key (bytesOf L)) w) := by
  obtain ⟨i0, hi, hz0, hz1, hz2⟩ := info_parts byte_info
  have hkl : key.length = n := by have := hr.1; rw [length_bv] at this; omega
  have HKL := Lib.hid hkl
  have HRD := Lib.hid hr
  have HP := Lib.hid hp
  have HR := Lib.hid hR
  have HSZ := Lib.hid hsz
  clear hr hkl hp hR hsz
  go_enter Tryz.func72, Tryz.ntmps72
  go_wp2_with (at_builtin; refine wpList_append_row rfl (.tmp 7) (.tmp 8) rfl Tryz.underlying27 hi hz0 hz1 hz2 rfl (by decide) rfl (Row.lit w #[] 5 (n := 0) (base := w.heap.size) (size := 1) rfl (Nat.le_refl _) (by unfold maxLen; omega)) rfl (HRD.out.alloc hB _) (bv_one _) (by unfold maxLen; omega) (by omega) (by simp) ?_; intro A7 c7 w7 hrow7 hgr7 hat7; have HB7 := Lib.hid (show Below w.heap.size w w7 from ((Below.refl _ _).alloc (Nat.le_refl _) _).grown hgr7 (by simp) (fun k hk => by simp at hk; omega)); have HR7 := Lib.hid (show Row w7 w.heap.size 1 A7 n c7 (bv key) from by simpa using hrow7); clear hrow7 hgr7 hat7)
  go_loopw [5, 6] (fun s5 i wr => FoldRel w key L s5 i wr) (fun _ i _ => L.length - (intOf i).toNat)
  case atStart => exact ⟨0, A7, n, c7, Nat.zero_le _, rfl, rfl, HR7.out, HB7.out⟩
  case round =>
    clear HR7 HB7
    obtain ⟨j, A2, n2, c2, hj, rfl, rfl, hrow, hb⟩ := hrel
    have hs2 := hb.size
    by_cases hlt : j < L.length
    · obtain ⟨pb, po, hPA, hpR, hpc⟩ := (HP.out.keep fun k hk => hb.block k (HR.out k hk)) (by omega)
      have hpl := HR.out pb hpR
      have hcj := hpc j hlt
      have hsj := HSZ.out L[j] (List.getElem_mem hlt)
      have HFN := Lib.hid (fold_next key L j hlt)
      have hfl := fold_le2 key (by rw [HKL.out]; exact hn) (bytesOf (L.take j))
      generalize foldB key (bytesOf (L.take j)) = kk at hrow HFN hfl
      generalize L[j] = s at hcj hsj HFN
      have hkn : kk.length = n2 := by have := hrow.1; rw [length_bv] at this; omega
      have hn2 : n2 ≤ 140737488351232 := by omega
      have HROW := Lib.hid hrow
      have HB := Lib.hid hb
      have hjL : (j : Int) < L.length := by omega
      have hj0 : (0 : Int) ≤ (j : Int) := by omega
      clear hpc hfl hkn hrow hb
      subst hPA
      go_wp2_with fail
      go_region_held3 (fun w' => w'.cell? ⟨pb, po + j, none⟩ = some (.string s))
        (go_keep)
        (first
          | (go_at_call 106; refine (rEight_any _ _).mono ?_; rintro e w3 ⟨A3, c3, rfl, hrow3, hb3⟩; have hk3 := (hb3.cell (p := ⟨pb, po + j, none⟩) (by show pb < wr.heap.size; omega)).trans hcj; have HROW3 := Lib.hid (show Row w3 wr.heap.size 1 A3 8 c3 (bv (Sha.eight s.size)) from hrow3); have HB3 := Lib.hid (show Below wr.heap.size wr w3 from (Below.refl _ _).drew.trans hb3); have hs3 := HB3.out.size; clear hrow3 hb3)
          | (refine step_append_row_str (by rfl) (.tmp 22) (.tmp 26) (by rfl) Tryz.underlying27 Tryz.underlying9 hi hz0 hz1 hz2 (by rfl) HROW3.out (by rfl) (by unfold maxLen; omega) (by omega) (by omega) ?_; intro A4 c4 w4 hrow4 hgr4 hat4; have HROW4 := Lib.hid hrow4; have HB4 := Lib.hid (HB3.out.grown hgr4 (by omega) HROW3.out.blocks); have hk4 := (HB4.out.cell (p := ⟨pb, po + j, none⟩) (by show pb < wr.heap.size; omega)).trans hcj; have HMAC := Lib.hid (fold_call HROW.out HB4.out hrow4 HFN.out hn2 hsj); clear hrow4 hgr4 hat4)
          | (go_at_call 105; refine (HMAC.out c2).mono ?_; rintro e w5 ⟨A5, c5, rfl, hrow5, hb5⟩; have hk5 := (hb5.cell (p := ⟨pb, po + j, none⟩) (by have := HB4.out.size; show pb < _; omega)).trans hk4; have HROW5 := Lib.hid hrow5; have HB5 := Lib.hid (HB4.out.trans (hb5.mono HB4.out.size)); clear hrow5 hb5))
      have HNX := Lib.hid (show FoldRel w key L (.slice A5 (foldB key (bytesOf (L.take (j + 1)))).length c5) (.int .i64 ((j : Int) + 1)) w5 from
        ⟨j + 1, A5, _, c5, by omega, by go_num, rfl, HROW5.out.mono (Nat.le_trans hs2 HB4.out.size), HB.out.trans (HB5.out.mono hs2)⟩)
      clear HROW5 HB5 HMAC HROW3 HROW4 HB4 HB3
      go_wp2_with fail
      go_roundw
      case rel => exact HNX.out
      case measure => simp [intOf]; omega
    · obtain rfl : j = L.length := by omega
      have hl : (foldB key (bytesOf L)).length = n2 := by have := hrow.1; rw [length_bv, List.take_length] at this; omega
      rw [List.take_length] at hrow
      have HROW := Lib.hid hrow
      have HB := Lib.hid hb
      have HL := Lib.hid hl
      clear hrow hb hl
      go_wp2_with fail
      go_ret
      exact ⟨A2, c2, by rw [HL.out]; rfl, by rw [HL.out]; exact HROW.out, HB.out⟩
end Go.Proofs.YtogpnlfbdhddmaaGreatDoor
