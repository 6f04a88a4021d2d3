/- THE WALK of the law VaultPlays. -/
import Derived.Test.YtogpnlfbdhddmaaGreatDoorHVauPlayC
import Derived.Deep.QuietTactic
namespace Go.Proofs.YtogpnlfbdhddmaaGreatDoor
open Go.RowKit

theorem vstr_info : (Tryz.prog.info? 9).map (fun i => (i.zero, i.size, i.bytes)) = some (some (.string ⟨#[]⟩), 1, 16) := by kernel_rfl
theorem vplay_row {w1 w2 : World} {g n : Nat} {l : List UInt8} (hl : l.length = n) (hr : Row w2 w1.heap.size 1 (some ⟨g, 0, none⟩) (n + 1) (n + 1) (bv (l ++ [77]))) : Row w2 w1.heap.size 1 (some ⟨g, 0, none⟩) n (n + 1) (bv l) := by
  have h := hr.take (k := n) (by omega)
  rw [Nat.mul_one, bv_append, List.take_append_of_le_length (by rw [length_bv]; omega), List.take_of_length_le (by rw [length_bv]; omega)] at h
  exact h
theorem vau_only {w w' : World} {vb : Nat} {X S : Nat → Prop} {m : List UInt8} {t now : Nat} {o : Obj} (h : VauAt w vb X m t now) (ho : Only S (w.alloc o) w') (h1 : ¬ S vb) (h2 : ∀ k, X k → k < w.heap.size → ¬ S k) : VauAt w' vb (fun k => X k ∧ k < w.heap.size) m t now :=
  (h.within.below (B := w.heap.size) ((Below.refl _ _).alloc (Nat.le_refl _) o) (Nat.le_refl _)).grew (Grew.of_only ho) h1 fun k hk => h2 k hk.1 hk.2
/-- Behind so many acts. -/
def PlayRel (w : World) (vb xb B U : Nat) (m : List UInt8) (t N : Nat) (s16 s17 : Value) (wr : World) : Prop :=
  ∃ (k now : Nat) (X : Nat → Prop) (A : Option Addr) (c : Nat) (Y : List ByteArray), k ≤ N ∧ k ≤ 40 ∧ Y.length ≤ k ∧ (∀ y ∈ Y, y.size ≤ 30) ∧ s16 = .slice A Y.length c ∧ s17 = .int .i64 k ∧ VOk m t now ∧ PW w vb xb B U m t X now now A c Y wr
set_option maxRecDepth 100000 in
set_option maxHeartbeats 8000000 in
theorem VaultPlays_walk (A : Option Addr) (n c : Nat) (m : List UInt8) (t v : Int) (A3 : Option Addr) (N c3 : Nat) (L : List VAct) (w : World) (hrk : Reads w w.heap.size 1 A n (bv m)) (hc : n ≤ c ∧ c ≤ 140737488351232) (hL : L.length = N) (hact : Acts w A3 L) (hN : N ≤ c3 ∧ c3 ≤ 140737488351232) (htx : ∀ r ∈ L, -9223372036854775808 ≤ r.kind ∧ r.kind ≤ 9223372036854775807 ∧ -9223372036854775808 ≤ r.num ∧ r.num ≤ 9223372036854775807 ∧ r.text.size ≤ maxLen) (ht : Tab w) :
    Calls Tryz.prog 5 #[.slice A n c, .int .i64 t, .int .i64 v, .slice A3 N c3] w fun e w' => e = .returned (.bool true) ∧ Below w.heap.size w w' := by
  obtain ⟨hc1, hc2⟩ := hc
  obtain ⟨hN1, hN2⟩ := hN
  obtain ⟨si, si0, si1, si2, si3⟩ := info_parts vstr_info
  have HSI := Lib.hid (And.intro si0 (And.intro si1 (And.intro si2 si3)))
  have HLK := Lib.hid (show m.length = n by have := hrk.1; rw [length_bv] at this; omega)
  have HRK := Lib.hid hrk
  have HT := Lib.hid ht
  have HACT := Lib.hid hact
  have HL := Lib.hid hL
  have HTX := Lib.hid htx
  clear hrk ht hact hL htx si0 si1 si2 si3
  go_enter Tryz.func5, Tryz.ntmps5
  go_wp2_with fail
  refine (small14_any _ HT.out).mono ?_
  rintro e w1 ⟨rfl, hb1⟩
  have HB1 := Lib.hid hb1
  have HLN1 := Lib.hid (Lent_any A n c _ m w1 (HRK.out.below hb1) hb1.size (by omega))
  clear hb1
  go_wp2_with fail
  refine HLN1.out.mono ?_
  rintro e w2 ⟨rfl, hrow2, hb2⟩
  have HR2 := Lib.hid hrow2
  have HB2 := Lib.hid (thenB HB1.out hb2)
  have hs1 := HB1.out.size
  have hs2 : w1.heap.size < w2.heap.size := (hrow2.lt _ rfl).2
  have HNW := Lib.hid (New_vau m (some ⟨w1.heap.size, 0, none⟩) n (n + 1) w2.heap.size t v w2 (vplay_row HLK.out hrow2).reads (Nat.le_refl _) (HT.out.below (thenB HB1.out hb2)))
  clear hrow2 hb2 HLN1
  go_wp2_with fail
  refine HNW.out.mono ?_
  rintro e w3 ⟨hb3, hcase⟩
  have HB3 := Lib.hid (thenB HB2.out hb3)
  have hs3 := hb3.size
  have HR3 := Lib.hid (HR2.out.below hb3 (Nat.le_refl _))
  have HKE := Lib.hid (Kept_yes A n c _ _ w1.heap.size m w3 HR3.out.reads (HRK.out.below HB3.out) (by omega))
  have hlit : OwnedRows (w3.alloc (.cells ([((some ⟨w1.heap.size, 0, none⟩, n, n + 1) : Sl)].map Sl.val).toArray 27)) w3.heap.size [(some ⟨w1.heap.size, 0, none⟩, n, n + 1)] :=
    owned_lit (by intro x hx; simp at hx; rcases hx with rfl; exact ⟨_, _, vplay_row HLK.out HR3.out⟩) (by simp)
  have HOW := Lib.hid (Owned_any _ 1 _ _ hlit (by simp))
  have HBO := Lib.hid (show ∀ k, blocksOf [((some ⟨w1.heap.size, 0, none⟩, n, n + 1) : Sl)] k → k = w1.heap.size from fun k hk => by
    obtain ⟨x, hx, a, e, _, hk2⟩ := hk
    simp at hx
    rcases hx with rfl
    simp at e; subst e; simpa using hk2)
  clear hlit hb3 HNW HR2
  rcases hcase with ⟨hno, rfl⟩ | ⟨hyes, vb, rfl, hvb, hva⟩
  · have HNO := Lib.hid hno
    clear hno
    go_wp2_with fail
    refine HKE.out.mono ?_
    rintro e w4 ⟨rfl, rfl⟩
    go_wp2_with fail
    refine HOW.out.mono ?_
    rintro e w5 ⟨rfl, ho⟩
    have HB5 := Lib.hid ((HB3.out.alloc HB3.out.size _).trans (ho.below (B := w.heap.size) (fun k hk => by have := HBO.out k hk; omega)))
    have HRN := Lib.hid (rVNew_any m A n c t v w5 ((HRK.out.below HB5.out).more HB5.out.size) (by omega))
    clear ho
    go_wp2_with fail
    refine HRN.out.mono ?_
    rintro e w6 ⟨hb6, ⟨_, rfl⟩ | ⟨h0, _⟩⟩
    · have HB6 := Lib.hid (thenB HB5.out hb6)
      clear hb6
      go_wp2_with fail
      go_ret
      exact ⟨rfl, HB6.out⟩
    · rw [HNO.out] at h0; cases h0
  obtain ⟨hv0, ht0, hv1⟩ := VOk.of_new hyes
  obtain ⟨t, rfl⟩ := Int.eq_ofNat_of_zero_le ht0
  obtain ⟨v, rfl⟩ := Int.eq_ofNat_of_zero_le hv1
  rw [Int.toNat_natCast, Int.toNat_natCast] at hva hv0
  have HVA := Lib.hid hva
  have HV0 := Lib.hid hv0
  have HYES := Lib.hid hyes
  have hvlt := hva.lt
  clear hva hv0 hyes ht0 hv1
  go_wp2_with fail
  refine HKE.out.mono ?_
  rintro e w4 ⟨rfl, rfl⟩
  go_wp2_with fail
  refine HOW.out.mono ?_
  rintro e w5 ⟨rfl, ho⟩
  have HB5 := Lib.hid ((HB3.out.alloc HB3.out.size _).trans (ho.below (B := w.heap.size) (fun k hk => by have := HBO.out k hk; omega)))
  have HV5 := Lib.hid (vau_only HVA.out ho (fun h => by have := HBO.out _ h; omega) (fun k hk _ h => by have := HBO.out _ h; omega))
  have hs5 : w3.heap.size < w5.heap.size := by have := ho.size; simp at this; omega
  have HRN := Lib.hid (rVNew_any m A n c t v w5 ((HRK.out.below HB5.out).more HB5.out.size) (by omega))
  clear ho HKE HOW HR3
  go_wp2_with fail
  refine HRN.out.mono ?_
  rintro e w6 ⟨hb6, ⟨h0, _⟩ | ⟨_, xb, rfl, hxa⟩⟩
  · rw [HYES.out] at h0; cases h0
  rw [Int.toNat_natCast, Int.toNat_natCast] at hxa
  have hs6 := hb6.size
  obtain ⟨B, hB⟩ : ∃ B, B = w5.heap.size := ⟨_, rfl⟩
  obtain ⟨U, hU⟩ : ∃ U, U = w6.heap.size := ⟨_, rfl⟩
  have HB6 := Lib.hid (thenB HB5.out hb6)
  have HST := Lib.hid (show PlayRel w vb xb B U m t N (.slice none 0 0) (.int .i64 0) w6 from ⟨0, v, _, none, 0, [], by omega, by omega, Nat.le_refl _, fun y hy => by (cases hy), rfl, rfl, HV0.out,
    ⟨HV5.out.new hb6, by rw [hB, hU]; exact hxa, Row.nil_ _ _ _, fun k hk => ⟨by omega, by omega, fun h => by omega⟩, fun ad e => by (cases e), by omega, by omega, HB6.out⟩⟩)
  clear hb6 hxa hB hU HRN HV5 HVA HV0 HYES HBO HB5 HB3 HB2 HB1 hs1 hs2 hs3 hs5 hs6 hvlt hvb HLK HRK HB6
  go_wp2_with fail
  go_loopw [16, 17] (fun s16 s17 wr => PlayRel w vb xb B U m t N s16 s17 wr) (fun _ i _ => N - (intOf i).toNat)
  case atStart => exact HST.out
  case round =>
    clear HST
    obtain ⟨k, now, X, YA, yc, Y, hk, hk4, hyk, hys, rfl, rfl, hvk, hpw⟩ := hrel
    have HVK := Lib.hid hvk
    have HPW := Lib.hid hpw
    have HYS := Lib.hid hys
    clear hvk hpw hys
    by_cases hlt : k < N ∧ k < 40
    · obtain ⟨hlt, hlt4⟩ := hlt
      have t1 : (k : Int) < (N : Int) := by omega
      have t2 : (k : Int) < 40 := by omega
      have h3 := HL.out
      obtain ⟨ab, ao, rfl, hab, hat⟩ := HACT.out (by omega)
      obtain ⟨a, ha⟩ : ∃ a, a = L[k]'(by omega) := ⟨_, rfl⟩
      obtain ⟨c0, c1, c2⟩ := hat k (by omega)
      rw [← ha] at c0 c1 c2
      obtain ⟨x1, x2, x3, x4, x5⟩ := HTX.out a (by rw [ha]; exact List.getElem_mem _)
      have hbw := HPW.out.2.2.2.2.2.2.2
      have hcell : ∀ j, wr.cell? ⟨ab, j, none⟩ = w.cell? ⟨ab, j, none⟩ := fun j => (Grew.of_new (S := fun _ => False) hbw).cell (a := ⟨ab, j, none⟩) hab (fun h => h)
      have d0 := (hcell _).trans c0
      have d1 := (hcell _).trans c1
      have d2 := (hcell _).trans c2
      clear h3 hat ha c0 c1 c2 hbw hcell
      obtain ⟨kd, nm, tx⟩ := a
      dsimp only at d0 d1 d2 x1 x2 x3 x4 x5
      have HP7 := Lib.hid (HPW.out.new ((Below.refl _ _).alloc (Nat.le_refl _) (.cells #[.int .i64 kd, .int .i64 nm, .string tx] 50)))
      by_cases k0 : kd = 0
      · subst k0
        obtain ⟨xs, er, hxe, hx30⟩ := vtR_ex m t now tx.data.toList HVK.out.2.2.2.1 HVK.out.2.2.2.2
        have HXE := Lib.hid hxe
        clear hxe
        go_wp2_with fail
        refine (pvToken HP7.out HVK.out HT.out tx x5).mono ?_
        rw [HXE.out]
        rintro e w8 ⟨rfl, X2, hp8⟩
        have HP8 := Lib.hid hp8
        clear hp8
        go_wp2_with fail
        refine (pxToken HP8.out HVK.out tx x5).mono ?_
        rw [HXE.out]
        rintro e w9 ⟨rfl, hp9⟩
        have HP9 := Lib.hid hp9
        clear hp9
        have n1 : (er != er) = false := by simp
        by_cases her : er = 0
        · subst her
          have hx := hx30 rfl
          have HP10 := Lib.hid (HP9.out.new ((Below.refl _ _).alloc (Nat.le_refl _) (.cells #[.string xs] 9)))
          have HYX := Lib.hid (show ∀ y ∈ Y ++ [xs], y.size ≤ 30 from fun y hy => by
            rcases List.mem_append.1 hy with h | h
            · exact HYS.out y h
            · simp at h; subst h; exact hx)
          have HLIT := Lib.hid (Row.lit w9 #[.string xs] 9 (n := 1) (base := w9.heap.size) (size := 1) rfl (Nat.le_refl _) (by unfold maxLen; omega)).reads
          have hU9 := HP10.out.size.2.2.2.2
          obtain ⟨si0, si1, si2, si3⟩ := HSI.out
          clear hx30 hx
          go_wp2_with (at_builtin; refine wpList_append_row rfl (.tmp 142) (.tmp 144) rfl Tryz.underlying48 si0 si1 si2 si3 rfl (by decide) rfl HP10.out.2.2.1 rfl HLIT.out (by intro v hv; simp at hv; subst hv; rfl) (by unfold maxLen; omega) (by omega) hU9 ?_; intro A2 c2 w10 hrow10 hgr10 hat10; have HP11 := Lib.hid (HP10.out.push hrow10 hgr10 hat10); clear hrow10 hgr10 hat10)
          have cV := HP11.out.cellV
          go_quiet ((go_at_call 11; exact Calls.quiet_of_same (HP11.out.verQ _)))
          clear cV
          go_wp2_with fail
          go_roundw
          case rel => exact ⟨k + 1, now, X2, _, _, _, by omega, by omega, by (first | omega | (simp; omega)), HYX.out, by (first | rfl | simp), by go_num, HVK.out, HP11.out.new (below_drewN (Below.refl _ _) _)⟩
          case measure => simp [intOf]; omega
        · have e1 : (er == 0) = false := beq_eq_false_iff_ne.2 her
          clear hx30
          go_wp2_with fail
          have cV := HP9.out.cellV
          go_quiet ((go_at_call 11; exact Calls.quiet_of_same (HP9.out.verQ _)))
          clear cV
          go_wp2_with fail
          go_roundw
          case rel => exact ⟨k + 1, now, X2, _, _, _, by omega, by omega, by (first | omega | (simp; omega)), HYS.out, by (first | rfl | simp), by go_num, HVK.out, HP9.out.new (below_drewN (Below.refl _ _) _)⟩
          case measure => simp [intOf]; omega
      by_cases k1 : kd = 1
      · subst k1
        obtain ⟨xs, er, hxe⟩ := vbR_ex m t now tx.data.toList
        have HXE := Lib.hid hxe
        have n1 : (er != er) = false := by simp
        clear hxe
        go_wp2_with fail
        refine (pvBack HP7.out HVK.out HT.out tx x5).mono ?_
        rw [HXE.out]
        rintro e w8 ⟨rfl, X2, hp8⟩
        have HP8 := Lib.hid hp8
        clear hp8
        go_wp2_with fail
        refine (pxBack HP8.out HVK.out tx x5).mono ?_
        rw [HXE.out]
        rintro e w9 ⟨rfl, hp9⟩
        have HP9 := Lib.hid hp9
        clear hp9
        go_wp2_with fail
        have cV := HP9.out.cellV
        go_quiet ((go_at_call 11; exact Calls.quiet_of_same (HP9.out.verQ _)))
        clear cV
        go_wp2_with fail
        go_roundw
        case rel => exact ⟨k + 1, now, X2, _, _, _, by omega, by omega, by (first | omega | (simp; omega)), HYS.out, by (first | rfl | simp), by go_num, HVK.out, HP9.out.new (below_drewN (Below.refl _ _) _)⟩
        case measure => simp [intOf]; omega
      by_cases k2 : kd = 2
      · subst k2
        by_cases h255 : now = 255
        · go_wp2_with fail
          refine (pvRot_no HP7.out h255).mono ?_
          rintro e w8 ⟨rfl, hw⟩
          have HP8 := Lib.hid (show PW w vb xb B U m t X now now YA yc Y w8 from hw ▸ HP7.out)
          clear hw
          go_wp2_with fail
          refine (pxRot_no HP8.out h255).mono ?_
          rintro e w9 ⟨rfl, hw⟩
          have HP9 := Lib.hid (show PW w vb xb B U m t X now now YA yc Y w9 from hw ▸ HP8.out)
          clear hw
          go_wp2_with fail
          have cV := HP9.out.cellV
          go_quiet ((go_at_call 11; exact Calls.quiet_of_same (HP9.out.verQ _)))
          clear cV
          go_wp2_with fail
          go_roundw
          case rel => exact ⟨k + 1, now, X, _, _, _, by omega, by omega, by (first | omega | (simp; omega)), HYS.out, by (first | rfl | simp), by go_num, HVK.out, HP9.out.new (below_drewN (Below.refl _ _) _)⟩
          case measure => simp [intOf]; omega
        · have hnow := HVK.out.2.2.2.2
          go_wp2_with fail
          refine (pvRot_yes HP7.out (by omega)).mono ?_
          rintro e w8 ⟨rfl, hp8⟩
          have HP8 := Lib.hid hp8
          clear hp8
          go_wp2_with fail
          refine (pxRot_yes HP8.out (by omega)).mono ?_
          rintro e w9 ⟨rfl, hp9⟩
          have HP9 := Lib.hid hp9
          have HVK2 := Lib.hid (show VOk m t (now + 1) from ⟨HVK.out.1, HVK.out.2.1, HVK.out.2.2.1, by omega, by omega⟩)
          clear hp9
          go_wp2_with fail
          have cV := HP9.out.cellV
          go_quiet ((go_at_call 11; exact Calls.quiet_of_same (HP9.out.verQ _)))
          clear cV
          go_wp2_with fail
          go_roundw
          case rel => exact ⟨k + 1, now + 1, X, _, _, _, by omega, by omega, by (first | omega | (simp; omega)), HYS.out, by (first | rfl | simp), by go_num, HVK2.out, HP9.out.new (below_drewN (Below.refl _ _) _)⟩
          case measure => simp [intOf]; omega
      by_cases k3 : kd = 3
      · subst k3
        obtain ⟨xs, er, hxe⟩ := vnR_ex m t now tx.data.toList
        have HXE := Lib.hid hxe
        have n1 : (er != er) = false := by simp
        clear hxe
        go_wp2_with fail
        refine (pvRenew HP7.out HVK.out HT.out tx x5).mono ?_
        rw [HXE.out]
        rintro e w8 ⟨rfl, X2, hp8⟩
        have HP8 := Lib.hid hp8
        clear hp8
        go_wp2_with fail
        refine (pxRenew HP8.out HVK.out tx x5).mono ?_
        rw [HXE.out]
        rintro e w9 ⟨rfl, hp9⟩
        have HP9 := Lib.hid hp9
        clear hp9
        go_wp2_with fail
        have cV := HP9.out.cellV
        go_quiet ((go_at_call 11; exact Calls.quiet_of_same (HP9.out.verQ _)))
        clear cV
        go_wp2_with fail
        go_roundw
        case rel => exact ⟨k + 1, now, X2, _, _, _, by omega, by omega, by (first | omega | (simp; omega)), HYS.out, by (first | rfl | simp), by go_num, HVK.out, HP9.out.new (below_drewN (Below.refl _ _) _)⟩
        case measure => simp [intOf]; omega
      by_cases k4 : kd = 4
      · subst k4
        by_cases hl : 0 < Y.length
        · have hl0 : (0 : Int) < (Y.length : Int) := by omega
          obtain ⟨yb, yo, i, x, rfl, hi, hix, hxc, hx30⟩ := made_at HP7.out.2.2.1 hl (by omega) HYS.out nm
          have hi1 : (i : Int) < (Y.length : Int) := by omega
          have hi0 : (0 : Int) ≤ (i : Int) := by omega
          have hxm : x.size ≤ maxLen := by unfold maxLen; omega
          clear hx30
          obtain ⟨xs, er, hxe⟩ := vbR_ex m t now x.data.toList
          have HXE := Lib.hid hxe
          have n1 : (er != er) = false := by simp
          clear hxe
          go_wp2_with fail
          refine (pvBack HP7.out HVK.out HT.out x hxm).mono ?_
          rw [HXE.out]
          rintro e w8 ⟨rfl, X2, hp8⟩
          have HP8 := Lib.hid hp8
          clear hp8
          go_wp2_with fail
          refine (pxBack HP8.out HVK.out x hxm).mono ?_
          rw [HXE.out]
          rintro e w9 ⟨rfl, hp9⟩
          have HP9 := Lib.hid hp9
          clear hp9
          go_wp2_with fail
          have cV := HP9.out.cellV
          go_quiet ((go_at_call 11; exact Calls.quiet_of_same (HP9.out.verQ _)))
          clear cV
          go_wp2_with fail
          go_roundw
          case rel => exact ⟨k + 1, now, X2, _, _, _, by omega, by omega, by (first | omega | (simp; omega)), HYS.out, by (first | rfl | simp), by go_num, HVK.out, HP9.out.new (below_drewN (Below.refl _ _) _)⟩
          case measure => simp [intOf]; omega
        · have hl0 : ¬ (0 : Int) < (Y.length : Int) := by omega
          obtain ⟨xs, er, hxe⟩ := vbR_ex m t now tx.data.toList
          have HXE := Lib.hid hxe
          have n1 : (er != er) = false := by simp
          clear hxe
          go_wp2_with fail
          refine (pvBack HP7.out HVK.out HT.out tx x5).mono ?_
          rw [HXE.out]
          rintro e w8 ⟨rfl, X2, hp8⟩
          have HP8 := Lib.hid hp8
          clear hp8
          go_wp2_with fail
          refine (pxBack HP8.out HVK.out tx x5).mono ?_
          rw [HXE.out]
          rintro e w9 ⟨rfl, hp9⟩
          have HP9 := Lib.hid hp9
          clear hp9
          go_wp2_with fail
          have cV := HP9.out.cellV
          go_quiet ((go_at_call 11; exact Calls.quiet_of_same (HP9.out.verQ _)))
          clear cV
          go_wp2_with fail
          go_roundw
          case rel => exact ⟨k + 1, now, X2, _, _, _, by omega, by omega, by (first | omega | (simp; omega)), HYS.out, by (first | rfl | simp), by go_num, HVK.out, HP9.out.new (below_drewN (Below.refl _ _) _)⟩
          case measure => simp [intOf]; omega
      by_cases k5 : kd = 5
      · subst k5
        by_cases hl : 0 < Y.length
        · have hl0 : (0 : Int) < (Y.length : Int) := by omega
          obtain ⟨yb, yo, i, x, rfl, hi, hix, hxc, hx30⟩ := made_at HP7.out.2.2.1 hl (by omega) HYS.out nm
          have hi1 : (i : Int) < (Y.length : Int) := by omega
          have hi0 : (0 : Int) ≤ (i : Int) := by omega
          have hxm : x.size ≤ maxLen := by unfold maxLen; omega
          clear hx30
          obtain ⟨xs, er, hxe⟩ := vnR_ex m t now x.data.toList
          have HXE := Lib.hid hxe
          have n1 : (er != er) = false := by simp
          clear hxe
          go_wp2_with fail
          refine (pvRenew HP7.out HVK.out HT.out x hxm).mono ?_
          rw [HXE.out]
          rintro e w8 ⟨rfl, X2, hp8⟩
          have HP8 := Lib.hid hp8
          clear hp8
          go_wp2_with fail
          refine (pxRenew HP8.out HVK.out x hxm).mono ?_
          rw [HXE.out]
          rintro e w9 ⟨rfl, hp9⟩
          have HP9 := Lib.hid hp9
          clear hp9
          go_wp2_with fail
          have cV := HP9.out.cellV
          go_quiet ((go_at_call 11; exact Calls.quiet_of_same (HP9.out.verQ _)))
          clear cV
          go_wp2_with fail
          go_roundw
          case rel => exact ⟨k + 1, now, X2, _, _, _, by omega, by omega, by (first | omega | (simp; omega)), HYS.out, by (first | rfl | simp), by go_num, HVK.out, HP9.out.new (below_drewN (Below.refl _ _) _)⟩
          case measure => simp [intOf]; omega
        · have hl0 : ¬ (0 : Int) < (Y.length : Int) := by omega
          obtain ⟨xs, er, hxe⟩ := vnR_ex m t now tx.data.toList
          have HXE := Lib.hid hxe
          have n1 : (er != er) = false := by simp
          clear hxe
          go_wp2_with fail
          refine (pvRenew HP7.out HVK.out HT.out tx x5).mono ?_
          rw [HXE.out]
          rintro e w8 ⟨rfl, X2, hp8⟩
          have HP8 := Lib.hid hp8
          clear hp8
          go_wp2_with fail
          refine (pxRenew HP8.out HVK.out tx x5).mono ?_
          rw [HXE.out]
          rintro e w9 ⟨rfl, hp9⟩
          have HP9 := Lib.hid hp9
          clear hp9
          go_wp2_with fail
          have cV := HP9.out.cellV
          go_quiet ((go_at_call 11; exact Calls.quiet_of_same (HP9.out.verQ _)))
          clear cV
          go_wp2_with fail
          go_roundw
          case rel => exact ⟨k + 1, now, X2, _, _, _, by omega, by omega, by (first | omega | (simp; omega)), HYS.out, by (first | rfl | simp), by go_num, HVK.out, HP9.out.new (below_drewN (Below.refl _ _) _)⟩
          case measure => simp [intOf]; omega
      have f0 : (kd == 0) = false := beq_eq_false_iff_ne.2 k0
      have f1 : (kd == 1) = false := beq_eq_false_iff_ne.2 k1
      have f2 : (kd == 2) = false := beq_eq_false_iff_ne.2 k2
      have f3 : (kd == 3) = false := beq_eq_false_iff_ne.2 k3
      have f4 : (kd == 4) = false := beq_eq_false_iff_ne.2 k4
      have f5 : (kd == 5) = false := beq_eq_false_iff_ne.2 k5
      clear k0 k1 k2 k3 k4 k5
      by_cases h4 : 4 ≤ kd
      · by_cases hl : 0 < Y.length
        · have hl0 : (0 : Int) < (Y.length : Int) := by omega
          obtain ⟨yb, yo, i, x, rfl, hi, hix, hxc, hx30⟩ := made_at HP7.out.2.2.1 hl (by omega) HYS.out nm
          have hi1 : (i : Int) < (Y.length : Int) := by omega
          have hi0 : (0 : Int) ≤ (i : Int) := by omega
          have hxm : x.size ≤ maxLen := by unfold maxLen; omega
          clear hx30
          go_wp2_with fail
          have cV := HP7.out.cellV
          go_quiet ((go_at_call 11; exact Calls.quiet_of_same (HP7.out.verQ _)))
          clear cV
          go_wp2_with fail
          go_roundw
          case rel => exact ⟨k + 1, now, X, _, _, _, by omega, by omega, by (first | omega | (simp; omega)), HYS.out, by (first | rfl | simp), by go_num, HVK.out, HP7.out.new (below_drewN (Below.refl _ _) _)⟩
          case measure => simp [intOf]; omega
        · have hl0 : ¬ (0 : Int) < (Y.length : Int) := by omega
          go_wp2_with fail
          have cV := HP7.out.cellV
          go_quiet ((go_at_call 11; exact Calls.quiet_of_same (HP7.out.verQ _)))
          clear cV
          go_wp2_with fail
          go_roundw
          case rel => exact ⟨k + 1, now, X, _, _, _, by omega, by omega, by (first | omega | (simp; omega)), HYS.out, by (first | rfl | simp), by go_num, HVK.out, HP7.out.new (below_drewN (Below.refl _ _) _)⟩
          case measure => simp [intOf]; omega
      · go_wp2_with fail
        have cV := HP7.out.cellV
        go_quiet ((go_at_call 11; exact Calls.quiet_of_same (HP7.out.verQ _)))
        clear cV
        go_wp2_with fail
        go_roundw
        case rel => exact ⟨k + 1, now, X, _, _, _, by omega, by omega, by (first | omega | (simp; omega)), HYS.out, by (first | rfl | simp), by go_num, HVK.out, HP7.out.new (below_drewN (Below.refl _ _) _)⟩
        case measure => simp [intOf]; omega
    · have HN0 := Lib.hid (HPW.out.2.2.2.2.2.2.2)
      obtain ⟨_, _, _, MA, mc, h4, _, _⟩ := HPW.out.2.1
      have c2 : wr.cell? ⟨xb, 2, none⟩ = some (.int .i64 now) := h4.cell 2
      clear h4
      by_cases hl : k < N
      · have t1 : (k : Int) < (N : Int) := by omega
        have t2 : ¬ (k : Int) < 40 := by omega
        go_wp2_with fail
        go_quiet ((go_at_call 11; exact Calls.quiet_of_same (HPW.out.verQ _)))
        go_wp2_with fail
        go_ret
        exact ⟨rfl, below_drewN HN0.out _⟩
      · have t1 : ¬ (k : Int) < (N : Int) := by omega
        go_wp2_with fail
        go_quiet ((go_at_call 11; exact Calls.quiet_of_same (HPW.out.verQ _)))
        go_wp2_with fail
        go_ret
        exact ⟨rfl, below_drewN HN0.out _⟩
end Go.Proofs.YtogpnlfbdhddmaaGreatDoor
