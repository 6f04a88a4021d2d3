/- THE WALK of the law FfxCodes. -/
import Derived.Test.YtiijjpjkfiookaaGreatDoorGFfx
import Derived.Test.YtiijjpjkfiookaaGreatDoorHRFfx3
import Derived.Test.YtiijjpjkfiookaaGreatDoorGMem
namespace Go.Proofs.YtiijjpjkfiookaaGreatDoor
open Go.RowKit

/-- A lent copy has been looked at: without the byte behind it. -/
theorem lent_row2 {w1 w2 : World} {g n : Nat} {l : List UInt8} (hl : l.length = n) (hr : Row w2 w1.heap.size 1 (some ⟨g, 0, none⟩) (n + 1) (n + 1) (bv (l ++ [77]))) : Row w2 w1.heap.size 1 (some ⟨g, 0, none⟩) n (n + 1) (bv l) := by
  have h := hr.take (k := n) (by omega)
  rw [Nat.mul_one, bv_append, List.take_append_of_le_length (by rw [length_bv]; omega), List.take_of_length_le (by rw [length_bv]; omega)] at h
  exact h
theorem cip_only {w w' : World} {cb : Nat} {X S : Nat → Prop} {key tw : List UInt8} {o : Obj} (h : CipAt w cb X key tw) (ho : Only S (w.alloc o) w') (h1 : ¬ S cb) (h2 : ∀ k, X k → k < w.heap.size → ¬ S k) : CipAt w' cb (fun k => X k ∧ k < w.heap.size) key tw :=
  (h.within.below (B := w.heap.size) ((Below.refl _ _).alloc (Nat.le_refl _) o) (Nat.le_refl _)).grew (Grew.of_only ho) h1 fun k hk => h2 k hk.1 hk.2
set_option maxRecDepth 100000 in
set_option maxHeartbeats 8000000 in
theorem FfxCodes_walk (A : Option Addr) (n c : Nat) (key : List UInt8) (T : Option Addr) (m d : Nat) (tw : List UInt8) (s : ByteArray) (w : World) (hrk : Reads w w.heap.size 1 A n (bv key)) (hc : n ≤ c ∧ c ≤ 140737488351232) (hrt : Reads w w.heap.size 1 T m (bv tw)) (hd : m ≤ d ∧ d ≤ 140737488351232) (hs : s.size ≤ maxLen) :
    Calls Tryz.prog 3 #[.slice A n c, .slice T m d, .string s] w fun e w' => e = .returned (.bool true) ∧ Below w.heap.size w w' := by
  obtain ⟨hc1, hc2⟩ := hc
  obtain ⟨hd1, hd2⟩ := hd
  have HLK := Lib.hid (show key.length = n by have := hrk.1; rw [length_bv] at this; omega)
  have HLT := Lib.hid (show tw.length = m by have := hrt.1; rw [length_bv] at this; omega)
  have HRK := Lib.hid hrk
  have HRT := Lib.hid hrt
  clear hrk hrt
  go_enter Tryz.func3, Tryz.ntmps3
  go_wp2_with fail
  refine (small10_any _).mono ?_
  rintro e w1 ⟨rfl, hb1⟩
  have HB1 := Lib.hid hb1
  have HLN1 := Lib.hid (Lent_any A n c _ key w1 (HRK.out.below hb1) hb1.size (by omega))
  clear hb1
  go_wp2_with fail
  refine HLN1.out.mono ?_
  rintro e w2 ⟨rfl, hrow2, hb2⟩
  have HR2 := Lib.hid hrow2
  have HB2 := Lib.hid (thenB HB1.out hb2)
  have HLN2 := Lib.hid (Lent_any T m d _ tw w2 (HRT.out.below HB2.out) HB2.out.size (by omega))
  have hs1 := HB1.out.size
  have hs2 : w1.heap.size < w2.heap.size := (hrow2.lt _ rfl).2
  clear hrow2 hb2
  go_wp2_with fail
  refine HLN2.out.mono ?_
  rintro e w3 ⟨rfl, hrow3, hb3⟩
  have HR3 := Lib.hid hrow3
  have HR23 := Lib.hid (HR2.out.below hb3 (Nat.le_refl _))
  have HB3 := Lib.hid (thenB HB2.out hb3)
  have hs3 : w2.heap.size < w3.heap.size := (hrow3.lt _ rfl).2
  clear hrow3 hb3
  have HNW := Lib.hid (New_cip key tw (some ⟨w1.heap.size, 0, none⟩) n (n + 1) (some ⟨w2.heap.size, 0, none⟩) m (m + 1) w3.heap.size w3 (lent_row2 HLK.out HR23.out).reads (lent_row2 HLT.out HR3.out).reads (Nat.le_refl _) (by omega))
  go_wp2_with fail
  refine HNW.out.mono ?_
  rintro e w4 ⟨hb4, hcase⟩
  have HB4 := Lib.hid (thenB HB3.out hb4)
  have hs4 := hb4.size
  have HR24 := Lib.hid (HR23.out.below hb4 (Nat.le_refl _))
  have HR34 := Lib.hid (HR3.out.below hb4 (Nat.le_refl _))
  have HK1 := Lib.hid (Kept_yes A n c _ _ w1.heap.size key w4 HR24.out.reads (HRK.out.below HB4.out) (by omega))
  have HK2 := Lib.hid (Kept_yes T m d _ _ w2.heap.size tw w4 HR34.out.reads (HRT.out.below HB4.out) (by omega))
  have hlit : OwnedRows (w4.alloc (.cells ([((some ⟨w1.heap.size, 0, none⟩, n, n + 1) : Sl), (some ⟨w2.heap.size, 0, none⟩, m, m + 1)].map Sl.val).toArray 22)) w4.heap.size [(some ⟨w1.heap.size, 0, none⟩, n, n + 1), (some ⟨w2.heap.size, 0, none⟩, m, m + 1)] :=
    owned_lit (by intro x hx; simp at hx; rcases hx with rfl | rfl; exact ⟨_, _, lent_row2 HLK.out HR24.out⟩; exact ⟨_, _, lent_row2 HLT.out HR34.out⟩) (by
      simp only [List.pairwise_cons, List.mem_singleton, forall_eq, List.not_mem_nil, false_imp_iff, implies_true, List.Pairwise.nil, and_true]
      exact fun a b ea eb e => by cases ea; cases eb; simp at e; omega)
  have HOW := Lib.hid (Owned_any _ 2 _ _ hlit (by simp))
  have HBO := Lib.hid (show ∀ k, blocksOf [((some ⟨w1.heap.size, 0, none⟩, n, n + 1) : Sl), (some ⟨w2.heap.size, 0, none⟩, m, m + 1)] k → w.heap.size ≤ k ∧ k < w3.heap.size from fun k hk => by
    obtain ⟨x, hx, a, e, _, hk2⟩ := hk
    simp at hx
    rcases hx with rfl | rfl
    · simp at e; subst e; simp at hk2; omega
    · simp at e; subst e; simp at hk2; omega)
  clear hlit hb4
  rcases hcase with ⟨hno, rfl⟩ | ⟨hyes, cb, rfl, hcb, hcip⟩
  · have HNO := Lib.hid hno
    have hnb : (cipE key tw != 0) = true := bne_iff_ne.2 hno
    have hne : (cipE key tw != cipE key tw) = false := by simp
    obtain ⟨er, her⟩ : ∃ er, er = cipE key tw := ⟨_, rfl⟩
    have HER := Lib.hid her
    rw [← her] at hnb hne ⊢
    clear hno her
    go_wp2_with fail
    refine HK1.out.mono ?_
    rintro e w5 ⟨rfl, rfl⟩
    go_wp2_with fail
    refine HK2.out.mono ?_
    rintro e w5 ⟨rfl, rfl⟩
    go_wp2_with fail
    refine HOW.out.mono ?_
    rintro e w6 ⟨rfl, ho⟩
    have HB6 := Lib.hid ((HB4.out.alloc HB4.out.size _).trans (ho.below (B := w.heap.size) (fun k hk => (HBO.out k hk).1)))
    have HN10 := Lib.hid (rNew10_any key tw A T n c m d w6 ((HRK.out.below HB6.out).more HB6.out.size) hc1 (by omega) ((HRT.out.below HB6.out).more HB6.out.size))
    clear ho
    go_wp2_with fail
    refine HN10.out.mono ?_
    rintro e w7 ⟨hb7, ⟨_, rfl⟩ | ⟨h0, _⟩⟩
    · have HB7 := Lib.hid (thenB HB6.out hb7)
      rw [← HER.out]
      clear hb7
      go_wp2_with fail
      go_ret
      exact ⟨rfl, HB7.out⟩
    · exact absurd h0 HNO.out
  · obtain ⟨hk, h16⟩ := cipE_zero hyes
    have HYES := Lib.hid hyes
    have HK := Lib.hid hk
    have HCIP := Lib.hid hcip
    have hcl := hcip.lt
    clear hcip hyes hk
    go_wp2_with fail
    refine HK1.out.mono ?_
    rintro e w5 ⟨rfl, rfl⟩
    go_wp2_with fail
    refine HK2.out.mono ?_
    rintro e w5 ⟨rfl, rfl⟩
    go_wp2_with fail
    refine HOW.out.mono ?_
    rintro e w6 ⟨rfl, ho⟩
    have HB6 := Lib.hid ((HB4.out.alloc HB4.out.size _).trans (ho.below (B := w.heap.size) (fun k hk => (HBO.out k hk).1)))
    have HC6 := Lib.hid (cip_only HCIP.out ho (fun h => by have := (HBO.out _ h).2; omega) (fun k hk _ h => by have := (HBO.out _ h).2; omega))
    have hs6 : w4.heap.size < w6.heap.size := by have := ho.size; simp at this; omega
    have HN10 := Lib.hid (rNew10_any key tw A T n c m d w6 ((HRK.out.below HB6.out).more HB6.out.size) hc1 (by omega) ((HRT.out.below HB6.out).more HB6.out.size))
    clear ho
    go_wp2_with fail
    refine HN10.out.mono ?_
    rintro e w7 ⟨hb7, ⟨h0, _⟩ | ⟨_, rb, rfl, hrc⟩⟩
    · exact absurd HYES.out h0
    have HB7 := Lib.hid (thenB HB6.out hb7)
    have HC7 := Lib.hid (HC6.out.below hb7 (Nat.le_refl _))
    have HRC7 := Lib.hid hrc
    have hs7 := hb7.size
    have HE7 := Lib.hid (FEncrypt_any cb _ key tw s w7 HC7.out HK.out h16 hs)
    obtain ⟨xe, hxe⟩ : ∃ xe : ByteArray, xe = ⟨(encR key tw s.data.toList).toArray⟩ := ⟨_, rfl⟩
    obtain ⟨xd, hxd⟩ : ∃ xd : ByteArray, xd = ⟨(decR key tw s.data.toList).toArray⟩ := ⟨_, rfl⟩
    obtain ⟨er, her⟩ : ∃ er, er = nmE s.data.toList := ⟨_, rfl⟩
    have HXE := Lib.hid hxe
    have HXD := Lib.hid hxd
    have HER := Lib.hid her
    clear hb7 hrc hxe hxd her
    go_wp2_with fail
    refine HE7.out.mono ?_
    rintro e w8 ⟨rfl, hco⟩
    obtain ⟨X8, hx8, hc8, hg8⟩ := hco
    have HC8 := Lib.hid hc8
    have HX8 := Lib.hid (show ∀ k, X8 k → (w3.heap.size ≤ k ∧ k < w4.heap.size) ∨ w7.heap.size ≤ k from fun k hk => by
      rcases hx8 k hk with h | h
      · exact .inl h.1
      · exact .inr h)
    have hs8 := hg8.size
    have HRC8 := Lib.hid (HRC7.out.keep hg8 (fun k hk1 hk2 h => by have := h.2; omega))
    have HB8 := Lib.hid (HB7.out.trans (hg8.below (B := w.heap.size) HB7.out.size (fun k _ h => by have h1 : w3.heap.size ≤ k := h.1; omega)))
    have HE8 := Lib.hid (rFEncrypt_any rb _ _ key tw s w8 HRC8.out HK.out h16 hs)
    rw [← HXE.out, ← HER.out] at HE8 ⊢
    clear hx8 hc8 hg8
    go_wp2_with fail
    refine HE8.out.mono ?_
    rintro e w9 ⟨rfl, hb9⟩
    have HC9 := Lib.hid (HC8.out.within.below hb9 (Nat.le_refl _))
    have HRC9 := Lib.hid (HRC8.out.new hb9)
    have HB9 := Lib.hid (thenB HB8.out hb9)
    have hs9 := hb9.size
    have HE9 := Lib.hid (FDecrypt_any cb _ key tw s w9 HC9.out HK.out h16 hs)
    clear hb9
    go_wp2_with fail
    refine HE9.out.mono ?_
    rintro e w10 ⟨rfl, hco⟩
    obtain ⟨_, _, _, hg10⟩ := hco
    have HRC10 := Lib.hid (HRC9.out.keep hg10 (fun k hk1 hk2 h => by rcases HX8.out k h.1 with h2 | h2 <;> omega))
    have HB10 := Lib.hid (HB9.out.trans (hg10.below (B := w.heap.size) HB9.out.size (fun k _ h => by rcases HX8.out k h.1 with h2 | h2 <;> omega)))
    have HE10 := Lib.hid (rFDecrypt_any rb _ _ key tw s w10 HRC10.out HK.out h16 hs)
    rw [← HXD.out, ← HER.out] at HE10 ⊢
    clear hg10
    go_wp2_with fail
    refine HE10.out.mono ?_
    rintro e w11 ⟨rfl, hb11⟩
    have HB11 := Lib.hid (thenB HB10.out hb11)
    clear hb11
    go_wp2_with fail
    go_ret
    exact ⟨rfl, HB11.out⟩
end Go.Proofs.YtiijjpjkfiookaaGreatDoor
