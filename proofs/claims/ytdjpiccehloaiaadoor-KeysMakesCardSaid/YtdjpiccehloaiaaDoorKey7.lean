/- THE WALK of the law KeysMakes. -/
import Derived.Test.YtdjpiccehloaiaaDoorKey6
import Derived.Test.YtdjpiccehloaiaaDoorOwned2
namespace Go.Proofs.YtdjpiccehloaiaaDoor
open Go.RowKit

/-- Behind the set-up of a law: a lent copy has been looked at and written over. -/
theorem lent_row {w1 w2 : World} {g n : Nat} {l : List UInt8} (hl : l.length = n) (hr : Row w2 w1.heap.size 1 (some ⟨g, 0, none⟩) (n + 1) (n + 1) (bv (l ++ [77]))) : Row w2 w1.heap.size 1 (some ⟨g, 0, none⟩) n (n + 1) (bv l) := by
  have h := hr.take (k := n) (by omega)
  rw [Nat.mul_one, bv_append, List.take_append_of_le_length (by rw [length_bv]; omega), List.take_of_length_le (by rw [length_bv]; omega)] at h
  exact h
theorem reads_grown {w w' : World} {B n : Nat} {A : Option Addr} {l : List UInt8} (h : Reads w B 1 A n (bv l)) (hb : Below B w w') : Reads w' B 1 A n (bv l) := h.below hb

set_option maxRecDepth 100000 in
set_option maxHeartbeats 4000000 in
theorem KeysMakes_no (A : Option Addr) (n c : Nat) (m : List UInt8) (t p v : Int) (w : World) (hr : Reads w w.heap.size 1 A n (bv m)) (hc : n ≤ c ∧ c ≤ 140737488351232) (hno : n < 16 ∨ 64 < n) (ht : Tab w) :
    Calls Tryd.prog 3 #[.slice A n c, .int .i64 t, .int .i64 p, .int .i64 v] w fun e w' => e = .returned (.bool true) ∧ Below w.heap.size w w' := by
  obtain ⟨hnc, hcc⟩ := hc
  have HL := Lib.hid (show m.length = n by have := hr.1; rw [length_bv] at this; omega)
  have HR := Lib.hid hr
  have HM := Lib.hid (show mayB n = false from decide_eq_false (by omega))
  have HNO := Lib.hid (fun A c w => New_no A n c w hno)
  obtain ⟨s, hs⟩ : ∃ s, nameS p = s := ⟨_, rfl⟩
  obtain ⟨b, hb⟩ : ∃ b, nameB p = b := ⟨_, rfl⟩
  have HS := Lib.hid hs
  have HB := Lib.hid hb
  clear hr hno hs hb
  go_enter Tryd.func3, Tryd.ntmps3
  go_wp2_with fail
  refine (small13_any _ ht).mono ?_
  rintro e w1 ⟨rfl, hb1⟩
  have hr1 := HR.out.below hb1
  go_wp2_with fail
  refine (Lent_any A n c _ m w1 hr1 hb1.size (by omega)).mono ?_
  rintro e w2 ⟨rfl, hrow, hb2⟩
  have hb12 := thenB hb1 hb2
  have HROW := Lib.hid hrow
  have HB12 := Lib.hid hb12
  have HB2 := Lib.hid hb2
  have hs1 := hb1.size
  clear hr1 hrow hb12 hb2 hb1
  go_wp2_with fail
  refine (HNO.out _ _ _).mono ?_
  rintro e w3 ⟨rfl, rfl⟩
  go_wp2_with fail
  refine (Kept_yes A n c _ _ _ m w2 HROW.out.reads (HR.out.below HB12.out) (by omega)).mono ?_
  rintro e w4 ⟨rfl, rfl⟩
  go_wp2_with fail
  have hlit : OwnedRows (w2.alloc (.cells ([((some ⟨w1.heap.size, 0, none⟩, n, n + 1) : Sl)].map Sl.val).toArray 22)) w2.heap.size [(some ⟨w1.heap.size, 0, none⟩, n, n + 1)] :=
    owned_lit (by intro x hx; simp at hx; subst hx; exact ⟨_, _, lent_row HL.out HROW.out⟩) (by simp)
  have how := Owned_any _ 1 _ _ hlit (by simp)
  refine how.mono ?_
  rintro e w5 ⟨rfl, ho⟩
  have HO := Lib.hid (HB12.out.trans (((Below.refl w2.heap.size w2).alloc (Nat.le_refl _) _).mono (by have := HB2.out.size; omega)) |>.trans (ho.below (B := w.heap.size) (fun k hk => by obtain ⟨x, hx, a, e, _, hk2⟩ := hk; simp at hx; subst hx; simp at e; subst e; rw [hk2]; exact hs1)))
  clear ho how hlit
  go_wp2_with fail
  refine (May_any _ _ _ _).mono ?_
  rw [HM.out]
  rintro e w6 ⟨rfl, rfl⟩
  go_wp2_with fail
  refine (Name_any _ _).mono ?_
  rw [HS.out, HB.out]
  rintro e w7 ⟨rfl, hb7⟩
  go_wp2_with fail
  refine (rName_any _ _).mono ?_
  rw [HS.out, HB.out]
  rintro e w8 ⟨rfl, rfl⟩
  go_wp2_with fail
  go_ret
  exact ⟨rfl, HO.out.trans (hb7.mono HO.out.size)⟩

/-! ### a ring -/
theorem bytes_conv {w : World} {B n c : Nat} {A : Option Addr} {l : List UInt8} (h : Reads w B 1 A n (bv l)) : (convert 22 9 (.slice A n c)).run Tryd.prog w = .ok (.string ⟨l.toArray⟩) w :=
  run_conv_bytes (P := Tryd.prog) Tryd.underlying22 Tryd.underlying5 Tryd.underlying9 h
theorem ring_only {w w' : World} {rb : Nat} {X : Nat → Prop} {m : List UInt8} {S : Nat → Prop} {o : Obj} (h : RingAt w rb X m) (ho : Only S (w.alloc o) w') (h1 : ¬ S rb) (h2 : ∀ k, X k → k < w.heap.size → ¬ S k) : RingAt w' rb (fun k => X k ∧ k < w.heap.size) m :=
  (h.within.new ((Below.refl _ _).alloc (Nat.le_refl _) o)).grew (Grew.of_only ho) h1 (fun k hk => h2 k hk.1 hk.2)
set_option maxRecDepth 100000 in
set_option maxHeartbeats 8000000 in
theorem KeysMakes_bad (A : Option Addr) (n c : Nat) (m : List UInt8) (t p v : Int) (w : World) (hr : Reads w w.heap.size 1 A n (bv m)) (hc : n ≤ c ∧ c ≤ 140737488351232) (hn1 : 16 ≤ n) (hn2 : n ≤ 64) (hk : keyOk t p v = false) (ht : Tab w) :
    Calls Tryd.prog 3 #[.slice A n c, .int .i64 t, .int .i64 p, .int .i64 v] w fun e w' => e = .returned (.bool true) ∧ Below w.heap.size w w' := by
  obtain ⟨hnc, hcc⟩ := hc
  have HL := Lib.hid (show m.length = n by have := hr.1; rw [length_bv] at this; omega)
  have HR := Lib.hid hr
  have HM := Lib.hid (show mayB n = true from decide_eq_true (by omega))
  have HK := Lib.hid hk
  obtain ⟨s, hs⟩ : ∃ s, nameS p = s := ⟨_, rfl⟩
  obtain ⟨b, hb⟩ : ∃ b, nameB p = b := ⟨_, rfl⟩
  have HS := Lib.hid hs
  have HB := Lib.hid hb
  clear hr hs hb hk
  go_enter Tryd.func3, Tryd.ntmps3
  go_wp2_with fail
  refine (small13_any _ ht).mono ?_
  rintro e w1 ⟨rfl, hb1⟩
  have hr1 := HR.out.below hb1
  go_wp2_with fail
  refine (Lent_any A n c _ m w1 hr1 hb1.size (by omega)).mono ?_
  rintro e w2 ⟨rfl, hrow, hb2⟩
  have HROW := Lib.hid hrow
  have HB2 := Lib.hid (thenB hb1 hb2)
  have hs1 := hb1.size
  have hs2 : w1.heap.size < w2.heap.size := (hrow.lt _ rfl).2
  clear hr1 hrow hb2 hb1
  go_wp2_with fail
  refine (New_ring m _ n (n + 1) _ w2 (lent_row HL.out HROW.out).reads (Nat.le_refl _) hn1 hn2).mono ?_
  rintro e w3 ⟨rb, rfl, hrb, hring, hb3⟩
  have HRING := Lib.hid hring
  have HB3 := Lib.hid (thenB HB2.out hb3)
  have HROW3 := Lib.hid (HROW.out.below hb3 (Nat.le_refl _))
  have hs3 := hb3.size
  have hl3 := hring.lt
  clear hring hb3
  go_wp2_with fail
  refine (Kept_yes A n c _ _ _ m w3 HROW3.out.reads (HR.out.below HB3.out) (by omega)).mono ?_
  rintro e w4 ⟨rfl, rfl⟩
  go_wp2_with fail
  have hlit : OwnedRows (w3.alloc (.cells ([((some ⟨w1.heap.size, 0, none⟩, n, n + 1) : Sl)].map Sl.val).toArray 22)) w3.heap.size [(some ⟨w1.heap.size, 0, none⟩, n, n + 1)] :=
    owned_lit (by intro x hx; simp at hx; subst hx; exact ⟨_, _, lent_row HL.out HROW3.out⟩) (by simp)
  have how := Owned_any _ 1 _ _ hlit (by simp)
  refine how.mono ?_
  rintro e w5 ⟨rfl, ho⟩
  have hbo : ∀ k, blocksOf [((some ⟨w1.heap.size, 0, none⟩, n, n + 1) : Sl)] k → k = w1.heap.size := fun k hk => by obtain ⟨x, hx, a, e, _, hk2⟩ := hk; simp at hx; subst hx; simp at e; subst e; exact hk2
  have HB5 := Lib.hid ((HB3.out.alloc HB3.out.size _).trans (ho.below (B := w.heap.size) (fun k hk => by have := hbo k hk; omega)))
  have HR5 := Lib.hid (ring_only HRING.out ho (fun h => by have := hbo _ h; omega) (fun k hk _ h => by have := hbo _ h; omega))
  have hs5 : w3.heap.size < w5.heap.size := by have := ho.size; simp at this; omega
  clear ho how hlit HRING
  go_wp2_with fail
  refine (May_any _ _ _ _).mono ?_
  rw [HM.out]
  rintro e w6 ⟨rfl, rfl⟩
  go_wp2_with fail
  refine (Name_any _ _).mono ?_
  rw [HS.out, HB.out]
  rintro e w7 ⟨rfl, hb7⟩
  have HB7 := Lib.hid (HB5.out.trans (hb7.mono HB5.out.size))
  have HR7 := Lib.hid (HR5.out.new hb7)
  have hs7 := hb7.size
  clear hb7 HR5
  go_wp2_with fail
  refine (rName_any _ _).mono ?_
  rw [HS.out, HB.out]
  rintro e w8 ⟨rfl, rfl⟩
  go_wp2_with fail
  refine (Key_no rb _ m t p v w7 HR7.out HK.out).mono ?_
  rintro e w8 ⟨X8, hX8, hring8, hg8, ⟨_, rfl⟩ | ⟨h0, _⟩⟩
  rotate_left
  · rw [HK.out] at h0; cases h0
  have HB8 := Lib.hid (HB7.out.trans (hg8.below (B := w.heap.size) HB7.out.size fun k _ hk => by omega))
  have HR8 := Lib.hid hring8
  clear hX8 hring8 hg8
  go_wp2_with fail
  refine (rKey_no m A n c t p v w8 HK.out).mono ?_
  rintro e w9 ⟨hb9, ⟨_, rfl⟩ | ⟨h0, _⟩⟩
  rotate_left
  · rw [HK.out] at h0; cases h0
  have HB9 := Lib.hid (HB8.out.trans (hb9.mono HB8.out.size))
  have HR9 := Lib.hid (HR8.out.new hb9)
  have hnil := fun (w : World) => bytes_conv (w := w) (B := 0) (n := 0) (c := 0) (A := none) (l := []) Reads.nil_
  clear hb9
  go_wp2_with fail
  refine (Key_no rb _ m t p v w9 HR9.out HK.out).mono ?_
  rintro e w10 ⟨X10, hX10, hring10, hg10, ⟨_, rfl⟩ | ⟨h0, _⟩⟩
  rotate_left
  · rw [HK.out] at h0; cases h0
  have HB10 := Lib.hid (HB9.out.trans (hg10.below (B := w.heap.size) HB9.out.size fun k _ hk => by omega))
  have HR10 := Lib.hid hring10
  have hs10 := HB10.out.size
  clear hX10 hring10 hg10
  go_wp2_with fail
  have hlit2 : OwnedRows (w10.alloc (.cells ([((none, 0, 0) : Sl), (none, 0, 0)].map Sl.val).toArray 22)) w10.heap.size [(none, 0, 0), (none, 0, 0)] :=
    owned_lit (by intro x hx; simp at hx; subst hx; exact ⟨0, _, Row.nil_ _ _ _⟩) (by simp; intro a b e; cases e)
  have how2 := Owned_any _ 2 _ _ hlit2 (by simp)
  refine how2.mono ?_
  rintro e w11 ⟨rfl, ho⟩
  have hbo2 : ∀ k, ¬ blocksOf [((none, 0, 0) : Sl), (none, 0, 0)] k := fun k hk => by obtain ⟨x, hx, a, e, h0, _⟩ := hk; simp at hx; subst hx; cases e
  have HB11 := Lib.hid ((HB10.out.alloc hs10 _).trans (ho.below (B := w.heap.size) (fun k hk => absurd hk (hbo2 k))))
  have HR11 := Lib.hid (ring_only HR10.out ho (hbo2 _) (fun k _ _ => hbo2 k))
  clear ho how2 hlit2
  go_wp2_with fail
  refine (Key_no rb _ m t p v w11 HR11.out HK.out).mono ?_
  rintro e w12 ⟨X12, hX12, hring12, hg12, ⟨_, rfl⟩ | ⟨h0, _⟩⟩
  rotate_left
  · rw [HK.out] at h0; cases h0
  have HB12 := Lib.hid (HB11.out.trans (hg12.below (B := w.heap.size) HB11.out.size fun k _ hk => by omega))
  clear hX12 hring12 hg12
  go_wp2_with fail
  go_ret
  exact ⟨rfl, HB12.out⟩

set_option maxRecDepth 100000 in
set_option maxHeartbeats 8000000 in
theorem KeysMakes_good (A : Option Addr) (n c : Nat) (m : List UInt8) (t : Nat) (p : Int) (v : Nat) (w : World) (hr : Reads w w.heap.size 1 A n (bv m)) (hc : n ≤ c ∧ c ≤ 140737488351232) (hn1 : 16 ≤ n) (hn2 : n ≤ 64) (hk : keyOk t p v = true) (ht : Tab w) :
    Calls Tryd.prog 3 #[.slice A n c, .int .i64 t, .int .i64 p, .int .i64 v] w fun e w' => e = .returned (.bool true) ∧ Below w.heap.size w w' := by
  obtain ⟨hnc, hcc⟩ := hc
  have HL := Lib.hid (show m.length = n by have := hr.1; rw [length_bv] at this; omega)
  have HR := Lib.hid hr
  have HM := Lib.hid (show mayB n = true from decide_eq_true (by omega))
  have HK := Lib.hid hk
  obtain ⟨s, hs⟩ : ∃ s, nameS p = s := ⟨_, rfl⟩
  obtain ⟨b, hb⟩ : ∃ b, nameB p = b := ⟨_, rfl⟩
  have HS := Lib.hid hs
  have HB := Lib.hid hb
  clear hr hs hb hk
  go_enter Tryd.func3, Tryd.ntmps3
  go_wp2_with fail
  refine (small13_any _ ht).mono ?_
  rintro e w1 ⟨rfl, hb1⟩
  have hr1 := HR.out.below hb1
  go_wp2_with fail
  refine (Lent_any A n c _ m w1 hr1 hb1.size (by omega)).mono ?_
  rintro e w2 ⟨rfl, hrow, hb2⟩
  have HROW := Lib.hid hrow
  have HB2 := Lib.hid (thenB hb1 hb2)
  have hs1 := hb1.size
  have hs2 : w1.heap.size < w2.heap.size := (hrow.lt _ rfl).2
  clear hr1 hrow hb2 hb1
  go_wp2_with fail
  refine (New_ring m _ n (n + 1) _ w2 (lent_row HL.out HROW.out).reads (Nat.le_refl _) hn1 hn2).mono ?_
  rintro e w3 ⟨rb, rfl, hrb, hring, hb3⟩
  have HRING := Lib.hid hring
  have HB3 := Lib.hid (thenB HB2.out hb3)
  have HROW3 := Lib.hid (HROW.out.below hb3 (Nat.le_refl _))
  have hs3 := hb3.size
  have hl3 := hring.lt
  clear hring hb3
  go_wp2_with fail
  refine (Kept_yes A n c _ _ _ m w3 HROW3.out.reads (HR.out.below HB3.out) (by omega)).mono ?_
  rintro e w4 ⟨rfl, rfl⟩
  go_wp2_with fail
  have hlit : OwnedRows (w3.alloc (.cells ([((some ⟨w1.heap.size, 0, none⟩, n, n + 1) : Sl)].map Sl.val).toArray 22)) w3.heap.size [(some ⟨w1.heap.size, 0, none⟩, n, n + 1)] :=
    owned_lit (by intro x hx; simp at hx; subst hx; exact ⟨_, _, lent_row HL.out HROW3.out⟩) (by simp)
  have how := Owned_any _ 1 _ _ hlit (by simp)
  refine how.mono ?_
  rintro e w5 ⟨rfl, ho⟩
  have hbo : ∀ k, blocksOf [((some ⟨w1.heap.size, 0, none⟩, n, n + 1) : Sl)] k → k = w1.heap.size := fun k hk => by obtain ⟨x, hx, a, e, _, hk2⟩ := hk; simp at hx; subst hx; simp at e; subst e; exact hk2
  have HB5 := Lib.hid ((HB3.out.alloc HB3.out.size _).trans (ho.below (B := w.heap.size) (fun k hk => by have := hbo k hk; omega)))
  have HR5 := Lib.hid (ring_only HRING.out ho (fun h => by have := hbo _ h; omega) (fun k hk _ h => by have := hbo _ h; omega))
  have hs5 : w3.heap.size < w5.heap.size := by have := ho.size; simp at this; omega
  clear ho how hlit HRING
  go_wp2_with fail
  refine (May_any _ _ _ _).mono ?_
  rw [HM.out]
  rintro e w6 ⟨rfl, rfl⟩
  go_wp2_with fail
  refine (Name_any _ _).mono ?_
  rw [HS.out, HB.out]
  rintro e w7 ⟨rfl, hb7⟩
  have HB7 := Lib.hid (HB5.out.trans (hb7.mono HB5.out.size))
  have HR7 := Lib.hid (HR5.out.new hb7)
  have hs7 := hb7.size
  clear hb7 HR5
  go_wp2_with fail
  refine (rName_any _ _).mono ?_
  rw [HS.out, HB.out]
  rintro e w8 ⟨rfl, rfl⟩
  go_wp2_with fail
  obtain ⟨kk, hkk⟩ : ∃ kk, kk = keyB m t p v := ⟨_, rfl⟩
  have hkl : kk.length = 32 := by rw [hkk]; exact length_keyB m t p v
  have HKK := Lib.hid hkk
  clear hkk
  refine (Key_yes rb _ m t p v w7 HR7.out (by rw [HL.out]; exact hn2) HK.out (ht.below HB7.out)).mono ?_
  rintro e w8 ⟨X8, hX8, hring8, hg8, ⟨h0, _⟩ | ⟨_, A8, c8, rfl, hrow8, hx8⟩⟩
  · rw [HK.out] at h0; cases h0
  rw [Int.toNat_natCast, Int.toNat_natCast, ← HKK.out] at hrow8
  have HB8 := Lib.hid (HB7.out.trans (hg8.below (B := w.heap.size) HB7.out.size fun k _ hk => by omega))
  have HR8 := Lib.hid hring8.within
  have hs8 := hg8.size
  have HW8 := Lib.hid hrow8
  have HX8 := Lib.hid hx8
  clear hX8 hring8 hg8 hrow8 hx8
  go_wp2_with fail
  refine (rKey_yes m A n c w.heap.size t p v w8 (HR.out.below HB8.out) HB8.out.size hn2 HK.out).mono ?_
  rintro e w9 ⟨hb9, ⟨h0, _⟩ | ⟨_, A9, c9, rfl, hrow9⟩⟩
  · rw [HK.out] at h0; cases h0
  rw [Int.toNat_natCast, Int.toNat_natCast, ← HKK.out] at hrow9
  have HB9 := Lib.hid (HB8.out.trans (hb9.mono HB8.out.size))
  have HR9 := Lib.hid (HR8.out.new hb9)
  have HW89 := Lib.hid (HW8.out.below hb9 (Nat.le_refl _))
  have HW9 := Lib.hid hrow9
  have hs9 := hb9.size
  have hcv1 := bytes_conv (c := c8) HW89.out.reads
  have hcv2 := bytes_conv (c := c9) HW9.out.reads
  clear hb9 hrow9
  go_wp2_with fail
  clear hcv1 hcv2
  refine (Key_yes rb _ m t p v w9 HR9.out (by rw [HL.out]; exact hn2) HK.out (ht.below HB9.out)).mono ?_
  rintro e w10 ⟨X10, hX10, hring10, hg10, ⟨h0, _⟩ | ⟨_, A10, c10, rfl, hrow10, hx10⟩⟩
  · rw [HK.out] at h0; cases h0
  have HB10 := Lib.hid (HB9.out.trans (hg10.below (B := w.heap.size) HB9.out.size fun k _ hk => by omega))
  have hs10 := hg10.size
  have HW10 := Lib.hid hrow10
  have HW810 := Lib.hid (HW89.out.grew hg10 (fun ad e h => by have := (HW8.out.lt ad e).1; omega))
  have HW910 := Lib.hid (HW9.out.grew hg10 (fun ad e h => by have := (HW9.out.lt ad e).1; omega))
  have hbo2 : ∀ k, blocksOf [((A8, 32, c8) : Sl), (A10, 32, c10)] k → (∃ ad, A8 = some ad ∧ k = ad.block) ∨ (∃ ad, A10 = some ad ∧ k = ad.block) := fun k hk => by
    obtain ⟨x, hx, a, e, _, hk2⟩ := hk
    simp at hx
    rcases hx with rfl | rfl
    · exact .inl ⟨a, e, hk2⟩
    · exact .inr ⟨a, e, hk2⟩
  have HNO := Lib.hid (show ∀ k, X10 k → k < w10.heap.size → ¬ blocksOf [((A8, 32, c8) : Sl), (A10, 32, c10)] k from fun k hk _ hb => by
    rcases hbo2 k hb with ⟨ad, e, hk2⟩ | ⟨ad, e, hk2⟩
    · rcases hX10 k hk with h1 | h1
      · exact HX8.out ad e (by rw [← hk2]; exact h1.1)
      · have := (HW8.out.lt ad e).2; omega
    · exact hx10 ad e (by rw [← hk2]; exact hk))
  have HRN := Lib.hid (show ¬ blocksOf [((A8, 32, c8) : Sl), (A10, 32, c10)] rb from fun hb => by
    rcases hbo2 rb hb with ⟨ad, e, hk2⟩ | ⟨ad, e, hk2⟩
    · have := (HW8.out.lt ad e).1; omega
    · have := (hrow10.lt ad e).1; omega)
  have HR10 := Lib.hid hring10
  have HBO2 := Lib.hid hbo2
  clear hX10 hring10 hg10 hrow10 hx10 hbo2
  go_wp2_with fail
  have hlit2 : OwnedRows (w10.alloc (.cells ([((A8, 32, c8) : Sl), (A10, 32, c10)].map Sl.val).toArray 22)) w10.heap.size [(A8, 32, c8), (A10, 32, c10)] :=
    owned_lit (by intro x hx; simp at hx; rcases hx with rfl | rfl; exact ⟨_, _, HW810.out⟩; exact ⟨_, _, HW10.out⟩) (by
      simp only [List.pairwise_cons, List.mem_singleton, forall_eq, List.not_mem_nil, false_imp_iff, implies_true, List.Pairwise.nil, and_true]
      exact fun a b ea eb e => by have := (HW8.out.lt a ea).2; have := (HW10.out.lt b eb).1; omega)
  have how2 := Owned_any _ 2 _ _ hlit2 (by simp)
  refine how2.mono ?_
  rintro e w11 ⟨rfl, ho⟩
  have HB11 := Lib.hid ((HB10.out.alloc HB10.out.size _).trans (ho.below (B := w.heap.size) (fun k hk => by
    rcases HBO2.out k hk with ⟨ad, e, hk2⟩ | ⟨ad, e, hk2⟩
    · have := (HW8.out.lt ad e).1; have := HB7.out.size; omega
    · have := (HW10.out.lt ad e).1; have := HB9.out.size; omega)))
  have HR11 := Lib.hid (ring_only HR10.out ho HRN.out HNO.out)
  have HW911 := Lib.hid ((HW910.out.alloc _).only ho (fun ad e hb => by
    have h9 := HW9.out.lt ad e
    rcases HBO2.out _ hb with ⟨ad2, e2, hk2⟩ | ⟨ad2, e2, hk2⟩
    · have := (HW8.out.lt ad2 e2).2; omega
    · have := (HW10.out.lt ad2 e2).1; omega))
  clear ho how2 hlit2
  go_wp2_with fail
  refine (Key_yes rb _ m t p v w11 HR11.out (by rw [HL.out]; exact hn2) HK.out (ht.below HB11.out)).mono ?_
  rintro e w12 ⟨X12, hX12, hring12, hg12, ⟨h0, _⟩ | ⟨_, A12, c12, rfl, hrow12, hx12⟩⟩
  · rw [HK.out] at h0; cases h0
  rw [Int.toNat_natCast, Int.toNat_natCast, ← HKK.out] at hrow12
  have HB12 := Lib.hid (HB11.out.trans (hg12.below (B := w.heap.size) HB11.out.size fun k _ hk => by omega))
  have hcv1 := bytes_conv (c := c12) hrow12.reads
  have hcv2 := bytes_conv (c := c9) (HW911.out.grew hg12 (fun ad e h => by have := (HW9.out.lt ad e).1; omega)).reads
  clear hX12 hring12 hg12 hrow12 hx12
  go_wp2_with fail
  go_ret
  exact ⟨rfl, HB12.out⟩

theorem KeysMakes_walk (A : Option Addr) (n c : Nat) (m : List UInt8) (t p v : Int) (w : World) (hr : Reads w w.heap.size 1 A n (bv m)) (hc : n ≤ c ∧ c ≤ 140737488351232) (_h1 : (Lit.int .i64 t).wf = true) (_h2 : (Lit.int .i64 p).wf = true) (_h3 : (Lit.int .i64 v).wf = true) (ht : Tab w) :
    Calls Tryd.prog 3 #[.slice A n c, .int .i64 t, .int .i64 p, .int .i64 v] w fun e w' => e = .returned (.bool true) ∧ Below w.heap.size w w' := by
  by_cases hn : 16 ≤ n ∧ n ≤ 64
  · cases hk : keyOk t p v with
    | false => exact KeysMakes_bad A n c m t p v w hr hc hn.1 hn.2 hk ht
    | true =>
      obtain ⟨h1, h2, h3, h4, h5, h6⟩ := keyOk_iff.1 hk
      obtain ⟨t', rfl⟩ : ∃ t' : Nat, t = t' := ⟨t.toNat, by omega⟩
      obtain ⟨v', rfl⟩ : ∃ v' : Nat, v = v' := ⟨v.toNat, by omega⟩
      exact KeysMakes_good A n c m t' p v' w hr hc hn.1 hn.2 hk ht
  · exact KeysMakes_no A n c m t p v w hr hc (by omega) ht
end Go.Proofs.YtdjpiccehloaiaaDoor
