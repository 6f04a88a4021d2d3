/- THE WALK of the law MacTags. -/
import Derived.Test.YtbjlmodabiadfaaHMacTwo
import Derived.Test.YtbjlmodabiadfaaHRefMac
import Derived.Test.YtbjlmodabiadfaaGMem
namespace Go.Proofs.Ytbjlmodabiadfaa
open Go.RowKit

theorem lent_take {w : World} {base g n : Nat} {l : List UInt8} (h : Row w base 1 (some ⟨g, 0, none⟩) (n + 1) (n + 1) (bv (l ++ [77]))) (hl : l.length = n) : Row w base 1 (some ⟨g, 0, none⟩) n (n + 1) (bv l) := by
  have h := h.take (k := n) (by omega)
  rw [Nat.mul_one, bv_append, List.take_append_of_le_length (by rw [length_bv]; omega), List.take_of_length_le (by rw [length_bv]; omega)] at h
  exact h
/-- A maker stands; its key lies between lo and N. -/
def One (ma lo N : Nat) (key : List UInt8) (w : World) : Prop := MakerAt w ma (fun k => lo ≤ k ∧ k < N) key ∧ N ≤ w.heap.size
section
variable {ma lo N : Nat} {key : List UInt8} {w w' : World}
theorem One.new (h : One ma lo N key w) (g : Grows w w') : One ma lo N key w' := ⟨h.1.grew (Grew.of_new (S := fun _ => False) g) (fun h => h) (fun _ _ h => h), Nat.le_trans h.2 g.size⟩
theorem One.alloc (h : One ma lo N key w) (o : Obj) : One ma lo N key (w.alloc o) := h.new ((Below.refl _ _).alloc (Nat.le_refl _) o)
theorem One.drew (h : One ma lo N key w) : One ma lo N key w.drew := h.new ((Below.refl _ _).drew)
theorem One.grew {S : Nat → Prop} (h : One ma lo N key w) (g : Grew S w w') (h1 : ¬ S ma) (h2 : ∀ k, lo ≤ k → k < N → ¬ S k) : One ma lo N key w' := ⟨h.1.grew g h1 (fun k hk => h2 k hk.1 hk.2), Nat.le_trans h.2 g.size⟩
theorem one_m (L : List (List UInt8)) (v : Value) (h : One ma lo N key w) (hp : PL ma ma L v w) (hk : key.length ≤ 140737488351232) (hlen : L.length ≤ 140737488351232) (hsum : L.flatten.length ≤ 576460752303423488) :
    Calls Try.prog 21 #[.pointer (some ⟨ma, 0, none⟩), v] w (fun e w' => ∃ v, e = .returned v ∧ PB ma ma (macB key L.flatten) v w' ∧ GM ma ma w w' ∧ One ma lo N key w') := by
  obtain ⟨A, c, rfl, hp⟩ := hp
  refine (MMac_any ma _ key L A c _ w h.1 hk hp (fun k hk => ⟨hk.1, hk.2.1⟩) hlen hsum).mono ?_
  rintro e w' ⟨A2, c2, rfl, hrow, hm, hg⟩
  exact ⟨_, rfl, .of_row hrow (by rw [length_macB]; omega) h.1.lt h.1.lt, hg.mono fun k _ e => .inl e, hm, Nat.le_trans h.2 hg.size⟩
end
theorem PB.drew_ {ma mb : Nat} {l : List UInt8} {v : Value} {w : World} (h : PB ma mb l v w) : PB ma mb l v w.drew := h.gm (gm_drew (gm_refl w))
set_option maxRecDepth 100000 in
set_option maxHeartbeats 8000000 in
theorem MacTags_in (A : Option Addr) (n c : Nat) (key : List UInt8) (A2 : Option Addr) (n2 c2 : Nat) (a : List UInt8) (A3 : Option Addr) (n3 c3 : Nat) (b : List UInt8) (w : World) (h1 : Reads w w.heap.size 1 A n (bv key))
    (h2 : Reads w w.heap.size 1 A2 n2 (bv a)) (h2c : n2 ≤ c2) (h3 : Reads w w.heap.size 1 A3 n3 (bv b)) (h3c : n3 ≤ c3) (hn : n ≤ 4096) (hn2 : n2 ≤ 4096) (hn3 : n3 ≤ 4096) :
    Calls Try.prog 3 #[.slice A n c, .slice A2 n2 c2, .slice A3 n3 c3] w fun e w' => e = .returned (.bool true) ∧ Below w.heap.size w w' := by
  have hkl : key.length = n := by have := h1.1; rw [length_bv] at this; omega
  have hal : a.length = n2 := by have := h2.1; rw [length_bv] at this; omega
  have hbl : b.length = n3 := by have := h3.1; rw [length_bv] at this; omega
  obtain ⟨i0, hi, hz0, hz1, hz2⟩ := info_parts byte_info
  have hs := Lib.hid (small06_any w)
  have H1 := Lib.hid h1
  have H2 := Lib.hid h2
  have H3 := Lib.hid h3
  have HKL := Lib.hid hkl
  have HAL := Lib.hid hal
  have HBL := Lib.hid hbl
  obtain ⟨t, ht⟩ : ∃ t, macB key (a ++ b) = t := ⟨_, rfl⟩
  have hab : macB key [a, b].flatten = t := by rw [← ht]; simp
  have hab1 : macB key [a ++ b].flatten = t := by rw [← ht]; simp
  have ht32 : t.length = 32 := by rw [← ht]; exact length_macB _ _
  have HT := Lib.hid ht
  have HAB := Lib.hid hab
  have HAB1 := Lib.hid hab1
  have HT32 := Lib.hid ht32
  clear h1 h2 h3 hkl hal hbl ht hab hab1 ht32
  go_enter Try.func3, Try.ntmps3
  go_wp2_with fail
  refine hs.out.mono ?_
  rintro e w1 ⟨rfl, hb1⟩
  have hs1 := hb1.size
  have HB1 := Lib.hid hb1
  have HC := Lib.hid (Lent_any A n c w.heap.size key w1 (H1.out.below hb1) hs1 (by omega))
  clear hb1 hs
  go_wp2_with fail
  refine HC.out.mono ?_
  rintro e w2 ⟨rfl, hk2, hb2⟩
  have hs2 := hb2.size
  have g1 : w1.heap.size < w2.heap.size := (hk2.lt _ rfl).2
  have HB2 := Lib.hid (HB1.out.trans (hb2.mono hs1))
  have HK2 := Lib.hid hk2
  have HC := Lib.hid (Lent_any A2 n2 c2 w.heap.size a w2 (H2.out.below HB2.out) (by omega) (by omega))
  clear hk2 hb2
  go_wp2_with fail
  refine HC.out.mono ?_
  rintro e w3 ⟨rfl, hi3, hb3⟩
  have hs3 := hb3.size
  have g2 : w2.heap.size < w3.heap.size := (hi3.lt _ rfl).2
  have HB3 := Lib.hid (HB2.out.trans (hb3.mono (by omega)))
  have hk3 := HK2.out.below hb3 (Nat.le_refl _)
  have HK3 := Lib.hid hk3
  have HI3 := Lib.hid hi3
  have HC := Lib.hid (New_maker key (some ⟨w1.heap.size, 0, none⟩) n (n + 1) w3.heap.size w3 (lent_take hk3 HKL.out).reads (Nat.le_refl _) (by omega))
  clear hk3 hi3 hb3 HK2
  go_wp2_with fail
  refine HC.out.mono ?_
  rintro e w4 ⟨ma, rfl, hma, hm4, hb4⟩
  have hs4 := hb4.size
  have g3 : ma < w4.heap.size := hm4.lt
  have HB4 := Lib.hid (HB3.out.trans (hb4.mono (by omega)))
  have hk4 := HK3.out.below hb4 (Nat.le_refl _)
  have hi4 := HI3.out.below hb4 (Nat.le_refl _)
  have HO4 := Lib.hid (show One ma w3.heap.size w4.heap.size key w4 from ⟨hm4.bound, Nat.le_refl _⟩)
  have HC := Lib.hid (Mac_any key [a, b] (some ⟨w1.heap.size, 0, none⟩) n (n + 1) w4.heap.size _ 2 _ _ ((lent_take hk4 HKL.out).reads.alloc (Nat.le_refl _) _) (by simp) (by omega)
    (Parts.two (t := 22) (R := fun k => k < w4.heap.size) (Part.of_row (lent_take hi4 HAL.out) (by omega) fun ad e => ((lent_take hi4 HAL.out).lt ad e).2) (Part.of_reads (H3.out.below HB4.out) h3c (by omega) fun k hk => by omega) (fun k hk => hk)) (fun k hk => by simp; omega) (by simp) (by simp [HAL.out, HBL.out]; omega))
  have HK4 := Lib.hid hk4
  have HI4 := Lib.hid hi4
  have hc := HC.out
  rw [HAB.out] at hc
  have HC := Lib.hid hc
  clear hk4 hi4 hb4 hm4 hc HK3 HI3
  go_wp2_with fail
  refine HC.out.mono ?_
  rintro e w5 ⟨Ax, cx, rfl, hx5, hb5⟩
  have hb5 : Below w4.heap.size w4 w5 := ((Below.refl _ _).alloc (Nat.le_refl _) _).trans (hb5.mono (by simp))
  have hs5 := hb5.size
  have hx5 : Row w5 (w4.heap.size + 1) 1 Ax t.length cx (bv t) := by simpa using hx5
  have HXL := Lib.hid hx5.lt
  have HX5 := Lib.hid hx5
  have HB5 := Lib.hid (HB4.out.trans (hb5.mono (by omega)))
  have hk5 := HK4.out.below hb5 (Nat.le_refl _)
  have HK5 := Lib.hid hk5
  have hi5 := HI4.out.below hb5 (Nat.le_refl _)
  have HI5 := Lib.hid hi5
  have HO5 := Lib.hid (HO4.out.new hb5)
  have HC := Lib.hid (Kept_yes A n c _ _ w1.heap.size key w5 hk5.reads (H1.out.below HB5.out) (by omega))
  have HC2 := Lib.hid (Kept_yes A2 n2 c2 _ _ w2.heap.size a w5 hi5.reads (H2.out.below HB5.out) (by omega))
  have HOW := Lib.hid (Owned_any w5.heap.size 1 _ _ (owned_lit (w := w5) (t := 22) (R := [(some ⟨w1.heap.size, 0, none⟩, n, n + 1)]) (by
    intro x hx
    simp only [List.mem_cons, List.not_mem_nil, or_false] at hx
    subst hx
    exact ⟨_, _, lent_take hk5 HKL.out⟩) (by simp)) (by simp))
  clear hx5 hb5 hk5 hi5 HK4 HI4 HO4
  go_wp2_with fail
  refine HC.out.mono ?_
  rintro e w' ⟨rfl, rfl⟩
  go_wp2_with fail
  refine HC2.out.mono ?_
  rintro e w' ⟨rfl, rfl⟩
  go_wp2_with fail
  refine HOW.out.mono ?_
  rintro e w6 ⟨rfl, ho6⟩
  have hg6 : Grew (fun k => k = w1.heap.size) w5 w6 := owned_grew ho6 (by
    intro x hx a ea
    simp only [List.mem_cons, List.not_mem_nil, or_false] at hx
    subst hx
    cases ea
    rfl)
  have hs6 := hg6.size
  have HB6 := Lib.hid (HB5.out.trans (hg6.below (by omega) fun k _ e => by omega))
  have HX6 := Lib.hid (HX5.out.grew hg6 fun ad e h => by have := (HXL.out ad e).1; omega)
  have HI6 := Lib.hid (HI5.out.grew hg6 fun ad e h => by cases e; simp only at h; omega)
  have HO6 := Lib.hid (HO5.out.grew hg6 (by omega) fun k _ _ => by omega)
  have hmc := MMac_any ma _ key [a, b] _ 2 _ _ (HO6.out.alloc _).1 (by rw [HKL.out]; omega)
    (Parts.two (t := 22) (w := w6) (R := fun k => k < w6.heap.size ∧ k ≠ ma) (Part.of_row (lent_take HI6.out HAL.out) (by omega) fun ad e => by cases e; simp only; omega) (Part.of_reads (H3.out.below HB6.out) h3c (by omega) fun k hk => by omega) (fun k hk => hk.1)) (fun k hk => by simp; omega) (by simp) (by simp [HAL.out, HBL.out]; omega)
  rw [HAB.out] at hmc
  have HC := Lib.hid hmc
  clear ho6 hg6 hmc HC2 HOW HX5 HI5 HK5 HO5
  go_wp2_with fail
  refine HC.out.mono ?_
  rintro e w7 ⟨Ay, cy, rfl, hy7, hm7, hg7⟩
  have hg7 : Grew (fun k => k = ma) w6 w7 := (Grew.of_new ((Below.refl _ _).alloc (Nat.le_refl _) _)).trans hg7
  have hs7 := hg7.size
  have hy7 : Row w7 (w6.heap.size + 1) 1 Ay t.length cy (bv t) := by simpa using hy7
  have HYL := Lib.hid hy7.lt
  have HY7 := Lib.hid hy7
  have HX7 := Lib.hid (HX6.out.grew hg7 fun ad e h => by have := (HXL.out ad e).1; omega)
  have HI7 := Lib.hid (HI6.out.grew hg7 fun ad e h => by cases e; simp only at h; omega)
  have HO7 := Lib.hid (show One ma w3.heap.size w4.heap.size key w7 from ⟨hm7, by omega⟩)
  have HB7 := Lib.hid (HB6.out.trans (hg7.below (by omega) fun k _ e => by omega))
  clear hy7 hm7 hg7 HX6 HI6 HO6
  go_wp2_with (at_builtin; first
    | (refine wpList_append_row rfl (.tmp 67) (.tmp 68) rfl Try.underlying22 hi hz0 hz1 hz2 rfl (by decide) rfl (Row.lit w7 #[] 5 (n := 0) (base := w7.heap.size) (size := 1) rfl (Nat.le_refl _) (by unfold maxLen; omega)) rfl ((H2.out.below HB7.out).alloc (by omega) _) (bv_one _) (by unfold maxLen; omega) (by omega) (by simp) ?_; intro A8 c8 w8 hrow hgr hat; have HB8' := Lib.hid (show Below w7.heap.size w7 w8 from ((Below.refl _ _).alloc (Nat.le_refl _) _).grown hgr (by simp) (fun k hk => by simp at hk; omega)); have HR8 := Lib.hid (show Row w8 w7.heap.size 1 A8 n2 c8 (bv a) from by simpa using hrow); have hs8 := HB8'.out.size; clear hrow hgr hat)
    | (refine wpList_append_row rfl (.tmp 69) (.tmp 70) rfl Try.underlying22 hi hz0 hz1 hz2 rfl (by decide) rfl (HR8.out) rfl ((H3.out.below HB7.out).below (HB8'.out.mono (by omega))) (bv_one _) (by unfold maxLen; omega) (by omega) (by omega) ?_; intro A9 c9 w9 hrow hgr hat; have HB9' := Lib.hid (show Below w7.heap.size w7 w9 from (HB8'.out).grown hgr (by omega) HR8.out.blocks); have HR9 := Lib.hid (show Row w9 w7.heap.size 1 A9 (n2 + n3) c9 (bv (a ++ b)) from by rw [bv_append]; exact hrow); have hs9 := HB9'.out.size; clear hrow hgr hat))
  have HY9 := Lib.hid (HY7.out.below HB9'.out (Nat.le_refl _))
  have HX9 := Lib.hid (HX7.out.below HB9'.out (Nat.le_refl _))
  have HI9 := Lib.hid (HI7.out.below HB9'.out (Nat.le_refl _))
  have HO9 := Lib.hid (HO7.out.new HB9'.out)
  have HB9 := Lib.hid (HB7.out.trans (HB9'.out.mono (by omega)))
  have hmc := MMac_any ma _ key [a ++ b] _ 1 _ _ (HO9.out.alloc _).1 (by rw [HKL.out]; omega)
    (Parts.one (t := 22) (w := w9) (R := fun k => k < w9.heap.size ∧ k ≠ ma) (Part.of_row HR9.out (by omega) fun ad e => by have := HR9.out.lt ad e; omega) (fun k hk => hk.1)) (fun k hk => by simp; omega) (by simp) (by simp [HAL.out, HBL.out]; omega)
  rw [HAB1.out] at hmc
  have HC := Lib.hid hmc
  clear hmc HX7 HY7 HI7 HO7 HR8
  refine HC.out.mono ?_
  rintro e w10 ⟨Az, cz, rfl, hz10, hm10, hg10⟩
  have hg10 : Grew (fun k => k = ma) w9 w10 := (Grew.of_new ((Below.refl _ _).alloc (Nat.le_refl _) _)).trans hg10
  have hs10 := hg10.size
  have hz10 : Row w10 (w9.heap.size + 1) 1 Az t.length cz (bv t) := by simpa using hz10
  have HZL := Lib.hid hz10.lt
  have HZ10 := Lib.hid hz10
  have HX10 := Lib.hid (HX9.out.grew hg10 fun ad e h => by have := (HXL.out ad e).1; omega)
  have HY10 := Lib.hid (HY9.out.grew hg10 fun ad e h => by have := (HYL.out ad e).1; omega)
  have HI10 := Lib.hid (HI9.out.grew hg10 fun ad e h => by cases e; simp only at h; omega)
  have HO10 := Lib.hid (show One ma w3.heap.size w4.heap.size key w10 from ⟨hm10, by omega⟩)
  have HB10 := Lib.hid (HB9.out.trans (hg10.below (by omega) fun k _ e => by omega))
  clear hz10 hm10 hg10 HX9 HY9 HI9 HO9 HR9
  go_wp2_with (at_builtin; first
    | (refine wpList_append_row rfl (.tmp 75) (.tmp 76) rfl Try.underlying22 hi hz0 hz1 hz2 rfl (by decide) rfl (Row.lit w10 #[] 5 (n := 0) (base := w10.heap.size) (size := 1) rfl (Nat.le_refl _) (by unfold maxLen; omega)) rfl ((H2.out.below HB10.out).alloc (by omega) _) (bv_one _) (by unfold maxLen; omega) (by omega) (by simp) ?_; intro A11 c11 w11 hrow hgr hat; have HB11' := Lib.hid (show Below w10.heap.size w10 w11 from ((Below.refl _ _).alloc (Nat.le_refl _) _).grown hgr (by simp) (fun k hk => by simp at hk; omega)); have HR11 := Lib.hid (show Row w11 w10.heap.size 1 A11 n2 c11 (bv a) from by simpa using hrow); have hs11 := HB11'.out.size; clear hrow hgr hat)
    | (refine wpList_append_row rfl (.tmp 77) (.tmp 78) rfl Try.underlying22 hi hz0 hz1 hz2 rfl (by decide) rfl (HR11.out) rfl ((H3.out.below HB10.out).below (HB11'.out.mono (by omega))) (bv_one _) (by unfold maxLen; omega) (by omega) (by omega) ?_; intro A12 c12 w12 hrow hgr hat; have HB12' := Lib.hid (show Below w10.heap.size w10 w12 from (HB11'.out).grown hgr (by omega) HR11.out.blocks); have HR12 := Lib.hid (show Row w12 w10.heap.size 1 A12 (n2 + n3) c12 (bv (a ++ b)) from by rw [bv_append]; exact hrow); have hs12 := HB12'.out.size; clear hrow hgr hat))
  have hrc := rMac_any A n c w12.heap.size key A12 (n2 + n3) c12 (a ++ b) w12 ((H1.out.below (HB10.out.trans (HB12'.out.mono (by omega)))).more (by omega)) HR12.out.reads (Nat.le_refl _) (by omega) (by omega)
  rw [HT.out] at hrc
  have HC := Lib.hid hrc
  clear hrc HR11
  refine HC.out.mono ?_
  rintro e w13 ⟨Aw, cw, rfl, ht13, hb13⟩
  have hb13' : Below w10.heap.size w10 w13 := HB12'.out.trans (hb13.mono (by omega))
  have hs13 := hb13'.size
  have HT13 := Lib.hid ht13
  have HTL := Lib.hid ht13.lt
  have HX13 := Lib.hid (HX10.out.below hb13' (Nat.le_refl _))
  have HY13 := Lib.hid (HY10.out.below hb13' (Nat.le_refl _))
  have HZ13 := Lib.hid (HZ10.out.below hb13' (Nat.le_refl _))
  have HI13 := Lib.hid (HI10.out.below hb13' (Nat.le_refl _))
  have HO13 := Lib.hid (HO10.out.new hb13')
  have HB13 := Lib.hid (HB10.out.trans (hb13'.mono (by omega)))
  clear ht13 hb13 hb13' HX10 HY10 HZ10 HI10 HO10 HR12
  have hcx := run_conv_bytes (P := Try.prog) Try.underlying22 Try.underlying5 Try.underlying9 (cap := cx) HX13.out.reads
  have hcy := run_conv_bytes (P := Try.prog) Try.underlying22 Try.underlying5 Try.underlying9 (cap := cy) HY13.out.reads
  have hcz := run_conv_bytes (P := Try.prog) Try.underlying22 Try.underlying5 Try.underlying9 (cap := cz) HZ13.out.reads
  have hcw := run_conv_bytes (P := Try.prog) Try.underlying22 Try.underlying5 Try.underlying9 (cap := cw) HT13.out.reads
  have HOW := Lib.hid (Owned_any w13.heap.size 4 _ _ (owned_lit (w := w13) (t := 22) (R := [(Ax, t.length, cx), (Ay, t.length, cy), (Az, t.length, cz), (some ⟨w2.heap.size, 0, none⟩, n2, n2 + 1)]) (by
    intro x hx
    simp only [List.mem_cons, List.not_mem_nil, or_false] at hx
    rcases hx with rfl | rfl | rfl | rfl
    · exact ⟨_, _, HX13.out⟩
    · exact ⟨_, _, HY13.out⟩
    · exact ⟨_, _, HZ13.out⟩
    · exact ⟨_, _, lent_take HI13.out HAL.out⟩) (by
    simp only [List.pairwise_cons, List.mem_cons, List.not_mem_nil, or_false, forall_eq_or_imp, forall_eq, false_implies, implies_true, List.Pairwise.nil, and_self, and_true]
    refine ⟨⟨?_, ?_, ?_⟩, ⟨?_, ?_⟩, ?_⟩
    · exact apart_lt (N := w5.heap.size) (fun a ea => (HXL.out a ea).2) fun b eb => by have := (HYL.out b eb).1; omega
    · exact apart_lt (N := w5.heap.size) (fun a ea => (HXL.out a ea).2) fun b eb => by have := (HZL.out b eb).1; omega
    · exact (apart_lt (N := w3.heap.size) (fun a ea => by cases ea; exact g2) fun b eb => by have := (HXL.out b eb).1; omega).symm
    · exact apart_lt (N := w7.heap.size) (fun a ea => (HYL.out a ea).2) fun b eb => by have := (HZL.out b eb).1; omega
    · exact (apart_lt (N := w3.heap.size) (fun a ea => by cases ea; exact g2) fun b eb => by have := (HYL.out b eb).1; omega).symm
    · exact (apart_lt (N := w3.heap.size) (fun a ea => by cases ea; exact g2) fun b eb => by have := (HZL.out b eb).1; omega).symm)) (by simp))
  go_wp2_with fail
  refine HOW.out.mono ?_
  rintro e w14 ⟨rfl, ho14⟩
  have hg14 : Grew (fun k => k = w2.heap.size ∨ (w4.heap.size ≤ k ∧ k < w10.heap.size)) w13 w14 := owned_grew ho14 (by
    intro x hx a ea
    simp only [List.mem_cons, List.not_mem_nil, or_false] at hx
    rcases hx with rfl | rfl | rfl | rfl
    · have := HXL.out a ea; omega
    · have := HYL.out a ea; omega
    · have := HZL.out a ea; omega
    · cases ea; exact .inl rfl)
  have hs14 := hg14.size
  have HB14 := Lib.hid (HB13.out.trans (hg14.below (by omega) fun k _ e => by omega))
  have HO14 := Lib.hid (HO13.out.grew hg14 (by omega) fun k _ _ => by omega)
  have ht14 := HT13.out.grew hg14 fun ad e h => by have := (HTL.out ad e).1; omega
  have PA := Lib.hid (PB.of_reads (ma := ma) (mb := ma) (H2.out.below HB14.out) h2c (by omega) (by omega) (by omega) (by omega)).drew_
  have PC := Lib.hid (PB.of_reads (ma := ma) (mb := ma) (H3.out.below HB14.out) h3c (by omega) (by omega) (by omega) (by omega)).drew_
  have PT := Lib.hid (show PB ma ma t (.slice Aw t.length cw) w14 from PB.of_row (w := w12) ht14 (by rw [HT32.out]; omega) (by omega) (by omega)).drew_
  have hml : ma < w14.heap.size := by omega
  clear ho14 hg14 ht14 HOW hcx hcy hcz hcw HT13 HX13 HY13 HZ13 HI13 HO13
  go_wp2_with fail
  obtain ⟨F, hF⟩ : ∃ F, F = nthF [eqv (.bool true), eqv (.bool true), eqv (.bool true), eqv (.bool true), eqv (.bool true), eqv (.bool true), eqv (.bool true), eqv (.bool true), eqv (.pointer (some ⟨ma, 0, none⟩)), eqv (.slice A2 n2 c2), eqv (.slice A3 n3 c3), PL ma ma [a, b], PB ma ma t, eqv (.string ⟨t.toArray⟩), eqv (.slice Aw t.length cw), eqv (.string ⟨t.toArray⟩), eqv (.bool true), eqv (.bool true), eqv (.bool true)] := ⟨_, rfl⟩
  have E0 := Lib.hid (show F 0 = eqv (.bool true) by rw [hF]; rfl)
  have E1 := Lib.hid (show F 1 = eqv (.bool true) by rw [hF]; rfl)
  have E2 := Lib.hid (show F 2 = eqv (.bool true) by rw [hF]; rfl)
  have E3 := Lib.hid (show F 3 = eqv (.bool true) by rw [hF]; rfl)
  have E4 := Lib.hid (show F 4 = eqv (.bool true) by rw [hF]; rfl)
  have E5 := Lib.hid (show F 5 = eqv (.bool true) by rw [hF]; rfl)
  have E6 := Lib.hid (show F 6 = eqv (.bool true) by rw [hF]; rfl)
  have E7 := Lib.hid (show F 7 = eqv (.bool true) by rw [hF]; rfl)
  have E8 := Lib.hid (show F 8 = eqv (.pointer (some ⟨ma, 0, none⟩)) by rw [hF]; rfl)
  have E9 := Lib.hid (show F 9 = eqv (.slice A2 n2 c2) by rw [hF]; rfl)
  have E10 := Lib.hid (show F 10 = eqv (.slice A3 n3 c3) by rw [hF]; rfl)
  have E11 := Lib.hid (show F 11 = PL ma ma [a, b] by rw [hF]; rfl)
  have E12 := Lib.hid (show F 12 = PB ma ma t by rw [hF]; rfl)
  have E13 := Lib.hid (show F 13 = eqv (.string ⟨t.toArray⟩) by rw [hF]; rfl)
  have E14 := Lib.hid (show F 14 = eqv (.slice Aw t.length cw) by rw [hF]; rfl)
  have E15 := Lib.hid (show F 15 = eqv (.string ⟨t.toArray⟩) by rw [hF]; rfl)
  have E16 := Lib.hid (show F 16 = eqv (.bool true) by rw [hF]; rfl)
  have E17 := Lib.hid (show F 17 = eqv (.bool true) by rw [hF]; rfl)
  have E18 := Lib.hid (show F 18 = eqv (.bool true) by rw [hF]; rfl)
  have hst : ∀ j v w w', F j v w → GM ma ma w w' → F j v w' := by rw [hF]; exact nth_stableG (by repeat (first | exact stg_nil | exact stg_eqv _ | exact stg_any | exact stg_pb _ | exact stg_pl _ | refine stg_cons ?_ ?_))
  have HST0 := Lib.hid hst
  clear hF hst
  refine wp_region_facts F (GM ma ma) (One ma w3.heap.size w4.heap.size key) (by kernel_rfl) (by kernel_rfl) gm_refl gm_trans HST0.out (HO14.out.drew) ?_ ?_
  · intro V; refine ⟨?_, ?_, ?_, ?_, ?_, ?_, ?_, ?_, ?_, ?_, ?_, ?_, ?_, ?_, ?_, ?_, ?_, ?_, ?_, trivial⟩
    · intro wx hg hJ hdep
      clear hdep
      clear hg
      go_wp2_with fail
      exact ⟨rfl, gm_refl _, hJ, by rw [E0.out]; rfl⟩
    · intro wx hg hJ hdep
      have v0 : V 0 = (.bool true) := by have h := hdep 0 rfl; rw [E0.out] at h; exact h
      clear hdep
      clear hg
      go_wp2_with fail
      exact ⟨rfl, gm_refl _, hJ, by rw [E1.out]; rfl⟩
    · intro wx hg hJ hdep
      have v1 : V 1 = (.bool true) := by have h := hdep 1 rfl; rw [E1.out] at h; exact h
      clear hdep
      clear hg
      go_wp2_with fail
      exact ⟨rfl, gm_refl _, hJ, by rw [E2.out]; rfl⟩
    · intro wx hg hJ hdep
      have v1 : V 1 = (.bool true) := by have h := hdep 1 rfl; rw [E1.out] at h; exact h
      have v2 : V 2 = (.bool true) := by have h := hdep 2 rfl; rw [E2.out] at h; exact h
      clear hdep
      clear hg
      go_wp2_with fail
      exact ⟨rfl, gm_refl _, hJ, by rw [E3.out]; rfl⟩
    · intro wx hg hJ hdep
      have v3 : V 3 = (.bool true) := by have h := hdep 3 rfl; rw [E3.out] at h; exact h
      clear hdep
      clear hg
      go_wp2_with fail
      exact ⟨rfl, gm_refl _, hJ, by rw [E4.out]; rfl⟩
    · intro wx hg hJ hdep
      have v4 : V 4 = (.bool true) := by have h := hdep 4 rfl; rw [E4.out] at h; exact h
      clear hdep
      clear hg
      go_wp2_with fail
      exact ⟨rfl, gm_refl _, hJ, by rw [E5.out]; rfl⟩
    · intro wx hg hJ hdep
      have v4 : V 4 = (.bool true) := by have h := hdep 4 rfl; rw [E4.out] at h; exact h
      have v5 : V 5 = (.bool true) := by have h := hdep 5 rfl; rw [E5.out] at h; exact h
      clear hdep
      clear hg
      go_wp2_with fail
      exact ⟨rfl, gm_refl _, hJ, by rw [E6.out]; rfl⟩
    · intro wx hg hJ hdep
      have v6 : V 6 = (.bool true) := by have h := hdep 6 rfl; rw [E6.out] at h; exact h
      clear hdep
      clear hg
      go_wp2_with fail
      exact ⟨rfl, gm_refl _, hJ, by rw [E7.out]; rfl⟩
    · intro wx hg hJ hdep
      have v7 : V 7 = (.bool true) := by have h := hdep 7 rfl; rw [E7.out] at h; exact h
      clear hdep
      clear hg
      go_wp2_with fail
      exact ⟨rfl, gm_refl _, hJ, by rw [E8.out]; rfl⟩
    · intro wx hg hJ hdep
      have v7 : V 7 = (.bool true) := by have h := hdep 7 rfl; rw [E7.out] at h; exact h
      clear hdep
      clear hg
      go_wp2_with fail
      exact ⟨rfl, gm_refl _, hJ, by rw [E9.out]; rfl⟩
    · intro wx hg hJ hdep
      have v7 : V 7 = (.bool true) := by have h := hdep 7 rfl; rw [E7.out] at h; exact h
      clear hdep
      clear hg
      go_wp2_with fail
      exact ⟨rfl, gm_refl _, hJ, by rw [E10.out]; rfl⟩
    · intro wx hg hJ hdep
      have v9 : V 9 = (.slice A2 n2 c2) := by have h := hdep 9 rfl; rw [E9.out] at h; exact h
      have v10 : V 10 = (.slice A3 n3 c3) := by have h := hdep 10 rfl; rw [E10.out] at h; exact h
      have v7 : V 7 = (.bool true) := by have h := hdep 7 rfl; rw [E7.out] at h; exact h
      clear hdep
      have hpx := PA.out.gm hg
      have hpy := PC.out.gm hg
      have hlx := hJ.1.lt
      have hpl := Lib.hid (PL.two (t := 22) hpx hpy hlx hlx)
      have hJ2 := Lib.hid (hJ.alloc (.cells #[.slice A2 n2 c2, .slice A3 n3 c3] 22))
      clear hg hpx hpy hlx hJ
      go_wp2_with fail
      exact ⟨rfl, gm_alloc _, hJ2.out, by rw [E11.out]; exact hpl.out⟩
    · intro wx hg hJ hdep
      have v8 : V 8 = (.pointer (some ⟨ma, 0, none⟩)) := by have h := hdep 8 rfl; rw [E8.out] at h; exact h
      have h11 : (PL ma ma [a, b]) (V 11) wx := by have h := hdep 11 rfl; rw [E11.out] at h; exact h
      have v7 : V 7 = (.bool true) := by have h := hdep 7 rfl; rw [E7.out] at h; exact h
      clear hdep
      have hm := one_m [a, b] _ hJ h11 (by rw [HKL.out]; omega) (by simp) (by simp [HAL.out, HBL.out]; omega)
      rw [HAB.out] at hm
      have HM := Lib.hid hm
      clear hm hg h11 hJ
      go_wp2_with fail
      refine HM.out.mono ?_
      rintro e w5' ⟨v, rfl, hv, hg2, hj2⟩
      have HV := Lib.hid hv
      have HG2 := Lib.hid hg2
      have HJ2 := Lib.hid hj2
      clear hv hg2 hj2
      go_wp2_with fail
      exact ⟨rfl, HG2.out, HJ2.out, by rw [E12.out]; exact HV.out⟩
    · intro wx hg hJ hdep
      have h12 : (PB ma ma t) (V 12) wx := by have h := hdep 12 rfl; rw [E12.out] at h; exact h
      have v7 : V 7 = (.bool true) := by have h := hdep 7 rfl; rw [E7.out] at h; exact h
      clear hdep
      have hcv := h12.conv (P := Try.prog) Try.underlying22 Try.underlying5 Try.underlying9
      go_wp2_with fail
      exact ⟨rfl, gm_refl _, hJ, by rw [E13.out]; rfl⟩
    · intro wx hg hJ hdep
      have v7 : V 7 = (.bool true) := by have h := hdep 7 rfl; rw [E7.out] at h; exact h
      clear hdep
      clear hg
      go_wp2_with fail
      exact ⟨rfl, gm_refl _, hJ, by rw [E14.out]; rfl⟩
    · intro wx hg hJ hdep
      have v14 : V 14 = (.slice Aw t.length cw) := by have h := hdep 14 rfl; rw [E14.out] at h; exact h
      have v7 : V 7 = (.bool true) := by have h := hdep 7 rfl; rw [E7.out] at h; exact h
      clear hdep
      have hcv := (PT.out.gm hg).conv (P := Try.prog) Try.underlying22 Try.underlying5 Try.underlying9
      go_wp2_with fail
      exact ⟨rfl, gm_refl _, hJ, by rw [E15.out]; rfl⟩
    · intro wx hg hJ hdep
      have v13 : V 13 = (.string ⟨t.toArray⟩) := by have h := hdep 13 rfl; rw [E13.out] at h; exact h
      have v15 : V 15 = (.string ⟨t.toArray⟩) := by have h := hdep 15 rfl; rw [E15.out] at h; exact h
      have v7 : V 7 = (.bool true) := by have h := hdep 7 rfl; rw [E7.out] at h; exact h
      clear hdep
      clear hg
      go_wp2_with fail
      exact ⟨rfl, gm_refl _, hJ, by rw [E16.out]; rfl⟩
    · intro wx hg hJ hdep
      have v7 : V 7 = (.bool true) := by have h := hdep 7 rfl; rw [E7.out] at h; exact h
      have v16 : V 16 = (.bool true) := by have h := hdep 16 rfl; rw [E16.out] at h; exact h
      clear hdep
      clear hg
      go_wp2_with fail
      exact ⟨rfl, gm_refl _, hJ, by rw [E17.out]; rfl⟩
    · intro wx hg hJ hdep
      have v17 : V 17 = (.bool true) := by have h := hdep 17 rfl; rw [E17.out] at h; exact h
      clear hdep
      clear hg
      go_wp2_with fail
      exact ⟨rfl, gm_refl _, hJ, by rw [E18.out]; rfl⟩
  · intro V wx hg hJ hall
    have v0 : V 0 = (.bool true) := by have h := hall 0 (by decide); rw [E0.out] at h; exact h
    have v1 : V 1 = (.bool true) := by have h := hall 1 (by decide); rw [E1.out] at h; exact h
    have v2 : V 2 = (.bool true) := by have h := hall 2 (by decide); rw [E2.out] at h; exact h
    have v3 : V 3 = (.bool true) := by have h := hall 3 (by decide); rw [E3.out] at h; exact h
    have v4 : V 4 = (.bool true) := by have h := hall 4 (by decide); rw [E4.out] at h; exact h
    have v5 : V 5 = (.bool true) := by have h := hall 5 (by decide); rw [E5.out] at h; exact h
    have v6 : V 6 = (.bool true) := by have h := hall 6 (by decide); rw [E6.out] at h; exact h
    have v7 : V 7 = (.bool true) := by have h := hall 7 (by decide); rw [E7.out] at h; exact h
    have v8 : V 8 = (.pointer (some ⟨ma, 0, none⟩)) := by have h := hall 8 (by decide); rw [E8.out] at h; exact h
    have v9 : V 9 = (.slice A2 n2 c2) := by have h := hall 9 (by decide); rw [E9.out] at h; exact h
    have v10 : V 10 = (.slice A3 n3 c3) := by have h := hall 10 (by decide); rw [E10.out] at h; exact h
    have h11 : (PL ma ma [a, b]) (V 11) wx := by have h := hall 11 (by decide); rw [E11.out] at h; exact h
    have h12 : (PB ma ma t) (V 12) wx := by have h := hall 12 (by decide); rw [E12.out] at h; exact h
    have v13 : V 13 = (.string ⟨t.toArray⟩) := by have h := hall 13 (by decide); rw [E13.out] at h; exact h
    have v14 : V 14 = (.slice Aw t.length cw) := by have h := hall 14 (by decide); rw [E14.out] at h; exact h
    have v15 : V 15 = (.string ⟨t.toArray⟩) := by have h := hall 15 (by decide); rw [E15.out] at h; exact h
    have v16 : V 16 = (.bool true) := by have h := hall 16 (by decide); rw [E16.out] at h; exact h
    have v17 : V 17 = (.bool true) := by have h := hall 17 (by decide); rw [E17.out] at h; exact h
    have v18 : V 18 = (.bool true) := by have h := hall 18 (by decide); rw [E18.out] at h; exact h
    clear hall
    simp only [fillTo, Act.put, List.setIfInBounds_toArray, List.set_cons_succ, List.set_cons_zero, Nat.reduceAdd, Nat.zero_add, v0, v1, v2, v3, v4, v5, v6, v7, v8, v9, v10, v13, v14, v15, v16, v17, v18]
    clear v0 v1 v2 v3 v4 v5 v6 v7 v8 v9 v10 v13 v14 v15 v16 v17 v18
    have HALL := Lib.hid (HB14.out.trans (Grew.below (gm_trans _ _ _ (gm_drew (gm_refl w14)) hg) (by omega) (fun k _ e => by rcases e with rfl | rfl <;> omega)))
    clear hg h11 h12
    go_wp2_with fail
    go_ret
    exact ⟨rfl, HALL.out⟩
end Go.Proofs.Ytbjlmodabiadfaa
