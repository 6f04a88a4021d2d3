/- THE WALK of the law KeysFold. -/
import Derived.Test.YtdjpiccehloaiaaDoorKey6
namespace Go.Proofs.YtdjpiccehloaiaaDoor
open Go.RowKit

theorem fold_conv {w : World} {B n c : Nat} {A : Option Addr} {l : List UInt8} (h : Reads w B 1 A n (bv l)) : (convert 22 9 (.slice A n c)).run Tryd.prog w = .ok (.string ⟨l.toArray⟩) w :=
  run_conv_bytes (P := Tryd.prog) Tryd.underlying22 Tryd.underlying5 Tryd.underlying9 h
theorem fold_strs {L : List ByteArray} {v : Value} {w : World} (k : List UInt8) (A : Option Addr) (c B : Nat) (h : StrsV L v w) (hr : Reads w B 1 A 32 (bv k)) (hB : B ≤ w.heap.size) (hl : L.length ≤ 3) (hs : ∀ s ∈ L, s.size ≤ 140737488351232) :
    Calls Tryd.prog 17 #[.slice A 32 c, v] w (RowOut (foldB k (bytesOf L)) w) := by
  obtain ⟨LA, lc, LB, rfl, h2, h3, h4⟩ := h
  exact Fold_any k L A 32 c B LA lc _ w hr hB (by omega) h4 (fun k hk => Nat.lt_of_lt_of_le hk h3) (by omega) hs
theorem newB_conv {N : Nat} {l : List UInt8} {v : Value} {w : World} (h : NewB N l v w) : (convert 22 9 v).run Tryd.prog w = .ok (.string ⟨l.toArray⟩) w := by
  obtain ⟨A, c, rfl, hr⟩ := h
  exact fold_conv hr.reads
/-- Digits laid from the last one on. -/
def NumRel (w : World) (t : Nat) (s i : Value) (wr : World) : Prop :=
  ∃ (q : Nat) (b : ByteArray), s = .string b ∧ i = .int .i64 q ∧ q ≤ t ∧ b.size ≤ 3 ∧ ((q = 0 ∧ b.data.toList = dec t) ∨ (0 < q ∧ dec q ++ b.data.toList = dec t)) ∧ Below w.heap.size w wr
theorem num_start (w : World) (t : Nat) (h : 1 ≤ t) : NumRel w t (.string ⟨#[]⟩) (.int .i64 t) w := ⟨t, ⟨#[]⟩, rfl, rfl, Nat.le_refl _, by decide, .inr ⟨h, by simp⟩, Below.refl _ _⟩
theorem size_len (s : ByteArray) : s.size = s.data.toList.length := by rw [Array.length_toList]; rfl
theorem one_data (c : UInt8) (t : ByteArray) : ((⟨#[c]⟩ : ByteArray) ++ t).data.toList = c :: t.data.toList := by rw [Go.Joins.data_append]; rfl
theorem num_b8 (q : Nat) : b8 (48 + (q : Int) % 10) = sg (q % 10) := by
  have := rt_b8 (k := q % 10) (by omega)
  rw [← this]; congr 1
theorem num_next {w wr : World} {t q : Nat} {b : ByteArray} {o : Obj} (hq : 0 < q) (hqt : q ≤ t) (ht : t ≤ 999) (hb : dec q ++ b.data.toList = dec t) (hbl : Below w.heap.size w wr) :
    NumRel w t (.string (⟨#[b8 (48 + (q : Int) % 10)]⟩ ++ b)) (.int .i64 ((q : Int) / 10)) (wr.alloc o) := by
  have hlt := dec_le t ht
  have hl1 := congrArg List.length hb
  rw [List.length_append] at hl1
  have hd1 : 1 ≤ (dec q).length := by
    by_cases h : q < 10
    · rw [dec_one h]; simp
    · rw [dec_more h]; simp
  have hsz : ((⟨#[b8 (48 + (q : Int) % 10)]⟩ : ByteArray) ++ b).size = b.data.toList.length + 1 := by
    rw [size_len, one_data, List.length_cons]
  refine ⟨q / 10, _, rfl, by congr 1, by omega, by rw [hsz]; omega, ?_, hbl.alloc hbl.size _⟩
  rw [one_data, num_b8]
  by_cases h : q < 10
  · left
    refine ⟨by omega, ?_⟩
    rw [← hb, dec_one h, Nat.mod_eq_of_lt h]; rfl
  · right
    refine ⟨by omega, ?_⟩
    rw [← hb, dec_more h, List.append_assoc]; rfl

theorem bad_why {t p v : Int} (hk : keyOk t p v = false) : t < 1 ∨ 64 < t ∨ nameB p = false ∨ v < 1 ∨ 255 < v := by
  by_cases h3 : 1 ≤ p ∧ p ≤ 4
  · have hno : ¬ (1 ≤ t ∧ t ≤ 64 ∧ 1 ≤ p ∧ p ≤ 4 ∧ 1 ≤ v ∧ v ≤ 255) := fun hh => by rw [keyOk_iff.2 hh] at hk; cases hk
    omega
  · exact .inr (.inr (.inl (nameB_no h3)))
set_option maxRecDepth 100000 in
set_option maxHeartbeats 4000000 in
theorem KeysFold_no (A : Option Addr) (n c : Nat) (t p v : Int) (w : World) (hno : n < 16 ∨ 64 < n) (ht : Tab w) :
    Calls Tryd.prog 4 #[.slice A n c, .int .i64 t, .int .i64 p, .int .i64 v] w fun e w' => e = .returned (.bool true) ∧ Below w.heap.size w w' := by
  have HNO := Lib.hid (fun A c w => New_no A n c w hno)
  clear hno
  go_enter Tryd.func4, Tryd.ntmps4
  go_wp2_with fail
  refine (small13_any _ ht).mono ?_
  rintro e w1 ⟨rfl, hb1⟩
  go_wp2_with fail
  refine (HNO.out _ _ _).mono ?_
  rintro e w3 ⟨rfl, rfl⟩
  go_wp2_with fail
  go_ret
  exact ⟨rfl, hb1⟩

set_option maxRecDepth 100000 in
set_option maxHeartbeats 8000000 in
theorem KeysFold_bad (A : Option Addr) (n c : Nat) (m : List UInt8) (t p v : Int) (w : World) (hr : Reads w w.heap.size 1 A n (bv m)) (hn1 : 16 ≤ n) (hn2 : n ≤ 64) (hk : keyOk t p v = false) (ht : Tab w) :
    Calls Tryd.prog 4 #[.slice A n c, .int .i64 t, .int .i64 p, .int .i64 v] w fun e w' => e = .returned (.bool true) ∧ Below w.heap.size w w' := by
  have hwhy := bad_why hk
  have HR := Lib.hid hr
  have HK := Lib.hid hk
  obtain ⟨b, hb⟩ : ∃ b, nameB p = b := ⟨_, rfl⟩
  rw [hb] at hwhy
  obtain ⟨s, hs⟩ : ∃ s, nameS p = s := ⟨_, rfl⟩
  have HS := Lib.hid hs
  have HB := Lib.hid hb
  clear hr hk hs hb
  go_enter Tryd.func4, Tryd.ntmps4
  go_wp2_with fail
  refine (small13_any _ ht).mono ?_
  rintro e w1 ⟨rfl, hb1⟩
  go_wp2_with fail
  refine (New_ring m A n c _ w1 (HR.out.below hb1) hb1.size hn1 hn2).mono ?_
  rintro e w3 ⟨rb, rfl, hrb, hring, hb3⟩
  have HRING := Lib.hid hring
  have HB3 := Lib.hid (thenB hb1 hb3)
  have hs1 := hb1.size
  clear hring hb3
  go_wp2_with fail
  refine (Key_no rb _ m t p v w3 HRING.out HK.out).mono ?_
  rintro e w8 ⟨X8, hX8, hring8, hg8, ⟨_, rfl⟩ | ⟨h0, _⟩⟩
  rotate_left
  · rw [HK.out] at h0; cases h0
  have HB8 := Lib.hid (HB3.out.trans (hg8.below (B := w.heap.size) HB3.out.size fun k _ hk => by omega))
  clear hX8 hring8 hg8
  go_wp2_with fail
  refine (Name_any _ _).mono ?_
  rw [HS.out, HB.out]
  rintro e w9 ⟨rfl, hb9⟩
  have HB9 := Lib.hid (HB8.out.trans (hb9.mono HB8.out.size))
  clear hb9
  by_cases g1 : t < 1
  · clear hwhy
    go_wp2_with fail
    go_ret
    exact ⟨rfl, HB9.out⟩
  by_cases g2 : 64 < t
  · clear hwhy
    go_wp2_with fail
    go_ret
    exact ⟨rfl, HB9.out⟩
  cases b with
  | false =>
    clear hwhy
    go_wp2_with fail
    go_ret
    exact ⟨rfl, HB9.out⟩
  | true =>
    by_cases g3 : v < 1
    · clear hwhy
      go_wp2_with fail
      go_ret
      exact ⟨rfl, HB9.out⟩
    · have g4 : 255 < v := by
        rcases hwhy with h | h | h | h | h
        · omega
        · omega
        · cases h
        · omega
        · exact h
      clear hwhy
      go_wp2_with fail
      go_ret
      exact ⟨rfl, HB9.out⟩

set_option maxRecDepth 100000 in
set_option maxHeartbeats 8000000 in
theorem KeysFold_good (A : Option Addr) (n c : Nat) (m : List UInt8) (t : Nat) (p : Int) (v : Nat) (w : World) (hr : Reads w w.heap.size 1 A n (bv m)) (hn1 : 16 ≤ n) (hn2 : n ≤ 64) (hk : keyOk t p v = true) (ht : Tab w) :
    Calls Tryd.prog 4 #[.slice A n c, .int .i64 t, .int .i64 p, .int .i64 v] w fun e w' => e = .returned (.bool true) ∧ Below w.heap.size w w' := by
  obtain ⟨k1, k2, k3, k4, k5, k6⟩ := keyOk_iff.1 hk
  have HL := Lib.hid (show m.length = n by have := hr.1; rw [length_bv] at this; omega)
  have HR := Lib.hid hr
  have HK := Lib.hid hk
  have HNB := Lib.hid (nameB_iff.2 ⟨k3, k4⟩)
  have hns := nameS_size p
  obtain ⟨ns, hnse⟩ : ∃ ns, ns = nameS p := ⟨_, rfl⟩
  have HNS := Lib.hid hnse
  rw [← hnse] at hns
  have hcv := run_conv_one (P := Tryd.prog) Tryd.underlying22 Tryd.underlying5 Tryd.underlying9
  obtain ⟨kk, hkk⟩ : ∃ kk, kk = keyB m t p v := ⟨_, rfl⟩
  have hkl : kk.length = 32 := by rw [hkk]; exact length_keyB m t p v
  have HKK := Lib.hid hkk
  have HKL := Lib.hid hkl
  have HTL := Lib.hid (length_tenK m t)
  clear hr hk hnse hkk hkl
  go_enter Tryd.func4, Tryd.ntmps4
  go_wp2_with fail
  refine (small13_any _ ht).mono ?_
  rintro e w1 ⟨rfl, hb1⟩
  go_wp2_with fail
  refine (New_ring m A n c _ w1 (HR.out.below hb1) hb1.size hn1 hn2).mono ?_
  rintro e w3 ⟨rb, rfl, hrb, hring, hb3⟩
  have HRING := Lib.hid hring
  have HB3 := Lib.hid (thenB hb1 hb3)
  have hs1 := hb1.size
  clear hring hb3
  go_wp2_with fail
  refine (Key_yes rb _ m t p v w3 HRING.out (by rw [HL.out]; exact hn2) HK.out (ht.below HB3.out)).mono ?_
  rintro e w8 ⟨X8, hX8, hring8, hg8, ⟨h0, _⟩ | ⟨_, A8, c8, rfl, hrow8, hx8⟩⟩
  · rw [HK.out] at h0; cases h0
  rw [Int.toNat_natCast, Int.toNat_natCast, ← HKK.out] at hrow8
  have HB8 := Lib.hid (HB3.out.trans (hg8.below (B := w.heap.size) HB3.out.size fun k _ hk => by omega))
  have HW8 := Lib.hid hrow8
  clear hX8 hring8 hg8 hrow8 hx8
  go_wp2_with fail
  refine (Name_any _ _).mono ?_
  rw [HNB.out, ← HNS.out]
  rintro e w9 ⟨rfl, hb9⟩
  have HB9 := Lib.hid (HB8.out.trans (hb9.mono HB8.out.size))
  have HW9 := Lib.hid (HW8.out.below hb9 (Nat.le_refl _))
  have HS9 := Lib.hid (num_start w9 t (by omega))
  clear hb9
  go_wp2_with fail
  go_loopw [16, 17] (fun s i wr => NumRel w9 t s i wr) (fun _ i _ => (intOf i).toNat)
  case atStart => exact HS9.out
  case round =>
    clear HS9
    obtain ⟨q, b, rfl, rfl, hqt, hbs, hd, hbl⟩ := hrel
    have HD := Lib.hid hd
    have HBL := Lib.hid hbl
    clear hd hbl
    by_cases hq : 0 < q
    · have hdd : dec q ++ b.data.toList = dec t := by rcases HD.out with h | h; omega; exact h.2
      have HDD := Lib.hid hdd
      clear hdd
      go_wp2
      go_roundw
      case rel => exact num_next hq hqt (by omega) HDD.out HBL.out
      case measure => simp [intOf]; omega
    · have hbd : b.data.toList = dec t := by rcases HD.out with h | h; exact h.2; omega
      have HBD := Lib.hid hbd
      obtain rfl : q = 0 := by omega
      obtain ⟨wo, rfl⟩ : ∃ wo : World, wo = wr := ⟨_, rfl⟩
      have HS10 := Lib.hid (num_start wo v (by omega))
      clear hbd HD
      go_wp2_with fail
      go_loopw [18, 19] (fun s i w2 => NumRel wo v s i w2) (fun _ i _ => (intOf i).toNat)
      case atStart => exact HS10.out
      case round =>
        clear HS10
        obtain ⟨q, b2, rfl, rfl, hqt2, hbs2, hd2, hbl2⟩ := hrel
        have HD2 := Lib.hid hd2
        have HBL2 := Lib.hid hbl2
        clear hd2 hbl2
        by_cases hq : 0 < q
        · have hdd : dec q ++ b2.data.toList = dec v := by rcases HD2.out with h | h; omega; exact h.2
          have HDD := Lib.hid hdd
          clear hdd
          go_wp2
          go_roundw
          case rel => exact num_next hq hqt2 (by omega) HDD.out HBL2.out
          case measure => simp [intOf]; omega
        · have hbd2 : b2.data.toList = dec v := by rcases HD2.out with h | h; exact h.2; omega
          have HBD2 := Lib.hid hbd2
          obtain rfl : q = 0 := by omega
          clear hbd2 HD2 hcv
          have HBW := Lib.hid (HB9.out.trans ((HBL.out.trans (HBL2.out.mono HBL.out.size)).mono HB9.out.size))
          have HW10 := Lib.hid (HW9.out.below (HBL.out.trans (HBL2.out.mono HBL.out.size)) (Nat.le_refl _))
          have hsw := HBW.out.size
          clear HBL HBL2 HW9
          go_wp2_with fail
          obtain ⟨LA, lc, LB, hv, hlc, hLB, hp⟩ := StrsV.lit [tenantS, b] 9 wr
          injection hv with q1 q2 q3
          subst q1
          have hm := Fold_any m [tenantS, b] A n c w.heap.size (some ⟨wr.heap.size, 0, none⟩) 2 _ _ ((HR.out.below HBW.out).alloc hsw _) (by simp; omega) (by omega) hp (fun k hk => Nat.lt_of_lt_of_le hk hLB) (by simp)
            (by intro s hs; simp at hs; rcases hs with rfl | rfl; exact Nat.le_of_lt (by decide); omega)
          rw [show foldB m (bytesOf [tenantS, b]) = tenK m t by unfold tenK; rw [← HBD.out]; rfl] at hm
          refine hm.mono ?_
          rintro e w12 ⟨A12, c12, rfl, hrow12, hb12⟩
          rw [HTL.out]
          rw [HTL.out] at hrow12
          have HR12 := Lib.hid (hrow12.reads)
          have HB12 := Lib.hid ((HBW.out.alloc hsw (.cells ([tenantS, b].map Value.string).toArray 9)).trans (hb12.mono (by simp; omega)))
          have HW12 := Lib.hid ((HW10.out.alloc (.cells ([tenantS, b].map Value.string).toArray 9)).below hb12 (Nat.le_refl _)).reads
          clear hrow12 hb12 hm hp
          go_wp2_with fail
          have hg0 : Below w12.heap.size w12 w12.drew := (Below.refl _ _).drew
          obtain ⟨F, hF⟩ : ∃ F, F = nthF [eqv (.bool true), eqv (.bool true), eqv (.slice A8 32 c8), eqv (.string ⟨kk.toArray⟩), eqv (.slice A12 32 c12), eqv (.string ns), eqv (.string b2), StrsV [ns, versionS, b2], NewB w12.heap.size kk, eqv (.string ⟨kk.toArray⟩), eqv (.bool true), eqv (.bool true), eqv (.bool true), eqv (.slice A8 32 c8), eqv (.int .i64 32), eqv (.bool true), eqv (.bool true), eqv (.bool true)] := ⟨_, rfl⟩
          have E0 := Lib.hid (show F 0 = eqv (.bool true) by rw [hF]; rfl)
          have E1 := Lib.hid (show F 1 = eqv (.bool true) by rw [hF]; rfl)
          have E2 := Lib.hid (show F 2 = eqv (.slice A8 32 c8) by rw [hF]; rfl)
          have E3 := Lib.hid (show F 3 = eqv (.string ⟨kk.toArray⟩) by rw [hF]; rfl)
          have E4 := Lib.hid (show F 4 = eqv (.slice A12 32 c12) by rw [hF]; rfl)
          have E5 := Lib.hid (show F 5 = eqv (.string ns) by rw [hF]; rfl)
          have E6 := Lib.hid (show F 6 = eqv (.string b2) by rw [hF]; rfl)
          have E7 := Lib.hid (show F 7 = StrsV [ns, versionS, b2] by rw [hF]; rfl)
          have E8 := Lib.hid (show F 8 = NewB w12.heap.size kk by rw [hF]; rfl)
          have E9 := Lib.hid (show F 9 = eqv (.string ⟨kk.toArray⟩) by rw [hF]; rfl)
          have E10 := Lib.hid (show F 10 = eqv (.bool true) by rw [hF]; rfl)
          have E11 := Lib.hid (show F 11 = eqv (.bool true) by rw [hF]; rfl)
          have E12 := Lib.hid (show F 12 = eqv (.bool true) by rw [hF]; rfl)
          have E13 := Lib.hid (show F 13 = eqv (.slice A8 32 c8) by rw [hF]; rfl)
          have E14 := Lib.hid (show F 14 = eqv (.int .i64 32) by rw [hF]; rfl)
          have E15 := Lib.hid (show F 15 = eqv (.bool true) by rw [hF]; rfl)
          have E16 := Lib.hid (show F 16 = eqv (.bool true) by rw [hF]; rfl)
          have E17 := Lib.hid (show F 17 = eqv (.bool true) by rw [hF]; rfl)
          have hst : ∀ j v w w', F j v w → Grows w w' → F j v w' := by rw [hF]; exact nth_stable (by repeat (first | exact st_nil | exact st_eqv _ | exact st_any | exact st_strs _ | exact st_new _ _ | refine st_cons ?_ ?_))
          have HST0 := Lib.hid hst
          clear hF hst
          refine wp_region_facts F Grows (fun _ => True) (by kernel_rfl) (by kernel_rfl) grows_refl grows_trans HST0.out (trivial) ?_ ?_
          · intro V; refine ⟨?_, ?_, ?_, ?_, ?_, ?_, ?_, ?_, ?_, ?_, ?_, ?_, ?_, ?_, ?_, ?_, ?_, ?_, trivial⟩
            · intro wx hg hJ hdep
              clear hdep
              clear hg
              go_wp2_with fail
              exact ⟨rfl, grows_refl _, trivial, by rw [E0.out]; rfl⟩
            · intro wx hg hJ hdep
              have v0 : V 0 = (.bool true) := by have h := hdep 0 rfl; rw [E0.out] at h; exact h
              clear hdep
              clear hg
              go_wp2_with fail
              exact ⟨rfl, grows_refl _, trivial, by rw [E1.out]; rfl⟩
            · intro wx hg hJ hdep
              have v1 : V 1 = (.bool true) := by have h := hdep 1 rfl; rw [E1.out] at h; exact h
              clear hdep
              clear hg
              go_wp2_with fail
              exact ⟨rfl, grows_refl _, trivial, by rw [E2.out]; rfl⟩
            · intro wx hg hJ hdep
              have v2 : V 2 = (.slice A8 32 c8) := by have h := hdep 2 rfl; rw [E2.out] at h; exact h
              have v1 : V 1 = (.bool true) := by have h := hdep 1 rfl; rw [E1.out] at h; exact h
              clear hdep
              have hcv := fold_conv (c := c8) (HW12.out.below (hg0.trans hg))
              clear hg
              go_wp2_with fail
              exact ⟨rfl, grows_refl _, trivial, by rw [E3.out]; rfl⟩
            · intro wx hg hJ hdep
              have v1 : V 1 = (.bool true) := by have h := hdep 1 rfl; rw [E1.out] at h; exact h
              clear hdep
              clear hg
              go_wp2_with fail
              exact ⟨rfl, grows_refl _, trivial, by rw [E4.out]; rfl⟩
            · intro wx hg hJ hdep
              have v1 : V 1 = (.bool true) := by have h := hdep 1 rfl; rw [E1.out] at h; exact h
              clear hdep
              clear hg
              go_wp2_with fail
              exact ⟨rfl, grows_refl _, trivial, by rw [E5.out]; rfl⟩
            · intro wx hg hJ hdep
              have v1 : V 1 = (.bool true) := by have h := hdep 1 rfl; rw [E1.out] at h; exact h
              clear hdep
              clear hg
              go_wp2_with fail
              exact ⟨rfl, grows_refl _, trivial, by rw [E6.out]; rfl⟩
            · intro wx hg hJ hdep
              have v5 : V 5 = (.string ns) := by have h := hdep 5 rfl; rw [E5.out] at h; exact h
              have v6 : V 6 = (.string b2) := by have h := hdep 6 rfl; rw [E6.out] at h; exact h
              have v1 : V 1 = (.bool true) := by have h := hdep 1 rfl; rw [E1.out] at h; exact h
              clear hdep
              clear hg
              go_wp2_with fail
              exact ⟨rfl, (Below.refl _ _).alloc (Nat.le_refl _) _, trivial, by rw [E7.out]; exact StrsV.lit [ns, versionS, b2] _ _⟩
            · intro wx hg hJ hdep
              have v4 : V 4 = (.slice A12 32 c12) := by have h := hdep 4 rfl; rw [E4.out] at h; exact h
              have h7 : (StrsV [ns, versionS, b2]) (V 7) wx := by have h := hdep 7 rfl; rw [E7.out] at h; exact h
              have v1 : V 1 = (.bool true) := by have h := hdep 1 rfl; rw [E1.out] at h; exact h
              clear hdep
              have hbx := hg0.trans hg
              have hsx := hbx.size
              have hm := fold_strs (tenK m t) A12 c12 w12.heap.size h7 (HR12.out.below hbx) hsx (Nat.le_refl 3) (by intro s hs; simp at hs; rcases hs with rfl | rfl | rfl; omega; exact Nat.le_of_lt (by decide); omega)
              rw [show foldB (tenK m t) (bytesOf [ns, versionS, b2]) = kk by rw [HKK.out, HNS.out]; unfold keyB; rw [← HBD2.out]; rfl] at hm
              have HM := Lib.hid hm
              clear hm hg hbx h7
              go_wp2_with fail
              refine HM.out.mono ?_
              rintro e w5 ⟨A9, c9, rfl, hv8, hb8⟩
              have HV8 := Lib.hid (hv8.mono hsx)
              have HG8 := Lib.hid hb8
              clear hv8 hb8
              go_wp2_with fail
              exact ⟨rfl, HG8.out, trivial, by rw [E8.out]; exact ⟨_, _, rfl, HV8.out⟩⟩
            · intro wx hg hJ hdep
              have h8 : (NewB w12.heap.size kk) (V 8) wx := by have h := hdep 8 rfl; rw [E8.out] at h; exact h
              have v1 : V 1 = (.bool true) := by have h := hdep 1 rfl; rw [E1.out] at h; exact h
              clear hdep
              have hcv := newB_conv h8
              clear hg h8
              go_wp2_with fail
              exact ⟨rfl, grows_refl _, trivial, by rw [E9.out]; rfl⟩
            · intro wx hg hJ hdep
              have v3 : V 3 = (.string ⟨kk.toArray⟩) := by have h := hdep 3 rfl; rw [E3.out] at h; exact h
              have v9 : V 9 = (.string ⟨kk.toArray⟩) := by have h := hdep 9 rfl; rw [E9.out] at h; exact h
              have v1 : V 1 = (.bool true) := by have h := hdep 1 rfl; rw [E1.out] at h; exact h
              clear hdep
              clear hg
              go_wp2_with fail
              exact ⟨rfl, grows_refl _, trivial, by rw [E10.out]; rfl⟩
            · intro wx hg hJ hdep
              have v1 : V 1 = (.bool true) := by have h := hdep 1 rfl; rw [E1.out] at h; exact h
              have v10 : V 10 = (.bool true) := by have h := hdep 10 rfl; rw [E10.out] at h; exact h
              clear hdep
              clear hg
              go_wp2_with fail
              exact ⟨rfl, grows_refl _, trivial, by rw [E11.out]; rfl⟩
            · intro wx hg hJ hdep
              have v11 : V 11 = (.bool true) := by have h := hdep 11 rfl; rw [E11.out] at h; exact h
              clear hdep
              clear hg
              go_wp2_with fail
              exact ⟨rfl, grows_refl _, trivial, by rw [E12.out]; rfl⟩
            · intro wx hg hJ hdep
              have v12 : V 12 = (.bool true) := by have h := hdep 12 rfl; rw [E12.out] at h; exact h
              clear hdep
              clear hg
              go_wp2_with fail
              exact ⟨rfl, grows_refl _, trivial, by rw [E13.out]; rfl⟩
            · intro wx hg hJ hdep
              have v13 : V 13 = (.slice A8 32 c8) := by have h := hdep 13 rfl; rw [E13.out] at h; exact h
              have v12 : V 12 = (.bool true) := by have h := hdep 12 rfl; rw [E12.out] at h; exact h
              clear hdep
              clear hg
              go_wp2_with fail
              exact ⟨rfl, grows_refl _, trivial, by rw [E14.out]; rfl⟩
            · intro wx hg hJ hdep
              have v14 : V 14 = (.int .i64 32) := by have h := hdep 14 rfl; rw [E14.out] at h; exact h
              have v12 : V 12 = (.bool true) := by have h := hdep 12 rfl; rw [E12.out] at h; exact h
              clear hdep
              clear hg
              go_wp2_with fail
              exact ⟨rfl, grows_refl _, trivial, by rw [E15.out]; rfl⟩
            · intro wx hg hJ hdep
              have v12 : V 12 = (.bool true) := by have h := hdep 12 rfl; rw [E12.out] at h; exact h
              have v15 : V 15 = (.bool true) := by have h := hdep 15 rfl; rw [E15.out] at h; exact h
              clear hdep
              clear hg
              go_wp2_with fail
              exact ⟨rfl, grows_refl _, trivial, by rw [E16.out]; rfl⟩
            · intro wx hg hJ hdep
              have v16 : V 16 = (.bool true) := by have h := hdep 16 rfl; rw [E16.out] at h; exact h
              clear hdep
              clear hg
              go_wp2_with fail
              exact ⟨rfl, grows_refl _, trivial, by rw [E17.out]; rfl⟩
          · intro V wx hg hJ hall
            have v0 : V 0 = (.bool true) := by have h := hall 0 (by decide); rw [E0.out] at h; exact h
            have v1 : V 1 = (.bool true) := by have h := hall 1 (by decide); rw [E1.out] at h; exact h
            have v2 : V 2 = (.slice A8 32 c8) := by have h := hall 2 (by decide); rw [E2.out] at h; exact h
            have v3 : V 3 = (.string ⟨kk.toArray⟩) := by have h := hall 3 (by decide); rw [E3.out] at h; exact h
            have v4 : V 4 = (.slice A12 32 c12) := by have h := hall 4 (by decide); rw [E4.out] at h; exact h
            have v5 : V 5 = (.string ns) := by have h := hall 5 (by decide); rw [E5.out] at h; exact h
            have v6 : V 6 = (.string b2) := by have h := hall 6 (by decide); rw [E6.out] at h; exact h
            have h7 : (StrsV [ns, versionS, b2]) (V 7) wx := by have h := hall 7 (by decide); rw [E7.out] at h; exact h
            have h8 : (NewB w12.heap.size kk) (V 8) wx := by have h := hall 8 (by decide); rw [E8.out] at h; exact h
            have v9 : V 9 = (.string ⟨kk.toArray⟩) := by have h := hall 9 (by decide); rw [E9.out] at h; exact h
            have v10 : V 10 = (.bool true) := by have h := hall 10 (by decide); rw [E10.out] at h; exact h
            have v11 : V 11 = (.bool true) := by have h := hall 11 (by decide); rw [E11.out] at h; exact h
            have v12 : V 12 = (.bool true) := by have h := hall 12 (by decide); rw [E12.out] at h; exact h
            have v13 : V 13 = (.slice A8 32 c8) := by have h := hall 13 (by decide); rw [E13.out] at h; exact h
            have v14 : V 14 = (.int .i64 32) := by have h := hall 14 (by decide); rw [E14.out] at h; exact h
            have v15 : V 15 = (.bool true) := by have h := hall 15 (by decide); rw [E15.out] at h; exact h
            have v16 : V 16 = (.bool true) := by have h := hall 16 (by decide); rw [E16.out] at h; exact h
            have v17 : V 17 = (.bool true) := by have h := hall 17 (by decide); rw [E17.out] at h; exact h
            clear hall
            simp only [fillTo, Act.put, List.setIfInBounds_toArray, List.set_cons_succ, List.set_cons_zero, Nat.reduceAdd, Nat.zero_add, v0, v1, v2, v3, v4, v5, v6, v9, v10, v11, v12, v13, v14, v15, v16, v17]
            clear v0 v1 v2 v3 v4 v5 v6 v9 v10 v11 v12 v13 v14 v15 v16 v17
            have HG := Lib.hid (hg0.trans hg)
            clear hg h7 h8
            go_wp2_with fail
            go_ret
            exact ⟨rfl, HB12.out.trans (HG.out.mono HB12.out.size)⟩
theorem KeysFold_walk (A : Option Addr) (n c : Nat) (m : List UInt8) (t p v : Int) (w : World) (hr : Reads w w.heap.size 1 A n (bv m)) (_hc : n ≤ c ∧ c ≤ 140737488351232) (_h1 : (Lit.int .i64 t).wf = true) (_h2 : (Lit.int .i64 p).wf = true) (_h3 : (Lit.int .i64 v).wf = true) (ht : Tab w) :
    Calls Tryd.prog 4 #[.slice A n c, .int .i64 t, .int .i64 p, .int .i64 v] w fun e w' => e = .returned (.bool true) ∧ Below w.heap.size w w' := by
  by_cases hn : 16 ≤ n ∧ n ≤ 64
  · cases hk : keyOk t p v with
    | false => exact KeysFold_bad A n c m t p v w hr hn.1 hn.2 hk ht
    | true =>
      obtain ⟨h1, h2, h3, h4, h5, h6⟩ := keyOk_iff.1 hk
      obtain ⟨t', rfl⟩ : ∃ t' : Nat, t = t' := ⟨t.toNat, by omega⟩
      obtain ⟨v', rfl⟩ : ∃ v' : Nat, v = v' := ⟨v.toNat, by omega⟩
      exact KeysFold_good A n c m t' p v' w hr hn.1 hn.2 hk ht
  · exact KeysFold_no A n c t p v w (by omega) ht
end Go.Proofs.YtdjpiccehloaiaaDoor
