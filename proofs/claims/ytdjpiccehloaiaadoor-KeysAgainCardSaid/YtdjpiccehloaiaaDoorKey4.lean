/- THE WALK of keys.Key. -/
import Derived.Test.YtdjpiccehloaiaaDoorKey3
namespace Go.Proofs.YtdjpiccehloaiaaDoor
open Go.RowKit

/-- What Key answers, and the ring behind it. -/
def KeyOut (rb : Nat) (X : Nat → Prop) (m : List UInt8) (t p v : Int) (w : World) (e : Ending) (w' : World) : Prop :=
  ∃ X2 : Nat → Prop, (∀ k, X2 k → X k ∨ w.heap.size ≤ k) ∧ RingAt w' rb X2 m ∧ Grew (· = rb) w w' ∧
    ((keyOk t p v = false ∧ e = .returned (.tuple #[.slice none 0 0, .int .i64 1])) ∨
     (keyOk t p v = true ∧ ∃ A c, e = .returned (.tuple #[.slice A 32 c, .int .i64 0]) ∧ Row w' w.heap.size 1 A 32 c (bv (keyB m t.toNat p v.toNat)) ∧ ∀ ad, A = some ad → ¬ X2 ad.block))
theorem RingAt.new {w w' : World} {rb : Nat} {X : Nat → Prop} {m : List UInt8} (h : RingAt w rb X m) (hb : Below w.heap.size w w') : RingAt w' rb X m := h.below hb (Nat.le_refl _)
theorem keyOut_no {rb : Nat} {X : Nat → Prop} {m : List UInt8} {t p v : Int} {w w' : World} {e : Ending} (h : RingAt w rb X m) (hk : keyOk t p v = false) (hb : Below w.heap.size w w') (he : e = .returned (.tuple #[.slice none 0 0, .int .i64 1])) : KeyOut rb X m t p v w e w' :=
  ⟨X, fun _ h => .inl h, h.new hb, Grew.of_new hb, .inl ⟨hk, he⟩⟩
theorem two_boxes {w w1 : World} {a b : Value} {ta tb : TypeId} (hb : Below ((w.alloc (.cells #[a] ta)).alloc (.cells #[b] tb)).heap.size ((w.alloc (.cells #[a] ta)).alloc (.cells #[b] tb)) w1) :
    w1.cell? ⟨w.heap.size, 0, none⟩ = some a ∧ w1.cell? ⟨w.heap.size + 1, 0, none⟩ = some b ∧ w.heap.size + 2 ≤ w1.heap.size ∧ Below w.heap.size w w1 := by
  have h1 := (hb.cell (p := ⟨w.heap.size, 0, none⟩) (by simp; omega))
  have h2 := (hb.cell (p := ⟨w.heap.size + 1, 0, none⟩) (by simp))
  refine ⟨h1.trans ?_, h2.trans ?_, by have := hb.size; simp at this; omega, ?_⟩
  · rw [World.cell?_alloc_lt _ _ _ (by simp), cell?_new]; rfl
  · have := cell?_new (w.alloc (.cells #[a] ta)) #[b] tb 0
    rw [show (w.alloc (.cells #[a] ta)).heap.size = w.heap.size + 1 by simp] at this
    exact this
  · exact (((Below.refl _ _).alloc (Nat.le_refl _) _).alloc (by simp) _).trans (hb.mono (by simp; omega))
set_option maxRecDepth 100000 in
set_option maxHeartbeats 4000000 in
theorem Key_no (rb : Nat) (X : Nat → Prop) (m : List UInt8) (t p v : Int) (w : World) (h : RingAt w rb X m) (hk : keyOk t p v = false) :
    Calls Tryd.prog 15 #[.pointer (some ⟨rb, 0, none⟩), .int .i64 t, .int .i64 p, .int .i64 v] w (KeyOut rb X m t p v w) := by
  have HK := Lib.hid hk
  have H := Lib.hid h
  have hno : ¬ (1 ≤ t ∧ t ≤ 64 ∧ 1 ≤ p ∧ p ≤ 4 ∧ 1 ≤ v ∧ v ≤ 255) := fun hh => by rw [keyOk_iff.2 hh] at hk; cases hk
  clear hk h
  by_cases h1 : t < 1
  · clear hno
    go_enter Tryd.func15, Tryd.ntmps15
    go_wp2_with fail
    refine (Name_any _ _).mono ?_
    generalize nameS p = ns
    generalize nameB p = nb
    rintro e w1 ⟨rfl, hb1⟩
    obtain ⟨c4, c5, hs, hb⟩ := two_boxes hb1
    clear hb1
    go_wp2_with fail
    go_ret2
    exact keyOut_no H.out HK.out hb rfl
  by_cases h2 : 64 < t
  · clear hno
    go_enter Tryd.func15, Tryd.ntmps15
    go_wp2_with fail
    refine (Name_any _ _).mono ?_
    generalize nameS p = ns
    generalize nameB p = nb
    rintro e w1 ⟨rfl, hb1⟩
    obtain ⟨c4, c5, hs, hb⟩ := two_boxes hb1
    clear hb1
    go_wp2_with fail
    go_ret2
    exact keyOut_no H.out HK.out hb rfl
  by_cases h3 : 1 ≤ p ∧ p ≤ 4
  · have HN := Lib.hid (nameB_iff.2 h3)
    by_cases h4 : v < 1
    · clear hno h3
      go_enter Tryd.func15, Tryd.ntmps15
      go_wp2_with fail
      refine (Name_any _ _).mono ?_
      rw [HN.out]
      generalize nameS p = ns
      rintro e w1 ⟨rfl, hb1⟩
      obtain ⟨c4, c5, hs, hb⟩ := two_boxes hb1
      clear hb1
      go_wp2_with fail
      go_ret2
      exact keyOut_no H.out HK.out hb rfl
    · have h5 : 255 < v := by omega
      clear hno h3
      go_enter Tryd.func15, Tryd.ntmps15
      go_wp2_with fail
      refine (Name_any _ _).mono ?_
      rw [HN.out]
      generalize nameS p = ns
      rintro e w1 ⟨rfl, hb1⟩
      obtain ⟨c4, c5, hs, hb⟩ := two_boxes hb1
      clear hb1
      go_wp2_with fail
      go_ret2
      exact keyOut_no H.out HK.out hb rfl
  · have HN := Lib.hid (nameB_no h3)
    clear hno h3
    go_enter Tryd.func15, Tryd.ntmps15
    go_wp2_with fail
    refine (Name_any _ _).mono ?_
    rw [HN.out]
    generalize nameS p = ns
    rintro e w1 ⟨rfl, hb1⟩
    obtain ⟨c4, c5, hs, hb⟩ := two_boxes hb1
    clear hb1
    go_wp2_with fail
    go_ret2
    exact keyOut_no H.out HK.out hb rfl

theorem Tab.grew {S : Nat → Prop} {w w' : World} (h : Tab w) (hg : Grew S w w') (hn : ¬ S 0) : Tab w' := by
  have hl := h.lt
  unfold Tab Lib.TabIs World.var? at h ⊢
  rw [tab_named] at h ⊢
  simp only [Option.bind_some] at h ⊢
  rw [hg.block _ hl hn]
  exact h
theorem ring_not_tab {w : World} {rb : Nat} {X : Nat → Prop} {m : List UInt8} (h : RingAt w rb X m) (ht : Tab w) : rb ≠ 0 := by
  intro e
  subst e
  obtain ⟨cs, A, n, c, hb, h0, _⟩ := h
  unfold Tab Lib.TabIs World.var? at ht
  rw [tab_named] at ht
  simp only [Option.bind_some] at ht
  unfold Blk at hb
  rw [hb] at ht
  injection ht with ht
  rw [ht] at h0
  simp [Lib.pow10Tab] at h0
theorem dec_le (n : Nat) (h : n ≤ 999) : (dec n).length ≤ 3 := by
  by_cases h1 : n < 10
  · rw [dec_one h1]; simp
  · rw [dec_more h1]
    by_cases h2 : n / 10 < 10
    · rw [dec_one h2]; simp
    · rw [dec_more h2, dec_one (by omega)]; simp
set_option maxRecDepth 100000 in
set_option maxHeartbeats 4000000 in
theorem Key_yes (rb : Nat) (X : Nat → Prop) (m : List UInt8) (t : Nat) (p : Int) (v : Nat) (w : World) (h : RingAt w rb X m) (hm : m.length ≤ 64) (hk : keyOk t p v = true) (htab : Tab w) :
    Calls Tryd.prog 15 #[.pointer (some ⟨rb, 0, none⟩), .int .i64 t, .int .i64 p, .int .i64 v] w (KeyOut rb X m t p v w) := by
  obtain ⟨h1, h2, h3, h4, h5, h6⟩ := keyOk_iff.1 hk
  have HN := Lib.hid (nameB_iff.2 ⟨h3, h4⟩)
  have HK := Lib.hid hk
  have H := Lib.hid h
  have hlr := h.lt
  have hmf : ∀ (fn : Fn) (first cap : Array Value) (w : World), (Instr.makeFunc fn first cap).run Tryd.prog w = .ok (.func fn first cap) w := fun _ _ _ _ => rfl
  have hns := nameS_size p
  obtain ⟨ns, hnse⟩ : ∃ ns, ns = nameS p := ⟨_, rfl⟩
  have HNS := Lib.hid hnse
  rw [← hnse] at hns
  clear hk h hnse
  go_enter Tryd.func15, Tryd.ntmps15
  go_wp2_with fail
  refine (Name_any _ _).mono ?_
  rw [HN.out, ← HNS.out]
  rintro e w1 ⟨rfl, hb1⟩
  obtain ⟨c4, c5, hs, hb⟩ := two_boxes hb1
  have HB1 := Lib.hid hb
  clear hb1 hb
  have l4 : w.heap.size < w1.heap.size := by omega
  have l5 : w.heap.size + 1 < w1.heap.size := by omega
  have ht65 : (t : Int) < 65 := by omega
  go_wp2_with fail
  go_region
  have e12 := cell?_new w1 #[Value.pointer (some ⟨rb, 1 + t * 4, none⟩)] 61 0
  have d12 : (w1.alloc (Obj.cells #[Value.pointer (some ⟨rb, 1 + t * 4, none⟩)] 61)).drew.cell? ⟨w1.heap.size, 0, none⟩ = some (Value.pointer (some ⟨rb, 4 * t + 1, none⟩)) := by
    rw [show 4 * t + 1 = 1 + t * 4 by omega]; exact e12
  have d4 : (w1.alloc (Obj.cells #[Value.pointer (some ⟨rb, 1 + t * 4, none⟩)] 61)).drew.cell? ⟨w.heap.size, 0, none⟩ = some (Value.pointer (some ⟨rb, 0, none⟩)) := by
    refine Eq.trans ?_ c4; exact World.cell?_alloc_lt _ _ _ l4
  have d5 : (w1.alloc (Obj.cells #[Value.pointer (some ⟨rb, 1 + t * 4, none⟩)] 61)).drew.cell? ⟨w.heap.size + 1, 0, none⟩ = some (Value.int .i64 t) := by
    refine Eq.trans ?_ c5; exact World.cell?_alloc_lt _ _ _ l5
  have s3 : w1.heap.size < (w1.alloc (Obj.cells #[Value.pointer (some ⟨rb, 1 + t * 4, none⟩)] 61)).drew.heap.size := by simp
  have HB3 := Lib.hid (show Below w.heap.size w (w1.alloc (Obj.cells #[Value.pointer (some ⟨rb, 1 + t * 4, none⟩)] 61)).drew from (HB1.out.alloc HB1.out.size _).drew)
  generalize (w1.alloc (Obj.cells #[Value.pointer (some ⟨rb, 1 + t * 4, none⟩)] 61)).drew = w3 at d12 d4 d5 s3 HB3 ⊢
  clear e12 c4 c5
  go_wp2_with fail
  refine (once_ten rb t w.heap.size (w.heap.size + 1) w1.heap.size X m w3 (by omega) hm (H.out.new HB3.out) d4 d5 d12 (by omega) (by omega) s3 (by omega) (by omega) (by omega)).mono ?_
  rintro e w4 ⟨rfl, hr4, ⟨A, c, hc4, hrow4⟩, hg4⟩
  have hs4 := hg4.size
  have f12 : w4.cell? ⟨w1.heap.size, 0, none⟩ = some (Value.pointer (some ⟨rb, 4 * t + 1, none⟩)) := (hg4.cell (a := ⟨w1.heap.size, 0, none⟩) s3 (by show ¬ w1.heap.size = rb; omega)).trans d12
  have htab4 := (htab.below HB3.out).grew hg4 (fun e => ring_not_tab (H.out.new HB3.out) (htab.below HB3.out) e.symm)
  have l12 : w1.heap.size < w4.heap.size := by omega
  have lrb : rb < w4.heap.size := by omega
  have HR4 := Lib.hid hr4
  have HROW4 := Lib.hid hrow4
  have HG4 := Lib.hid hg4
  clear d12 d4 d5 hr4 hrow4 hg4
  obtain ⟨d, hd⟩ : ∃ d : ByteArray, d = ⟨(dec v).toArray⟩ := ⟨_, rfl⟩
  have HIT := Lib.hid (fun w (h : Tab w) => Itoa_any v w (by omega) h)
  rw [← hd] at HIT
  have hds : d.size ≤ 140737488351232 := by rw [hd, len_arr]; have := dec_le v (by omega); omega
  have HD := Lib.hid hd
  obtain ⟨kk, hkk⟩ : ∃ kk, kk = keyB m t p v := ⟨_, rfl⟩
  have hkl : kk.length = 32 := by rw [hkk]; exact length_keyB m t p v
  have HKK := Lib.hid hkk
  have HKL := Lib.hid hkl
  have HTL := Lib.hid (length_tenK m t)
  clear hd hkk hkl
  go_wp2_with fail
  have hg0 : Below w4.heap.size w4 w4.drew := (Below.refl _ _).drew
  obtain ⟨F, hF⟩ : ∃ F, F = nthF [eqv (.pointer (some ⟨rb, 4 * t + 1, none⟩)), eqv (.pointer (some ⟨rb, 4 * t + 1, none⟩)), eqv (.pointer (some ⟨rb, 4 * t + 1 + 3, none⟩)), eqv (.slice A 32 c), eqv (.string ns), eqv (.int .i64 v), eqv (.string d), StrsV [ns, versionS, d], NewB w4.heap.size kk, NewB w4.heap.size kk, eqv (.int .i64 0)] := ⟨_, rfl⟩
  have E0 := Lib.hid (show F 0 = eqv (.pointer (some ⟨rb, 4 * t + 1, none⟩)) by rw [hF]; rfl)
  have E1 := Lib.hid (show F 1 = eqv (.pointer (some ⟨rb, 4 * t + 1, none⟩)) by rw [hF]; rfl)
  have E2 := Lib.hid (show F 2 = eqv (.pointer (some ⟨rb, 4 * t + 1 + 3, none⟩)) by rw [hF]; rfl)
  have E3 := Lib.hid (show F 3 = eqv (.slice A 32 c) by rw [hF]; rfl)
  have E4 := Lib.hid (show F 4 = eqv (.string ns) by rw [hF]; rfl)
  have E5 := Lib.hid (show F 5 = eqv (.int .i64 v) by rw [hF]; rfl)
  have E6 := Lib.hid (show F 6 = eqv (.string d) by rw [hF]; rfl)
  have E7 := Lib.hid (show F 7 = StrsV [ns, versionS, d] by rw [hF]; rfl)
  have E8 := Lib.hid (show F 8 = NewB w4.heap.size kk by rw [hF]; rfl)
  have E9 := Lib.hid (show F 9 = NewB w4.heap.size kk by rw [hF]; rfl)
  have E10 := Lib.hid (show F 10 = eqv (.int .i64 0) by rw [hF]; rfl)
  have hst : ∀ j v w w', F j v w → Grows w w' → F j v w' := by rw [hF]; exact nth_stable (by repeat (first | exact st_nil | exact st_eqv _ | exact st_any | exact st_strs _ | exact st_new _ _ | refine st_cons ?_ ?_))
  have HST0 := Lib.hid hst
  clear hF hst
  refine wp_region_facts F Grows (fun _ => True) (by kernel_rfl) (by kernel_rfl) grows_refl grows_trans HST0.out (trivial) ?_ ?_
  · intro V; refine ⟨?_, ?_, ?_, ?_, ?_, ?_, ?_, ?_, ?_, ?_, ?_, trivial⟩
    · intro wx hg hJ hdep
      clear hdep
      have k1 := ((hg0.trans hg).cell (p := ⟨w1.heap.size, 0, none⟩) l12).trans f12
      clear hg
      go_wp2_with fail
      exact ⟨rfl, grows_refl _, trivial, by rw [E0.out]; rfl⟩
    · intro wx hg hJ hdep
      have v0 : V 0 = (.pointer (some ⟨rb, 4 * t + 1, none⟩)) := by have h := hdep 0 rfl; rw [E0.out] at h; exact h
      clear hdep
      clear hg
      go_wp2_with fail
      exact ⟨rfl, grows_refl _, trivial, by rw [E1.out]; rfl⟩
    · intro wx hg hJ hdep
      have v1 : V 1 = (.pointer (some ⟨rb, 4 * t + 1, none⟩)) := by have h := hdep 1 rfl; rw [E1.out] at h; exact h
      clear hdep
      clear hg
      go_wp2_with fail
      exact ⟨rfl, grows_refl _, trivial, by rw [E2.out]; rfl⟩
    · intro wx hg hJ hdep
      have v2 : V 2 = (.pointer (some ⟨rb, 4 * t + 1 + 3, none⟩)) := by have h := hdep 2 rfl; rw [E2.out] at h; exact h
      clear hdep
      have k1 := ((hg0.trans hg).cell (p := ⟨rb, 4 * t + 4, none⟩) lrb).trans hc4
      clear hg
      go_wp2_with fail
      exact ⟨rfl, grows_refl _, trivial, by rw [E3.out]; rfl⟩
    · intro wx hg hJ hdep
      clear hdep
      clear hg
      go_wp2_with fail
      exact ⟨rfl, grows_refl _, trivial, by rw [E4.out]; rfl⟩
    · intro wx hg hJ hdep
      clear hdep
      clear hg
      go_wp2_with fail
      exact ⟨rfl, grows_refl _, trivial, by rw [E5.out]; rfl⟩
    · intro wx hg hJ hdep
      have v5 : V 5 = (.int .i64 v) := by have h := hdep 5 rfl; rw [E5.out] at h; exact h
      clear hdep
      have HM := Lib.hid (HIT.out wx (htab4.below (hg0.trans hg)))
      clear hg
      go_wp2_with fail
      refine HM.out.mono ?_
      rintro e w5 ⟨rfl, hb5⟩
      have HG5 := Lib.hid hb5
      clear hb5
      go_wp2_with fail
      exact ⟨rfl, HG5.out, trivial, by rw [E6.out]; rfl⟩
    · intro wx hg hJ hdep
      have v4 : V 4 = (.string ns) := by have h := hdep 4 rfl; rw [E4.out] at h; exact h
      have v6 : V 6 = (.string d) := by have h := hdep 6 rfl; rw [E6.out] at h; exact h
      clear hdep
      clear hg
      go_wp2_with fail
      exact ⟨rfl, (Below.refl _ _).alloc (Nat.le_refl _) _, trivial, by rw [E7.out]; exact StrsV.lit [ns, versionS, d] _ _⟩
    · intro wx hg hJ hdep
      have v3 : V 3 = (.slice A 32 c) := by have h := hdep 3 rfl; rw [E3.out] at h; exact h
      have h7 : (StrsV [ns, versionS, d]) (V 7) wx := by have h := hdep 7 rfl; rw [E7.out] at h; exact h
      have v6 : V 6 = (.string d) := by have h := hdep 6 rfl; rw [E6.out] at h; exact h
      clear hdep
      have hbx := hg0.trans hg
      obtain ⟨LA, lc, LB, hv7, hlc, hLB, hp⟩ := h7
      have hsx := hbx.size
      have hm := Fold_any (tenK m t) [ns, versionS, d] A 32 c w4.heap.size LA lc _ wx (HROW4.out.reads.below hbx) hsx (by omega) hp (fun k hk => Nat.lt_of_lt_of_le hk hLB) (by simp) (by intro s hs; simp at hs; rcases hs with rfl | rfl | rfl; omega; exact Nat.le_of_lt (by decide); omega)
      rw [show foldB (tenK m t) (bytesOf [ns, versionS, d]) = kk by rw [HKK.out, HD.out, HNS.out]; rfl] at hm
      have HM := Lib.hid hm
      have HV7 := Lib.hid hv7
      clear hm hg hbx hp hv7
      rw [HV7.out]
      go_wp2_with fail
      refine HM.out.mono ?_
      rintro e w5 ⟨A8, c8, rfl, hv8, hb8⟩
      have HV8 := Lib.hid (hv8.mono hsx)
      have HG8 := Lib.hid hb8
      clear hv8 hb8
      go_wp2_with fail
      exact ⟨rfl, HG8.out, trivial, by rw [E8.out]; exact ⟨_, _, rfl, HV8.out⟩⟩
    · intro wx hg hJ hdep
      have h8 : (NewB w4.heap.size kk) (V 8) wx := by have h := hdep 8 rfl; rw [E8.out] at h; exact h
      clear hdep
      have H8 := Lib.hid h8
      clear hg h8
      go_wp2_with fail
      exact ⟨rfl, grows_refl _, trivial, by rw [E9.out]; exact H8.out⟩
    · intro wx hg hJ hdep
      clear hdep
      clear hg
      go_wp2_with fail
      exact ⟨rfl, grows_refl _, trivial, by rw [E10.out]; rfl⟩
  · intro V wx hg hJ hall
    have v0 : V 0 = (.pointer (some ⟨rb, 4 * t + 1, none⟩)) := by have h := hall 0 (by decide); rw [E0.out] at h; exact h
    have v1 : V 1 = (.pointer (some ⟨rb, 4 * t + 1, none⟩)) := by have h := hall 1 (by decide); rw [E1.out] at h; exact h
    have v2 : V 2 = (.pointer (some ⟨rb, 4 * t + 1 + 3, none⟩)) := by have h := hall 2 (by decide); rw [E2.out] at h; exact h
    have v3 : V 3 = (.slice A 32 c) := by have h := hall 3 (by decide); rw [E3.out] at h; exact h
    have v4 : V 4 = (.string ns) := by have h := hall 4 (by decide); rw [E4.out] at h; exact h
    have v5 : V 5 = (.int .i64 v) := by have h := hall 5 (by decide); rw [E5.out] at h; exact h
    have v6 : V 6 = (.string d) := by have h := hall 6 (by decide); rw [E6.out] at h; exact h
    have h7 : (StrsV [ns, versionS, d]) (V 7) wx := by have h := hall 7 (by decide); rw [E7.out] at h; exact h
    have h8 : (NewB w4.heap.size kk) (V 8) wx := by have h := hall 8 (by decide); rw [E8.out] at h; exact h
    have h9 : (NewB w4.heap.size kk) (V 9) wx := by have h := hall 9 (by decide); rw [E9.out] at h; exact h
    have v10 : V 10 = (.int .i64 0) := by have h := hall 10 (by decide); rw [E10.out] at h; exact h
    clear hall
    simp only [fillTo, Act.put, List.setIfInBounds_toArray, List.set_cons_succ, List.set_cons_zero, Nat.reduceAdd, Nat.zero_add, v0, v1, v2, v3, v4, v5, v6, v10]
    clear v0 v1 v2 v3 v4 v5 v6 v10
    obtain ⟨A8, c8, hv8, hrow8⟩ := h9
    have HROW := Lib.hid hrow8
    have HBX := Lib.hid (hg0.trans hg)
    have hkl := HKL.out
    rw [hkl] at hv8
    rw [hv8]
    clear hg h7 h8 hrow8 hv8 hkl
    go_wp2_with fail
    go_ret2
    have hrow := HROW.out
    rw [HKL.out, HKK.out] at hrow
    exact ⟨OwnX X w3 w4, fun k hk => by rcases hk with hk | hk; exact .inl hk.1; exact .inr (Nat.le_trans HB3.out.size hk.1), HR4.out.new HBX.out, ((Grew.of_new (S := fun k => k = rb) HB3.out).next HG4.out (fun _ _ h => h)).next_new HBX.out,
      .inr ⟨HK.out, A8, c8, rfl, hrow.mono (Nat.le_trans HB3.out.size hs4), fun ad e hx => by have := (hrow.lt ad e).1; rcases hx with hx | hx <;> omega⟩⟩
end Go.Proofs.YtdjpiccehloaiaaDoor
