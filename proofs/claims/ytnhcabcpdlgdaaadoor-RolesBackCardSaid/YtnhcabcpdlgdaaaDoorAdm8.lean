/- THE WALK of the law RolesBack. -/
import Derived.Test.YtnhcabcpdlgdaaaDoorAdm6
namespace Go.Proofs.YtnhcabcpdlgdaaaDoor
open Go.RowKit

theorem back_conv {w : World} {B n c : Nat} {A : Option Addr} {l : List UInt8} (h : Reads w B 1 A n (bv l)) : (convert 33 9 (.slice A n c)).run Tryd.prog w = .ok (.string ⟨l.toArray⟩) w :=
  run_conv_bytes (P := Tryd.prog) Tryd.underlying33 Tryd.underlying5 Tryd.underlying9 h
set_option maxRecDepth 100000 in
set_option maxHeartbeats 4000000 in
theorem RolesBack_yy (a : Adm) (A : Option Addr) (n c : Nat) (l : List UInt8) (w : World) (hw : a.Wf) (hr : Reads w w.heap.size 1 A n (bv l)) (hc : n ≤ c ∧ c ≤ 9223372036854775807) (_hn : n ≤ 140737488351232) (he : a.err = 0) (hf : parE l = 0) (ht : Tab w) :
    Calls Tryd.prog 11 #[a.val, .slice A n c] w fun e w' => e = .returned (.bool true) ∧ Below w.heap.size w w' := by
  have HL := Lib.hid (show l.length = n by have := hr.1; rw [length_bv] at this; omega)
  have HR := Lib.hid hr
  obtain ⟨x, hx⟩ : ∃ x, a.out = x := ⟨_, rfl⟩
  have HBY := Lib.hid (fun w => Bytes_any a w hw)
  have HRT := Lib.hid (fun w => Right_any a w)
  unfold BytesOut at HBY
  rw [hx] at HBY
  obtain ⟨y, hy⟩ : ∃ y, parA l = y := ⟨_, rfl⟩
  have hxb : a.bytes = x := by rw [← hx]; exact (if_pos he).symm
  have e1 : parE x = 0 := by rw [← hxb]; exact (parse_bytes hw he).1
  have e2 : parA x = a := by rw [← hxb]; exact (parse_bytes hw he).2
  have HPX := Lib.hid (fun A c B w (h1 : Reads w B 1 A x.length (bv x)) h2 h3 => by have h := Parse_any A x.length c B x w h1 h2 h3; rw [e1, e2] at h; exact h)
  clear e1 e2
  rw [he] at HBY HRT
  have HPL := Lib.hid (fun w1 (hb : Below w.heap.size w w1) => by have h := Parse_any A n c w.heap.size l w1 (hr.below hb) hb.size hc; rw [hy] at h; exact h)
  have hz := bytes_parse hf
  rw [hy] at hz
  have hyw : y.Wf := by rw [hz.2.2.1]; exact admOf_wf (by have := hr.1; rw [length_bv] at this; omega)
  have hyo : y.out = l := by unfold Adm.out; rw [if_pos hz.1]; exact hz.2.1
  have HBZ := Lib.hid (fun w => Bytes_any y w hyw)
  unfold BytesOut at HBZ
  rw [hyo, hz.1, show l.length = n by have := hr.1; rw [length_bv] at this; omega] at HBZ
  rw [hf] at HPL
  clear hz hyw hyo
  clear hx hy hxb he hf hr hw hc
  obtain ⟨r, o, t, m, s, p, q, u, v⟩ := a
  obtain ⟨r2, o2, t2, m2, s2, p2, q2, u2, v2⟩ := y
  have hq := fun w => eqAdmV r o t m s p q u v r o t m s p q u v w
  rw [show (Adm.mk r o t m s p q u v).same (Adm.mk r o t m s p q u v) = true from same_iff.2 rfl] at hq
  unfold Adm.val at *
  simp only at *
  have HT := Lib.hid ht
  clear ht
  go_enter Tryd.func11, Tryd.ntmps11
  go_wp2_with fail
  refine (small23_any _ (HT.out.below ((Below.refl _ _).alloc (Nat.le_refl _) _))).mono ?_
  rintro e w1 ⟨rfl, hb1⟩
  have hbx := adm_box (a := (Adm.mk r o t m s p q u v)) hb1
  have HAT1 := Lib.hid hbx.1
  have HB1 := Lib.hid hbx.2.2
  have hs1 := hbx.2.1
  clear hb1 hbx
  have hat := HAT1.out
  have c0 := hat.1
  have c1 := hat.2.1
  have c2 := hat.2.2.1
  have c3 := hat.2.2.2.1
  have c4 := hat.2.2.2.2.1
  have c5 := hat.2.2.2.2.2.1
  have c6 := hat.2.2.2.2.2.2.1
  have c7 := hat.2.2.2.2.2.2.2.1
  have c8 := hat.2.2.2.2.2.2.2.2
  clear hat
  simp only at c0 c1 c2 c3 c4 c5 c6 c7 c8
  go_wp2_with fail
  clear c0 c1 c2 c3 c4 c5 c6 c7 c8
  refine (HBY.out _).mono ?_
  rintro e w2 ⟨A2, c2, rfl, hr2, hb2⟩
  have HR2 := Lib.hid hr2
  have HAT2 := Lib.hid (HAT1.out.below hb2 hs1)
  have HB2 := Lib.hid (HB1.out.trans (hb2.mono HB1.out.size))
  have hs2 : w.heap.size < w2.heap.size := by have := hb2.size; omega
  have hc2 := hr2.2
  clear hb2 hr2 HAT1
  go_wp2_with fail
  refine (HPX.out A2 c2 w2.heap.size w2 HR2.out.reads (Nat.le_refl _) ⟨hc2.1, by have := hc2.2.1; unfold maxLen at this; exact this⟩).mono ?_
  rintro e w3 ⟨rfl, hb3⟩
  have HAT3 := Lib.hid (HAT2.out.below hb3 hs2)
  have HB3 := Lib.hid (HB2.out.trans (hb3.mono HB2.out.size))
  have hs3 : w.heap.size < w3.heap.size := by have := hb3.size; omega
  have hat := HAT3.out
  clear hb3 HAT2 hc2
  have c0 := hat.1
  have c1 := hat.2.1
  have c2 := hat.2.2.1
  have c3 := hat.2.2.2.1
  have c4 := hat.2.2.2.2.1
  have c5 := hat.2.2.2.2.2.1
  have c6 := hat.2.2.2.2.2.2.1
  have c7 := hat.2.2.2.2.2.2.2.1
  have c8 := hat.2.2.2.2.2.2.2.2
  clear hat
  simp only at c0 c1 c2 c3 c4 c5 c6 c7 c8
  go_wp2_with fail
  clear c0 c1 c2 c3 c4 c5 c6 c7 c8
  refine (HPL.out _ (HB3.out.alloc HB3.out.size _)).mono ?_
  rintro e w4 ⟨rfl, hb4⟩
  have hb34 := thenB ((Below.refl _ _).alloc (Nat.le_refl _) _) hb4
  have HAT4 := Lib.hid (HAT3.out.below hb34 hs3)
  have HB4 := Lib.hid (HB3.out.trans (hb34.mono HB3.out.size))
  have hs4 : w.heap.size < w4.heap.size := by have := hb34.size; omega
  clear hb4 hb34 HAT3
  have hat := HAT4.out
  have c0 := hat.1
  have c1 := hat.2.1
  have c2 := hat.2.2.1
  have c3 := hat.2.2.2.1
  have c4 := hat.2.2.2.2.1
  have c5 := hat.2.2.2.2.2.1
  have c6 := hat.2.2.2.2.2.2.1
  have c7 := hat.2.2.2.2.2.2.2.1
  have c8 := hat.2.2.2.2.2.2.2.2
  clear hat
  simp only at c0 c1 c2 c3 c4 c5 c6 c7 c8
  go_wp2_with fail
  clear c0 c1 c2 c3 c4 c5 c6 c7 c8
  refine (HBZ.out _).mono ?_
  rintro e w5 ⟨A5, c5, rfl, hr5, hb5⟩
  have hb45 := thenB ((Below.refl _ _).alloc (Nat.le_refl _) _) hb5
  have HR5 := Lib.hid hr5
  have HAT5 := Lib.hid (HAT4.out.below hb45 hs4)
  have HB5 := Lib.hid (HB4.out.trans (hb45.mono HB4.out.size))
  have hs5 : w.heap.size < w5.heap.size := by have := hb45.size; omega
  clear hb5 hb45 hr5 HAT4
  have hat := HAT5.out
  have c0 := hat.1
  have c1 := hat.2.1
  have c2 := hat.2.2.1
  have c3 := hat.2.2.2.1
  have c4 := hat.2.2.2.2.1
  have c5 := hat.2.2.2.2.2.1
  have c6 := hat.2.2.2.2.2.2.1
  have c7 := hat.2.2.2.2.2.2.2.1
  have c8 := hat.2.2.2.2.2.2.2.2
  clear hat
  simp only at c0 c1 c2 c3 c4 c5 c6 c7 c8
  go_wp2_with fail
  clear c0 c1 c2 c3 c4 c5 c6 c7 c8
  refine (HRT.out _).mono ?_
  rintro e w6 ⟨rfl, hb6⟩
  have HB6 := Lib.hid (HB5.out.trans (hb6.mono HB5.out.size))
  have hcv1 := back_conv (c := c5) (HR5.out.below hb6 (Nat.le_refl _)).reads
  have hcv2 := back_conv (c := c) (HR.out.below HB6.out)
  clear hb6
  go_wp2_with fail
  go_ret
  exact ⟨by simp, HB6.out⟩
set_option maxRecDepth 100000 in
set_option maxHeartbeats 4000000 in
theorem RolesBack_yn (a : Adm) (A : Option Addr) (n c : Nat) (l : List UInt8) (w : World) (hw : a.Wf) (hr : Reads w w.heap.size 1 A n (bv l)) (hc : n ≤ c ∧ c ≤ 9223372036854775807) (_hn : n ≤ 140737488351232) (he : a.err = 0) (hf : parE l ≠ 0) (ht : Tab w) :
    Calls Tryd.prog 11 #[a.val, .slice A n c] w fun e w' => e = .returned (.bool true) ∧ Below w.heap.size w w' := by
  have HL := Lib.hid (show l.length = n by have := hr.1; rw [length_bv] at this; omega)
  have HR := Lib.hid hr
  obtain ⟨x, hx⟩ : ∃ x, a.out = x := ⟨_, rfl⟩
  have HBY := Lib.hid (fun w => Bytes_any a w hw)
  have HRT := Lib.hid (fun w => Right_any a w)
  unfold BytesOut at HBY
  rw [hx] at HBY
  obtain ⟨y, hy⟩ : ∃ y, parA l = y := ⟨_, rfl⟩
  have hxb : a.bytes = x := by rw [← hx]; exact (if_pos he).symm
  have e1 : parE x = 0 := by rw [← hxb]; exact (parse_bytes hw he).1
  have e2 : parA x = a := by rw [← hxb]; exact (parse_bytes hw he).2
  have HPX := Lib.hid (fun A c B w (h1 : Reads w B 1 A x.length (bv x)) h2 h3 => by have h := Parse_any A x.length c B x w h1 h2 h3; rw [e1, e2] at h; exact h)
  clear e1 e2
  rw [he] at HBY HRT
  have HPL := Lib.hid (fun w1 (hb : Below w.heap.size w w1) => by have h := Parse_any A n c w.heap.size l w1 (hr.below hb) hb.size hc; rw [hy] at h; exact h)
  obtain ⟨fe, hfe⟩ : ∃ fe, parE l = fe := ⟨_, rfl⟩
  rw [hfe] at HPL hf
  have hnf : (fe != 0) = true := by simp; exact hf
  clear hfe
  clear hx hy hxb he hf hr hw hc
  obtain ⟨r, o, t, m, s, p, q, u, v⟩ := a
  obtain ⟨r2, o2, t2, m2, s2, p2, q2, u2, v2⟩ := y
  have hq := fun w => eqAdmV r o t m s p q u v r o t m s p q u v w
  rw [show (Adm.mk r o t m s p q u v).same (Adm.mk r o t m s p q u v) = true from same_iff.2 rfl] at hq
  unfold Adm.val at *
  simp only at *
  have HT := Lib.hid ht
  clear ht
  go_enter Tryd.func11, Tryd.ntmps11
  go_wp2_with fail
  refine (small23_any _ (HT.out.below ((Below.refl _ _).alloc (Nat.le_refl _) _))).mono ?_
  rintro e w1 ⟨rfl, hb1⟩
  have hbx := adm_box (a := (Adm.mk r o t m s p q u v)) hb1
  have HAT1 := Lib.hid hbx.1
  have HB1 := Lib.hid hbx.2.2
  have hs1 := hbx.2.1
  clear hb1 hbx
  have hat := HAT1.out
  have c0 := hat.1
  have c1 := hat.2.1
  have c2 := hat.2.2.1
  have c3 := hat.2.2.2.1
  have c4 := hat.2.2.2.2.1
  have c5 := hat.2.2.2.2.2.1
  have c6 := hat.2.2.2.2.2.2.1
  have c7 := hat.2.2.2.2.2.2.2.1
  have c8 := hat.2.2.2.2.2.2.2.2
  clear hat
  simp only at c0 c1 c2 c3 c4 c5 c6 c7 c8
  go_wp2_with fail
  clear c0 c1 c2 c3 c4 c5 c6 c7 c8
  refine (HBY.out _).mono ?_
  rintro e w2 ⟨A2, c2, rfl, hr2, hb2⟩
  have HR2 := Lib.hid hr2
  have HAT2 := Lib.hid (HAT1.out.below hb2 hs1)
  have HB2 := Lib.hid (HB1.out.trans (hb2.mono HB1.out.size))
  have hs2 : w.heap.size < w2.heap.size := by have := hb2.size; omega
  have hc2 := hr2.2
  clear hb2 hr2 HAT1
  go_wp2_with fail
  refine (HPX.out A2 c2 w2.heap.size w2 HR2.out.reads (Nat.le_refl _) ⟨hc2.1, by have := hc2.2.1; unfold maxLen at this; exact this⟩).mono ?_
  rintro e w3 ⟨rfl, hb3⟩
  have HAT3 := Lib.hid (HAT2.out.below hb3 hs2)
  have HB3 := Lib.hid (HB2.out.trans (hb3.mono HB2.out.size))
  have hs3 : w.heap.size < w3.heap.size := by have := hb3.size; omega
  have hat := HAT3.out
  clear hb3 HAT2 hc2
  have c0 := hat.1
  have c1 := hat.2.1
  have c2 := hat.2.2.1
  have c3 := hat.2.2.2.1
  have c4 := hat.2.2.2.2.1
  have c5 := hat.2.2.2.2.2.1
  have c6 := hat.2.2.2.2.2.2.1
  have c7 := hat.2.2.2.2.2.2.2.1
  have c8 := hat.2.2.2.2.2.2.2.2
  clear hat
  simp only at c0 c1 c2 c3 c4 c5 c6 c7 c8
  go_wp2_with fail
  clear c0 c1 c2 c3 c4 c5 c6 c7 c8
  refine (HPL.out _ (HB3.out.alloc HB3.out.size _)).mono ?_
  rintro e w4 ⟨rfl, hb4⟩
  have hb34 := thenB ((Below.refl _ _).alloc (Nat.le_refl _) _) hb4
  have HAT4 := Lib.hid (HAT3.out.below hb34 hs3)
  have HB4 := Lib.hid (HB3.out.trans (hb34.mono HB3.out.size))
  have hs4 : w.heap.size < w4.heap.size := by have := hb34.size; omega
  clear hb4 hb34 HAT3
  have hat := HAT4.out
  have c0 := hat.1
  have c1 := hat.2.1
  have c2 := hat.2.2.1
  have c3 := hat.2.2.2.1
  have c4 := hat.2.2.2.2.1
  have c5 := hat.2.2.2.2.2.1
  have c6 := hat.2.2.2.2.2.2.1
  have c7 := hat.2.2.2.2.2.2.2.1
  have c8 := hat.2.2.2.2.2.2.2.2
  clear hat
  simp only at c0 c1 c2 c3 c4 c5 c6 c7 c8
  go_wp2_with fail
  clear c0 c1 c2 c3 c4 c5 c6 c7 c8
  refine (HRT.out _).mono ?_
  rintro e w5 ⟨rfl, hb5⟩
  have HB5 := Lib.hid ((HB4.out.alloc HB4.out.size _).trans (hb5.mono (by simp; omega)))
  clear hb5
  go_wp2_with fail
  go_ret
  exact ⟨rfl, HB5.out⟩
set_option maxRecDepth 100000 in
set_option maxHeartbeats 4000000 in
theorem RolesBack_ny (a : Adm) (A : Option Addr) (n c : Nat) (l : List UInt8) (w : World) (hw : a.Wf) (hr : Reads w w.heap.size 1 A n (bv l)) (hc : n ≤ c ∧ c ≤ 9223372036854775807) (_hn : n ≤ 140737488351232) (he : a.err ≠ 0) (hf : parE l = 0) (ht : Tab w) :
    Calls Tryd.prog 11 #[a.val, .slice A n c] w fun e w' => e = .returned (.bool true) ∧ Below w.heap.size w w' := by
  have HL := Lib.hid (show l.length = n by have := hr.1; rw [length_bv] at this; omega)
  have HR := Lib.hid hr
  obtain ⟨x, hx⟩ : ∃ x, a.out = x := ⟨_, rfl⟩
  have HBY := Lib.hid (fun w => Bytes_any a w hw)
  have HRT := Lib.hid (fun w => Right_any a w)
  unfold BytesOut at HBY
  rw [hx] at HBY
  obtain ⟨y, hy⟩ : ∃ y, parA l = y := ⟨_, rfl⟩
  obtain ⟨er, her⟩ : ∃ er, a.err = er := ⟨_, rfl⟩
  rw [her] at HBY HRT he
  have hne : (er == 0) = false := by simp; exact he
  have HPL := Lib.hid (fun w1 (hb : Below w.heap.size w w1) => by have h := Parse_any A n c w.heap.size l w1 (hr.below hb) hb.size hc; rw [hy] at h; exact h)
  have hz := bytes_parse hf
  rw [hy] at hz
  have hyw : y.Wf := by rw [hz.2.2.1]; exact admOf_wf (by have := hr.1; rw [length_bv] at this; omega)
  have hyo : y.out = l := by unfold Adm.out; rw [if_pos hz.1]; exact hz.2.1
  have HBZ := Lib.hid (fun w => Bytes_any y w hyw)
  unfold BytesOut at HBZ
  rw [hyo, hz.1, show l.length = n by have := hr.1; rw [length_bv] at this; omega] at HBZ
  rw [hf] at HPL
  clear hz hyw hyo
  clear hx hy her he hf hr hw hc
  obtain ⟨r, o, t, m, s, p, q, u, v⟩ := a
  obtain ⟨r2, o2, t2, m2, s2, p2, q2, u2, v2⟩ := y
  have hq := fun w => eqAdmV r o t m s p q u v r o t m s p q u v w
  rw [show (Adm.mk r o t m s p q u v).same (Adm.mk r o t m s p q u v) = true from same_iff.2 rfl] at hq
  unfold Adm.val at *
  simp only at *
  have HT := Lib.hid ht
  clear ht
  go_enter Tryd.func11, Tryd.ntmps11
  go_wp2_with fail
  refine (small23_any _ (HT.out.below ((Below.refl _ _).alloc (Nat.le_refl _) _))).mono ?_
  rintro e w1 ⟨rfl, hb1⟩
  have hbx := adm_box (a := (Adm.mk r o t m s p q u v)) hb1
  have HAT1 := Lib.hid hbx.1
  have HB1 := Lib.hid hbx.2.2
  have hs1 := hbx.2.1
  clear hb1 hbx
  have hat := HAT1.out
  have c0 := hat.1
  have c1 := hat.2.1
  have c2 := hat.2.2.1
  have c3 := hat.2.2.2.1
  have c4 := hat.2.2.2.2.1
  have c5 := hat.2.2.2.2.2.1
  have c6 := hat.2.2.2.2.2.2.1
  have c7 := hat.2.2.2.2.2.2.2.1
  have c8 := hat.2.2.2.2.2.2.2.2
  clear hat
  simp only at c0 c1 c2 c3 c4 c5 c6 c7 c8
  go_wp2_with fail
  clear c0 c1 c2 c3 c4 c5 c6 c7 c8
  refine (HBY.out _).mono ?_
  rintro e w2 ⟨A2, c2, rfl, hr2, hb2⟩
  have HR2 := Lib.hid hr2
  have HAT2 := Lib.hid (HAT1.out.below hb2 hs1)
  have HB2 := Lib.hid (HB1.out.trans (hb2.mono HB1.out.size))
  have hs2 : w.heap.size < w2.heap.size := by have := hb2.size; omega
  have hc2 := hr2.2
  clear hb2 hr2 HAT1
  go_wp2_with fail
  refine (HPL.out _ HB2.out).mono ?_
  rintro e w4 ⟨rfl, hb4⟩
  have HAT4 := Lib.hid (HAT2.out.below hb4 hs2)
  have HB4 := Lib.hid (HB2.out.trans (hb4.mono HB2.out.size))
  have hs4 : w.heap.size < w4.heap.size := by have := hb4.size; omega
  clear hb4 HAT2 hc2
  have hat := HAT4.out
  have c0 := hat.1
  have c1 := hat.2.1
  have c2 := hat.2.2.1
  have c3 := hat.2.2.2.1
  have c4 := hat.2.2.2.2.1
  have c5 := hat.2.2.2.2.2.1
  have c6 := hat.2.2.2.2.2.2.1
  have c7 := hat.2.2.2.2.2.2.2.1
  have c8 := hat.2.2.2.2.2.2.2.2
  clear hat
  simp only at c0 c1 c2 c3 c4 c5 c6 c7 c8
  go_wp2_with fail
  clear c0 c1 c2 c3 c4 c5 c6 c7 c8
  refine (HBZ.out _).mono ?_
  rintro e w5 ⟨A5, c5, rfl, hr5, hb5⟩
  have hb45 := thenB ((Below.refl _ _).alloc (Nat.le_refl _) _) hb5
  have HR5 := Lib.hid hr5
  have HAT5 := Lib.hid (HAT4.out.below hb45 hs4)
  have HB5 := Lib.hid (HB4.out.trans (hb45.mono HB4.out.size))
  have hs5 : w.heap.size < w5.heap.size := by have := hb45.size; omega
  clear hb5 hb45 hr5 HAT4
  have hat := HAT5.out
  have c0 := hat.1
  have c1 := hat.2.1
  have c2 := hat.2.2.1
  have c3 := hat.2.2.2.1
  have c4 := hat.2.2.2.2.1
  have c5 := hat.2.2.2.2.2.1
  have c6 := hat.2.2.2.2.2.2.1
  have c7 := hat.2.2.2.2.2.2.2.1
  have c8 := hat.2.2.2.2.2.2.2.2
  clear hat
  simp only at c0 c1 c2 c3 c4 c5 c6 c7 c8
  go_wp2_with fail
  clear c0 c1 c2 c3 c4 c5 c6 c7 c8
  refine (HRT.out _).mono ?_
  rintro e w6 ⟨rfl, hb6⟩
  have HB6 := Lib.hid (HB5.out.trans (hb6.mono HB5.out.size))
  have hcv1 := back_conv (c := c5) (HR5.out.below hb6 (Nat.le_refl _)).reads
  have hcv2 := back_conv (c := c) (HR.out.below HB6.out)
  clear hb6
  go_wp2_with fail
  go_ret
  exact ⟨by simp, HB6.out⟩
set_option maxRecDepth 100000 in
set_option maxHeartbeats 4000000 in
theorem RolesBack_nn (a : Adm) (A : Option Addr) (n c : Nat) (l : List UInt8) (w : World) (hw : a.Wf) (hr : Reads w w.heap.size 1 A n (bv l)) (hc : n ≤ c ∧ c ≤ 9223372036854775807) (_hn : n ≤ 140737488351232) (he : a.err ≠ 0) (hf : parE l ≠ 0) (ht : Tab w) :
    Calls Tryd.prog 11 #[a.val, .slice A n c] w fun e w' => e = .returned (.bool true) ∧ Below w.heap.size w w' := by
  have HL := Lib.hid (show l.length = n by have := hr.1; rw [length_bv] at this; omega)
  have HR := Lib.hid hr
  obtain ⟨x, hx⟩ : ∃ x, a.out = x := ⟨_, rfl⟩
  have HBY := Lib.hid (fun w => Bytes_any a w hw)
  have HRT := Lib.hid (fun w => Right_any a w)
  unfold BytesOut at HBY
  rw [hx] at HBY
  obtain ⟨y, hy⟩ : ∃ y, parA l = y := ⟨_, rfl⟩
  obtain ⟨er, her⟩ : ∃ er, a.err = er := ⟨_, rfl⟩
  rw [her] at HBY HRT he
  have hne : (er == 0) = false := by simp; exact he
  have HPL := Lib.hid (fun w1 (hb : Below w.heap.size w w1) => by have h := Parse_any A n c w.heap.size l w1 (hr.below hb) hb.size hc; rw [hy] at h; exact h)
  obtain ⟨fe, hfe⟩ : ∃ fe, parE l = fe := ⟨_, rfl⟩
  rw [hfe] at HPL hf
  have hnf : (fe != 0) = true := by simp; exact hf
  clear hfe
  clear hx hy her he hf hr hw hc
  obtain ⟨r, o, t, m, s, p, q, u, v⟩ := a
  obtain ⟨r2, o2, t2, m2, s2, p2, q2, u2, v2⟩ := y
  have hq := fun w => eqAdmV r o t m s p q u v r o t m s p q u v w
  rw [show (Adm.mk r o t m s p q u v).same (Adm.mk r o t m s p q u v) = true from same_iff.2 rfl] at hq
  unfold Adm.val at *
  simp only at *
  have HT := Lib.hid ht
  clear ht
  go_enter Tryd.func11, Tryd.ntmps11
  go_wp2_with fail
  refine (small23_any _ (HT.out.below ((Below.refl _ _).alloc (Nat.le_refl _) _))).mono ?_
  rintro e w1 ⟨rfl, hb1⟩
  have hbx := adm_box (a := (Adm.mk r o t m s p q u v)) hb1
  have HAT1 := Lib.hid hbx.1
  have HB1 := Lib.hid hbx.2.2
  have hs1 := hbx.2.1
  clear hb1 hbx
  have hat := HAT1.out
  have c0 := hat.1
  have c1 := hat.2.1
  have c2 := hat.2.2.1
  have c3 := hat.2.2.2.1
  have c4 := hat.2.2.2.2.1
  have c5 := hat.2.2.2.2.2.1
  have c6 := hat.2.2.2.2.2.2.1
  have c7 := hat.2.2.2.2.2.2.2.1
  have c8 := hat.2.2.2.2.2.2.2.2
  clear hat
  simp only at c0 c1 c2 c3 c4 c5 c6 c7 c8
  go_wp2_with fail
  clear c0 c1 c2 c3 c4 c5 c6 c7 c8
  refine (HBY.out _).mono ?_
  rintro e w2 ⟨A2, c2, rfl, hr2, hb2⟩
  have HR2 := Lib.hid hr2
  have HAT2 := Lib.hid (HAT1.out.below hb2 hs1)
  have HB2 := Lib.hid (HB1.out.trans (hb2.mono HB1.out.size))
  have hs2 : w.heap.size < w2.heap.size := by have := hb2.size; omega
  have hc2 := hr2.2
  clear hb2 hr2 HAT1
  go_wp2_with fail
  refine (HPL.out _ HB2.out).mono ?_
  rintro e w4 ⟨rfl, hb4⟩
  have HAT4 := Lib.hid (HAT2.out.below hb4 hs2)
  have HB4 := Lib.hid (HB2.out.trans (hb4.mono HB2.out.size))
  have hs4 : w.heap.size < w4.heap.size := by have := hb4.size; omega
  clear hb4 HAT2 hc2
  have hat := HAT4.out
  have c0 := hat.1
  have c1 := hat.2.1
  have c2 := hat.2.2.1
  have c3 := hat.2.2.2.1
  have c4 := hat.2.2.2.2.1
  have c5 := hat.2.2.2.2.2.1
  have c6 := hat.2.2.2.2.2.2.1
  have c7 := hat.2.2.2.2.2.2.2.1
  have c8 := hat.2.2.2.2.2.2.2.2
  clear hat
  simp only at c0 c1 c2 c3 c4 c5 c6 c7 c8
  go_wp2_with fail
  clear c0 c1 c2 c3 c4 c5 c6 c7 c8
  refine (HRT.out _).mono ?_
  rintro e w5 ⟨rfl, hb5⟩
  have HB5 := Lib.hid ((HB4.out.alloc HB4.out.size _).trans (hb5.mono (by simp; omega)))
  clear hb5
  go_wp2_with fail
  go_ret
  exact ⟨rfl, HB5.out⟩
theorem RolesBack_walk (a : Adm) (A : Option Addr) (n c : Nat) (l : List UInt8) (w : World) (hw : a.Wf) (hr : Reads w w.heap.size 1 A n (bv l)) (hc : n ≤ c ∧ c ≤ 140737488351232) (ht : Tab w) :
    Calls Tryd.prog 11 #[a.val, .slice A n c] w fun e w' => e = .returned (.bool true) ∧ Below w.heap.size w w' := by
  by_cases he : a.err = 0
  · by_cases hf : parE l = 0
    · exact RolesBack_yy a A n c l w hw hr ⟨hc.1, by omega⟩ (by omega) he hf ht
    · exact RolesBack_yn a A n c l w hw hr ⟨hc.1, by omega⟩ (by omega) he hf ht
  · by_cases hf : parE l = 0
    · exact RolesBack_ny a A n c l w hw hr ⟨hc.1, by omega⟩ (by omega) he hf ht
    · exact RolesBack_nn a A n c l w hw hr ⟨hc.1, by omega⟩ (by omega) he hf ht
end Go.Proofs.YtnhcabcpdlgdaaaDoor
