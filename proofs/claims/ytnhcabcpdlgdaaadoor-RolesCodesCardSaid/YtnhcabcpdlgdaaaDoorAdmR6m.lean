/- THE WALK of the law RolesBack. THE WALK of roles' reference: Bytes. THE WALK of roles' reference: num, Parse. THE WALK of the law RolesCodes. -/
import Derived.Test.YtnhcabcpdlgdaaaDoorAdm6
import Derived.Test.YtnhcabcpdlgdaaaDoorAdmR1b
import Derived.Test.YtnhcabcpdlgdaaaDoorAdm3
import Derived.Test.YtnhcabcpdlgdaaaDoorEight
import Derived.Test.YtnhcabcpdlgdaaaDoorAdm4a
import Derived.Test.YtnhcabcpdlgdaaaDoorAdm5
import Derived.Test.YtnhcabcpdlgdaaaDoorOwned2
import Derived.Test.YtnhcabcpdlgdaaaDoorLent
namespace Go.Proofs.YtnhcabcpdlgdaaaDoor
open Go.RowKit

theorem back_conv {w : World} {B n c : Nat} {A : Option Addr} {l : List UInt8} (h : Reads w B 1 A n (bv l)) : (convert 33 9 (.slice A n c)).run Tryd.prog w = .ok (.string ⟨l.toArray⟩) w :=
  run_conv_bytes (P := Tryd.prog) Tryd.underlying33 Tryd.underlying5 Tryd.underlying9 h
set_option maxRecDepth 100000 in
set_option maxHeartbeats 4000000 in
theorem RolesBack_yy (a : Adm) (A : Option Addr) (n c : Nat) (l : List UInt8) (w : World) (hw : a.Wf) (hr : Reads w w.heap.size 1 A n (bv l)) (hc : n ≤ c ∧ c ≤ 9223372036854775807) (_hn : n ≤ 140737488351232) (he : a.err = 0) (hf : parE l = 0) (ht : Tab w) :
    Calls Tryd.prog 11 #[a.val, .slice A n c] w fun e w' => e = .returned (.bool true) ∧ Below w.heap.size w w' := by
  have HL := Lib.hid (show l.length = n by have := hr.1; rw [length_bv] at this; omega)
  have HR := Lib.hid hr
  obtain ⟨x, hx⟩ : ∃ x, a.out = x := ⟨_, rfl⟩
  have HBY := Lib.hid (fun w => Bytes_any a w hw)
  have HRT := Lib.hid (fun w => Right_any a w)
  unfold BytesOut at HBY
  rw [hx] at HBY
  obtain ⟨y, hy⟩ : ∃ y, parA l = y := ⟨_, rfl⟩
  have hxb : a.bytes = x := by rw [← hx]; exact (if_pos he).symm
  have e1 : parE x = 0 := by rw [← hxb]; exact (parse_bytes hw he).1
  have e2 : parA x = a := by rw [← hxb]; exact (parse_bytes hw he).2
  have HPX := Lib.hid (fun A c B w (h1 : Reads w B 1 A x.length (bv x)) h2 h3 => by have h := Parse_any A x.length c B x w h1 h2 h3; rw [e1, e2] at h; exact h)
  clear e1 e2
  rw [he] at HBY HRT
  have HPL := Lib.hid (fun w1 (hb : Below w.heap.size w w1) => by have h := Parse_any A n c w.heap.size l w1 (hr.below hb) hb.size hc; rw [hy] at h; exact h)
  have hz := bytes_parse hf
  rw [hy] at hz
  have hyw : y.Wf := by rw [hz.2.2.1]; exact admOf_wf (by have := hr.1; rw [length_bv] at this; omega)
  have hyo : y.out = l := by unfold Adm.out; rw [if_pos hz.1]; exact hz.2.1
  have HBZ := Lib.hid (fun w => Bytes_any y w hyw)
  unfold BytesOut at HBZ
  rw [hyo, hz.1, show l.length = n by have := hr.1; rw [length_bv] at this; omega] at HBZ
  rw [hf] at HPL
  clear hz hyw hyo
  clear hx hy hxb he hf hr hw hc
  obtain ⟨r, o, t, m, s, p, q, u, v⟩ := a
  obtain ⟨r2, o2, t2, m2, s2, p2, q2, u2, v2⟩ := y
  have hq := fun w => eqAdmV r o t m s p q u v r o t m s p q u v w
  rw [show (Adm.mk r o t m s p q u v).same (Adm.mk r o t m s p q u v) = true from same_iff.2 rfl] at hq
  unfold Adm.val at *
  simp only at *
  have HT := Lib.hid ht
  clear ht
  go_enter Tryd.func11, Tryd.ntmps11
  go_wp2_with fail
  refine (small23_any _ (HT.out.below ((Below.refl _ _).alloc (Nat.le_refl _) _))).mono ?_
  rintro e w1 ⟨rfl, hb1⟩
  have hbx := adm_box (a := (Adm.mk r o t m s p q u v)) hb1
  have HAT1 := Lib.hid hbx.1
  have HB1 := Lib.hid hbx.2.2
  have hs1 := hbx.2.1
  clear hb1 hbx
  have hat := HAT1.out
  have c0 := hat.1
  have c1 := hat.2.1
  have c2 := hat.2.2.1
  have c3 := hat.2.2.2.1
  have c4 := hat.2.2.2.2.1
  have c5 := hat.2.2.2.2.2.1
  have c6 := hat.2.2.2.2.2.2.1
  have c7 := hat.2.2.2.2.2.2.2.1
  have c8 := hat.2.2.2.2.2.2.2.2
  clear hat
  simp only at c0 c1 c2 c3 c4 c5 c6 c7 c8
  go_wp2_with fail
  clear c0 c1 c2 c3 c4 c5 c6 c7 c8
  refine (HBY.out _).mono ?_
  rintro e w2 ⟨A2, c2, rfl, hr2, hb2⟩
  have HR2 := Lib.hid hr2
  have HAT2 := Lib.hid (HAT1.out.below hb2 hs1)
  have HB2 := Lib.hid (HB1.out.trans (hb2.mono HB1.out.size))
  have hs2 : w.heap.size < w2.heap.size := by have := hb2.size; omega
  have hc2 := hr2.2
  clear hb2 hr2 HAT1
  go_wp2_with fail
  refine (HPX.out A2 c2 w2.heap.size w2 HR2.out.reads (Nat.le_refl _) ⟨hc2.1, by have := hc2.2.1; unfold maxLen at this; exact this⟩).mono ?_
  rintro e w3 ⟨rfl, hb3⟩
  have HAT3 := Lib.hid (HAT2.out.below hb3 hs2)
  have HB3 := Lib.hid (HB2.out.trans (hb3.mono HB2.out.size))
  have hs3 : w.heap.size < w3.heap.size := by have := hb3.size; omega
  have hat := HAT3.out
  clear hb3 HAT2 hc2
  have c0 := hat.1
  have c1 := hat.2.1
  have c2 := hat.2.2.1
  have c3 := hat.2.2.2.1
  have c4 := hat.2.2.2.2.1
  have c5 := hat.2.2.2.2.2.1
  have c6 := hat.2.2.2.2.2.2.1
  have c7 := hat.2.2.2.2.2.2.2.1
  have c8 := hat.2.2.2.2.2.2.2.2
  clear hat
  simp only at c0 c1 c2 c3 c4 c5 c6 c7 c8
  go_wp2_with fail
  clear c0 c1 c2 c3 c4 c5 c6 c7 c8
  refine (HPL.out _ (HB3.out.alloc HB3.out.size _)).mono ?_
  rintro e w4 ⟨rfl, hb4⟩
  have hb34 := thenB ((Below.refl _ _).alloc (Nat.le_refl _) _) hb4
  have HAT4 := Lib.hid (HAT3.out.below hb34 hs3)
  have HB4 := Lib.hid (HB3.out.trans (hb34.mono HB3.out.size))
  have hs4 : w.heap.size < w4.heap.size := by have := hb34.size; omega
  clear hb4 hb34 HAT3
  have hat := HAT4.out
  have c0 := hat.1
  have c1 := hat.2.1
  have c2 := hat.2.2.1
  have c3 := hat.2.2.2.1
  have c4 := hat.2.2.2.2.1
  have c5 := hat.2.2.2.2.2.1
  have c6 := hat.2.2.2.2.2.2.1
  have c7 := hat.2.2.2.2.2.2.2.1
  have c8 := hat.2.2.2.2.2.2.2.2
  clear hat
  simp only at c0 c1 c2 c3 c4 c5 c6 c7 c8
  go_wp2_with fail
  clear c0 c1 c2 c3 c4 c5 c6 c7 c8
  refine (HBZ.out _).mono ?_
  rintro e w5 ⟨A5, c5, rfl, hr5, hb5⟩
  have hb45 := thenB ((Below.refl _ _).alloc (Nat.le_refl _) _) hb5
  have HR5 := Lib.hid hr5
  have HAT5 := Lib.hid (HAT4.out.below hb45 hs4)
  have HB5 := Lib.hid (HB4.out.trans (hb45.mono HB4.out.size))
  have hs5 : w.heap.size < w5.heap.size := by have := hb45.size; omega
  clear hb5 hb45 hr5 HAT4
  have hat := HAT5.out
  have c0 := hat.1
  have c1 := hat.2.1
  have c2 := hat.2.2.1
  have c3 := hat.2.2.2.1
  have c4 := hat.2.2.2.2.1
  have c5 := hat.2.2.2.2.2.1
  have c6 := hat.2.2.2.2.2.2.1
  have c7 := hat.2.2.2.2.2.2.2.1
  have c8 := hat.2.2.2.2.2.2.2.2
  clear hat
  simp only at c0 c1 c2 c3 c4 c5 c6 c7 c8
  go_wp2_with fail
  clear c0 c1 c2 c3 c4 c5 c6 c7 c8
  refine (HRT.out _).mono ?_
  rintro e w6 ⟨rfl, hb6⟩
  have HB6 := Lib.hid (HB5.out.trans (hb6.mono HB5.out.size))
  have hcv1 := back_conv (c := c5) (HR5.out.below hb6 (Nat.le_refl _)).reads
  have hcv2 := back_conv (c := c) (HR.out.below HB6.out)
  clear hb6
  go_wp2_with fail
  go_ret
  exact ⟨by simp, HB6.out⟩
set_option maxRecDepth 100000 in
set_option maxHeartbeats 4000000 in
theorem RolesBack_yn (a : Adm) (A : Option Addr) (n c : Nat) (l : List UInt8) (w : World) (hw : a.Wf) (hr : Reads w w.heap.size 1 A n (bv l)) (hc : n ≤ c ∧ c ≤ 9223372036854775807) (_hn : n ≤ 140737488351232) (he : a.err = 0) (hf : parE l ≠ 0) (ht : Tab w) :
    Calls Tryd.prog 11 #[a.val, .slice A n c] w fun e w' => e = .returned (.bool true) ∧ Below w.heap.size w w' := by
  have HL := Lib.hid (show l.length = n by have := hr.1; rw [length_bv] at this; omega)
  have HR := Lib.hid hr
  obtain ⟨x, hx⟩ : ∃ x, a.out = x := ⟨_, rfl⟩
  have HBY := Lib.hid (fun w => Bytes_any a w hw)
  have HRT := Lib.hid (fun w => Right_any a w)
  unfold BytesOut at HBY
  rw [hx] at HBY
  obtain ⟨y, hy⟩ : ∃ y, parA l = y := ⟨_, rfl⟩
  have hxb : a.bytes = x := by rw [← hx]; exact (if_pos he).symm
  have e1 : parE x = 0 := by rw [← hxb]; exact (parse_bytes hw he).1
  have e2 : parA x = a := by rw [← hxb]; exact (parse_bytes hw he).2
  have HPX := Lib.hid (fun A c B w (h1 : Reads w B 1 A x.length (bv x)) h2 h3 => by have h := Parse_any A x.length c B x w h1 h2 h3; rw [e1, e2] at h; exact h)
  clear e1 e2
  rw [he] at HBY HRT
  have HPL := Lib.hid (fun w1 (hb : Below w.heap.size w w1) => by have h := Parse_any A n c w.heap.size l w1 (hr.below hb) hb.size hc; rw [hy] at h; exact h)
  obtain ⟨fe, hfe⟩ : ∃ fe, parE l = fe := ⟨_, rfl⟩
  rw [hfe] at HPL hf
  have hnf : (fe != 0) = true := by simp; exact hf
  clear hfe
  clear hx hy hxb he hf hr hw hc
  obtain ⟨r, o, t, m, s, p, q, u, v⟩ := a
  obtain ⟨r2, o2, t2, m2, s2, p2, q2, u2, v2⟩ := y
  have hq := fun w => eqAdmV r o t m s p q u v r o t m s p q u v w
  rw [show (Adm.mk r o t m s p q u v).same (Adm.mk r o t m s p q u v) = true from same_iff.2 rfl] at hq
  unfold Adm.val at *
  simp only at *
  have HT := Lib.hid ht
  clear ht
  go_enter Tryd.func11, Tryd.ntmps11
  go_wp2_with fail
  refine (small23_any _ (HT.out.below ((Below.refl _ _).alloc (Nat.le_refl _) _))).mono ?_
  rintro e w1 ⟨rfl, hb1⟩
  have hbx := adm_box (a := (Adm.mk r o t m s p q u v)) hb1
  have HAT1 := Lib.hid hbx.1
  have HB1 := Lib.hid hbx.2.2
  have hs1 := hbx.2.1
  clear hb1 hbx
  have hat := HAT1.out
  have c0 := hat.1
  have c1 := hat.2.1
  have c2 := hat.2.2.1
  have c3 := hat.2.2.2.1
  have c4 := hat.2.2.2.2.1
  have c5 := hat.2.2.2.2.2.1
  have c6 := hat.2.2.2.2.2.2.1
  have c7 := hat.2.2.2.2.2.2.2.1
  have c8 := hat.2.2.2.2.2.2.2.2
  clear hat
  simp only at c0 c1 c2 c3 c4 c5 c6 c7 c8
  go_wp2_with fail
  clear c0 c1 c2 c3 c4 c5 c6 c7 c8
  refine (HBY.out _).mono ?_
  rintro e w2 ⟨A2, c2, rfl, hr2, hb2⟩
  have HR2 := Lib.hid hr2
  have HAT2 := Lib.hid (HAT1.out.below hb2 hs1)
  have HB2 := Lib.hid (HB1.out.trans (hb2.mono HB1.out.size))
  have hs2 : w.heap.size < w2.heap.size := by have := hb2.size; omega
  have hc2 := hr2.2
  clear hb2 hr2 HAT1
  go_wp2_with fail
  refine (HPX.out A2 c2 w2.heap.size w2 HR2.out.reads (Nat.le_refl _) ⟨hc2.1, by have := hc2.2.1; unfold maxLen at this; exact this⟩).mono ?_
  rintro e w3 ⟨rfl, hb3⟩
  have HAT3 := Lib.hid (HAT2.out.below hb3 hs2)
  have HB3 := Lib.hid (HB2.out.trans (hb3.mono HB2.out.size))
  have hs3 : w.heap.size < w3.heap.size := by have := hb3.size; omega
  have hat := HAT3.out
  clear hb3 HAT2 hc2
  have c0 := hat.1
  have c1 := hat.2.1
  have c2 := hat.2.2.1
  have c3 := hat.2.2.2.1
  have c4 := hat.2.2.2.2.1
  have c5 := hat.2.2.2.2.2.1
  have c6 := hat.2.2.2.2.2.2.1
  have c7 := hat.2.2.2.2.2.2.2.1
  have c8 := hat.2.2.2.2.2.2.2.2
  clear hat
  simp only at c0 c1 c2 c3 c4 c5 c6 c7 c8
  go_wp2_with fail
  clear c0 c1 c2 c3 c4 c5 c6 c7 c8
  refine (HPL.out _ (HB3.out.alloc HB3.out.size _)).mono ?_
  rintro e w4 ⟨rfl, hb4⟩
  have hb34 := thenB ((Below.refl _ _).alloc (Nat.le_refl _) _) hb4
  have HAT4 := Lib.hid (HAT3.out.below hb34 hs3)
  have HB4 := Lib.hid (HB3.out.trans (hb34.mono HB3.out.size))
  have hs4 : w.heap.size < w4.heap.size := by have := hb34.size; omega
  clear hb4 hb34 HAT3
  have hat := HAT4.out
  have c0 := hat.1
  have c1 := hat.2.1
  have c2 := hat.2.2.1
  have c3 := hat.2.2.2.1
  have c4 := hat.2.2.2.2.1
  have c5 := hat.2.2.2.2.2.1
  have c6 := hat.2.2.2.2.2.2.1
  have c7 := hat.2.2.2.2.2.2.2.1
  have c8 := hat.2.2.2.2.2.2.2.2
  clear hat
  simp only at c0 c1 c2 c3 c4 c5 c6 c7 c8
  go_wp2_with fail
  clear c0 c1 c2 c3 c4 c5 c6 c7 c8
  refine (HRT.out _).mono ?_
  rintro e w5 ⟨rfl, hb5⟩
  have HB5 := Lib.hid ((HB4.out.alloc HB4.out.size _).trans (hb5.mono (by simp; omega)))
  clear hb5
  go_wp2_with fail
  go_ret
  exact ⟨rfl, HB5.out⟩
set_option maxRecDepth 100000 in
set_option maxHeartbeats 4000000 in
theorem RolesBack_ny (a : Adm) (A : Option Addr) (n c : Nat) (l : List UInt8) (w : World) (hw : a.Wf) (hr : Reads w w.heap.size 1 A n (bv l)) (hc : n ≤ c ∧ c ≤ 9223372036854775807) (_hn : n ≤ 140737488351232) (he : a.err ≠ 0) (hf : parE l = 0) (ht : Tab w) :
    Calls Tryd.prog 11 #[a.val, .slice A n c] w fun e w' => e = .returned (.bool true) ∧ Below w.heap.size w w' := by
  have HL := Lib.hid (show l.length = n by have := hr.1; rw [length_bv] at this; omega)
  have HR := Lib.hid hr
  obtain ⟨x, hx⟩ : ∃ x, a.out = x := ⟨_, rfl⟩
  have HBY := Lib.hid (fun w => Bytes_any a w hw)
  have HRT := Lib.hid (fun w => Right_any a w)
  unfold BytesOut at HBY
  rw [hx] at HBY
  obtain ⟨y, hy⟩ : ∃ y, parA l = y := ⟨_, rfl⟩
  obtain ⟨er, her⟩ : ∃ er, a.err = er := ⟨_, rfl⟩
  rw [her] at HBY HRT he
  have hne : (er == 0) = false := by simp; exact he
  have HPL := Lib.hid (fun w1 (hb : Below w.heap.size w w1) => by have h := Parse_any A n c w.heap.size l w1 (hr.below hb) hb.size hc; rw [hy] at h; exact h)
  have hz := bytes_parse hf
  rw [hy] at hz
  have hyw : y.Wf := by rw [hz.2.2.1]; exact admOf_wf (by have := hr.1; rw [length_bv] at this; omega)
  have hyo : y.out = l := by unfold Adm.out; rw [if_pos hz.1]; exact hz.2.1
  have HBZ := Lib.hid (fun w => Bytes_any y w hyw)
  unfold BytesOut at HBZ
  rw [hyo, hz.1, show l.length = n by have := hr.1; rw [length_bv] at this; omega] at HBZ
  rw [hf] at HPL
  clear hz hyw hyo
  clear hx hy her he hf hr hw hc
  obtain ⟨r, o, t, m, s, p, q, u, v⟩ := a
  obtain ⟨r2, o2, t2, m2, s2, p2, q2, u2, v2⟩ := y
  have hq := fun w => eqAdmV r o t m s p q u v r o t m s p q u v w
  rw [show (Adm.mk r o t m s p q u v).same (Adm.mk r o t m s p q u v) = true from same_iff.2 rfl] at hq
  unfold Adm.val at *
  simp only at *
  have HT := Lib.hid ht
  clear ht
  go_enter Tryd.func11, Tryd.ntmps11
  go_wp2_with fail
  refine (small23_any _ (HT.out.below ((Below.refl _ _).alloc (Nat.le_refl _) _))).mono ?_
  rintro e w1 ⟨rfl, hb1⟩
  have hbx := adm_box (a := (Adm.mk r o t m s p q u v)) hb1
  have HAT1 := Lib.hid hbx.1
  have HB1 := Lib.hid hbx.2.2
  have hs1 := hbx.2.1
  clear hb1 hbx
  have hat := HAT1.out
  have c0 := hat.1
  have c1 := hat.2.1
  have c2 := hat.2.2.1
  have c3 := hat.2.2.2.1
  have c4 := hat.2.2.2.2.1
  have c5 := hat.2.2.2.2.2.1
  have c6 := hat.2.2.2.2.2.2.1
  have c7 := hat.2.2.2.2.2.2.2.1
  have c8 := hat.2.2.2.2.2.2.2.2
  clear hat
  simp only at c0 c1 c2 c3 c4 c5 c6 c7 c8
  go_wp2_with fail
  clear c0 c1 c2 c3 c4 c5 c6 c7 c8
  refine (HBY.out _).mono ?_
  rintro e w2 ⟨A2, c2, rfl, hr2, hb2⟩
  have HR2 := Lib.hid hr2
  have HAT2 := Lib.hid (HAT1.out.below hb2 hs1)
  have HB2 := Lib.hid (HB1.out.trans (hb2.mono HB1.out.size))
  have hs2 : w.heap.size < w2.heap.size := by have := hb2.size; omega
  have hc2 := hr2.2
  clear hb2 hr2 HAT1
  go_wp2_with fail
  refine (HPL.out _ HB2.out).mono ?_
  rintro e w4 ⟨rfl, hb4⟩
  have HAT4 := Lib.hid (HAT2.out.below hb4 hs2)
  have HB4 := Lib.hid (HB2.out.trans (hb4.mono HB2.out.size))
  have hs4 : w.heap.size < w4.heap.size := by have := hb4.size; omega
  clear hb4 HAT2 hc2
  have hat := HAT4.out
  have c0 := hat.1
  have c1 := hat.2.1
  have c2 := hat.2.2.1
  have c3 := hat.2.2.2.1
  have c4 := hat.2.2.2.2.1
  have c5 := hat.2.2.2.2.2.1
  have c6 := hat.2.2.2.2.2.2.1
  have c7 := hat.2.2.2.2.2.2.2.1
  have c8 := hat.2.2.2.2.2.2.2.2
  clear hat
  simp only at c0 c1 c2 c3 c4 c5 c6 c7 c8
  go_wp2_with fail
  clear c0 c1 c2 c3 c4 c5 c6 c7 c8
  refine (HBZ.out _).mono ?_
  rintro e w5 ⟨A5, c5, rfl, hr5, hb5⟩
  have hb45 := thenB ((Below.refl _ _).alloc (Nat.le_refl _) _) hb5
  have HR5 := Lib.hid hr5
  have HAT5 := Lib.hid (HAT4.out.below hb45 hs4)
  have HB5 := Lib.hid (HB4.out.trans (hb45.mono HB4.out.size))
  have hs5 : w.heap.size < w5.heap.size := by have := hb45.size; omega
  clear hb5 hb45 hr5 HAT4
  have hat := HAT5.out
  have c0 := hat.1
  have c1 := hat.2.1
  have c2 := hat.2.2.1
  have c3 := hat.2.2.2.1
  have c4 := hat.2.2.2.2.1
  have c5 := hat.2.2.2.2.2.1
  have c6 := hat.2.2.2.2.2.2.1
  have c7 := hat.2.2.2.2.2.2.2.1
  have c8 := hat.2.2.2.2.2.2.2.2
  clear hat
  simp only at c0 c1 c2 c3 c4 c5 c6 c7 c8
  go_wp2_with fail
  clear c0 c1 c2 c3 c4 c5 c6 c7 c8
  refine (HRT.out _).mono ?_
  rintro e w6 ⟨rfl, hb6⟩
  have HB6 := Lib.hid (HB5.out.trans (hb6.mono HB5.out.size))
  have hcv1 := back_conv (c := c5) (HR5.out.below hb6 (Nat.le_refl _)).reads
  have hcv2 := back_conv (c := c) (HR.out.below HB6.out)
  clear hb6
  go_wp2_with fail
  go_ret
  exact ⟨by simp, HB6.out⟩
set_option maxRecDepth 100000 in
set_option maxHeartbeats 4000000 in
theorem RolesBack_nn (a : Adm) (A : Option Addr) (n c : Nat) (l : List UInt8) (w : World) (hw : a.Wf) (hr : Reads w w.heap.size 1 A n (bv l)) (hc : n ≤ c ∧ c ≤ 9223372036854775807) (_hn : n ≤ 140737488351232) (he : a.err ≠ 0) (hf : parE l ≠ 0) (ht : Tab w) :
    Calls Tryd.prog 11 #[a.val, .slice A n c] w fun e w' => e = .returned (.bool true) ∧ Below w.heap.size w w' := by
  have HL := Lib.hid (show l.length = n by have := hr.1; rw [length_bv] at this; omega)
  have HR := Lib.hid hr
  obtain ⟨x, hx⟩ : ∃ x, a.out = x := ⟨_, rfl⟩
  have HBY := Lib.hid (fun w => Bytes_any a w hw)
  have HRT := Lib.hid (fun w => Right_any a w)
  unfold BytesOut at HBY
  rw [hx] at HBY
  obtain ⟨y, hy⟩ : ∃ y, parA l = y := ⟨_, rfl⟩
  obtain ⟨er, her⟩ : ∃ er, a.err = er := ⟨_, rfl⟩
  rw [her] at HBY HRT he
  have hne : (er == 0) = false := by simp; exact he
  have HPL := Lib.hid (fun w1 (hb : Below w.heap.size w w1) => by have h := Parse_any A n c w.heap.size l w1 (hr.below hb) hb.size hc; rw [hy] at h; exact h)
  obtain ⟨fe, hfe⟩ : ∃ fe, parE l = fe := ⟨_, rfl⟩
  rw [hfe] at HPL hf
  have hnf : (fe != 0) = true := by simp; exact hf
  clear hfe
  clear hx hy her he hf hr hw hc
  obtain ⟨r, o, t, m, s, p, q, u, v⟩ := a
  obtain ⟨r2, o2, t2, m2, s2, p2, q2, u2, v2⟩ := y
  have hq := fun w => eqAdmV r o t m s p q u v r o t m s p q u v w
  rw [show (Adm.mk r o t m s p q u v).same (Adm.mk r o t m s p q u v) = true from same_iff.2 rfl] at hq
  unfold Adm.val at *
  simp only at *
  have HT := Lib.hid ht
  clear ht
  go_enter Tryd.func11, Tryd.ntmps11
  go_wp2_with fail
  refine (small23_any _ (HT.out.below ((Below.refl _ _).alloc (Nat.le_refl _) _))).mono ?_
  rintro e w1 ⟨rfl, hb1⟩
  have hbx := adm_box (a := (Adm.mk r o t m s p q u v)) hb1
  have HAT1 := Lib.hid hbx.1
  have HB1 := Lib.hid hbx.2.2
  have hs1 := hbx.2.1
  clear hb1 hbx
  have hat := HAT1.out
  have c0 := hat.1
  have c1 := hat.2.1
  have c2 := hat.2.2.1
  have c3 := hat.2.2.2.1
  have c4 := hat.2.2.2.2.1
  have c5 := hat.2.2.2.2.2.1
  have c6 := hat.2.2.2.2.2.2.1
  have c7 := hat.2.2.2.2.2.2.2.1
  have c8 := hat.2.2.2.2.2.2.2.2
  clear hat
  simp only at c0 c1 c2 c3 c4 c5 c6 c7 c8
  go_wp2_with fail
  clear c0 c1 c2 c3 c4 c5 c6 c7 c8
  refine (HBY.out _).mono ?_
  rintro e w2 ⟨A2, c2, rfl, hr2, hb2⟩
  have HR2 := Lib.hid hr2
  have HAT2 := Lib.hid (HAT1.out.below hb2 hs1)
  have HB2 := Lib.hid (HB1.out.trans (hb2.mono HB1.out.size))
  have hs2 : w.heap.size < w2.heap.size := by have := hb2.size; omega
  have hc2 := hr2.2
  clear hb2 hr2 HAT1
  go_wp2_with fail
  refine (HPL.out _ HB2.out).mono ?_
  rintro e w4 ⟨rfl, hb4⟩
  have HAT4 := Lib.hid (HAT2.out.below hb4 hs2)
  have HB4 := Lib.hid (HB2.out.trans (hb4.mono HB2.out.size))
  have hs4 : w.heap.size < w4.heap.size := by have := hb4.size; omega
  clear hb4 HAT2 hc2
  have hat := HAT4.out
  have c0 := hat.1
  have c1 := hat.2.1
  have c2 := hat.2.2.1
  have c3 := hat.2.2.2.1
  have c4 := hat.2.2.2.2.1
  have c5 := hat.2.2.2.2.2.1
  have c6 := hat.2.2.2.2.2.2.1
  have c7 := hat.2.2.2.2.2.2.2.1
  have c8 := hat.2.2.2.2.2.2.2.2
  clear hat
  simp only at c0 c1 c2 c3 c4 c5 c6 c7 c8
  go_wp2_with fail
  clear c0 c1 c2 c3 c4 c5 c6 c7 c8
  refine (HRT.out _).mono ?_
  rintro e w5 ⟨rfl, hb5⟩
  have HB5 := Lib.hid ((HB4.out.alloc HB4.out.size _).trans (hb5.mono (by simp; omega)))
  clear hb5
  go_wp2_with fail
  go_ret
  exact ⟨rfl, HB5.out⟩
theorem RolesBack_walk (a : Adm) (A : Option Addr) (n c : Nat) (l : List UInt8) (w : World) (hw : a.Wf) (hr : Reads w w.heap.size 1 A n (bv l)) (hc : n ≤ c ∧ c ≤ 140737488351232) (ht : Tab w) :
    Calls Tryd.prog 11 #[a.val, .slice A n c] w fun e w' => e = .returned (.bool true) ∧ Below w.heap.size w w' := by
  by_cases he : a.err = 0
  · by_cases hf : parE l = 0
    · exact RolesBack_yy a A n c l w hw hr ⟨hc.1, by omega⟩ (by omega) he hf ht
    · exact RolesBack_yn a A n c l w hw hr ⟨hc.1, by omega⟩ (by omega) he hf ht
  · by_cases hf : parE l = 0
    · exact RolesBack_ny a A n c l w hw hr ⟨hc.1, by omega⟩ (by omega) he hf ht
    · exact RolesBack_nn a A n c l w hw hr ⟨hc.1, by omega⟩ (by omega) he hf ht
end Go.Proofs.YtnhcabcpdlgdaaaDoor
namespace Go.Proofs.YtnhcabcpdlgdaaaDoor
open Go.RowKit

theorem eight8 (n : Int) (w : World) : Calls Tryd.prog 53 #[.int .i64 n] w fun e w' => ∃ A c, e = .returned (.slice A 8 c) ∧ Row w' w.heap.size 1 A 8 c (bv (Sha.eight n)) ∧ Below w.heap.size w w' := rEight8_any n w
def numCells (a : Adm) : Array Value := #[.int .i64 a.num, .int .i64 a.ticks, .int .i64 a.times, .int .i64 a.sum, .int .i64 a.once]
theorem num_at (a : Adm) (k : Nat) (h : k < 5) : (numCells a)[k]? = some (.int .i64 (a.nums.getD k 0)) := by
  obtain rfl | rfl | rfl | rfl | rfl : k = 0 ∨ k = 1 ∨ k = 2 ∨ k = 3 ∨ k = 4 := by omega
  all_goals rfl
/-- So many numbers are written. -/
def rBytesRel (w1 : World) (a : Adm) (g : Nat) (s5 s7 : Value) (wr : World) : Prop :=
  ∃ (k : Nat) (A : Option Addr) (c : Nat), k ≤ 5 ∧ s7 = .int .i64 k ∧ s5 = .slice A (3 + 8 * k) c ∧ Row wr (g + 1) 1 A (3 + 8 * k) c (bv (a.pre k)) ∧ Below (g + 1) w1 wr ∧ Blk wr (w1.heap.size + 1) 3 (numCells a) ∧ (∀ ad, A = some ad → ad.block ≠ w1.heap.size + 1)
theorem rBytes_next {w1 wr w2 w3 : World} {a : Adm} {g k c c3 : Nat} {A A3 : Option Addr} {z : Int} (hg : g + 1 ≤ w1.heap.size) (hk : k < 5) (hz : a.nums.getD k 0 = z) (hb : Below (g + 1) w1 wr) (hb2 : Below wr.heap.size wr w2) (hrow : Row wr (g + 1) 1 A (3 + 8 * k) c (bv (a.pre k)))
    (hblk : Blk wr (w1.heap.size + 1) 3 (numCells a)) (hne : ∀ ad, A = some ad → ad.block ≠ w1.heap.size + 1) (h3 : Row w3 (g + 1) 1 A3 (3 + 8 * k + 8) c3 (bv (a.pre k) ++ bv (Sha.eight z))) (hgr : w2.grownBy w3 (A.map (·.block))) (hat : A3 = A ∨ ∃ ad, A3 = some ad ∧ w2.heap.size ≤ ad.block) :
    rBytesRel w1 a g (.slice A3 (3 + 8 * k + 8) c3) (.int .i64 (k + 1)) w3 := by
  have hs2 := hb2.size
  have hlb := hblk.lt
  refine ⟨k + 1, A3, c3, by omega, by congr 1, by congr 1, ?_, ?_, ?_, ?_⟩
  · rw [pre_next a k hk, hz, bv_append, show 3 + 8 * (k + 1) = 3 + 8 * k + 8 by omega]; exact h3
  · exact (hb.trans (hb2.mono (by have := hb.size; omega))).grown hgr (by have := hb.size; omega) hrow.blocks
  · refine (hblk.below hb2 hlb).grown hgr (fun e => ?_)
    cases hA : A with
    | none => rw [hA] at e; cases e
    | some ad =>
      rw [hA] at e
      exact hne ad hA (by injection e with e; exact e.symm)
  · intro ad e
    rcases hat with h | ⟨ad2, h, h2⟩
    · exact hne ad (by rw [← h]; exact e)
    · rw [h] at e; injection e with e; subst e; omega
set_option maxRecDepth 100000 in
set_option maxHeartbeats 4000000 in
theorem rBytes_no (a : Adm) (w : World) (h : a.err ≠ 0) : Calls Tryd.prog 36 #[a.val] w (BytesOut a w) := by
  have ho : a.out = [] := if_neg h
  have HR := Lib.hid (fun w => rRight_any a w)
  obtain ⟨er, her⟩ : ∃ er, a.err = er := ⟨_, rfl⟩
  unfold BytesOut
  rw [ho]
  rw [her] at HR h ⊢
  clear her ho
  unfold Adm.val at HR ⊢
  have hne : (er != 0) = true := by simp; exact h
  clear h
  go_enter Tryd.func36, Tryd.ntmps36
  go_wp2_with fail
  refine (HR.out _).mono ?_
  rintro e w1 ⟨rfl, hb1⟩
  have HB := Lib.hid (adm_box hb1).2.2
  clear hb1
  go_wp2_with fail
  go_ret2
  exact ⟨none, 0, rfl, Row.nil_ _ _ _, HB.out⟩
set_option maxRecDepth 100000 in
set_option maxHeartbeats 8000000 in
theorem rBytes_yes (a : Adm) (w : World) (h : a.err = 0) : Calls Tryd.prog 36 #[a.val] w (BytesOut a w) := by
  obtain ⟨i0, hi, hz0, hz1, hz2⟩ := info_parts byte_info
  have ho : a.out = a.bytes := if_pos h
  have HR := Lib.hid (fun w => rRight_any a w)
  obtain ⟨hm, hf⟩ := err_zero h
  obtain ⟨m1, m2, m3, m4⟩ := admMay_range hm
  obtain ⟨_, t1, t2, t3⟩ := hf
  have HO := Lib.hid ho
  have HE := Lib.hid h
  rw [h] at HR
  clear ho h hm
  unfold Adm.val at HR ⊢
  go_enter Tryd.func36, Tryd.ntmps36
  go_wp2_with fail
  refine (HR.out _).mono ?_
  rintro e w1 ⟨rfl, hb1⟩
  obtain ⟨hc, hs, hbw⟩ := adm_box hb1
  have HBW := Lib.hid hbw
  have HC := Lib.hid hc
  clear hb1 hbw hc
  obtain ⟨c0, c1, c2, c3, c4, c5, c6, c7, c8⟩ := HC.out
  have hst : rBytesRel w1 a w.heap.size (.slice (some ⟨w1.heap.size, 0, none⟩) 3 3) (.int .i64 0) ((w1.alloc (.cells #[.int .u8 a.role, .int .u8 a.op, .int .u8 a.ten] 5)).alloc (.cells (numCells a) 3)) := by
    obtain ⟨A, c, e, hr, hb⟩ := bytes_start hs 5 a.role a.op a.ten (a := a) rfl rfl rfl (by omega) (by omega) (by omega)
    injection e with e1 e2 e3
    subst e1 e3
    rw [List.take_zero, List.append_nil] at hr
    have hblk := Blk.new (w1.alloc (.cells #[.int .u8 a.role, .int .u8 a.op, .int .u8 a.ten] 5)) 3 (numCells a)
    rw [show (w1.alloc (.cells #[.int .u8 a.role, .int .u8 a.op, .int .u8 a.ten] 5)).heap.size = w1.heap.size + 1 by simp] at hblk
    refine ⟨0, _, _, by omega, rfl, rfl, hr.alloc _, hb.alloc (by simp; omega) _, hblk, fun ad e => ?_⟩
    injection e with e
    subst e
    show w1.heap.size ≠ w1.heap.size + 1
    omega
  have HST := Lib.hid hst
  clear hst
  go_wp2_with fail
  clear c0 c1 c2 c3 c4 c5 c6 c7 c8
  go_loopw [5, 7] (fun s5 s7 wr => rBytesRel w1 a w.heap.size s5 s7 wr) (fun _ s7 _ => 5 - (intOf s7).toNat)
  case atStart => exact HST.out
  case round =>
    clear HST
    obtain ⟨k, A, c, hk5, rfl, rfl, hrow, hb, hblk, hne⟩ := hrel
    have HROW := Lib.hid hrow
    have HB := Lib.hid hb
    have HBLK := Lib.hid hblk
    have HNE := Lib.hid hne
    have hsz := hb.size
    by_cases hk : k < 5
    · have g1 := hblk.cell k
      rw [num_at a k hk] at g1
      obtain ⟨z, hz⟩ : ∃ z, a.nums.getD k 0 = z := ⟨_, rfl⟩
      rw [hz] at g1
      have HZ := Lib.hid hz
      clear hz hrow hb hblk hne
      go_wp2_with fail
      refine (eight8 z wr).mono ?_
      rintro e w2 ⟨A2, c2, rfl, hrow2, hb2⟩
      have HB2 := Lib.hid hb2
      have HR2 := Lib.hid hrow2
      have hs2 := hb2.size
      clear hb2 hrow2
      go_wp2_with (at_builtin; refine wpList_append_row rfl (.tmp 44) (.tmp 49) rfl Tryd.underlying33 hi hz0 hz1 hz2 rfl (by decide) rfl (HROW.out.below HB2.out (Nat.le_refl _)) rfl HR2.out.reads (bv_one _) (by unfold maxLen; omega) (by omega) (by omega) ?_; intro A3 c3 w3 hrow3 hgr3 hat3; have HN := Lib.hid (rBytes_next (by omega) hk HZ.out HB.out HB2.out HROW.out HBLK.out HNE.out hrow3 hgr3 hat3); clear hrow3 hgr3 hat3)
      go_roundw
      case rel => exact HN.out
      case measure => simp [intOf]; omega
    · obtain rfl : k = 5 := by omega
      have c4 := (HC.out.below hb (by omega)).2.2.2.2.1
      clear hrow hb hblk hne
      go_wp2_with (at_builtin; refine wpList_append_row_str rfl (.tmp 51) (.tmp 53) rfl Tryd.underlying33 Tryd.underlying9 hi hz0 hz1 hz2 rfl HROW.out rfl (by unfold maxLen; omega) (by omega) (by omega) ?_; intro A2 c2 w2 hrow2 hgr2 hat2; have HB2 := Lib.hid (below_append0 HB.out (by omega) HROW.out hgr2); have HR2 := Lib.hid hrow2; clear hrow2 hgr2 hat2)
      go_ret2
      have hr := HR2.out
      rw [← bv_append, pre_all, ← HO.out] at hr
      have hl : 3 + 8 * 5 + a.text.size = a.out.length := by have := hr.1; rw [length_bv] at this; omega
      rw [hl] at hr
      refine ⟨A2, c2, ?_, hr.mono (by omega), HBW.out.trans (HB2.out.mono (by omega))⟩
      rw [HE.out, ← hl]
      rfl
theorem rBytes_any (a : Adm) (w : World) : Calls Tryd.prog 36 #[a.val] w (BytesOut a w) := by
  by_cases h : a.err = 0
  · exact rBytes_yes a w h
  · exact rBytes_no a w h
end Go.Proofs.YtnhcabcpdlgdaaaDoor
namespace Go.Proofs.YtnhcabcpdlgdaaaDoor
open Go.RowKit

set_option maxRecDepth 100000 in
set_option maxHeartbeats 4000000 in
theorem rNum_any (A : Option Addr) (c B : Nat) (l : List UInt8) (w : World) (hr : Reads w B 1 A 8 (bv l)) : Calls Tryd.prog 54 #[.slice A 8 c] w fun e w' => e = .returned (.int .i64 (numS l)) ∧ w = w' := by
  have hl : l.length = 8 := by have := hr.1; rw [length_bv] at this; omega
  obtain ⟨b0, o0, rfl, hb0, hcell⟩ := hr.2 (by omega)
  have HCELL := Lib.hid hcell
  have HL := Lib.hid hl
  clear hr hcell hl
  go_enter Tryd.func54, Tryd.ntmps54
  go_wp2_with fail
  go_loop [3, 4] (fun s3 s4 => ∃ k : Nat, k ≤ 8 ∧ s4 = .int .i64 k ∧ s3 = .int .i64 (numS (l.take k))) (fun _ s4 => 8 - (intOf s4).toNat)
  case atStart => exact ⟨0, by omega, rfl, by rw [List.take_zero, numS_nil]⟩
  case round =>
    obtain ⟨k, hk, rfl, rfl⟩ := hrel
    by_cases hlt : k < 8
    · have hkl : k < l.length := by rw [HL.out]; exact hlt
      have g1 := HCELL.out k _ (bv_at l k hkl)
      have hc := u8_lt l[k]
      have hw : wrap64 (l[k].toNat : Int) = (l[k].toNat : Int) := by unfold wrap64; omega
      have hb := byte_more (l.take k) l[k]
      rw [← List.take_succ_eq_append_getElem hkl] at hb
      have HB := Lib.hid hb
      have HW := Lib.hid hw
      clear hb hw hc
      go_wp2_with fail
      go_round
      case rel => exact ⟨k + 1, by omega, by congr 1, by first | rw [HB.out] | (rw [HW.out, HB.out])⟩
      case measure => simp [intOf]; omega
    · obtain rfl : k = 8 := by omega
      have ht : l.take 8 = l := List.take_of_length_le (by rw [HL.out]; exact Nat.le_refl _)
      have HT := Lib.hid ht
      clear ht
      go_wp2_with fail
      go_ret
      exact ⟨by rw [HT.out]; rfl, rfl⟩
theorem reads_sub {w : World} {B n b o : Nat} {l : List UInt8} (h : Reads w B 1 (some ⟨b, o, none⟩) n (bv l)) (k : Nat) (hk : k + 8 ≤ n) : Reads w B 1 (some ⟨b, o + k, none⟩) 8 (bv ((l.drop k).take 8)) := by
  have hl : l.length = n := by have := h.1; rw [length_bv] at this; omega
  obtain ⟨b', o', e, hb, hc⟩ := h.2 (by omega)
  injection e with e
  injection e with e1 e2 e3
  subst e1 e2
  refine ⟨by rw [length_bv]; simp; omega, fun _ => ⟨b, o + k, rfl, hb, fun j u hu => ?_⟩⟩
  have hj : j < 8 := by
    have := (List.getElem?_eq_some_iff.1 hu).1
    rw [length_bv] at this; simp at this; omega
  rw [bv_take, bv_drop, List.getElem?_take, if_pos hj, List.getElem?_drop] at hu
  have := hc (k + j) u hu
  rw [Nat.add_assoc]
  exact this
/-- The rule is laid in. -/
theorem rule_all {w wy : World} {g b B : Nat} {cs : Array Value} {t : TypeId} (x0 x1 x2 y0 : Int) (s : ByteArray) (y1 y2 y3 y4 : Int) (h : Blk wy g 38 #[.int .i64 x0, .int .i64 x1, .int .i64 x2, .int .i64 y0, .string s, .int .i64 0, .int .i64 0, .int .i64 0, .int .i64 0]) (h2 : Blk wy b t cs) (h3 : Below B w wy) (hbg : b ≠ g) (hg : B ≤ g) :
    Blk ((((wy.setCell ⟨g, 5, none⟩ (.int .i64 y1)).setCell ⟨g, 6, none⟩ (.int .i64 y2)).setCell ⟨g, 7, none⟩ (.int .i64 y3)).setCell ⟨g, 8, none⟩ (.int .i64 y4)) g 38 #[.int .i64 x0, .int .i64 x1, .int .i64 x2, .int .i64 y0, .string s, .int .i64 y1, .int .i64 y2, .int .i64 y3, .int .i64 y4] ∧ Blk ((((wy.setCell ⟨g, 5, none⟩ (.int .i64 y1)).setCell ⟨g, 6, none⟩ (.int .i64 y2)).setCell ⟨g, 7, none⟩ (.int .i64 y3)).setCell ⟨g, 8, none⟩ (.int .i64 y4)) b t cs ∧ Below B w ((((wy.setCell ⟨g, 5, none⟩ (.int .i64 y1)).setCell ⟨g, 6, none⟩ (.int .i64 y2)).setCell ⟨g, 7, none⟩ (.int .i64 y3)).setCell ⟨g, 8, none⟩ (.int .i64 y4)) := by
  have e : (((((#[.int .i64 x0, .int .i64 x1, .int .i64 x2, .int .i64 y0, .string s, .int .i64 0, .int .i64 0, .int .i64 0, .int .i64 0] : Array Value).setIfInBounds 5 (.int .i64 y1)).setIfInBounds 6 (.int .i64 y2)).setIfInBounds 7 (.int .i64 y3)).setIfInBounds 8 (.int .i64 y4)) = #[.int .i64 x0, .int .i64 x1, .int .i64 x2, .int .i64 y0, .string s, .int .i64 y1, .int .i64 y2, .int .i64 y3, .int .i64 y4] := by simp
  have h9 := ((((h.set 5 (.int .i64 y1)).set 6 (.int .i64 y2)).set 7 (.int .i64 y3)).set 8 (.int .i64 y4))
  rw [e] at h9
  exact ⟨h9, ((((h2.far (p := ⟨g, 5, none⟩) hbg (.int .i64 y1)).far (p := ⟨g, 6, none⟩) hbg (.int .i64 y2)).far (p := ⟨g, 7, none⟩) hbg (.int .i64 y3)).far (p := ⟨g, 8, none⟩) hbg (.int .i64 y4)), ((((h3.setCell (p := ⟨g, 5, none⟩) hg (.int .i64 y1)).setCell (p := ⟨g, 6, none⟩) hg (.int .i64 y2)).setCell (p := ⟨g, 7, none⟩) hg (.int .i64 y3)).setCell (p := ⟨g, 8, none⟩) hg (.int .i64 y4))⟩

set_option maxRecDepth 100000 in
set_option maxHeartbeats 4000000 in
theorem rParse_short (A : Option Addr) (n c : Nat) (l : List UInt8) (w : World) (hl : l.length = n) (h : n < 43) :
    Calls Tryd.prog 37 #[.slice A n c] w fun e w' => e = .returned (.tuple #[(parA l).val, .int .i64 (parE l)]) ∧ Below w.heap.size w w' := by
  have hA : parA l = Adm.none := if_neg (by omega)
  have hE : parE l = 4 := if_neg (by omega)
  rw [hA, hE]
  clear hA hE hl
  go_enter Tryd.func37, Tryd.ntmps37
  go_wp2_with fail
  refine bodyPost_ret (v := .tuple #[Adm.none.val, .int .i64 4]) (by simp [results, Tryd.results37, go_sem, Adm.none, Adm.val]; done) rfl ⟨rfl, ?_⟩
  first | exact (Below.refl _ _).alloc (Nat.le_refl _) _ | exact ((Below.refl _ _).alloc (Nat.le_refl _) _).setCells _ | skip

set_option maxRecDepth 100000 in
set_option maxHeartbeats 8000000 in
theorem rParse_long (A : Option Addr) (n c B : Nat) (l : List UInt8) (w : World) (hr : Reads w B 1 A n (bv l)) (hB : B ≤ w.heap.size) (hc : n ≤ c ∧ c ≤ 9223372036854775807) (h : 43 ≤ n) :
    Calls Tryd.prog 37 #[.slice A n c] w fun e w' => e = .returned (.tuple #[(parA l).val, .int .i64 (parE l)]) ∧ Below w.heap.size w w' := by
  obtain ⟨hnc, hcc⟩ := hc
  have hl : l.length = n := by have := hr.1; rw [length_bv] at this; omega
  have HR := Lib.hid hr
  obtain ⟨b0, o0, rfl, hb0, hcell⟩ := hr.2 (by omega)
  obtain ⟨x0, hx0, p0, p0'⟩ : ∃ x : Int, ((l.getD 0 0).toNat : Int) = x ∧ 0 ≤ x ∧ x ≤ 255 := ⟨_, rfl, by omega, by have := u8_lt (l.getD 0 0); omega⟩
  obtain ⟨x1, hx1, p1, p1'⟩ : ∃ x : Int, ((l.getD 1 0).toNat : Int) = x ∧ 0 ≤ x ∧ x ≤ 255 := ⟨_, rfl, by omega, by have := u8_lt (l.getD 1 0); omega⟩
  obtain ⟨x2, hx2, p2, p2'⟩ : ∃ x : Int, ((l.getD 2 0).toNat : Int) = x ∧ 0 ≤ x ∧ x ≤ 255 := ⟨_, rfl, by omega, by have := u8_lt (l.getD 2 0); omega⟩
  obtain ⟨y0, hy0⟩ : ∃ y, at8 l 0 = y := ⟨_, rfl⟩
  obtain ⟨y1, hy1⟩ : ∃ y, at8 l 1 = y := ⟨_, rfl⟩
  obtain ⟨y2, hy2⟩ : ∃ y, at8 l 2 = y := ⟨_, rfl⟩
  obtain ⟨y3, hy3⟩ : ∃ y, at8 l 3 = y := ⟨_, rfl⟩
  obtain ⟨y4, hy4⟩ : ∃ y, at8 l 4 = y := ⟨_, rfl⟩
  obtain ⟨s, hs⟩ : ∃ s : ByteArray, ⟨(l.drop 43).toArray⟩ = s := ⟨_, rfl⟩
  have HA := Lib.hid (show admOf l = ⟨x0, x1, x2, y0, s, y1, y2, y3, y4⟩ by unfold admOf; rw [hx0, hx1, hx2, hy0, hy1, hy2, hy3, hy4, hs])
  have g0 := hcell 0 _ (bv_getD l 0 (by omega))
  have g1 := hcell 1 _ (bv_getD l 1 (by omega))
  have g2 := hcell 2 _ (bv_getD l 2 (by omega))
  rw [hx0, Nat.add_zero] at g0
  rw [hx1] at g1
  rw [hx2] at g2
  have HN0 := Lib.hid (fun wx (hb : Below w.heap.size w wx) => show Calls Tryd.prog 54 #[.slice (some ⟨b0, o0 + 3, none⟩) 8 (c - 3)] wx fun e w' => e = .returned (.int .i64 y0) ∧ wx = w' by rw [← hy0]; exact rNum_any _ _ B _ wx (reads_sub (HR.out.below (hb.mono hB)) 3 (by omega)))
  have HN1 := Lib.hid (fun wx (hb : Below w.heap.size w wx) => show Calls Tryd.prog 54 #[.slice (some ⟨b0, o0 + 11, none⟩) 8 (c - 11)] wx fun e w' => e = .returned (.int .i64 y1) ∧ wx = w' by rw [← hy1]; exact rNum_any _ _ B _ wx (reads_sub (HR.out.below (hb.mono hB)) 11 (by omega)))
  have HN2 := Lib.hid (fun wx (hb : Below w.heap.size w wx) => show Calls Tryd.prog 54 #[.slice (some ⟨b0, o0 + 19, none⟩) 8 (c - 19)] wx fun e w' => e = .returned (.int .i64 y2) ∧ wx = w' by rw [← hy2]; exact rNum_any _ _ B _ wx (reads_sub (HR.out.below (hb.mono hB)) 19 (by omega)))
  have HN3 := Lib.hid (fun wx (hb : Below w.heap.size w wx) => show Calls Tryd.prog 54 #[.slice (some ⟨b0, o0 + 27, none⟩) 8 (c - 27)] wx fun e w' => e = .returned (.int .i64 y3) ∧ wx = w' by rw [← hy3]; exact rNum_any _ _ B _ wx (reads_sub (HR.out.below (hb.mono hB)) 27 (by omega)))
  have HN4 := Lib.hid (fun wx (hb : Below w.heap.size w wx) => show Calls Tryd.prog 54 #[.slice (some ⟨b0, o0 + 35, none⟩) 8 (c - 35)] wx fun e w' => e = .returned (.int .i64 y4) ∧ wx = w' by rw [← hy4]; exact rNum_any _ _ B _ wx (reads_sub (HR.out.below (hb.mono hB)) 35 (by omega)))
  have HS := Lib.hid hs
  have HL := Lib.hid hl
  clear hr hcell hx0 hx1 hx2 hy0 hy1 hy2 hy3 hy4 hs
  go_enter Tryd.func37, Tryd.ntmps37
  go_upto_region 3 with fail
  refine name_world fun w1 z1 z2 z3 z4 => ?_
  have hb1 : Below w.heap.size w w1 := below_heap ((Below.refl _ _).alloc (Nat.le_refl _) _) z1 z2 z3 z4
  have hres : Blk w1 w.heap.size 38 zeroAdm := by
    have h := Blk.new w 38 zeroAdm
    unfold Blk at h ⊢
    rw [z1]; exact h
  have hlw : w.heap.size < w1.heap.size := by rw [z1]; simp
  have HRES := Lib.hid hres
  have HB1 := Lib.hid hb1
  have k0 := (hb1.cell (p := ⟨b0, o0, none⟩) (by show b0 < _; omega)).trans g0
  have k1 := (hb1.cell (p := ⟨b0, o0 + 1, none⟩) (by show b0 < _; omega)).trans g1
  have k2 := (hb1.cell (p := ⟨b0, o0 + 2, none⟩) (by show b0 < _; omega)).trans g2
  have hlb : b0 < w1.heap.size := by have := hb1.size; omega
  clear z1 z2 z3 z4 hb1 hres g0 g1 g2
  have hg0 : Below w1.heap.size w1 w1.drew := (Below.refl _ _).drew
  go_wp2_with fail
  obtain ⟨F, hF⟩ : ∃ F, F = nthF [eqv (.slice (some ⟨b0, o0, none⟩) n c), eqv (.pointer (some ⟨b0, o0, none⟩)), eqv (.int .u8 x0), eqv (.int .i64 x0), eqv (.slice (some ⟨b0, o0, none⟩) n c), eqv (.pointer (some ⟨b0, o0 + 1, none⟩)), eqv (.int .u8 x1), eqv (.int .i64 x1), eqv (.slice (some ⟨b0, o0, none⟩) n c), eqv (.pointer (some ⟨b0, o0 + 2, none⟩)), eqv (.int .u8 x2), eqv (.int .i64 x2), eqv (.slice (some ⟨b0, o0, none⟩) n c), eqv (.slice (some ⟨b0, o0 + 3, none⟩) 8 (c - 3)), eqv (.int .i64 y0), eqv (.slice (some ⟨b0, o0, none⟩) n c), BytesV (l.drop 43), eqv (.string s), eqv (.agg #[.int .i64 x0, .int .i64 x1, .int .i64 x2, .int .i64 y0, .string s, .int .i64 0, .int .i64 0, .int .i64 0, .int .i64 0]), NewZ (w.heap.size + 1)] := ⟨_, rfl⟩
  have E0 := Lib.hid (show F 0 = eqv (.slice (some ⟨b0, o0, none⟩) n c) by rw [hF]; rfl)
  have E1 := Lib.hid (show F 1 = eqv (.pointer (some ⟨b0, o0, none⟩)) by rw [hF]; rfl)
  have E2 := Lib.hid (show F 2 = eqv (.int .u8 x0) by rw [hF]; rfl)
  have E3 := Lib.hid (show F 3 = eqv (.int .i64 x0) by rw [hF]; rfl)
  have E4 := Lib.hid (show F 4 = eqv (.slice (some ⟨b0, o0, none⟩) n c) by rw [hF]; rfl)
  have E5 := Lib.hid (show F 5 = eqv (.pointer (some ⟨b0, o0 + 1, none⟩)) by rw [hF]; rfl)
  have E6 := Lib.hid (show F 6 = eqv (.int .u8 x1) by rw [hF]; rfl)
  have E7 := Lib.hid (show F 7 = eqv (.int .i64 x1) by rw [hF]; rfl)
  have E8 := Lib.hid (show F 8 = eqv (.slice (some ⟨b0, o0, none⟩) n c) by rw [hF]; rfl)
  have E9 := Lib.hid (show F 9 = eqv (.pointer (some ⟨b0, o0 + 2, none⟩)) by rw [hF]; rfl)
  have E10 := Lib.hid (show F 10 = eqv (.int .u8 x2) by rw [hF]; rfl)
  have E11 := Lib.hid (show F 11 = eqv (.int .i64 x2) by rw [hF]; rfl)
  have E12 := Lib.hid (show F 12 = eqv (.slice (some ⟨b0, o0, none⟩) n c) by rw [hF]; rfl)
  have E13 := Lib.hid (show F 13 = eqv (.slice (some ⟨b0, o0 + 3, none⟩) 8 (c - 3)) by rw [hF]; rfl)
  have E14 := Lib.hid (show F 14 = eqv (.int .i64 y0) by rw [hF]; rfl)
  have E15 := Lib.hid (show F 15 = eqv (.slice (some ⟨b0, o0, none⟩) n c) by rw [hF]; rfl)
  have E16 := Lib.hid (show F 16 = BytesV (l.drop 43) by rw [hF]; rfl)
  have E17 := Lib.hid (show F 17 = eqv (.string s) by rw [hF]; rfl)
  have E18 := Lib.hid (show F 18 = eqv (.agg #[.int .i64 x0, .int .i64 x1, .int .i64 x2, .int .i64 y0, .string s, .int .i64 0, .int .i64 0, .int .i64 0, .int .i64 0]) by rw [hF]; rfl)
  have E19 := Lib.hid (show F 19 = NewZ (w.heap.size + 1) by rw [hF]; rfl)
  have hst : ∀ j v w w', F j v w → Grows w w' → F j v w' := by rw [hF]; exact nth_stable (by repeat (first | exact st_nil | exact st_eqv _ | exact st_any | exact st_bytes _ | exact st_newz _ | refine st_cons ?_ ?_))
  have HST0 := Lib.hid hst
  clear hF hst
  refine wp_region_facts_tail 20 F Grows (fun _ => True) (by kernel_rfl) (by kernel_rfl) (by kernel_rfl) (by decide) grows_refl grows_trans HST0.out (trivial) ?_ ?_
  · intro V; refine ⟨?_, ?_, ?_, ?_, ?_, ?_, ?_, ?_, ?_, ?_, ?_, ?_, ?_, ?_, ?_, ?_, ?_, ?_, ?_, ?_, trivial⟩
    · intro wx hg hJ hdep
      clear hdep
      clear hg
      go_wp2_with fail
      exact ⟨rfl, grows_refl _, trivial, by rw [E0.out]; rfl⟩
    · intro wx hg hJ hdep
      have v0 : V 0 = (.slice (some ⟨b0, o0, none⟩) n c) := by have h := hdep 0 rfl; rw [E0.out] at h; exact h
      clear hdep
      clear hg
      go_wp2_with fail
      exact ⟨rfl, grows_refl _, trivial, by rw [E1.out]; rfl⟩
    · intro wx hg hJ hdep
      have v1 : V 1 = (.pointer (some ⟨b0, o0, none⟩)) := by have h := hdep 1 rfl; rw [E1.out] at h; exact h
      clear hdep
      have kk := ((hg0.trans hg).cell (p := ⟨b0, o0, none⟩) hlb).trans k0
      clear hg
      go_wp2_with fail
      exact ⟨rfl, grows_refl _, trivial, by rw [E2.out]; rfl⟩
    · intro wx hg hJ hdep
      have v2 : V 2 = (.int .u8 x0) := by have h := hdep 2 rfl; rw [E2.out] at h; exact h
      clear hdep
      clear hg
      go_wp2_with fail
      exact ⟨rfl, grows_refl _, trivial, by rw [E3.out]; rfl⟩
    · intro wx hg hJ hdep
      clear hdep
      clear hg
      go_wp2_with fail
      exact ⟨rfl, grows_refl _, trivial, by rw [E4.out]; rfl⟩
    · intro wx hg hJ hdep
      have v4 : V 4 = (.slice (some ⟨b0, o0, none⟩) n c) := by have h := hdep 4 rfl; rw [E4.out] at h; exact h
      clear hdep
      clear hg
      go_wp2_with fail
      exact ⟨rfl, grows_refl _, trivial, by rw [E5.out]; rfl⟩
    · intro wx hg hJ hdep
      have v5 : V 5 = (.pointer (some ⟨b0, o0 + 1, none⟩)) := by have h := hdep 5 rfl; rw [E5.out] at h; exact h
      clear hdep
      have kk := ((hg0.trans hg).cell (p := ⟨b0, o0 + 1, none⟩) hlb).trans k1
      clear hg
      go_wp2_with fail
      exact ⟨rfl, grows_refl _, trivial, by rw [E6.out]; rfl⟩
    · intro wx hg hJ hdep
      have v6 : V 6 = (.int .u8 x1) := by have h := hdep 6 rfl; rw [E6.out] at h; exact h
      clear hdep
      clear hg
      go_wp2_with fail
      exact ⟨rfl, grows_refl _, trivial, by rw [E7.out]; rfl⟩
    · intro wx hg hJ hdep
      clear hdep
      clear hg
      go_wp2_with fail
      exact ⟨rfl, grows_refl _, trivial, by rw [E8.out]; rfl⟩
    · intro wx hg hJ hdep
      have v8 : V 8 = (.slice (some ⟨b0, o0, none⟩) n c) := by have h := hdep 8 rfl; rw [E8.out] at h; exact h
      clear hdep
      clear hg
      go_wp2_with fail
      exact ⟨rfl, grows_refl _, trivial, by rw [E9.out]; rfl⟩
    · intro wx hg hJ hdep
      have v9 : V 9 = (.pointer (some ⟨b0, o0 + 2, none⟩)) := by have h := hdep 9 rfl; rw [E9.out] at h; exact h
      clear hdep
      have kk := ((hg0.trans hg).cell (p := ⟨b0, o0 + 2, none⟩) hlb).trans k2
      clear hg
      go_wp2_with fail
      exact ⟨rfl, grows_refl _, trivial, by rw [E10.out]; rfl⟩
    · intro wx hg hJ hdep
      have v10 : V 10 = (.int .u8 x2) := by have h := hdep 10 rfl; rw [E10.out] at h; exact h
      clear hdep
      clear hg
      go_wp2_with fail
      exact ⟨rfl, grows_refl _, trivial, by rw [E11.out]; rfl⟩
    · intro wx hg hJ hdep
      clear hdep
      clear hg
      go_wp2_with fail
      exact ⟨rfl, grows_refl _, trivial, by rw [E12.out]; rfl⟩
    · intro wx hg hJ hdep
      have v12 : V 12 = (.slice (some ⟨b0, o0, none⟩) n c) := by have h := hdep 12 rfl; rw [E12.out] at h; exact h
      clear hdep
      clear hg
      go_wp2_with fail
      exact ⟨rfl, grows_refl _, trivial, by rw [E13.out]; rfl⟩
    · intro wx hg hJ hdep
      have v13 : V 13 = (.slice (some ⟨b0, o0 + 3, none⟩) 8 (c - 3)) := by have h := hdep 13 rfl; rw [E13.out] at h; exact h
      clear hdep
      have HM := Lib.hid (HN0.out wx (HB1.out.trans ((hg0.trans hg).mono HB1.out.size)))
      clear hg
      go_wp2_with fail
      refine HM.out.mono ?_
      rintro e w5 ⟨rfl, rfl⟩
      go_wp2_with fail
      exact ⟨rfl, grows_refl _, trivial, by rw [E14.out]; rfl⟩
    · intro wx hg hJ hdep
      clear hdep
      clear hg
      go_wp2_with fail
      exact ⟨rfl, grows_refl _, trivial, by rw [E15.out]; rfl⟩
    · intro wx hg hJ hdep
      have v15 : V 15 = (.slice (some ⟨b0, o0, none⟩) n c) := by have h := hdep 15 rfl; rw [E15.out] at h; exact h
      clear hdep
      have hb43 := BytesV.cut (k := 43) (l := l) (A := some ⟨b0, o0, none⟩) (n := n) (c := c) (w := wx) ⟨_, n, c, B, rfl, HL.out, hnc, by have := (hg0.trans hg).size; omega, HR.out.below ((HB1.out.trans ((hg0.trans hg).mono HB1.out.size)).mono hB)⟩ (by omega)
      have HC43 := Lib.hid hb43
      clear hg hb43
      by_cases h43 : c = 43
      · subst h43
        obtain rfl : n = 43 := by omega
        go_wp2_with fail
        have h := HC43.out
        have h2 : BytesV (l.drop 43) (.slice (some ⟨b0, o0, none⟩) 0 0) wx := by simpa using h
        exact ⟨rfl, grows_refl _, trivial, by rw [E16.out]; first | exact h2 | exact h⟩
      · go_wp2_with fail
        have h := HC43.out
        rw [if_neg h43] at h
        exact ⟨rfl, grows_refl _, trivial, by rw [E16.out]; exact h⟩
    · intro wx hg hJ hdep
      have h16 : (BytesV (l.drop 43)) (V 16) wx := by have h := hdep 16 rfl; rw [E16.out] at h; exact h
      clear hdep
      obtain ⟨A', n', c', hv⟩ := h16.form
      have hcv := h16.conv (P := Tryd.prog) Tryd.underlying33 Tryd.underlying5 Tryd.underlying9
      rw [hv, HS.out] at hcv
      rw [hv]
      clear hg hv h16
      go_wp2_with fail
      exact ⟨rfl, grows_refl _, trivial, by rw [E17.out]; rfl⟩
    · intro wx hg hJ hdep
      have v3 : V 3 = (.int .i64 x0) := by have h := hdep 3 rfl; rw [E3.out] at h; exact h
      have v7 : V 7 = (.int .i64 x1) := by have h := hdep 7 rfl; rw [E7.out] at h; exact h
      have v11 : V 11 = (.int .i64 x2) := by have h := hdep 11 rfl; rw [E11.out] at h; exact h
      have v14 : V 14 = (.int .i64 y0) := by have h := hdep 14 rfl; rw [E14.out] at h; exact h
      have v17 : V 17 = (.string s) := by have h := hdep 17 rfl; rw [E17.out] at h; exact h
      clear hdep
      clear hg
      go_wp2_with fail
      exact ⟨rfl, grows_refl _, trivial, by rw [E18.out]; rfl⟩
    · intro wx hg hJ hdep
      clear hdep
      have hbx := hg0.trans hg
      have hsx := hbx.size
      clear hg hbx
      go_wp2_with fail
      exact ⟨rfl, (Below.refl _ _).alloc (Nat.le_refl _) _, trivial, by rw [E19.out]; exact ⟨_, rfl, by omega, Blk.new _ _ _⟩⟩
  · intro V wx hg hJ hall
    have v0 : V 0 = (.slice (some ⟨b0, o0, none⟩) n c) := by have h := hall 0 (by decide); rw [E0.out] at h; exact h
    have v1 : V 1 = (.pointer (some ⟨b0, o0, none⟩)) := by have h := hall 1 (by decide); rw [E1.out] at h; exact h
    have v2 : V 2 = (.int .u8 x0) := by have h := hall 2 (by decide); rw [E2.out] at h; exact h
    have v3 : V 3 = (.int .i64 x0) := by have h := hall 3 (by decide); rw [E3.out] at h; exact h
    have v4 : V 4 = (.slice (some ⟨b0, o0, none⟩) n c) := by have h := hall 4 (by decide); rw [E4.out] at h; exact h
    have v5 : V 5 = (.pointer (some ⟨b0, o0 + 1, none⟩)) := by have h := hall 5 (by decide); rw [E5.out] at h; exact h
    have v6 : V 6 = (.int .u8 x1) := by have h := hall 6 (by decide); rw [E6.out] at h; exact h
    have v7 : V 7 = (.int .i64 x1) := by have h := hall 7 (by decide); rw [E7.out] at h; exact h
    have v8 : V 8 = (.slice (some ⟨b0, o0, none⟩) n c) := by have h := hall 8 (by decide); rw [E8.out] at h; exact h
    have v9 : V 9 = (.pointer (some ⟨b0, o0 + 2, none⟩)) := by have h := hall 9 (by decide); rw [E9.out] at h; exact h
    have v10 : V 10 = (.int .u8 x2) := by have h := hall 10 (by decide); rw [E10.out] at h; exact h
    have v11 : V 11 = (.int .i64 x2) := by have h := hall 11 (by decide); rw [E11.out] at h; exact h
    have v12 : V 12 = (.slice (some ⟨b0, o0, none⟩) n c) := by have h := hall 12 (by decide); rw [E12.out] at h; exact h
    have v13 : V 13 = (.slice (some ⟨b0, o0 + 3, none⟩) 8 (c - 3)) := by have h := hall 13 (by decide); rw [E13.out] at h; exact h
    have v14 : V 14 = (.int .i64 y0) := by have h := hall 14 (by decide); rw [E14.out] at h; exact h
    have v15 : V 15 = (.slice (some ⟨b0, o0, none⟩) n c) := by have h := hall 15 (by decide); rw [E15.out] at h; exact h
    have h16 : (BytesV (l.drop 43)) (V 16) wx := by have h := hall 16 (by decide); rw [E16.out] at h; exact h
    have v17 : V 17 = (.string s) := by have h := hall 17 (by decide); rw [E17.out] at h; exact h
    have v18 : V 18 = (.agg #[.int .i64 x0, .int .i64 x1, .int .i64 x2, .int .i64 y0, .string s, .int .i64 0, .int .i64 0, .int .i64 0, .int .i64 0]) := by have h := hall 18 (by decide); rw [E18.out] at h; exact h
    have h19 : (NewZ (w.heap.size + 1)) (V 19) wx := by have h := hall 19 (by decide); rw [E19.out] at h; exact h
    clear hall
    simp only [List.take_succ_cons, List.take_zero, List.drop_succ_cons, List.drop_zero, fillTo, Act.put, List.setIfInBounds_toArray, List.set_cons_succ, List.set_cons_zero, Nat.reduceAdd, Nat.zero_add, v0, v1, v2, v3, v4, v5, v6, v7, v8, v9, v10, v11, v12, v13, v14, v15, v17, v18]
    clear v0 v1 v2 v3 v4 v5 v6 v7 v8 v9 v10 v11 v12 v13 v14 v15 v17 v18
    have HBX := Lib.hid (hg0.trans hg)
    obtain ⟨g, hv, hgN, hbg⟩ := h19
    have f0 := hbg.frozen 0
    have z0 : wx.cell? ⟨g, 0, none⟩ = some (.int .i64 0) := hbg.cell 0
    have f1 := hbg.frozen 1
    have z1 : wx.cell? ⟨g, 1, none⟩ = some (.int .i64 0) := hbg.cell 1
    have f2 := hbg.frozen 2
    have z2 : wx.cell? ⟨g, 2, none⟩ = some (.int .i64 0) := hbg.cell 2
    have f3 := hbg.frozen 3
    have z3 : wx.cell? ⟨g, 3, none⟩ = some (.int .i64 0) := hbg.cell 3
    have f4 := hbg.frozen 4
    have z4 : wx.cell? ⟨g, 4, none⟩ = some (.string ⟨#[]⟩) := hbg.cell 4
    have f5 := hbg.frozen 5
    have z5 : wx.cell? ⟨g, 5, none⟩ = some (.int .i64 0) := hbg.cell 5
    have f6 := hbg.frozen 6
    have z6 : wx.cell? ⟨g, 6, none⟩ = some (.int .i64 0) := hbg.cell 6
    have f7 := hbg.frozen 7
    have z7 : wx.cell? ⟨g, 7, none⟩ = some (.int .i64 0) := hbg.cell 7
    have f8 := hbg.frozen 8
    have z8 : wx.cell? ⟨g, 8, none⟩ = some (.int .i64 0) := hbg.cell 8
    have hlg := hbg.lt
    have hall := adm_all hbg (HRES.out.below HBX.out (by omega)) (HB1.out.trans (HBX.out.mono HB1.out.size)) (show w.heap.size ≠ g by omega) (show w.heap.size ≤ g by omega) x0 x1 x2 y0 s 0 0 0 0
    have HALL := Lib.hid hall
    clear hg hg0 h16 hbg hall HB1 HRES
    rw [hv]
    go_wp2_with fail
    have hall := HALL.out
    clear HALL f0 z0 f1 z1 f2 z2 f3 z3 f4 z4 f5 z5 f6 z6 f7 z7 f8 z8
    have hw9 : wx.heap.size = (((((((((wx.setCell ⟨g, 0, none⟩ (.int .i64 x0)).setCell ⟨g, 1, none⟩ (.int .i64 x1)).setCell ⟨g, 2, none⟩ (.int .i64 x2)).setCell ⟨g, 3, none⟩ (.int .i64 y0)).setCell ⟨g, 4, none⟩ (.string s)).setCell ⟨g, 5, none⟩ (.int .i64 0)).setCell ⟨g, 6, none⟩ (.int .i64 0)).setCell ⟨g, 7, none⟩ (.int .i64 0)).setCell ⟨g, 8, none⟩ (.int .i64 0)).heap.size := by simp
    generalize (((((((((wx.setCell ⟨g, 0, none⟩ (.int .i64 x0)).setCell ⟨g, 1, none⟩ (.int .i64 x1)).setCell ⟨g, 2, none⟩ (.int .i64 x2)).setCell ⟨g, 3, none⟩ (.int .i64 y0)).setCell ⟨g, 4, none⟩ (.string s)).setCell ⟨g, 5, none⟩ (.int .i64 0)).setCell ⟨g, 6, none⟩ (.int .i64 0)).setCell ⟨g, 7, none⟩ (.int .i64 0)).setCell ⟨g, 8, none⟩ (.int .i64 0)) = W5 at hall hw9 ⊢
    have HALL := Lib.hid hall
    have HB5 := Lib.hid hall.2.2
    have hlg5 : g < W5.heap.size := by omega
    clear hall hw9 HBX k0 k1 k2
    have hg0 : Below W5.heap.size W5 W5.drew := (Below.refl _ _).drew
    obtain ⟨F, hF⟩ : ∃ F, F = nthF [eqv (.slice (some ⟨b0, o0, none⟩) n c), eqv (.slice (some ⟨b0, o0 + 11, none⟩) 8 (c - 11)), eqv (.int .i64 y1), eqv (.slice (some ⟨b0, o0, none⟩) n c), eqv (.slice (some ⟨b0, o0 + 19, none⟩) 8 (c - 19)), eqv (.int .i64 y2), eqv (.slice (some ⟨b0, o0, none⟩) n c), eqv (.slice (some ⟨b0, o0 + 27, none⟩) 8 (c - 27)), eqv (.int .i64 y3), eqv (.slice (some ⟨b0, o0, none⟩) n c), eqv (.slice (some ⟨b0, o0 + 35, none⟩) 8 (c - 35)), eqv (.int .i64 y4), eqv (.agg #[.int .i64 y1, .int .i64 y2, .int .i64 y3, .int .i64 y4])] := ⟨_, rfl⟩
    have E0 := Lib.hid (show F 0 = eqv (.slice (some ⟨b0, o0, none⟩) n c) by rw [hF]; rfl)
    have E1 := Lib.hid (show F 1 = eqv (.slice (some ⟨b0, o0 + 11, none⟩) 8 (c - 11)) by rw [hF]; rfl)
    have E2 := Lib.hid (show F 2 = eqv (.int .i64 y1) by rw [hF]; rfl)
    have E3 := Lib.hid (show F 3 = eqv (.slice (some ⟨b0, o0, none⟩) n c) by rw [hF]; rfl)
    have E4 := Lib.hid (show F 4 = eqv (.slice (some ⟨b0, o0 + 19, none⟩) 8 (c - 19)) by rw [hF]; rfl)
    have E5 := Lib.hid (show F 5 = eqv (.int .i64 y2) by rw [hF]; rfl)
    have E6 := Lib.hid (show F 6 = eqv (.slice (some ⟨b0, o0, none⟩) n c) by rw [hF]; rfl)
    have E7 := Lib.hid (show F 7 = eqv (.slice (some ⟨b0, o0 + 27, none⟩) 8 (c - 27)) by rw [hF]; rfl)
    have E8 := Lib.hid (show F 8 = eqv (.int .i64 y3) by rw [hF]; rfl)
    have E9 := Lib.hid (show F 9 = eqv (.slice (some ⟨b0, o0, none⟩) n c) by rw [hF]; rfl)
    have E10 := Lib.hid (show F 10 = eqv (.slice (some ⟨b0, o0 + 35, none⟩) 8 (c - 35)) by rw [hF]; rfl)
    have E11 := Lib.hid (show F 11 = eqv (.int .i64 y4) by rw [hF]; rfl)
    have E12 := Lib.hid (show F 12 = eqv (.agg #[.int .i64 y1, .int .i64 y2, .int .i64 y3, .int .i64 y4]) by rw [hF]; rfl)
    have hst : ∀ j v w w', F j v w → Grows w w' → F j v w' := by rw [hF]; exact nth_stable (by repeat (first | exact st_nil | exact st_eqv _ | exact st_any | refine st_cons ?_ ?_))
    have HST0 := Lib.hid hst
    clear hF hst
    refine wp_region_facts_tail 13 F Grows (fun _ => True) (by kernel_rfl) (by kernel_rfl) (by kernel_rfl) (by decide) grows_refl grows_trans HST0.out (trivial) ?_ ?_
    · intro V; refine ⟨?_, ?_, ?_, ?_, ?_, ?_, ?_, ?_, ?_, ?_, ?_, ?_, ?_, trivial⟩
      · intro wx hg hJ hdep
        clear hdep
        clear hg
        go_wp2_with fail
        exact ⟨rfl, grows_refl _, trivial, by rw [E0.out]; rfl⟩
      · intro wx hg hJ hdep
        have v0 : V 0 = (.slice (some ⟨b0, o0, none⟩) n c) := by have h := hdep 0 rfl; rw [E0.out] at h; exact h
        clear hdep
        clear hg
        go_wp2_with fail
        exact ⟨rfl, grows_refl _, trivial, by rw [E1.out]; rfl⟩
      · intro wx hg hJ hdep
        have v1 : V 1 = (.slice (some ⟨b0, o0 + 11, none⟩) 8 (c - 11)) := by have h := hdep 1 rfl; rw [E1.out] at h; exact h
        clear hdep
        have HM := Lib.hid (HN1.out wx (HB5.out.trans ((hg0.trans hg).mono HB5.out.size)))
        clear hg
        go_wp2_with fail
        refine HM.out.mono ?_
        rintro e w5 ⟨rfl, rfl⟩
        go_wp2_with fail
        exact ⟨rfl, grows_refl _, trivial, by rw [E2.out]; rfl⟩
      · intro wx hg hJ hdep
        clear hdep
        clear hg
        go_wp2_with fail
        exact ⟨rfl, grows_refl _, trivial, by rw [E3.out]; rfl⟩
      · intro wx hg hJ hdep
        have v3 : V 3 = (.slice (some ⟨b0, o0, none⟩) n c) := by have h := hdep 3 rfl; rw [E3.out] at h; exact h
        clear hdep
        clear hg
        go_wp2_with fail
        exact ⟨rfl, grows_refl _, trivial, by rw [E4.out]; rfl⟩
      · intro wx hg hJ hdep
        have v4 : V 4 = (.slice (some ⟨b0, o0 + 19, none⟩) 8 (c - 19)) := by have h := hdep 4 rfl; rw [E4.out] at h; exact h
        have v2 : V 2 = (.int .i64 y1) := by have h := hdep 2 rfl; rw [E2.out] at h; exact h
        clear hdep
        have HM := Lib.hid (HN2.out wx (HB5.out.trans ((hg0.trans hg).mono HB5.out.size)))
        clear hg
        go_wp2_with fail
        refine HM.out.mono ?_
        rintro e w5 ⟨rfl, rfl⟩
        go_wp2_with fail
        exact ⟨rfl, grows_refl _, trivial, by rw [E5.out]; rfl⟩
      · intro wx hg hJ hdep
        clear hdep
        clear hg
        go_wp2_with fail
        exact ⟨rfl, grows_refl _, trivial, by rw [E6.out]; rfl⟩
      · intro wx hg hJ hdep
        have v6 : V 6 = (.slice (some ⟨b0, o0, none⟩) n c) := by have h := hdep 6 rfl; rw [E6.out] at h; exact h
        clear hdep
        clear hg
        go_wp2_with fail
        exact ⟨rfl, grows_refl _, trivial, by rw [E7.out]; rfl⟩
      · intro wx hg hJ hdep
        have v7 : V 7 = (.slice (some ⟨b0, o0 + 27, none⟩) 8 (c - 27)) := by have h := hdep 7 rfl; rw [E7.out] at h; exact h
        have v5 : V 5 = (.int .i64 y2) := by have h := hdep 5 rfl; rw [E5.out] at h; exact h
        clear hdep
        have HM := Lib.hid (HN3.out wx (HB5.out.trans ((hg0.trans hg).mono HB5.out.size)))
        clear hg
        go_wp2_with fail
        refine HM.out.mono ?_
        rintro e w5 ⟨rfl, rfl⟩
        go_wp2_with fail
        exact ⟨rfl, grows_refl _, trivial, by rw [E8.out]; rfl⟩
      · intro wx hg hJ hdep
        clear hdep
        clear hg
        go_wp2_with fail
        exact ⟨rfl, grows_refl _, trivial, by rw [E9.out]; rfl⟩
      · intro wx hg hJ hdep
        have v9 : V 9 = (.slice (some ⟨b0, o0, none⟩) n c) := by have h := hdep 9 rfl; rw [E9.out] at h; exact h
        clear hdep
        clear hg
        go_wp2_with fail
        exact ⟨rfl, grows_refl _, trivial, by rw [E10.out]; rfl⟩
      · intro wx hg hJ hdep
        have v10 : V 10 = (.slice (some ⟨b0, o0 + 35, none⟩) 8 (c - 35)) := by have h := hdep 10 rfl; rw [E10.out] at h; exact h
        have v8 : V 8 = (.int .i64 y3) := by have h := hdep 8 rfl; rw [E8.out] at h; exact h
        clear hdep
        have HM := Lib.hid (HN4.out wx (HB5.out.trans ((hg0.trans hg).mono HB5.out.size)))
        clear hg
        go_wp2_with fail
        refine HM.out.mono ?_
        rintro e w5 ⟨rfl, rfl⟩
        go_wp2_with fail
        exact ⟨rfl, grows_refl _, trivial, by rw [E11.out]; rfl⟩
      · intro wx hg hJ hdep
        have v2 : V 2 = (.int .i64 y1) := by have h := hdep 2 rfl; rw [E2.out] at h; exact h
        have v5 : V 5 = (.int .i64 y2) := by have h := hdep 5 rfl; rw [E5.out] at h; exact h
        have v8 : V 8 = (.int .i64 y3) := by have h := hdep 8 rfl; rw [E8.out] at h; exact h
        have v11 : V 11 = (.int .i64 y4) := by have h := hdep 11 rfl; rw [E11.out] at h; exact h
        clear hdep
        clear hg
        go_wp2_with fail
        exact ⟨rfl, grows_refl _, trivial, by rw [E12.out]; rfl⟩
    · intro V wx hg hJ hall
      have v0 : V 0 = (.slice (some ⟨b0, o0, none⟩) n c) := by have h := hall 0 (by decide); rw [E0.out] at h; exact h
      have v1 : V 1 = (.slice (some ⟨b0, o0 + 11, none⟩) 8 (c - 11)) := by have h := hall 1 (by decide); rw [E1.out] at h; exact h
      have v2 : V 2 = (.int .i64 y1) := by have h := hall 2 (by decide); rw [E2.out] at h; exact h
      have v3 : V 3 = (.slice (some ⟨b0, o0, none⟩) n c) := by have h := hall 3 (by decide); rw [E3.out] at h; exact h
      have v4 : V 4 = (.slice (some ⟨b0, o0 + 19, none⟩) 8 (c - 19)) := by have h := hall 4 (by decide); rw [E4.out] at h; exact h
      have v5 : V 5 = (.int .i64 y2) := by have h := hall 5 (by decide); rw [E5.out] at h; exact h
      have v6 : V 6 = (.slice (some ⟨b0, o0, none⟩) n c) := by have h := hall 6 (by decide); rw [E6.out] at h; exact h
      have v7 : V 7 = (.slice (some ⟨b0, o0 + 27, none⟩) 8 (c - 27)) := by have h := hall 7 (by decide); rw [E7.out] at h; exact h
      have v8 : V 8 = (.int .i64 y3) := by have h := hall 8 (by decide); rw [E8.out] at h; exact h
      have v9 : V 9 = (.slice (some ⟨b0, o0, none⟩) n c) := by have h := hall 9 (by decide); rw [E9.out] at h; exact h
      have v10 : V 10 = (.slice (some ⟨b0, o0 + 35, none⟩) 8 (c - 35)) := by have h := hall 10 (by decide); rw [E10.out] at h; exact h
      have v11 : V 11 = (.int .i64 y4) := by have h := hall 11 (by decide); rw [E11.out] at h; exact h
      have v12 : V 12 = (.agg #[.int .i64 y1, .int .i64 y2, .int .i64 y3, .int .i64 y4]) := by have h := hall 12 (by decide); rw [E12.out] at h; exact h
      clear hall
      simp only [List.take_succ_cons, List.take_zero, List.drop_succ_cons, List.drop_zero, fillTo, Act.put, List.setIfInBounds_toArray, List.set_cons_succ, List.set_cons_zero, Nat.reduceAdd, Nat.zero_add, v0, v1, v2, v3, v4, v5, v6, v7, v8, v9, v10, v11, v12]
      clear v0 v1 v2 v3 v4 v5 v6 v7 v8 v9 v10 v11 v12
      have HBX := Lib.hid (hg0.trans hg)
      have HAD := Lib.hid (HALL.out.1.below HBX.out hlg5)
      have HRS := Lib.hid (HALL.out.2.1.below HBX.out (by omega))
      have HBS := Lib.hid (HB5.out.trans (HBX.out.mono HB5.out.size))
      have f0 := HAD.out.frozen 0
      have z0 : wx.cell? ⟨g, 0, none⟩ = some (.int .i64 x0) := HAD.out.cell 0
      have f1 := HAD.out.frozen 1
      have z1 : wx.cell? ⟨g, 1, none⟩ = some (.int .i64 x1) := HAD.out.cell 1
      have f2 := HAD.out.frozen 2
      have z2 : wx.cell? ⟨g, 2, none⟩ = some (.int .i64 x2) := HAD.out.cell 2
      have f3 := HAD.out.frozen 3
      have z3 : wx.cell? ⟨g, 3, none⟩ = some (.int .i64 y0) := HAD.out.cell 3
      have f4 := HAD.out.frozen 4
      have z4 : wx.cell? ⟨g, 4, none⟩ = some (.string s) := HAD.out.cell 4
      have f5 := HAD.out.frozen 5
      have z5 : wx.cell? ⟨g, 5, none⟩ = some (.int .i64 0) := HAD.out.cell 5
      have f6 := HAD.out.frozen 6
      have z6 : wx.cell? ⟨g, 6, none⟩ = some (.int .i64 0) := HAD.out.cell 6
      have f7 := HAD.out.frozen 7
      have z7 : wx.cell? ⟨g, 7, none⟩ = some (.int .i64 0) := HAD.out.cell 7
      have f8 := HAD.out.frozen 8
      have z8 : wx.cell? ⟨g, 8, none⟩ = some (.int .i64 0) := HAD.out.cell 8
      have hall := rule_all x0 x1 x2 y0 s y1 y2 y3 y4 HAD.out HRS.out HBS.out (show w.heap.size ≠ g by omega) (show w.heap.size ≤ g by omega)
      have HALL2 := Lib.hid hall
      clear hg hg0 hall HALL HB5 HBX HAD HRS HBS
      obtain ⟨er, her⟩ : ∃ er, (Adm.mk x0 x1 x2 y0 s y1 y2 y3 y4).err = er := ⟨_, rfl⟩
      have HRT := Lib.hid (fun w => rRight_any (Adm.mk x0 x1 x2 y0 s y1 y2 y3 y4) w)
      rw [her] at HRT
      unfold Adm.val at HRT
      have HER := Lib.hid her
      clear her
      go_wp2_with fail
      have hall := HALL2.out
      clear HALL2
      generalize ((((wx.setCell ⟨g, 5, none⟩ (.int .i64 y1)).setCell ⟨g, 6, none⟩ (.int .i64 y2)).setCell ⟨g, 7, none⟩ (.int .i64 y3)).setCell ⟨g, 8, none⟩ (.int .i64 y4)) = W6 at hall ⊢
      have HALL := Lib.hid hall
      clear hall
      refine (HRT.out _).mono ?_
      rintro e w2 ⟨rfl, hb2⟩
      have HAD2 := Lib.hid (HALL.out.1.below hb2 HALL.out.1.lt)
      have HRES2 := Lib.hid (HALL.out.2.1.below hb2 HALL.out.2.1.lt)
      have HBS2 := Lib.hid (HALL.out.2.2.trans (hb2.mono HALL.out.2.2.size))
      clear hb2 HALL f0 z0 f1 z1 f2 z2 f3 z3 f4 z4 f5 z5 f6 z6 f7 z7 f8 z8
      have r0 : w2.cell? ⟨w.heap.size, 0, none⟩ = some (.int .i64 0) := HRES2.out.cell 0
      have q0 := HRES2.out.frozen 0
      have r1 : w2.cell? ⟨w.heap.size, 1, none⟩ = some (.int .i64 0) := HRES2.out.cell 1
      have q1 := HRES2.out.frozen 1
      have r2 : w2.cell? ⟨w.heap.size, 2, none⟩ = some (.int .i64 0) := HRES2.out.cell 2
      have q2 := HRES2.out.frozen 2
      have r3 : w2.cell? ⟨w.heap.size, 3, none⟩ = some (.int .i64 0) := HRES2.out.cell 3
      have q3 := HRES2.out.frozen 3
      have r4 : w2.cell? ⟨w.heap.size, 4, none⟩ = some (.string ⟨#[]⟩) := HRES2.out.cell 4
      have q4 := HRES2.out.frozen 4
      have r5 : w2.cell? ⟨w.heap.size, 5, none⟩ = some (.int .i64 0) := HRES2.out.cell 5
      have q5 := HRES2.out.frozen 5
      have r6 : w2.cell? ⟨w.heap.size, 6, none⟩ = some (.int .i64 0) := HRES2.out.cell 6
      have q6 := HRES2.out.frozen 6
      have r7 : w2.cell? ⟨w.heap.size, 7, none⟩ = some (.int .i64 0) := HRES2.out.cell 7
      have q7 := HRES2.out.frozen 7
      have r8 : w2.cell? ⟨w.heap.size, 8, none⟩ = some (.int .i64 0) := HRES2.out.cell 8
      have q8 := HRES2.out.frozen 8
      have e0 : w2.cell? ⟨g, 0, none⟩ = some (.int .i64 x0) := HAD2.out.cell 0
      have e1 : w2.cell? ⟨g, 1, none⟩ = some (.int .i64 x1) := HAD2.out.cell 1
      have e2 : w2.cell? ⟨g, 2, none⟩ = some (.int .i64 x2) := HAD2.out.cell 2
      have e3 : w2.cell? ⟨g, 3, none⟩ = some (.int .i64 y0) := HAD2.out.cell 3
      have e4 : w2.cell? ⟨g, 4, none⟩ = some (.string s) := HAD2.out.cell 4
      have e5 : w2.cell? ⟨g, 5, none⟩ = some (.int .i64 y1) := HAD2.out.cell 5
      have e6 : w2.cell? ⟨g, 6, none⟩ = some (.int .i64 y2) := HAD2.out.cell 6
      have e7 : w2.cell? ⟨g, 7, none⟩ = some (.int .i64 y3) := HAD2.out.cell 7
      have e8 : w2.cell? ⟨g, 8, none⟩ = some (.int .i64 y4) := HAD2.out.cell 8
      by_cases h0 : er = 0
      · subst h0
        have hA : parA l = Adm.mk x0 x1 x2 y0 s y1 y2 y3 y4 := by unfold parA; rw [HA.out, if_pos ⟨by omega, HER.out⟩]
        have hE : parE l = 0 := by unfold parE; rw [HA.out, if_pos ⟨by omega, HER.out⟩]
        have HAA := Lib.hid hA
        have HEE := Lib.hid hE
        clear hA hE
        go_wp2_with fail
        refine bodyPost_ret (v := .tuple #[.agg #[.int .i64 x0, .int .i64 x1, .int .i64 x2, .int .i64 y0, .string s, .int .i64 y1, .int .i64 y2, .int .i64 y3, .int .i64 y4], .int .i64 0]) (by simp [results, Tryd.results37, go_sem, r0, r1, r2, r3, r4, r5, r6, r7, r8]; done) rfl ⟨by first | (rw [HAA.out, HEE.out]; done) | (rw [HAA.out, HEE.out]; rfl), ?_⟩
        exact adm_below HBS2.out (Nat.le_refl _) x0 x1 x2 y0 s y1 y2 y3 y4
      · have hA : parA l = Adm.none := by unfold parA; rw [HA.out, if_neg (fun hh => h0 (HER.out.symm.trans hh.2))]
        have hE : parE l = 4 := by unfold parE; rw [HA.out, if_neg (fun hh => h0 (HER.out.symm.trans hh.2))]
        have HAA := Lib.hid hA
        have HEE := Lib.hid hE
        have hne : (er != 0) = true := by simp; exact h0
        clear hA hE h0
        go_wp2_with fail
        refine bodyPost_ret (v := .tuple #[Adm.none.val, .int .i64 4]) (by simp [results, Tryd.results37, go_sem, Adm.none, Adm.val, r0, r1, r2, r3, r4, r5, r6, r7, r8]; done) rfl ⟨by first | (rw [HAA.out, HEE.out]; done) | (rw [HAA.out, HEE.out]; rfl), ?_⟩
        exact adm_below HBS2.out (Nat.le_refl _) 0 0 0 0 ⟨#[]⟩ 0 0 0 0
theorem rParse_any (A : Option Addr) (n c B : Nat) (l : List UInt8) (w : World) (hr : Reads w B 1 A n (bv l)) (hB : B ≤ w.heap.size) (hc : n ≤ c ∧ c ≤ 9223372036854775807) :
    Calls Tryd.prog 37 #[.slice A n c] w fun e w' => e = .returned (.tuple #[(parA l).val, .int .i64 (parE l)]) ∧ Below w.heap.size w w' := by
  by_cases h : n < 43
  · exact rParse_short A n c l w (by have := hr.1; rw [length_bv] at this; omega) h
  · exact rParse_long A n c B l w hr hB hc (by omega)
end Go.Proofs.YtnhcabcpdlgdaaaDoor
namespace Go.Proofs.YtnhcabcpdlgdaaaDoor
open Go.RowKit

theorem codes_row {w1 w2 : World} {g n : Nat} {l : List UInt8} (hl : l.length = n) (hr : Row w2 w1.heap.size 1 (some ⟨g, 0, none⟩) (n + 1) (n + 1) (bv (l ++ [77]))) : Row w2 w1.heap.size 1 (some ⟨g, 0, none⟩) n (n + 1) (bv l) := by
  have h := hr.take (k := n) (by omega)
  rw [Nat.mul_one, ← bv_take, List.take_append_of_le_length (by omega), List.take_of_length_le (by omega)] at h
  exact h
set_option maxRecDepth 100000 in
set_option maxHeartbeats 8000000 in
theorem RolesCodes_walk (a : Adm) (A : Option Addr) (n c : Nat) (l : List UInt8) (w : World) (hw : a.Wf) (hr : Reads w w.heap.size 1 A n (bv l)) (hc : n ≤ c ∧ c ≤ 140737488351232) (ht : Tab w) :
    Calls Tryd.prog 10 #[a.val, .slice A n c] w fun e w' => e = .returned (.bool true) ∧ Below w.heap.size w w' := by
  obtain ⟨hnc, hcc⟩ := hc
  have HL := Lib.hid (show l.length = n by have := hr.1; rw [length_bv] at this; omega)
  have HR := Lib.hid hr
  obtain ⟨x, hx⟩ : ∃ x, a.out = x := ⟨_, rfl⟩
  obtain ⟨k, hk⟩ : ∃ k, x.length = k := ⟨_, rfl⟩
  obtain ⟨er, her⟩ : ∃ er, a.err = er := ⟨_, rfl⟩
  have HBY := Lib.hid (fun w => Bytes_any a w hw)
  have HRB := Lib.hid (fun w => rBytes_any a w)
  unfold BytesOut at HBY HRB
  rw [hx, her, hk] at HBY HRB
  obtain ⟨y, hy⟩ : ∃ y, parA l = y := ⟨_, rfl⟩
  obtain ⟨fe, hfe⟩ : ∃ fe, parE l = fe := ⟨_, rfl⟩
  have HP := Lib.hid (fun A c B w (h1 : Reads w B 1 A n (bv l)) h2 h3 => by have h := Parse_any A n c B l w h1 h2 h3; rw [hy, hfe] at h; exact h)
  have HRP := Lib.hid (fun w1 (hb : Below w.heap.size w w1) => by have h := rParse_any A n c w.heap.size l w1 (hr.below hb) hb.size ⟨hnc, by omega⟩; rw [hy, hfe] at h; exact h)
  clear hx her hy hfe hr hw
  obtain ⟨r, o, t, m, s, p, q, u, v⟩ := a
  obtain ⟨r2, o2, t2, m2, s2, p2, q2, u2, v2⟩ := y
  have hq := fun w => eqAdmV r2 o2 t2 m2 s2 p2 q2 u2 v2 r2 o2 t2 m2 s2 p2 q2 u2 v2 w
  rw [show (Adm.mk r2 o2 t2 m2 s2 p2 q2 u2 v2).same (Adm.mk r2 o2 t2 m2 s2 p2 q2 u2 v2) = true from same_iff.2 rfl] at hq
  unfold Adm.val at *
  simp only at *
  have HT := Lib.hid ht
  clear ht
  go_enter Tryd.func10, Tryd.ntmps10
  go_wp2_with fail
  refine (small23_any _ (HT.out.below ((Below.refl _ _).alloc (Nat.le_refl _) _))).mono ?_
  rintro e w1 ⟨rfl, hb1⟩
  have hbx := adm_box (a := (Adm.mk r o t m s p q u v)) hb1
  have HAT1 := Lib.hid hbx.1
  have HB1 := Lib.hid hbx.2.2
  have hs1 := hbx.2.1
  clear hb1 hbx
  go_wp2_with fail
  refine (Lent_any A n c _ l w1 (HR.out.below HB1.out) HB1.out.size (by omega)).mono ?_
  rintro e w2 ⟨rfl, hrow, hb2⟩
  have HIN := Lib.hid hrow
  have hgi : w1.heap.size < w2.heap.size := (hrow.lt _ rfl).2
  have HAT2 := Lib.hid (HAT1.out.below hb2 hs1)
  have HB2 := Lib.hid (HB1.out.trans (hb2.mono HB1.out.size))
  clear hrow hb2 HAT1
  have hat := HAT2.out
  have c0 := hat.1
  have c1 := hat.2.1
  have c2 := hat.2.2.1
  have c3 := hat.2.2.2.1
  have c4 := hat.2.2.2.2.1
  have c5 := hat.2.2.2.2.2.1
  have c6 := hat.2.2.2.2.2.2.1
  have c7 := hat.2.2.2.2.2.2.2.1
  have c8 := hat.2.2.2.2.2.2.2.2
  simp only at c0 c1 c2 c3 c4 c5 c6 c7 c8
  go_wp2_with fail
  clear hat c0 c1 c2 c3 c4 c5 c6 c7 c8
  refine (HBY.out _).mono ?_
  rintro e w3 ⟨A3, cp3, rfl, hr3, hb3⟩
  have HX3 := Lib.hid hr3
  have HIN3 := Lib.hid (HIN.out.below hb3 (Nat.le_refl _))
  have HAT3 := Lib.hid (HAT2.out.below hb3 (by omega))
  have HB3 := Lib.hid (HB2.out.trans (hb3.mono HB2.out.size))
  have hs3 := hb3.size
  clear hb3 hr3 HAT2 HIN
  go_wp2_with fail
  refine (HP.out _ _ w3.heap.size w3 (codes_row HL.out HIN3.out).reads (Nat.le_refl _) ⟨by omega, by omega⟩).mono ?_
  rintro e w4 ⟨rfl, hb4⟩
  have HX4 := Lib.hid (HX3.out.below hb4 (Nat.le_refl _))
  have HIN4 := Lib.hid (HIN3.out.below hb4 (Nat.le_refl _))
  have HAT4 := Lib.hid (HAT3.out.below hb4 (by omega))
  have HB4 := Lib.hid (HB3.out.trans (hb4.mono HB3.out.size))
  have hs4 := hb4.size
  clear hb4 HAT3
  go_wp2_with fail
  have hall5 := adm_box (a := (Adm.mk r2 o2 t2 m2 s2 p2 q2 u2 v2)) (w := w4) (t := 38) (Below.refl _ _)
  have HY5 := Lib.hid hall5.1
  have HAT5 := Lib.hid (HAT4.out.below hall5.2.2 (by omega))
  have HX5 := Lib.hid (HX4.out.below hall5.2.2 (Nat.le_refl _))
  have HIN5 := Lib.hid (HIN4.out.below hall5.2.2 (Nat.le_refl _))
  have HB5 := Lib.hid (HB4.out.trans (hall5.2.2.mono HB4.out.size))
  have hs5 := hall5.2.1
  clear hall5 HAT4
  refine (Kept_yes A n c _ _ _ l _ HIN5.out.reads (HR.out.below HB5.out) (by omega)).mono ?_
  generalize (w4.alloc (.cells #[.int .i64 r2, .int .i64 o2, .int .i64 t2, .int .i64 m2, .string s2, .int .i64 p2, .int .i64 q2, .int .i64 u2, .int .i64 v2] 38)) = w5 at HY5 HAT5 HX5 HIN5 HB5 hs5 ⊢
  rintro e w5' ⟨rfl, rfl⟩
  have hat := HAT5.out
  have c0 := hat.1
  have c1 := hat.2.1
  have c2 := hat.2.2.1
  have c3 := hat.2.2.2.1
  have c4 := hat.2.2.2.2.1
  have c5 := hat.2.2.2.2.2.1
  have c6 := hat.2.2.2.2.2.2.1
  have c7 := hat.2.2.2.2.2.2.2.1
  have c8 := hat.2.2.2.2.2.2.2.2
  simp only at c0 c1 c2 c3 c4 c5 c6 c7 c8
  go_wp2_with fail
  clear hat c0 c1 c2 c3 c4 c5 c6 c7 c8
  refine (HRB.out _).mono ?_
  rintro e w6 ⟨A6, cp6, rfl, hr6, hb6⟩
  have HU6 := Lib.hid hr6
  have HX6 := Lib.hid (HX5.out.below hb6 (Nat.le_refl _))
  have HIN6 := Lib.hid (HIN5.out.below hb6 (Nat.le_refl _))
  have HY6 := Lib.hid (HY5.out.below hb6 hs5)
  have HB6 := Lib.hid (HB5.out.trans (hb6.mono HB5.out.size))
  have hs6 := hb6.size
  clear hb6 hr6 HAT5 HY5
  go_wp2_with fail
  refine (HRP.out _ HB6.out).mono ?_
  rintro e w7 ⟨rfl, hb7⟩
  have hx7 := HX6.out.below hb7 (Nat.le_refl _)
  have hu7 := HU6.out.below hb7 (Nat.le_refl _)
  have HIN7 := Lib.hid (HIN6.out.below hb7 (Nat.le_refl _))
  have HY7 := Lib.hid (HY6.out.below hb7 (by omega))
  have HB7 := Lib.hid (HB6.out.trans (hb7.mono HB6.out.size))
  have hs7 := hb7.size
  have hl7 : w4.heap.size < w7.heap.size := by omega
  have hcv1 := back_conv (c := cp3) (hx7.alloc (.cells #[.int .i64 r2, .int .i64 o2, .int .i64 t2, .int .i64 m2, .string s2, .int .i64 p2, .int .i64 q2, .int .i64 u2, .int .i64 v2] 38)).reads
  have hcv2 := back_conv (c := cp6) (hu7.alloc (.cells #[.int .i64 r2, .int .i64 o2, .int .i64 t2, .int .i64 m2, .string s2, .int .i64 p2, .int .i64 q2, .int .i64 u2, .int .i64 v2] 38)).reads
  have HX7 := Lib.hid hx7
  have hat := HY7.out
  have c0 := hat.1
  have c1 := hat.2.1
  have c2 := hat.2.2.1
  have c3 := hat.2.2.2.1
  have c4 := hat.2.2.2.2.1
  have c5 := hat.2.2.2.2.2.1
  have c6 := hat.2.2.2.2.2.2.1
  have c7 := hat.2.2.2.2.2.2.2.1
  have c8 := hat.2.2.2.2.2.2.2.2
  simp only at c0 c1 c2 c3 c4 c5 c6 c7 c8
  clear hb7 HY6 hx7 hu7
  go_wp2_with fail
  clear hat hcv1 hcv2 c0 c1 c2 c3 c4 c5 c6 c7 c8
  have hlit : OwnedRows ((w7.alloc (.cells #[.int .i64 r2, .int .i64 o2, .int .i64 t2, .int .i64 m2, .string s2, .int .i64 p2, .int .i64 q2, .int .i64 u2, .int .i64 v2] 38)).alloc (.cells ([((A3, k, cp3) : Sl), (some ⟨w1.heap.size, 0, none⟩, n, n + 1)].map Sl.val).toArray 33)) (w7.alloc (.cells #[.int .i64 r2, .int .i64 o2, .int .i64 t2, .int .i64 m2, .string s2, .int .i64 p2, .int .i64 q2, .int .i64 u2, .int .i64 v2] 38)).heap.size [(A3, k, cp3), (some ⟨w1.heap.size, 0, none⟩, n, n + 1)] :=
    owned_lit (by intro x hx; simp at hx; rcases hx with rfl | rfl; exact ⟨_, _, HX7.out.alloc _⟩; exact ⟨_, _, (codes_row HL.out HIN7.out).alloc _⟩) (by
      simp only [List.pairwise_cons, List.mem_singleton, forall_eq, List.not_mem_nil, false_imp_iff, implies_true, List.Pairwise.nil, and_true]
      exact fun a b ea eb e => by have := (HX3.out.lt a ea).1; injection eb with eb; subst eb; simp only at e; omega)
  have how := Owned_any _ 2 _ _ hlit (by simp)
  have hbo : ∀ j, blocksOf [((A3, k, cp3) : Sl), (some ⟨w1.heap.size, 0, none⟩, n, n + 1)] j → w.heap.size ≤ j := fun j hj => by
    obtain ⟨x, hx, a, e, _, hk2⟩ := hj
    simp at hx
    rcases hx with rfl | rfl
    · have := (HX3.out.lt a e).1; omega
    · injection e with e; subst e; simp only at hk2; omega
  rw [show (w7.alloc (.cells #[.int .i64 r2, .int .i64 o2, .int .i64 t2, .int .i64 m2, .string s2, .int .i64 p2, .int .i64 q2, .int .i64 u2, .int .i64 v2] 38)).heap.size = w7.heap.size + 1 by simp] at how
  have HOW := Lib.hid how
  have HBO := Lib.hid hbo
  have HB8 := Lib.hid ((HB7.out.alloc HB7.out.size (.cells #[.int .i64 r2, .int .i64 o2, .int .i64 t2, .int .i64 m2, .string s2, .int .i64 p2, .int .i64 q2, .int .i64 u2, .int .i64 v2] 38)).alloc (by have := HB7.out.size; simp; omega) (.cells ([((A3, k, cp3) : Sl), (some ⟨w1.heap.size, 0, none⟩, n, n + 1)].map Sl.val).toArray 33))
  clear how hbo hlit
  refine HOW.out.mono ?_
  rintro e w9 ⟨rfl, ho⟩
  have HB9 := Lib.hid (HB8.out.trans (ho.below (B := w.heap.size) HBO.out))
  clear ho
  go_wp2_with fail
  go_ret
  exact ⟨rfl, HB9.out⟩
end Go.Proofs.YtnhcabcpdlgdaaaDoor
