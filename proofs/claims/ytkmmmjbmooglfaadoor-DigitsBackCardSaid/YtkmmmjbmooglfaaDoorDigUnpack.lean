/- THE WALKS of digits and of its reference: unpacking; the reference's packing. -/
import Derived.Test.YtkmmmjbmooglfaaDoorDigSmall
import Derived.Test.YtkmmmjbmooglfaaDoorLent
import Derived.Outline
import Derived.Test.YtkmmmjbmooglfaaDoorDigUnp
namespace Go.Proofs.YtkmmmjbmooglfaaDoor
open Go.RowKit

def unpackR (l : List UInt8) (n : Int) : Ending := .returned (.tuple #[.string ⟨(unpackS l n).toArray⟩, .int .i64 (unpackK l n), .int .i64 (unpackE l n)])
theorem unpackR_no {l : List UInt8} {n e : Int} (h : unpackE l n = e) (he : e ≠ 0) : unpackR l n = .returned (.tuple #[.string ⟨#[]⟩, .int .i64 0, .int .i64 e]) := by
  unfold unpackR; rw [unpackS_no (by rw [h]; exact he), unpackK_no (by rw [h]; exact he), h]
theorem unpackR_ok {l r : List UInt8} {n k : Int} (h : unpackE l n = 0) (hr : r = (unp (l.take ((n + 1) / 2).toNat)).drop (n % 2).toNat) (hk : k = (n + 1) / 2) : unpackR l n = .returned (.tuple #[.string ⟨r.toArray⟩, .int .i64 k, .int .i64 0]) := by
  unfold unpackR; rw [unpackS_ok h, unpackK_ok h, h, hr, hk]

/-- Behind j bytes. -/
def UnpRel (w : World) (l : List UInt8) (m : Nat) (v i : Value) (wr : World) : Prop :=
  ∃ (j : Nat) (A' : Option Addr) (c' : Nat), j ≤ m ∧ i = .int .i64 j ∧ v = .slice A' (2 * j) c' ∧ Row wr w.heap.size 1 A' (2 * j) c' (bv (unp (l.take j))) ∧ Below w.heap.size w wr ∧ (l.take j).all okB = true
theorem or48 {a : Nat} (h : a ≤ 9) : bits .or .u8 48 (a : Int) = ((48 + a : Nat) : Int) := by
  have := u8_or_nat 48 a (by omega) (by omega)
  rw [nat_join 4 48 a (by omega) (by omega)] at this
  exact this
theorem two_digits {x : UInt8} (h1 : x.toNat / 16 ≤ 9) (h2 : x.toNat % 16 ≤ 9) :
    [Value.int .u8 (bits .or .u8 48 ((x.toNat : Int) / 16)), Value.int .u8 (bits .or .u8 48 ((x.toNat : Int) % 16))] = bv [sg (x.toNat / 16), sg (x.toNat % 16)] := by
  have e1 : ((x.toNat : Int) / 16) = ((x.toNat / 16 : Nat) : Int) := by omega
  have e2 : ((x.toNat : Int) % 16) = ((x.toNat % 16 : Nat) : Int) := by omega
  rw [e1, e2, or48 h1, or48 h2]
  simp only [bv, List.map_cons, List.map_nil, sg_toNat h1, sg_toNat h2]
theorem all_step {p : UInt8 → Bool} {l : List UInt8} {j : Nat} (hj : j < l.length) (h : (l.take j).all p = true) (hp : p l[j] = true) : (l.take (j + 1)).all p = true := by
  rw [List.take_succ_eq_append_getElem hj, List.all_append, h]; simp [hp]
theorem all_stop {p : UInt8 → Bool} {l : List UInt8} {j m : Nat} (hj : j < l.length) (hm : j < m) (hp : p l[j] = false) : (l.take m).all p = false := by
  rw [Bool.eq_false_iff]
  intro h
  have := List.all_eq_true.1 h l[j] (by rw [List.mem_take_iff_getElem]; exact ⟨j, by omega, rfl⟩)
  rw [hp] at this; cases this
theorem unp_step {l : List UInt8} {j : Nat} (hj : j < l.length) : unp (l.take (j + 1)) = unp (l.take j) ++ [sg (l[j].toNat / 16), sg (l[j].toNat % 16)] := by
  rw [List.take_succ_eq_append_getElem hj, unp_snoc]

set_option maxRecDepth 100000 in
set_option maxHeartbeats 2000000 in
theorem Unpack_in (A : Option Addr) (n c B : Nat) (l : List UInt8) (k : Nat) (w : World) (hr : Reads w B 1 A n (bv l)) (hB : B ≤ w.heap.size) (hnc : n ≤ c) (hc : c ≤ 9223372036854775807) (hk : k ≤ 999) (hend : (k + 1) / 2 ≤ n) :
    Calls Tryd.prog 12 #[.slice A n c, .int .i64 k] w fun e w' => e = unpackR l k ∧ Below w.heap.size w w' := by
  obtain ⟨i0, hi, hz0, hz1, hz2⟩ := info_parts byte_info
  have hll : l.length = n := by have := hr.1; rw [length_bv] at this; omega
  have HLL := Lib.hid hll; clear hll
  obtain ⟨m, hm⟩ : ∃ m, m = (k + 1) / 2 := ⟨_, rfl⟩
  have hm1 : ((k : Int) + 1) / 2 = m := by omega
  have hmn : m ≤ n := by omega
  have hm5 : m ≤ 500 := by omega
  have HM := Lib.hid hm; clear hm
  have HM1 := Lib.hid hm1
  have hmk := fun W => run_make (P := Tryd.prog) W 30 5 i0 (.int .u8 0) Tryd.underlying30 hi hz0 .i64 .i64 0 (2 * (m : Int)) (by omega) (by omega) (by rw [hz2]; omega) (by omega)
  rw [hz1, show (2 * (m : Int)).toNat = 2 * m by omega, show ((0 : Int)).toNat = 0 by omega, Nat.mul_one] at hmk
  have hb1 : decide (n < m) = false := decide_eq_false (by omega)
  have hb2 : decide ((k : Int) < 0) = false := decide_eq_false (by omega)
  have hb3 : decide ((999 : Int) < k) = false := decide_eq_false (by omega)
  go_enter Tryd.func12, Tryd.ntmps12
  go_wp2_with fail
  clear hmk hm1
  go_loopw [7, 35] (fun v i wr => UnpRel w l m v i wr) (fun _ i _ => m - (intOf i).toNat)
  case atStart => exact ⟨0, _, _, by omega, rfl, rfl, made_row w (.int .u8 0) 5 0 (2 * m) (by omega) (by unfold maxLen; omega), (Below.refl _ _).alloc (Nat.le_refl _) _, rfl⟩
  case round =>
    obtain ⟨j, A', c', hj, rfl, rfl, hrow, hbel, hall⟩ := hrel
    have HALL := Lib.hid hall; clear hall
    have HROW := Lib.hid hrow
    have hbw := hbel.size
    by_cases hlt : j < m
    · obtain ⟨b, o, rfl, hbB, hcell⟩ := hr.2 (by omega)
      have hjl : j < l.length := by rw [HLL.out]; omega
      have hcj := hcell j _ (bv_at l j hjl)
      have hcj2 : wr.cell? ⟨b, o + j, none⟩ = some (.int .u8 ((l[j]).toNat : Int)) := (hbel.cell (p := ⟨b, o + j, none⟩) (by show b < _; omega)).trans hcj
      have hstep := unp_step hjl
      have hgo := all_step (p := okB) hjl HALL.out
      have hno := all_stop (p := okB) (m := m) hjl hlt
      generalize l[j] = x at hcj2 hstep hgo hno
      have hxlt := x.toNat_lt
      have HST := Lib.hid hstep
      have HGO := Lib.hid hgo
      have HNO := Lib.hid hno
      clear hcj hcell hrow hstep hgo hno
      by_cases h1 : x.toNat / 16 ≤ 9
      · by_cases h2 : x.toNat % 16 ≤ 9
        · have H12 := Lib.hid (two_digits h1 h2)
          have HOK := Lib.hid (HGO.out (okB_iff.2 ⟨h1, h2⟩))
          go_wp2_with (at_builtin; refine wpList_append_row rfl (.tmp 47) (.tmp 54) rfl Tryd.underlying30 hi hz0 hz1 hz2 rfl (by decide) rfl (HROW.out.alloc _) rfl (Reads.lit _ _ _ (n := 2) rfl) (by intro v hv; simp at hv; rcases hv with rfl | rfl <;> rfl) (by unfold maxLen; omega) (by omega) (by simp; omega) ?_; intro A2 c2 w2 hrow2 hgr2 hat2)
          go_roundw
          case rel =>
            refine ⟨j + 1, A2, c2, by omega, by go_num, rfl, ?_, ?_, HOK.out⟩
            · rw [HST.out, bv_append, ← H12.out]
              exact hrow2
            · have hba := hbel.alloc hbw (.cells #[.int .u8 (bits .or .u8 48 ((x.toNat : Int) / 16)), .int .u8 (bits .or .u8 48 ((x.toNat : Int) % 16))] 5)
              refine hba.grown hgr2 (by simp; omega) fun k hk => ?_
              cases A' with
              | none => cases hk
              | some ad => simp only [Option.map_some, Option.some.injEq] at hk; rw [← hk]; exact (HROW.out.lt ad rfl).1
          case measure => simp [intOf]; omega
        · have he := Lib.hid (unpackE_form (l := l) (n := (k : Int)) (by omega) (by omega) (by rw [HLL.out]; omega) (by rw [HM1.out, Int.toNat_natCast]; exact HNO.out (by rw [Bool.eq_false_iff]; intro h; exact h2 (okB_iff.1 h).2)))
          go_wp2_with fail
          go_ret3
          exact ⟨(unpackR_no he.out (by decide)).symm, hbel⟩
      · have he := Lib.hid (unpackE_form (l := l) (n := (k : Int)) (by omega) (by omega) (by rw [HLL.out]; omega) (by rw [HM1.out, Int.toNat_natCast]; exact HNO.out (by rw [Bool.eq_false_iff]; intro h; exact h1 (okB_iff.1 h).1)))
        go_wp2_with fail
        go_ret3
        exact ⟨(unpackR_no he.out (by decide)).symm, hbel⟩
    · obtain rfl : j = m := by omega
      clear hrow
      have hlen : (unp (l.take j)).length = 2 * j := by rw [length_unp, List.length_take, HLL.out]; omega
      have hmax : (unp (l.take j)).length ≤ 1000 := by rw [hlen]; omega
      have HLEN := Lib.hid hlen
      have HT : Hid (l.take ((k + 1 : Int) / 2).toNat = l.take j) := by rw [HM1.out, Int.toNat_natCast]; rfl
      by_cases hodd : (k : Int) % 2 = 1
      · have hj1 : 0 < j := by have := HM.out; omega
        obtain ⟨g, o, rfl⟩ : ∃ g o, A' = some ⟨g, o, none⟩ := by
          cases hA : A' with
          | none => have h1 := HROW.out.2.2.2.1 hA; have h2 := HROW.out.2.1; omega
          | some ad => obtain ⟨g, o, rfl, _⟩ := HROW.out.2.2.2.2 _ hA; exact ⟨g, o, rfl⟩
        obtain ⟨d, r, hdr⟩ : ∃ d r, unp (l.take j) = d :: r := by
          cases h : unp (l.take j) with
          | nil => rw [h] at hlen; simp at hlen; omega
          | cons d r => exact ⟨d, r, rfl⟩
        have hc0 := HROW.out.cell (j := 0) (u := .int .u8 (d.toNat : Int)) (by rw [hdr]; rfl)
        rw [Nat.add_zero] at hc0
        have hrd := HROW.out.reads.cut (k := 1) (cap := c') (by omega) (HROW.out.2.1)
        rw [if_neg (by have := HROW.out.2.1; omega), Option.map_some, add_plain, Nat.one_mul, ← bv_drop] at hrd
        have hcv := run_conv_bytes (P := Tryd.prog) Tryd.underlying30 Tryd.underlying5 Tryd.underlying9 (cap := c' - 1) hrd
        have hcc := HROW.out.2.1
        have hcm := HROW.out.2.2.1
        unfold maxLen at hcm
        have hdr1 : (unp (l.take j)).drop 1 = r := by rw [hdr]; rfl
        rw [hdr1] at hcv
        have HDR := Lib.hid hdr
        clear hdr hdr1 hrd hlen
        by_cases hd48 : ((d.toNat : Int) != 48) = true
        · have he := Lib.hid (unpackE_odd (l := l) (n := (k : Int)) (by omega) (by omega) (by rw [HLL.out]; omega) (by rw [HT.out]; exact HALL.out) ⟨hodd, by
            rw [HT.out, HDR.out]
            simp only [List.head?_cons, ne_eq, Option.some.injEq]
            intro h
            rw [h] at hd48
            exact absurd hd48 (by decide)⟩)
          go_wp2_with fail
          go_ret3
          exact ⟨(unpackR_no he.out (by decide)).symm, hbel⟩
        · have hd48' : ((d.toNat : Int) != 48) = false := by simpa using hd48
          clear hd48
          have he := Lib.hid (unpackE_ok (l := l) (n := (k : Int)) (by omega) (by omega) (by rw [HLL.out]; omega) (by rw [HT.out]; exact HALL.out) (by
            rw [HT.out, HDR.out]
            rintro ⟨_, h⟩
            apply h
            simp only [List.head?_cons, Option.some.injEq]
            have h2 : (d.toNat : Int) = 48 := by simpa using hd48'
            exact UInt8.toNat_inj.1 (by show d.toNat = 48; omega)))
          go_wp2_with fail
          go_ret3
          exact ⟨(unpackR_ok he.out (by rw [HT.out, HDR.out, show ((k : Int) % 2).toNat = 1 by omega]; rfl) HM1.out.symm).symm, hbel⟩
      · have hodd0 : (k : Int) % 2 = 0 := by omega
        clear hodd
        have hoddb : ((k : Int) % 2 == 1) = false := by rw [hodd0]; rfl
        have hrd := HROW.out.reads
        have hcv := run_conv_bytes (P := Tryd.prog) Tryd.underlying30 Tryd.underlying5 Tryd.underlying9 (cap := c') hrd
        have hcc := HROW.out.2.1
        have hcm := HROW.out.2.2.1
        unfold maxLen at hcm
        clear hlen hrd
        have he := Lib.hid (unpackE_ok (l := l) (n := (k : Int)) (by omega) (by omega) (by rw [HLL.out]; omega) (by rw [HT.out]; exact HALL.out) (by rintro ⟨h, _⟩; omega))
        go_wp2_with fail
        go_ret3
        exact ⟨(unpackR_ok he.out (by rw [HT.out, show ((k : Int) % 2).toNat = 0 by omega]; rfl) HM1.out.symm).symm, hbel⟩

set_option maxRecDepth 100000 in
set_option maxHeartbeats 2000000 in
theorem Unpack_any (A : Option Addr) (n c B : Nat) (l : List UInt8) (k : Int) (w : World) (hr : Reads w B 1 A n (bv l)) (hB : B ≤ w.heap.size) (hnc : n ≤ c) (hc : c ≤ 9223372036854775807) :
    Calls Tryd.prog 12 #[.slice A n c, .int .i64 k] w fun e w' => e = unpackR l k ∧ Below w.heap.size w w' := by
  have hll : l.length = n := by have := hr.1; rw [length_bv] at this; omega
  by_cases h0 : k < 0
  · have he := Lib.hid (unpackE_neg (l := l) h0)
    go_enter Tryd.func12, Tryd.ntmps12
    go_wp2_with fail
    go_ret3
    exact ⟨(unpackR_no he.out (by decide)).symm, Below.refl _ _⟩
  · by_cases h9 : 999 < k
    · have he := Lib.hid (unpackE_long (l := l) h9)
      go_enter Tryd.func12, Tryd.ntmps12
      go_wp2_with fail
      go_ret3
      exact ⟨(unpackR_no he.out (by decide)).symm, Below.refl _ _⟩
    · by_cases hend : (n : Int) < (k + 1) / 2
      · have he := Lib.hid (unpackE_end (l := l) (n := k) (by omega) (by omega) (by rw [hll]; exact hend))
        go_enter Tryd.func12, Tryd.ntmps12
        go_wp2_with fail
        go_ret3
        exact ⟨(unpackR_no he.out (by decide)).symm, Below.refl _ _⟩
      · obtain ⟨m, rfl⟩ : ∃ m : Nat, k = m := ⟨k.toNat, by omega⟩
        exact Unpack_in A n c B l m w hr hB hnc hc (by omega) (by omega)

/-! ### the reference -/
theorem run_conv_two {P : Program} {src dst e : TypeId} (hs : P.underlying src = some (.slice e)) (he : P.underlying e = some (.int .u8)) (hd : P.underlying dst = some .string) (w : World) (a b : Int) :
    (convert src dst (.slice (some ⟨w.heap.size, 0, none⟩) 2 2)).run P (w.alloc (.cells #[.int .u8 a, .int .u8 b] e)) = .ok (.string ⟨#[b8 a, b8 b]⟩) (w.alloc (.cells #[.int .u8 a, .int .u8 b] e)) := by
  have h := run_convert_bytes_arg (P := P) (w.alloc (.cells #[.int .u8 a, .int .u8 b] e)) src e hs he w.heap.size 0 2 2 [a, b] rfl (by
    intro i hi
    have : i = 0 ∨ i = 1 := by omega
    rcases this with rfl | rfl <;> simp) dst hd
  exact h
theorem run_conv_two_drew {P : Program} {src dst e : TypeId} (hs : P.underlying src = some (.slice e)) (he : P.underlying e = some (.int .u8)) (hd : P.underlying dst = some .string) (w : World) (a b : Int) :
    (convert src dst (.slice (some ⟨w.heap.size, 0, none⟩) 2 2)).run P (w.alloc (.cells #[.int .u8 a, .int .u8 b] e)).drew = .ok (.string ⟨#[b8 a, b8 b]⟩) (w.alloc (.cells #[.int .u8 a, .int .u8 b] e)).drew := by
  have h := run_convert_bytes_arg (P := P) (w.alloc (.cells #[.int .u8 a, .int .u8 b] e)).drew src e hs he w.heap.size 0 2 2 [a, b] rfl (by
    intro i hi
    have : i = 0 ∨ i = 1 := by omega
    rcases this with rfl | rfl <;> simp) dst hd
  exact h
theorem str_two (s : ByteArray) (a b : UInt8) : (s ++ ⟨#[a, b]⟩ : ByteArray).data.toList = s.data.toList ++ [a, b] := by rw [Go.Joins.data_append]
theorem b8_dig {a : Nat} (h : a ≤ 9) : b8 (48 + (a : Int)) = sg a := by
  unfold b8 sg; rw [show (48 + (a : Int)).toNat = 48 + a by omega]
theorem str_eq (s : ByteArray) : s = ⟨s.data.toList.toArray⟩ := by cases s; simp
end Go.Proofs.YtkmmmjbmooglfaaDoor
