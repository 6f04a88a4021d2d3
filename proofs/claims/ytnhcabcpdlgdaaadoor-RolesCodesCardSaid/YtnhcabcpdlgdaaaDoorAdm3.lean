/- THE WALK of roles.Bytes. -/
import Derived.Test.YtnhcabcpdlgdaaaDoorAdm2
import Derived.Test.YtnhcabcpdlgdaaaDoorRowStr
namespace Go.Proofs.YtnhcabcpdlgdaaaDoor
open Go.RowKit

def Adm.nums (a : Adm) : List Int := [a.num, a.ticks, a.times, a.sum, a.once]
/-- The first bytes: so many numbers are written. -/
def Adm.pre (a : Adm) (k : Nat) : List UInt8 := [UInt8.ofNat a.role.toNat, UInt8.ofNat a.op.toNat, UInt8.ofNat a.ten.toNat] ++ (a.nums.take k).flatMap Sha.eight
theorem pre_len (a : Adm) (k : Nat) (h : k ≤ 5) : (a.pre k).length = 3 + 8 * k := by
  match k, h with
  | 0, _ => rfl
  | 1, _ => rfl
  | 2, _ => rfl
  | 3, _ => rfl
  | 4, _ => rfl
  | 5, _ => rfl
theorem pre_next (a : Adm) (k : Nat) (h : k < 5) : a.pre (k + 1) = a.pre k ++ Sha.eight (a.nums.getD k 0) := by
  match k, h with
  | 0, _ => simp [Adm.pre, Adm.nums]
  | 1, _ => simp [Adm.pre, Adm.nums]
  | 2, _ => simp [Adm.pre, Adm.nums]
  | 3, _ => simp [Adm.pre, Adm.nums]
  | 4, _ => simp [Adm.pre, Adm.nums]
theorem pre_all (a : Adm) : a.pre 5 ++ a.text.data.toList = a.bytes := by simp [Adm.pre, Adm.nums, Adm.bytes]
/-- What Bytes answers. -/
def Adm.out (a : Adm) : List UInt8 := if a.err = 0 then a.bytes else []
def BytesOut (a : Adm) (w : World) (e : Ending) (w' : World) : Prop :=
  ∃ A c, e = .returned (.tuple #[.slice A a.out.length c, .int .i64 a.err]) ∧ Row w' w.heap.size 1 A a.out.length c (bv a.out) ∧ Below w.heap.size w w'
/-- k numbers are written, and j bytes of the next. -/
def BytesRel (w1 : World) (a : Adm) (g k j : Nat) (s5 : Value) (wr : World) : Prop :=
  ∃ (A : Option Addr) (c : Nat), s5 = .slice A (3 + 8 * k + j) c ∧ Row wr (g + 1) 1 A (3 + 8 * k + j) c (bv (a.pre k ++ (Sha.eight (a.nums.getD k 0)).take j)) ∧ Below (g + 1) w1 wr
def BytesOuter (w1 : World) (a : Adm) (g : Nat) (s5 s39 : Value) (wr : World) : Prop := ∃ k : Nat, k ≤ 5 ∧ s39 = .int .i64 (k : Nat) ∧ BytesRel w1 a g k 0 s5 wr
def BytesInner (w1 : World) (a : Adm) (g k : Nat) (s5 s8 : Value) (wr : World) : Prop := ∃ j : Nat, j ≤ 8 ∧ s8 = .int .i64 (56 - 8 * j) ∧ BytesRel w1 a g k j s5 wr
theorem bytes_start {w1 : World} {a : Adm} {g : Nat} (hg : g < w1.heap.size) (t : TypeId) (x y z : Int) (hx : x = a.role) (hy : y = a.op) (hz : z = a.ten) (h1 : 0 ≤ x ∧ x ≤ 255) (h2 : 0 ≤ y ∧ y ≤ 255) (h3 : 0 ≤ z ∧ z ≤ 255) :
    BytesRel w1 a g 0 0 (.slice (some ⟨w1.heap.size, 0, none⟩) 3 3) (w1.alloc (.cells #[.int .u8 x, .int .u8 y, .int .u8 z] t)) := by
  refine ⟨_, 3, rfl, ?_, (Below.refl _ _).alloc (by omega) _⟩
  have h := Row.lit w1 #[.int .u8 x, .int .u8 y, .int .u8 z] t (n := 3) (size := 1) (base := g + 1) rfl (by omega) (by decide)
  have e : bv (a.pre 0 ++ (Sha.eight (a.nums.getD 0 0)).take 0) = [.int .u8 x, .int .u8 y, .int .u8 z] := by
    subst hx hy hz
    have hb : ∀ x : Int, 0 ≤ x → x ≤ 255 → ((UInt8.ofNat x.toNat).toNat : Int) = x := fun x h1 h2 => by rw [UInt8.toNat_ofNat']; omega
    simp only [Adm.pre, bv, List.take_zero, List.flatMap_nil, List.append_nil, List.map_cons, List.map_nil, hb _ h1.1 h1.2, hb _ h2.1 h2.2, hb _ h3.1 h3.2]
  rw [e]
  exact h
theorem bytes_next {w1 w2 : World} {a : Adm} {g k j c2 : Nat} {A2 : Option Addr} (hj : j < 8) (hr : Row w2 (g + 1) 1 A2 (3 + 8 * k + j + 1) c2 (bv (a.pre k ++ (Sha.eight (a.nums.getD k 0)).take j) ++ [.int .u8 (a.nums.getD k 0 / 2 ^ (56 - 8 * j) % 256)])) (hb : Below (g + 1) w1 w2) :
    BytesInner w1 a g k (.slice A2 (3 + 8 * k + j + 1) c2) (.int .i64 (56 - 8 * j - 8)) w2 := by
  refine ⟨j + 1, by omega, by congr 1; omega, A2, c2, rfl, ?_, hb⟩
  rw [Sha.eight_next _ j hj, ← List.append_assoc, bv_append]
  have e : bv [Sha.by8 (a.nums.getD k 0) (56 - 8 * j)] = [.int .u8 (a.nums.getD k 0 / 2 ^ (56 - 8 * j) % 256)] := by simp [bv, Sha.by8_toNat]
  rw [e]
  exact hr
theorem bytes_more {w1 wr : World} {a : Adm} {g k : Nat} {s5 : Value} (hk : k < 5) (h : BytesRel w1 a g k 8 s5 wr) : BytesOuter w1 a g s5 (.int .i64 (k + 1)) wr := by
  obtain ⟨A, c, rfl, hr, hb⟩ := h
  refine ⟨k + 1, by omega, by congr 1, A, c, by congr 1, ?_, hb⟩
  rw [pre_next a k hk]
  rw [List.take_of_length_le (show (Sha.eight (a.nums.getD k 0)).length ≤ 8 from Nat.le_refl _)] at hr
  rw [List.take_zero, List.append_nil, show 3 + 8 * (k + 1) + 0 = 3 + 8 * k + 8 by omega]
  exact hr
theorem ix5 (a : Adm) (k : Nat) (h : k < 5) (w : World) : (Instr.index 63 (.agg #[.int .i64 a.num, .int .i64 a.ticks, .int .i64 a.times, .int .i64 a.sum, .int .i64 a.once]) (.int .i64 (k : Int))).run Tryd.prog w = .ok (.int .i64 (a.nums.getD k 0)) w := by
  obtain rfl | rfl | rfl | rfl | rfl : k = 0 ∨ k = 1 ∨ k = 2 ∨ k = 3 ∨ k = 4 := by omega
  all_goals kernel_rfl
set_option maxRecDepth 100000 in
set_option maxHeartbeats 4000000 in
theorem Bytes_no (a : Adm) (w : World) (h : a.err ≠ 0) : Calls Tryd.prog 33 #[a.val] w (BytesOut a w) := by
  have ho : a.out = [] := if_neg h
  have HR := Lib.hid (fun w => Right_any a w)
  obtain ⟨er, her⟩ : ∃ er, a.err = er := ⟨_, rfl⟩
  unfold BytesOut
  rw [ho]
  rw [her] at HR h ⊢
  clear her ho
  unfold Adm.val at HR ⊢
  have hne : (er != 0) = true := by simp; exact h
  clear h
  go_enter Tryd.func33, Tryd.ntmps33
  go_wp2_with fail
  refine (HR.out _).mono ?_
  rintro e w1 ⟨rfl, hb1⟩
  have HB := Lib.hid (adm_box hb1).2.2
  clear hb1
  go_wp2_with fail
  go_ret2
  exact ⟨none, 0, rfl, Row.nil_ _ _ _, HB.out⟩

set_option maxRecDepth 100000 in
set_option maxHeartbeats 8000000 in
theorem Bytes_yes (a : Adm) (w : World) (_hw : a.Wf) (h : a.err = 0) : Calls Tryd.prog 33 #[a.val] w (BytesOut a w) := by
  obtain ⟨i0, hi, hz0, hz1, hz2⟩ := info_parts byte_info
  have ho : a.out = a.bytes := if_pos h
  have HR := Lib.hid (fun w => Right_any a w)
  obtain ⟨hm, hf⟩ := err_zero h
  obtain ⟨m1, m2, m3, m4⟩ := admMay_range hm
  obtain ⟨_, t1, t2, t3⟩ := hf
  have HO := Lib.hid ho
  have HE := Lib.hid h
  rw [h] at HR
  clear ho h hm
  unfold Adm.val at HR ⊢
  go_enter Tryd.func33, Tryd.ntmps33
  go_wp2_with fail
  refine (HR.out _).mono ?_
  rintro e w1 ⟨rfl, hb1⟩
  obtain ⟨hc, hs, hbw⟩ := adm_box hb1
  have HBW := Lib.hid hbw
  have HC := Lib.hid hc
  clear hb1 hbw hc
  obtain ⟨c0, c1, c2, c3, c4, c5, c6, c7, c8⟩ := HC.out
  have hst : ∀ t, BytesRel w1 a w.heap.size 0 0 (.slice (some ⟨w1.heap.size, 0, none⟩) 3 3) (w1.alloc (.cells #[.int .u8 a.role, .int .u8 a.op, .int .u8 a.ten] t)) := fun t => bytes_start hs t _ _ _ rfl rfl rfl (by omega) (by omega) (by omega)
  have HST := Lib.hid hst
  clear hst
  have HARR := Lib.hid (fun k h => ix5 a k h)
  clear c0 c1 c2 c3 c4 c5 c6 c7 c8
  obtain ⟨c0, c1, c2, c3, c4, c5, c6, c7, c8⟩ := HC.out
  go_wp2_with fail
  clear c0 c1 c2 c3 c4 c5 c6 c7 c8
  go_loopw [5, 39] (fun s5 s39 wr => BytesOuter w1 a w.heap.size s5 s39 wr) (fun _ s39 _ => 5 - (intOf s39).toNat)
  case atStart => exact ⟨0, by omega, rfl, HST.out _⟩
  case round =>
    clear HST
    obtain ⟨k, hk5, rfl, hrel⟩ := hrel
    have HREL := Lib.hid hrel
    clear hrel
    by_cases hk : k < 5
    · have harr := HARR.out k hk
      obtain ⟨z, hz⟩ : ∃ z, a.nums.getD k 0 = z := ⟨_, rfl⟩
      rw [hz] at harr
      have HZ := Lib.hid hz
      clear hz
      go_wp2_with fail
      go_loopw [5, 8] (fun s5 s8 wr => BytesInner w1 a w.heap.size k s5 s8 wr) (fun _ s8 _ => (intOf s8 + 8).toNat)
      case atStart => exact ⟨0, by omega, rfl, HREL.out⟩
      case round =>
        clear HREL
        obtain ⟨j, hj8, rfl, A, c, rfl, hrow, hb⟩ := hrel
        rw [HZ.out] at hrow
        have HROW := Lib.hid hrow
        have HB := Lib.hid hb
        have hsz := hb.size
        clear hrow hb
        by_cases hj : j < 8
        · go_wp2_with (at_builtin; refine wpList_append_row rfl (.tmp 46) (.tmp 51) rfl Tryd.underlying33 hi hz0 hz1 hz2 rfl (by decide) rfl (HROW.out.alloc _) rfl (Reads.lit _ _ _ (n := 1) rfl) (by intro v hv; simp at hv; rcases hv with rfl; rfl) (by unfold maxLen; omega) (by omega) (by simp; omega) ?_; intro A2 c2 w2 hrow2 hgr2 hat2; have HB2 := Lib.hid (below_append HB.out (by omega) HROW.out hgr2); have HR2 := Lib.hid hrow2; clear hrow2 hgr2 hat2)
          go_roundw
          case rel =>
            have hr2 := HR2.out
            rw [← HZ.out] at hr2
            exact bytes_next hj hr2 HB2.out
          case measure => simp [intOf]; omega
        · obtain rfl : j = 8 := by omega
          have hm : BytesRel w1 a w.heap.size k 8 (.slice A (3 + 8 * k + 8) c) wr := ⟨A, c, rfl, by rw [HZ.out]; exact HROW.out, HB.out⟩
          have HM := Lib.hid (bytes_more hk hm)
          clear hm
          go_wp2_with fail
          go_roundw
          case rel => exact HM.out
          case measure => simp [intOf]; omega
    · obtain rfl : k = 5 := by omega
      obtain ⟨A, c, rfl, hrow, hb⟩ := HREL.out
      rw [List.take_zero, List.append_nil] at hrow
      have HROW := Lib.hid hrow
      have HB := Lib.hid hb
      have hsz := hb.size
      have c4 := (HC.out.below hb (by omega)).2.2.2.2.1
      clear hrow hb HREL
      go_wp2_with (at_builtin; refine wpList_append_row_str rfl (.tmp 54) (.tmp 56) rfl Tryd.underlying33 Tryd.underlying9 hi hz0 hz1 hz2 rfl HROW.out rfl (by unfold maxLen; omega) (by omega) (by omega) ?_; intro A2 c2 w2 hrow2 hgr2 hat2; have HB2 := Lib.hid (below_append0 HB.out (by omega) HROW.out hgr2); have HR2 := Lib.hid hrow2; clear hrow2 hgr2 hat2)
      go_ret2
      have hr := HR2.out
      rw [← bv_append, pre_all, ← HO.out] at hr
      have hl : 3 + 8 * 5 + 0 + a.text.size = a.out.length := by have := hr.1; rw [length_bv] at this; omega
      rw [hl] at hr
      refine ⟨A2, c2, ?_, hr.mono (by omega), HBW.out.trans (HB2.out.mono (by omega))⟩
      rw [HE.out, ← hl]
      rfl
theorem Bytes_any (a : Adm) (w : World) (hw : a.Wf) : Calls Tryd.prog 33 #[a.val] w (BytesOut a w) := by
  by_cases h : a.err = 0
  · exact Bytes_yes a w hw h
  · exact Bytes_no a w h
end Go.Proofs.YtnhcabcpdlgdaaaDoor
