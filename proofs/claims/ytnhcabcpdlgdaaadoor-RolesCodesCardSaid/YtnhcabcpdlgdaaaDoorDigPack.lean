/- THE WALKS of digits and of its reference: packing, the text of a number. -/
import Derived.Test.YtnhcabcpdlgdaaaDoorDigWalk2
import Derived.Test.YtnhcabcpdlgdaaaDoorMem
import Derived.BigRegion
import Derived.Laws.BitsAllLaws
namespace Go.Proofs.YtnhcabcpdlgdaaaDoor
open Go.RowKit
theorem u8_info : (Tryd.prog.info? 5).map (fun i => (i.zero, i.size, i.bytes)) = some (some (.int .u8 0), 1, 1) := by kernel_rfl
theorem and15 {c : UInt8} (h : isDig c = true) : bits .and .u8 (c.toNat : Int) 15 = (dg c : Nat) := by
  have := isDig_iff.1 h
  have e := u8_and_nat c.toNat 15 c.toNat_lt (by omega)
  rw [nat_mask4] at e
  rw [show ((15 : Nat) : Int) = 15 from rfl] at e
  rw [e]
  unfold dg
  omega
theorem or_low {a b : Nat} (ha : a ≤ 9) (hb : b ≤ 9) : bits .or .u8 ((a * 16 : Nat) : Int) (b : Int) = ((a * 16 + b : Nat) : Int) := by
  rw [u8_or_nat (a * 16) b (by omega) (by omega), nat_join 4 (a * 16) b (by omega) (by omega)]
theorem or_high {b : Nat} (hb : b ≤ 9) : bits .or .u8 ((0 : Nat) : Int) ((b : Int) * 16 % 256) = ((b * 16 : Nat) : Int) := by
  rw [show (b : Int) * 16 % 256 = ((b * 16 : Nat) : Int) by omega]
  have := u8_or_nat 0 (b * 16) (by omega) (by omega)
  simpa using this

set_option maxHeartbeats 1000000 in
theorem Pack_ok (s : ByteArray) (w : World) (hs : s.size ≤ maxLen) (he : lookE s.data.toList = 0) :
    Calls Tryd.prog 55 #[.string s] w fun e w' => ∃ A c, e = .returned (.tuple #[.slice A ((s.size + 1) / 2) c, .int .i64 0]) ∧ Row w' w.heap.size 1 A ((s.size + 1) / 2) c (bv (packB s.data.toList)) ∧ Below w.heap.size w w' := by
  have HE := Lib.hid he
  obtain ⟨ha, hb⟩ := lookE_ok.1 he
  have HA := Lib.hid ha
  clear ha he
  rw [size_toList] at hb
  obtain ⟨m, hm⟩ : ∃ m, m = (s.size + 1) / 2 := ⟨_, rfl⟩
  have hm1 : ((s.size : Int) + 1) / 2 = m := by omega
  have hm2 : 2 * m ≤ s.size + 1 := by omega
  have hm3 : s.size ≤ 2 * m := by omega
  have HM := Lib.hid hm; clear hm
  have hmk := run_make_row' (P := Tryd.prog) 33 5 (.int .u8 0) 1 Tryd.underlying33 u8_info rfl .i64 .i64 m (by omega) (by omega)
  go_enter Tryd.func55, Tryd.ntmps55
  go_wp2_with fail
  refine (look_any s _ hs).mono ?_
  rintro e w' ⟨rfl, rfl⟩
  rw [HE.out]
  go_wp2_with fail
  clear hm1 hmk
  go_loopw [20] (fun c wr => ∃ k : Nat, k ≤ s.size ∧ c = .int .i64 k ∧ wr.rowIs w.heap.size 5 m (fun j => .int .u8 (pkAt s.data.toList k j)) ∧ Below w.heap.size w wr) (fun i _ => s.size - (intOf i).toNat)
  case atStart => exact ⟨0, by omega, rfl, (World.rowIs_made w (.int .u8 0) m 5).congr fun j _ => by rw [pk_zero]; rfl, (Below.refl _ _).alloc (Nat.le_refl _) _⟩
  case round =>
    obtain ⟨k, hk, rfl, hrow, hbel⟩ := hrel
    by_cases hlt : k < s.size
    · have hdig : isDig (s[k]) = true := by rw [← byte_at s k hlt]; exact List.all_eq_true.1 HA.out _ (List.getElem_mem _)
      have hj : m - 1 - (s.size - 1 - k) / 2 = (k + s.data.toList.length % 2) / 2 := by rw [size_toList]; have := HM.out; omega
      have hc := hrow.cell (i := m - 1 - (s.size - 1 - k) / 2) (by omega)
      have hf := hrow.frozen (m - 1 - (s.size - 1 - k) / 2)
      have HR := Lib.hid hrow
      have HJ := Lib.hid hj
      have HD := Lib.hid hdig
      have hset := Lib.hid (hrow.set (m - 1 - (s.size - 1 - k) / 2) (.int .u8 (pkAt s.data.toList (k + 1) (m - 1 - (s.size - 1 - k) / 2))))
      have hbs := Lib.hid (hbel.setCell (p := ⟨w.heap.size, m - 1 - (s.size - 1 - k) / 2, none⟩) (Nat.le_refl _) (.int .u8 (pkAt s.data.toList (k + 1) (m - 1 - (s.size - 1 - k) / 2))))
      clear hrow hj hdig
      have hd9 := dg_le HD.out
      have hgo : wr.rowIs w.heap.size 5 m (fun j => .int .u8 (pkAt s.data.toList k j)) → (∃ k' : Nat, k' ≤ s.size ∧ Value.int .i64 ((k : Int) + 1) = .int .i64 k' ∧ (wr.setCell ⟨w.heap.size, m - 1 - (s.size - 1 - k) / 2, none⟩ (.int .u8 (pkAt s.data.toList (k + 1) (m - 1 - (s.size - 1 - k) / 2)))).drew.rowIs w.heap.size 5 m (fun j => .int .u8 (pkAt s.data.toList k' j)) ∧ Below w.heap.size w (wr.setCell ⟨w.heap.size, m - 1 - (s.size - 1 - k) / 2, none⟩ (.int .u8 (pkAt s.data.toList (k + 1) (m - 1 - (s.size - 1 - k) / 2)))).drew) := fun _ => by
        refine ⟨k + 1, by omega, by go_num, hset.out.drew.congr fun j _ => ?_, hbs.out.drew⟩
        by_cases e : j = m - 1 - (s.size - 1 - k) / 2
        · rw [if_pos e, e]
        · rw [if_neg e, pk_other _ _ _ (by rw [← HJ.out]; exact e)]
      have HG := Lib.hid (hgo HR.out)
      clear hgo
      by_cases hpar : ((s.size : Int) - 1 - k) % 2 = 1
      · have hv := Lib.hid (pk_high s.data.toList k (by rw [size_toList]; exact hlt) (by rw [size_toList]; omega))
        rw [← HJ.out, byte_at s k hlt] at hv
        go_wp2
        go_region
        go_wp2
        go_roundw
        case rel => rw [hv.out.1, and15 HD.out, or_high hd9, ← hv.out.2]; exact HG.out
        case measure => simp [intOf]; omega
      · obtain ⟨a, ha, hv⟩ := pk_low s.data.toList k HA.out (by rw [size_toList]; exact hlt) (by rw [size_toList]; omega)
        rw [← HJ.out, byte_at s k hlt] at hv
        have HV := Lib.hid hv; clear hv
        go_wp2
        go_region
        go_wp2
        go_roundw
        case rel => rw [HV.out.1, and15 HD.out, show (s.size - 1 - k) % 2 * 4 = 0 by omega, show ((dg s[k] : Nat) : Int) * 2 ^ 0 % 256 = (dg s[k] : Nat) by omega, or_low ha hd9, ← HV.out.2]; exact HG.out
        case measure => simp [intOf]; omega
    · have HR := Lib.hid hrow; clear hrow
      have HK := Lib.hid (show k = s.size by omega)
      go_wp2
      go_ret2
      have e : bv (packB s.data.toList) = (List.range m).map fun j => Value.int .u8 (pkAt s.data.toList k j) := by
        apply List.ext_getElem?
        intro j
        unfold packB
        rw [if_pos HE.out, HK.out]
        have hlen : (pairs (evened s.data.toList)).length = m := by rw [length_pairs _ _ (length_evened _), size_toList, HM.out]
        simp only [bv, List.getElem?_map]
        by_cases hj : j < m
        · have := pk_end s.data.toList HA.out j (by rw [size_toList, ← HM.out]; exact hj)
          rw [size_toList] at this
          rw [Option.map_eq_some_iff] at this
          obtain ⟨c, h1, h2⟩ := this
          rw [h1, List.getElem?_eq_getElem (by simpa using hj)]
          simp [h2]
        · rw [List.getElem?_eq_none (by omega), List.getElem?_eq_none (by simp; omega)]
          rfl
      rw [e, ← HM.out]
      exact ⟨_, _, rfl, Row.of_rowIs HR.out (Nat.le_refl _) (by unfold maxLen; omega), hbel⟩

theorem Pack_no (s : ByteArray) (w : World) (hs : s.size ≤ maxLen) (he : lookE s.data.toList ≠ 0) :
    Calls Tryd.prog 55 #[.string s] w fun e w' => e = .returned (.tuple #[.slice none 0 0, .int .i64 (lookE s.data.toList)]) ∧ w = w' := by
  generalize hh : lookE s.data.toList = err at he
  have HE := Lib.hid hh; clear hh
  have hn : (err != 0) = true := by simpa using he
  clear he
  go_enter Tryd.func55, Tryd.ntmps55
  go_wp2_with fail
  refine (look_any s _ hs).mono ?_
  rintro e w' ⟨rfl, rfl⟩
  rw [HE.out]
  go_wp2_with fail
  go_ret2
  exact ⟨rfl, rfl⟩

theorem Pack_any (s : ByteArray) (w : World) (hs : s.size ≤ maxLen) :
    Calls Tryd.prog 55 #[.string s] w fun e w' => ∃ A n c, e = .returned (.tuple #[.slice A n c, .int .i64 (lookE s.data.toList)]) ∧ Row w' w.heap.size 1 A n c (bv (packB s.data.toList)) ∧ Below w.heap.size w w' := by
  by_cases h : lookE s.data.toList = 0
  · refine (Pack_ok s w hs h).mono fun e w' ⟨A, c, h1, h2, h3⟩ => ⟨A, _, c, by rw [h]; exact h1, h2, h3⟩
  · refine (Pack_no s w hs h).mono fun e w' ⟨h1, h2⟩ => ?_
    subst h2
    exact ⟨none, 0, 0, h1, by unfold packB; rw [if_neg h]; exact Row.nil_ _ _ _, Below.refl _ _⟩
end Go.Proofs.YtnhcabcpdlgdaaaDoor
