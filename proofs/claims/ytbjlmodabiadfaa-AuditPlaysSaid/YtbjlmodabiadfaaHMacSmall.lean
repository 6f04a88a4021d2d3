/- THE WALK of the laws' small case (mac). -/
import Derived.Test.YtbjlmodabiadfaaHMacFold
import Derived.Lib.SmallJoins
import Derived.Lib.SlBytesConst
namespace Go.Proofs.Ytbjlmodabiadfaa
open Go.RowKit

theorem mac_small : macB [74, 101, 102, 101] [119, 104, 97, 116, 32, 100, 111, 32, 121, 97, 32, 119, 97, 110, 116, 32, 102, 111, 114, 32, 110, 111, 116, 104, 105, 110, 103, 63] = [91, 220, 193, 70, 191, 96, 117, 78, 106, 4, 36, 38, 8, 149, 117, 199, 90, 0, 63, 8, 157, 39, 57, 131, 157, 236, 88, 185, 100, 236, 56, 67] := by decide +kernel
theorem reads_const (w : World) (l : List UInt8) (t : TypeId) (fr : Nat × Nat) (C : Array Value) (g n : Nat) (hg : g = w.heap.size) (hC : C.toList = bv l) (hn : l.length = n) : Reads (w.alloc (.cells C t fr)) (g + 1) 1 (some ⟨g, 0, none⟩) n (bv l) := by
  subst hg
  refine ⟨by rw [length_bv]; omega, fun _ => ⟨_, 0, rfl, by omega, fun j u hu => ?_⟩⟩
  rw [Nat.zero_add, ← hu, ← hC, Array.getElem?_toList]
  exact World.cell?_alloc_mark w C t fr j
theorem reads_later {w : World} {B size n : Nat} {A : Option Addr} {xs : List Value} (h : Reads w B size A n xs) (hB : B ≤ w.heap.size) (o : Obj) : Reads (w.alloc o) B size A n xs := h.alloc hB o

set_option maxRecDepth 100000 in
set_option maxHeartbeats 4000000 in
theorem small06_any (w : World) : Calls Try.prog 15 #[] w fun e w' => e = .returned (.bool true) ∧ Below w.heap.size w w' := by
  have kc := fun (W : World) (C : Array Value) (n c g : Nat) (hg : g = W.heap.size) => Go.Joins.run_convert_bytes_const_at (P := Try.prog) W 22 5 C n c g hg Try.underlying22 Try.underlying5
  go_enter Try.func15, Try.ntmps15
  go_wp2_with fail
  clear kc
  have hr1 := reads_const w [74, 101, 102, 101] 5 (4, 5) #[.int .u8 74, .int .u8 101, .int .u8 102, .int .u8 101] w.heap.size 4 rfl rfl rfl
  generalize hW1 : w.alloc (.cells #[.int .u8 74, .int .u8 101, .int .u8 102, .int .u8 101] 5 (4, 5)) = W1 at hr1
  have hz1 : W1.heap.size = w.heap.size + 1 := by rw [← hW1]; simp
  have hr2 := reads_const W1 [119, 104, 97, 116, 32, 100, 111, 32, 121, 97, 32, 119, 97, 110, 116, 32] 5 (16, 17) #[.int .u8 119, .int .u8 104, .int .u8 97, .int .u8 116, .int .u8 32, .int .u8 100, .int .u8 111, .int .u8 32, .int .u8 121, .int .u8 97, .int .u8 32, .int .u8 119, .int .u8 97, .int .u8 110, .int .u8 116, .int .u8 32] (w.heap.size + 1) 16 hz1.symm rfl rfl
  generalize hW2 : W1.alloc (.cells #[.int .u8 119, .int .u8 104, .int .u8 97, .int .u8 116, .int .u8 32, .int .u8 100, .int .u8 111, .int .u8 32, .int .u8 121, .int .u8 97, .int .u8 32, .int .u8 119, .int .u8 97, .int .u8 110, .int .u8 116, .int .u8 32] 5 (16, 17)) = W2 at hr2
  have hz2 : W2.heap.size = w.heap.size + 1 + 1 := by rw [← hW2]; simp [hz1]
  have hr3 := reads_const W2 [102, 111, 114, 32, 110, 111, 116, 104, 105, 110, 103, 63] 5 (12, 13) #[.int .u8 102, .int .u8 111, .int .u8 114, .int .u8 32, .int .u8 110, .int .u8 111, .int .u8 116, .int .u8 104, .int .u8 105, .int .u8 110, .int .u8 103, .int .u8 63] (w.heap.size + 1 + 1) 12 hz2.symm rfl rfl
  generalize hW3 : W2.alloc (.cells #[.int .u8 102, .int .u8 111, .int .u8 114, .int .u8 32, .int .u8 110, .int .u8 111, .int .u8 116, .int .u8 104, .int .u8 105, .int .u8 110, .int .u8 103, .int .u8 63] 5 (12, 13)) = W3 at hr3
  have hz3 : W3.heap.size = w.heap.size + 1 + 1 + 1 := by rw [← hW3]; simp [hz2]
  have hb3 : Below w.heap.size w W3 := by
    rw [← hW3, ← hW2, ← hW1]
    exact (((Below.refl _ _).alloc (Nat.le_refl _) _).alloc (by simp) _).alloc (by simp; omega) _
  have q2 : Reads W2 (w.heap.size + 1) 1 (some ⟨w.heap.size, 0, none⟩) 4 (bv [74, 101, 102, 101]) := by rw [← hW2]; exact hr1.alloc (by omega) _
  have q3 : Reads W3 (w.heap.size + 1) 1 (some ⟨w.heap.size, 0, none⟩) 4 (bv [74, 101, 102, 101]) := by rw [← hW3]; exact q2.alloc (by omega) _
  have s3 : Reads W3 (w.heap.size + 1 + 1) 1 (some ⟨w.heap.size + 1, 0, none⟩) 16 (bv [119, 104, 97, 116, 32, 100, 111, 32, 121, 97, 32, 119, 97, 110, 116, 32]) := by rw [← hW3]; exact hr2.alloc (by omega) _
  clear hW1 hW2 hW3 hr1 hr2 q2
  have hparts := Parts.two (t := 22) (R := fun k => k < W3.heap.size) (Part.of_reads (c := 16) s3 (Nat.le_refl _) (by omega) fun k hk => by omega) (Part.of_reads (c := 12) hr3 (Nat.le_refl _) (by omega) fun k hk => by omega) (fun k hk => hk)
  have hm := Mac_any [74, 101, 102, 101] _ (some ⟨w.heap.size, 0, none⟩) 4 4 (w.heap.size + 1) _ 2 _ _ (q3.alloc (by omega) _) (by simp; omega) (by omega) hparts (fun k hk => by simp; omega) (by simp) (by simp)
  rw [show ([[119, 104, 97, 116, 32, 100, 111, 32, 121, 97, 32, 119, 97, 110, 116, 32], [102, 111, 114, 32, 110, 111, 116, 104, 105, 110, 103, 63]] : List (List UInt8)).flatten = [119, 104, 97, 116, 32, 100, 111, 32, 121, 97, 32, 119, 97, 110, 116, 32, 102, 111, 114, 32, 110, 111, 116, 104, 105, 110, 103, 63] from rfl, mac_small, hz3] at hm
  refine hm.mono ?_
  clear hm hparts q3 s3 hr3
  unfold RowOut
  rintro e w5 ⟨A, c, rfl, hrow, hb5⟩
  have hrow32 : Row w5 _ 1 A 32 c (bv [91, 220, 193, 70, 191, 96, 117, 78, 106, 4, 36, 38, 8, 149, 117, 199, 90, 0, 63, 8, 157, 39, 57, 131, 157, 236, 88, 185, 100, 236, 56, 67]) := hrow
  have hcv := run_conv_bytes (P := Try.prog) Try.underlying22 Try.underlying5 Try.underlying9 (cap := c) hrow32.reads
  obtain ⟨i0, hi, hz0, hz1, hz2'⟩ := info_parts byte_info
  have HROW := Lib.hid hrow32
  have HB3 := Lib.hid hb3
  have HB5 := Lib.hid hb5
  have hs5 := hb5.size
  clear hrow hb3 hb5 hrow32
  go_wp2_with (at_builtin; refine wpList_append_rowG (by rfl) (.tmp 15) (.tmp 16) rfl Try.underlying22 hi hz0 hz1 hz2' rfl (by decide) rfl (Row.lit w5 #[] 5 (n := 0) (base := w5.heap.size) (size := 1) rfl (Nat.le_refl _) (by unfold maxLen; omega)) rfl (HROW.out.reads.alloc (Nat.le_refl _) _) (bv_one _) (by unfold maxLen; omega) (by omega) (by simp) ?_; intro A2 c2 w2 hrow2 hgr2 hat2)
  simp only [Nat.zero_add, List.nil_append] at hrow2
  have hb6 : Below w5.heap.size w5 w2 := ((Below.refl _ _).alloc (Nat.le_refl _) _).trans (Grew.below (S := fun k => w5.heap.size ≤ k) (Grew.of_grown hgr2 (fun k hk _ => by simp at hk; omega)) (by simp) (fun k _ hk => hk))
  refine (Same_any A A2 32 32 c c2 _ _ _ _ w2 (HROW.out.reads.below hb6) hrow2.reads (by omega)).mono ?_
  have HB6 := Lib.hid hb6
  clear hcv hrow2 hgr2 hat2 hb6
  rintro e w7 ⟨rfl, q, rfl⟩
  go_wp2_with fail
  go_ret
  have h3 := HB3.out.size
  refine ⟨rfl, below_drewN (((HB3.out.alloc h3 _).trans (HB5.out.mono (by simp; omega))).trans (HB6.out.mono (by simp at hs5; omega))) _⟩
end Go.Proofs.Ytbjlmodabiadfaa
