/- THE WALK of field's reference: Boxes. -/
import Derived.Test.YtogpnlfbdhddmaaGreatDoorHRField2
import Derived.Test.YtogpnlfbdhddmaaGreatDoorGAes
namespace Go.Proofs.YtogpnlfbdhddmaaGreatDoor
open Go.RowKit

theorem row_set0 {w : World} {base g n cap : Nat} {l : List UInt8} (h : Row w base 1 (some ⟨g, 0, none⟩) n cap (bv l)) {j : Nat} (hj : j < n) {c : UInt8} {z : Int} (hz : z = (c.toNat : Int)) :
    Row (w.setCell ⟨g, j, none⟩ (.int .u8 z)) base 1 (some ⟨g, 0, none⟩) n cap (bv (l.set j c)) := by
  have h2 := h.set (j := j) (by have := h.2.1; omega) (.int .u8 (c.toNat : Int))
  rw [Nat.zero_add] at h2
  rw [bv_set, hz]
  exact h2
theorem row_byte0 {w : World} {base g n cap : Nat} {l : List UInt8} (h : Row w base 1 (some ⟨g, 0, none⟩) n cap (bv l)) {j : Nat} (hj : j < l.length) : w.cell? ⟨g, j, none⟩ = some (.int .u8 (l[j].toNat : Int)) := by
  have := h.cell (bv_at l j hj)
  rwa [Nat.zero_add] at this
theorem row_free0 {w : World} {base g n cap : Nat} {l : List Value} (h : Row w base 1 (some ⟨g, 0, none⟩) n cap l) {j : Nat} (hj : j < n) : w.frozen? ⟨g, j, none⟩ = false := by
  have := h.free (j := j) (by have := h.2.1; omega)
  rwa [Nat.zero_add] at this
theorem rMul3 (x : UInt8) (w : World) : Calls Tryz.prog 184 #[.int .u8 (x.toNat : Int), .int .u8 3] w fun e w' => e = .returned (.int .u8 ((mulG x 3).toNat : Int)) ∧ w = w' := by
  have h := rMul_any x.toNat 3 w x.toNat_lt (by decide)
  rwa [rMul_3 _ x.toNat_lt, UInt8.ofNat_toNat] at h
theorem rMul2 (x : UInt8) (w : World) : Calls Tryz.prog 184 #[.int .u8 (x.toNat : Int), .int .u8 2] w fun e w' => e = .returned (.int .u8 ((mulG x 2).toNat : Int)) ∧ w = w' := by
  have h := rMul_any x.toNat 2 w x.toNat_lt (by decide)
  rwa [rMul_2 _ x.toNat_lt, UInt8.ofNat_toNat] at h
theorem rMul246 (x : UInt8) (w : World) : Calls Tryz.prog 184 #[.int .u8 (x.toNat : Int), .int .u8 246] w fun e w' => e = .returned (.int .u8 ((mulG x 246).toNat : Int)) ∧ w = w' := by
  have h := rMul_any x.toNat 246 w x.toNat_lt (by decide)
  rwa [rMul_246 _ x.toNat_lt, UInt8.ofNat_toNat] at h
theorem rleft1 (x : UInt8) (w : World) : Calls Tryz.prog 183 #[.int .u8 (x.toNat : Int), .int .i64 1] w fun e w' => e = .returned (.int .u8 ((rl1 x).toNat : Int)) ∧ w = w' := by
  have h := rleft_any x.toNat 1 w x.toNat_lt (by decide)
  rwa [rlI_1 _ x.toNat_lt, UInt8.ofNat_toNat] at h
theorem rleft2 (x : UInt8) (w : World) : Calls Tryz.prog 183 #[.int .u8 (x.toNat : Int), .int .i64 2] w fun e w' => e = .returned (.int .u8 ((rl1 (rl1 x)).toNat : Int)) ∧ w = w' := by
  have h := rleft_any x.toNat 2 w x.toNat_lt (by decide)
  rwa [rlI_2 _ x.toNat_lt, UInt8.ofNat_toNat] at h
theorem rleft3 (x : UInt8) (w : World) : Calls Tryz.prog 183 #[.int .u8 (x.toNat : Int), .int .i64 3] w fun e w' => e = .returned (.int .u8 ((rl1 (rl1 (rl1 x))).toNat : Int)) ∧ w = w' := by
  have h := rleft_any x.toNat 3 w x.toNat_lt (by decide)
  rwa [rlI_3 _ x.toNat_lt, UInt8.ofNat_toNat] at h
theorem rleft4 (x : UInt8) (w : World) : Calls Tryz.prog 183 #[.int .u8 (x.toNat : Int), .int .i64 4] w fun e w' => e = .returned (.int .u8 ((rl1 (rl1 (rl1 (rl1 x)))).toNat : Int)) ∧ w = w' := by
  have h := rleft_any x.toNat 4 w x.toNat_lt (by decide)
  rwa [rlI_4 _ x.toNat_lt, UInt8.ofNat_toNat] at h
/-- The reference's map of a byte whose inverse is k. -/
def raff (k : UInt8) : UInt8 := k ^^^ rl1 k ^^^ rl1 (rl1 k) ^^^ rl1 (rl1 (rl1 k)) ^^^ rl1 (rl1 (rl1 (rl1 k))) ^^^ 99
/-- Powers of three and of its inverse. -/
def bxX : Nat → UInt8
  | 0 => 1
  | j + 1 => mulG (bxX j) 3
def bxK : Nat → UInt8
  | 0 => 1
  | j + 1 => mulG (bxK j) 246
def bxL : Nat → List UInt8
  | 0 => 99 :: zeros' 255
  | j + 1 => (bxL j).set (bxX j).toNat (raff (bxK j))
theorem length_bxL : ∀ j, (bxL j).length = 256
  | 0 => by show (99 :: zeros' 255).length = 256; rw [List.length_cons]; unfold zeros'; rw [List.length_replicate]
  | j + 1 => by simp [bxL, length_bxL j]
/-- All three at once. -/
def bxGo : Nat → UInt8 → UInt8 → List UInt8 → List UInt8
  | 0, _, _, l => l
  | n + 1, x, k, l => bxGo n (mulG x 3) (mulG k 246) (l.set x.toNat (raff k))
theorem bxGo_at : ∀ n j, bxGo n (bxX j) (bxK j) (bxL j) = bxL (j + n)
  | 0, _ => rfl
  | n + 1, j => by
    rw [show j + (n + 1) = (j + 1) + n by omega, ← bxGo_at n (j + 1)]
    rfl
set_option maxRecDepth 100000 in
theorem bxGo_sb : bxGo 255 1 1 (99 :: zeros' 255) = sbL := by decide +kernel
theorem bxL_sb : bxL 255 = sbL := by
  have h := bxGo_at 255 0
  rw [Nat.zero_add] at h
  rw [← h]
  exact bxGo_sb
theorem make256 (w : World) : (Instr.makeSlice 27 (.int .i64 256) (.int .i64 256)).run Tryz.prog w = .ok (.slice (some ⟨w.heap.size, 0, none⟩) 256 256) (w.alloc (.cells (bv (zeros' 256)).toArray 5)) := by kernel_rfl
/-- Behind i bytes. -/
def BxRel (w : World) (x k i : Value) (wr : World) : Prop :=
  ∃ j : Nat, j ≤ 255 ∧ i = .int .i64 j ∧ x = .int .u8 ((bxX j).toNat : Int) ∧ k = .int .u8 ((bxK j).toNat : Int) ∧ Row wr w.heap.size 1 (some ⟨w.heap.size, 0, none⟩) 256 256 (bv (bxL j)) ∧ Below w.heap.size w wr
theorem BxRel.drew {w wr : World} {x k i : Value} (h : BxRel w x k i wr) : BxRel w x k i wr.drew := by
  obtain ⟨j, h1, h2, h3, h4, h5, h6⟩ := h
  exact ⟨j, h1, h2, h3, h4, h5.below (B := wr.heap.size) (Below.refl _ _).drew (Nat.le_refl _), h6.drew⟩
set_option maxRecDepth 100000 in
set_option maxHeartbeats 4000000 in
theorem rBoxes_any (w : World) : Calls Tryz.prog 141 #[] w fun e w' => ∃ A c, e = .returned (.slice A 256 c) ∧ Row w' w.heap.size 1 A 256 c (bv sbL) ∧ Below w.heap.size w w' := by
  have hmk := make256
  have hr0 : Row (w.alloc (.cells (bv (99 :: zeros' 255)).toArray 5)) w.heap.size 1 (some ⟨w.heap.size, 0, none⟩) 256 256 (bv (99 :: zeros' 255)) := Row.lit w (bv (99 :: zeros' 255)).toArray 5 (by rw [List.size_toArray, length_bv]; rfl) (Nat.le_refl _) (by decide)
  have HSET := Lib.hid (show (bv (zeros' 256)).set 0 (.int .u8 99) = bv (99 :: zeros' 255) by kernel_rfl)
  have hz2 : (bv (zeros' 256))[0]? = some (.int .u8 0) := by kernel_rfl
  have HST := Lib.hid (show BxRel w (.int .u8 1) (.int .u8 1) (.int .i64 0) (w.alloc (.cells (bv (99 :: zeros' 255)).toArray 5)) from ⟨0, by omega, rfl, rfl, rfl, hr0, (Below.refl _ _).alloc (Nat.le_refl _) _⟩)
  clear hr0
  generalize hl0 : bv (zeros' 256) = l0 at hz2 hmk HSET
  go_enter Tryz.func141, Tryz.ntmps141
  go_wp2_with fail
  go_loopw [2, 3, 4] (fun x k i wr => BxRel w x k i wr) (fun _ _ i _ => 255 - (intOf i).toNat)
  case atStart => rw [HSET.out]; exact HST.out
  case round =>
    clear HST HSET hmk hz2
    obtain ⟨j, hj, rfl, rfl, rfl, hrow, hbl⟩ := hrel
    by_cases hlt : j < 255
    · have f1 := row_free0 hrow (j := (bxX j).toNat) (bxX j).toNat_lt
      have c1 := row_byte0 hrow (j := (bxX j).toNat) (by rw [length_bxL]; exact (bxX j).toNat_lt)
      have hxl := (bxX j).toNat_lt
      have HNE := Lib.hid (show BxRel w (.int .u8 ((mulG (bxX j) 3).toNat : Int)) (.int .u8 ((mulG (bxK j) 246).toNat : Int)) (.int .i64 ((j : Int) + 1)) (wr.setCell ⟨w.heap.size, (bxX j).toNat, none⟩ (.int .u8 ((raff (bxK j)).toNat : Int))) from ⟨j + 1, by omega, by go_num, rfl, rfl, row_set0 hrow hxl rfl, hbl.setCell (Nat.le_refl _) _⟩)
      have HR := Lib.hid (show ((((bxK j ^^^ rl1 (bxK j)) ^^^ rl1 (rl1 (bxK j))) ^^^ rl1 (rl1 (rl1 (bxK j)))) ^^^ rl1 (rl1 (rl1 (rl1 (bxK j))))) ^^^ 99 = raff (bxK j) from rfl)
      have HM3 := Lib.hid (fun w => rMul3 (bxX j) w)
      generalize ((bxL j)[(bxX j).toNat]'_).toNat = Y at c1
      generalize bxK j = K at HNE HR ⊢
      generalize (bxX j).toNat = X at HNE f1 c1 hxl HM3 ⊢
      have o1 := bx_xor K (rl1 K)
      have o2 := bx_xor (K ^^^ rl1 K) (rl1 (rl1 K))
      have o3 := bx_xor ((K ^^^ rl1 K) ^^^ rl1 (rl1 K)) (rl1 (rl1 (rl1 K)))
      have o4 := bx_xor (((K ^^^ rl1 K) ^^^ rl1 (rl1 K)) ^^^ rl1 (rl1 (rl1 K))) (rl1 (rl1 (rl1 (rl1 K))))
      have o5 := bx_xor ((((K ^^^ rl1 K) ^^^ rl1 (rl1 K)) ^^^ rl1 (rl1 (rl1 K))) ^^^ rl1 (rl1 (rl1 (rl1 K)))) 99
      rw [show ((99 : UInt8).toNat : Int) = 99 from rfl, HR.out] at o5
      have HF := Lib.hid (show bits .xor .u8 (bits .xor .u8 (bits .xor .u8 (bits .xor .u8 (bits .xor .u8 (K.toNat : Int) ((rl1 K).toNat : Int)) ((rl1 (rl1 K)).toNat : Int)) ((rl1 (rl1 (rl1 K))).toNat : Int)) ((rl1 (rl1 (rl1 (rl1 K)))).toNat : Int)) 99 = ((raff K).toNat : Int) by rw [o1, o2, o3, o4, o5])
      clear hrow hbl o1 o2 o3 o4 o5 HR
      go_wp2_with fail
      refine (rleft1 K _).mono ?_
      rintro e w1 ⟨rfl, rfl⟩
      go_wp2_with fail
      refine (rleft2 K _).mono ?_
      rintro e w1 ⟨rfl, rfl⟩
      go_wp2_with fail
      refine (rleft3 K _).mono ?_
      rintro e w1 ⟨rfl, rfl⟩
      go_wp2_with fail
      refine (rleft4 K _).mono ?_
      rintro e w1 ⟨rfl, rfl⟩
      go_wp2_with fail
      refine (HM3.out _).mono ?_
      rintro e w1 ⟨rfl, rfl⟩
      go_wp2_with fail
      refine (rMul246 K _).mono ?_
      rintro e w1 ⟨rfl, rfl⟩
      go_wp2_with fail
      go_roundw
      case rel =>
        rw [HF.out]
        first | exact HNE.out.drew | exact HNE.out
      case measure => simp [intOf]; omega
    · obtain rfl : j = 255 := by omega
      have HROW := Lib.hid hrow
      have HBL := Lib.hid hbl
      clear hrow hbl
      go_wp2_with fail
      go_ret
      exact ⟨_, _, rfl, by rw [← bxL_sb]; exact HROW.out, HBL.out⟩
end Go.Proofs.YtogpnlfbdhddmaaGreatDoor
