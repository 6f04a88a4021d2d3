/- THE WALKS of the digest: where it begins, its constants, a new digest. -/
import Derived.Test.YtbjlmodabiadfaaHShaBlock2
import Derived.Test.YtbjlmodabiadfaaGMem
import Derived.Great.BuildSlice
import Derived.Deep.MidRow
namespace Go.Proofs.Ytbjlmodabiadfaa
open Go.RowKit

theorem start_walk (w : World) :
    Calls Try.prog 64 #[] w fun e w' => e = .returned (.agg #[.int .u32 1779033703, .int .u32 3144134277, .int .u32 1013904242, .int .u32 2773480762, .int .u32 1359893119, .int .u32 2600822924, .int .u32 528734635, .int .u32 1541459225]) ∧ Below w.heap.size w w' := by
  go_enter Try.func64, Try.ntmps64
  go_wp2
  exact bodyPost_ret (v := .agg #[.int .u32 1779033703, .int .u32 3144134277, .int .u32 1013904242, .int .u32 2773480762, .int .u32 1359893119, .int .u32 2600822924, .int .u32 528734635, .int .u32 1541459225]) (by simp [results, Try.results64, go_sem]) rfl ⟨rfl, (Below.refl _ _).alloc (Nat.le_refl _) _⟩
/-- The constants as cells. -/
def KI : List Int := Sha.K.map Int.ofNat
def KC : Array Value := (KI.map (Value.int .u32)).toArray
theorem KC_size : KC.size = 64 := by simp [KC, KI, Sha.length_K]
theorem KC_at (i : Nat) (h : i < 64) : KC[i]? = some (uv (Sha.K.getD i 0)) := by
  have hl : i < Sha.K.length := by rw [Sha.length_K]; exact h
  simp [KC, KI, uv, hl]
theorem KC_one : KC.all (·.oneCell') = true := by
  unfold KC
  refine all_oneCell_toArray fun v hv => ?_
  obtain ⟨n, _, rfl⟩ := List.mem_map.1 hv
  rfl
theorem below_setRow {B : Nat} {a w : World} (h : Below B a w) {g : Nat} (hg : B ≤ g) (cs : Array Value) : Below B a (w.setRow g cs) :=
  ⟨h.os, h.tape, h.output, by simpa using h.size, fun k hk => (setRow_other w g k cs (by omega)).trans (h.block k hk)⟩
set_option maxHeartbeats 1000000 in
set_option maxRecDepth 100000 in
theorem words_walk (w : World) :
    Calls Try.prog 65 #[] w fun e w' => e = .returned (.agg KC) ∧ Below w.heap.size w w' := by
  go_enter Try.func65, Try.ntmps65
  go_wp2_with (first
    | (refine wpList_buildFlatArr rfl 110 74 64 _ rfl .u32 KI Try.underlying110 (by kernel_rfl) (by kernel_rfl) (by kernel_rfl) ?_)
    | (refine wpList_plain rfl fun K hK => ?_; refine wp_store_row 110 _ _ rfl w.heap.size KC rfl rfl 110 _ (heap_alloc_new w _) (by rw [KC_size]; kernel_rfl) (by rw [KC_size]; simp) KC_one (hK _ _ ?_); clear hK K))
  exact bodyPost_ret (v := .agg KC) (results_cell_row rfl _ _ w.heap.size 110 KC (0, 0) (.array 64 74) rfl (setRow_heap _ _ _ _ _ _ (heap_alloc_new w _)) Try.underlying110 rfl (by rw [KC_size]; kernel_rfl)) rfl ⟨rfl, below_setRow ((Below.refl _ _).alloc (Nat.le_refl _) _) (Nat.le_refl _) _⟩

/-- A digest in the making: the text so far is l; what does not fill a block lies in a block of X. -/
def HashAt (w : World) (hb : Nat) (X : Nat → Prop) (l : List UInt8) (q : Nat) : Prop :=
  ∃ A n c, Blk w hb 109 ((Sha.run Sha.start l).vals ++ [Value.slice A n c, Value.int .i64 (q : Int)]).toArray ∧ Row w 0 1 A n c (bv (Sha.left l)) ∧ n = l.length % 64 ∧ ∀ ad, A = some ad → X ad.block ∧ ad.block ≠ hb
section
variable {w w' : World} {hb q : Nat} {X X' : Nat → Prop} {l : List UInt8}
theorem HashAt.lt (h : HashAt w hb X l q) : hb < w.heap.size := by
  obtain ⟨_, _, _, h, _⟩ := h
  exact h.lt
theorem HashAt.grew {S : Nat → Prop} (h : HashAt w hb X l q) (hg : Grew S w w') (h1 : ¬ S hb) (h2 : ∀ k, X k → ¬ S k) : HashAt w' hb X l q := by
  obtain ⟨A, n, c, hb1, hr, hn, ha⟩ := h
  exact ⟨A, n, c, hb1.grew hg h1, hr.grew hg (fun ad e => h2 _ (ha ad e).1), hn, ha⟩
theorem HashAt.alloc (h : HashAt w hb X l q) (o : Obj) : HashAt (w.alloc o) hb X l q := by
  obtain ⟨A, n, c, hb1, hr, hn, ha⟩ := h
  exact ⟨A, n, c, hb1.alloc o, hr.alloc o, hn, ha⟩
theorem HashAt.mono (h : HashAt w hb X l q) (hx : ∀ k, X k → X' k) : HashAt w hb X' l q := by
  obtain ⟨A, n, c, hb1, hr, hn, ha⟩ := h
  exact ⟨A, n, c, hb1, hr, hn, fun ad e => ⟨hx _ (ha ad e).1, (ha ad e).2⟩⟩
end

set_option maxHeartbeats 1000000 in
theorem New_any (w : World) :
    Calls Try.prog 49 #[] w fun e w' => e = .returned (.pointer (some ⟨w'.heap.size - 1, 0, none⟩)) ∧ (∀ X, HashAt w' (w'.heap.size - 1) X [] 0) ∧ Below w.heap.size w w' ∧ w.heap.size < w'.heap.size := by
  go_enter Try.func49, Try.ntmps49
  go_wp2_with fail
  refine (start_walk _).mono ?_
  rintro e w1 ⟨rfl, hb1⟩
  go_wp2_with fail
  go_ret
  refine ⟨by simp, fun X => ⟨none, 0, 0, ?_, Row.nil_ _ _ _, rfl, fun ad e => by cases e⟩, ?_, ?_⟩
  · have := Blk.new w1 109 ((Sha.run Sha.start []).vals ++ [Value.slice none 0 0, Value.int .i64 ((0 : Nat) : Int)]).toArray
    have e : (w1.alloc (.cells ((Sha.run Sha.start []).vals ++ [Value.slice none 0 0, Value.int .i64 ((0 : Nat) : Int)]).toArray 109)).heap.size - 1 = w1.heap.size := by simp
    rw [← e] at this
    exact this
  · exact hb1.alloc hb1.size _
  · have := hb1.size
    simp
    omega
end Go.Proofs.Ytbjlmodabiadfaa
