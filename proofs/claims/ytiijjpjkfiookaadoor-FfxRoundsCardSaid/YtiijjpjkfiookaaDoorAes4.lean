/- A key of aes: New, its Once, Encrypt. -/
import Derived.Test.YtiijjpjkfiookaaDoorAes3
import Derived.Test.YtiijjpjkfiookaaDoorOnce
import Derived.Conc.MuLone
namespace Go.Proofs.YtiijjpjkfiookaaDoor
open Go.RowKit

/-- A key whose maps and round keys are made; what it owns lies in blocks of X. -/
def KeyDone (w : World) (kb : Nat) (X : Nat → Prop) (key : List UInt8) : Prop :=
  ∃ (A : Option Addr) (c : Nat) (y : List UInt8) (A2 : Option Addr) (c2 : Nat), Row w 0 1 A key.length c (bv key) ∧ (∀ ad, A = some ad → X ad.block ∧ ad.block ≠ kb) ∧ y.length = 256 ∧
    Blk w kb 89 (ak (.slice A key.length c) 1 0 sbL y (.slice A2 (key.length / 4 + 7) c2)).toArray ∧ Row w 0 16 A2 (key.length / 4 + 7) c2 (bv (kexp key (3 * (key.length / 4) + 28))) ∧ ∀ ad, A2 = some ad → X ad.block ∧ ad.block ≠ kb
/-- A key whose maps are not made yet. -/
def KeyRaw (w : World) (kb : Nat) (X : Nat → Prop) (key : List UInt8) : Prop :=
  ∃ (A : Option Addr) (c : Nat) (x y : List UInt8), Row w 0 1 A key.length c (bv key) ∧ (∀ ad, A = some ad → X ad.block ∧ ad.block ≠ kb) ∧ x.length = 256 ∧ y.length = 256 ∧
    Blk w kb 89 (ak (.slice A key.length c) 0 0 x y (.slice none 0 0)).toArray
def KeyAt (w : World) (kb : Nat) (X : Nat → Prop) (key : List UInt8) : Prop := KeyRaw w kb X key ∨ KeyDone w kb X key
section
variable {w w' : World} {kb : Nat} {X X' : Nat → Prop} {key : List UInt8}
theorem KeyDone.lt (h : KeyDone w kb X key) : kb < w.heap.size := by obtain ⟨_, _, _, _, _, _, _, _, hb, _⟩ := h; exact hb.lt
theorem KeyRaw.lt (h : KeyRaw w kb X key) : kb < w.heap.size := by obtain ⟨_, _, _, _, _, _, _, _, hb⟩ := h; exact hb.lt
theorem KeyAt.lt (h : KeyAt w kb X key) : kb < w.heap.size := h.elim KeyRaw.lt KeyDone.lt
theorem KeyDone.grew {S : Nat → Prop} (h : KeyDone w kb X key) (hg : Grew S w w') (h1 : ¬ S kb) (h2 : ∀ k, X k → ¬ S k) : KeyDone w' kb X key := by
  obtain ⟨A, c, y, A2, c2, hr, ha, hy, hb, hr2, ha2⟩ := h
  exact ⟨A, c, y, A2, c2, hr.grew hg (fun ad e => h2 _ (ha ad e).1), ha, hy, hb.grew hg h1, hr2.grew hg (fun ad e => h2 _ (ha2 ad e).1), ha2⟩
theorem KeyRaw.grew {S : Nat → Prop} (h : KeyRaw w kb X key) (hg : Grew S w w') (h1 : ¬ S kb) (h2 : ∀ k, X k → ¬ S k) : KeyRaw w' kb X key := by
  obtain ⟨A, c, x, y, hr, ha, hx, hy, hb⟩ := h
  exact ⟨A, c, x, y, hr.grew hg (fun ad e => h2 _ (ha ad e).1), ha, hx, hy, hb.grew hg h1⟩
theorem KeyAt.grew {S : Nat → Prop} (h : KeyAt w kb X key) (hg : Grew S w w') (h1 : ¬ S kb) (h2 : ∀ k, X k → ¬ S k) : KeyAt w' kb X key := h.imp (·.grew hg h1 h2) (·.grew hg h1 h2)
theorem KeyDone.mono (h : KeyDone w kb X key) (hx : ∀ k, k < w.heap.size → X k → X' k) : KeyDone w kb X' key := by
  obtain ⟨A, c, y, A2, c2, hr, ha, hy, hb, hr2, ha2⟩ := h
  exact ⟨A, c, y, A2, c2, hr, fun ad e => ⟨hx _ (hr.lt ad e).2 (ha ad e).1, (ha ad e).2⟩, hy, hb, hr2, fun ad e => ⟨hx _ (hr2.lt ad e).2 (ha2 ad e).1, (ha2 ad e).2⟩⟩
theorem KeyRaw.mono (h : KeyRaw w kb X key) (hx : ∀ k, k < w.heap.size → X k → X' k) : KeyRaw w kb X' key := by
  obtain ⟨A, c, x, y, hr, ha, hx2, hy, hb⟩ := h
  exact ⟨A, c, x, y, hr, fun ad e => ⟨hx _ (hr.lt ad e).2 (ha ad e).1, (ha ad e).2⟩, hx2, hy, hb⟩
theorem KeyAt.mono (h : KeyAt w kb X key) (hx : ∀ k, k < w.heap.size → X k → X' k) : KeyAt w kb X' key := h.imp (·.mono hx) (·.mono hx)
theorem KeyAt.within (h : KeyAt w kb X key) : KeyAt w kb (fun k => X k ∧ k < w.heap.size) key := h.mono fun _ hk hx => ⟨hx, hk⟩
theorem KeyAt.below {B : Nat} (h : KeyAt w kb X key) (hb : Below B w w') (hB : w.heap.size ≤ B) : KeyAt w' kb X key :=
  (h.within.grew (Grew.of_below (S := fun k => w.heap.size ≤ k) hb fun k hk hk2 => by omega) (by have := h.lt; omega) (fun k hk => by omega)).mono fun _ _ hx => hx.1
end
/-- What a key owns behind more work. -/
def OwnK (X : Nat → Prop) (w w' : World) (k : Nat) : Prop := (X k ∧ k < w.heap.size) ∨ (w.heap.size ≤ k ∧ k < w'.heap.size)

def zeros' (n : Nat) : List UInt8 := List.replicate n 0
theorem ak_new (x : Value) : Tryd.zeroCells89.setIfInBounds 0 x = (ak x 0 0 (zeros' 256) (zeros' 256) (.slice none 0 0)).toArray := by kernel_rfl
/-- A new key, in new blocks. -/
def NewKey (key : List UInt8) (w : World) (e : Ending) (w' : World) : Prop :=
  ∃ kb, e = .returned (.tuple #[.pointer (some ⟨kb, 0, none⟩), .int .i64 0]) ∧ w.heap.size ≤ kb ∧ KeyAt w' kb (fun k => w.heap.size ≤ k) key ∧ Below w.heap.size w w'
set_option maxRecDepth 100000 in
set_option maxHeartbeats 4000000 in
theorem aNew_key (key : List UInt8) (A : Option Addr) (n c B : Nat) (w : World) (hr : Reads w B 1 A n (bv key)) (hB : B ≤ w.heap.size) (hk : key.length = 16 ∨ key.length = 32) : Calls Tryd.prog 43 #[.slice A n c] w (NewKey key w) := by
  have hn : key.length = n := by have := hr.1; rw [length_bv] at this; omega
  have HC := Lib.hid (bClone_any A n c B key w hr hB (by omega))
  have HN := Lib.hid hn
  have e1 : (((n : Nat) : Int) == 16) = decide (n = 16) := by
    by_cases h : n = 16
    · simp [h]
    · simp [h]; omega
  rcases (show n = 16 ∨ n = 32 by omega) with rfl | rfl
  all_goals
    clear hr hn e1 hk
    go_enter Tryd.func43, Tryd.ntmps43
    go_wp2_with fail
    refine HC.out.mono ?_
    rintro e w1 ⟨A1, c1, rfl, hrow, hb1⟩
    have HROW := Lib.hid hrow
    have HB1 := Lib.hid hb1
    clear hrow hb1 HC
    go_wp2_with fail
    go_ret2
    have hs1 := HB1.out.size
    refine ⟨w1.heap.size, rfl, hs1, .inl ⟨A1, c1, zeros' 256, zeros' 256, (HROW.out.mono (Nat.zero_le _)).alloc _, fun ad e => ?_, by simp [zeros'], by simp [zeros'], by rw [← ak_new]; exact Blk.new w1 89 _⟩, HB1.out.alloc hs1 _⟩
    have := HROW.out.lt ad e
    exact ⟨this.1, by omega⟩
theorem aNew_no (key : List UInt8) (A : Option Addr) (n c : Nat) (w : World) (hn : key.length = n) (hk : ¬ (key.length = 16 ∨ key.length = 32)) : Calls Tryd.prog 43 #[.slice A n c] w fun e w' => e = .returned (.tuple #[.pointer none, .int .i64 1]) ∧ w = w' := by
  have h1 : ¬ (n : Int) = 16 := by omega
  have h2 : ¬ (n : Int) = 32 := by omega
  have h3 : ((n : Int) != 16) = true := by simpa using h1
  have h4 : ((n : Int) != 32) = true := by simpa using h2
  clear hn hk h1 h2
  go_enter Tryd.func43, Tryd.ntmps43
  go_wp2_with fail
  go_ret2
  exact ⟨rfl, rfl⟩

/-! ### the Once -/
theorem ready_enter (args : Array Value) (w : World) : (callFunc 74 args).run Tryd.prog w = .ok (.enter 74 args) w :=
  Go.MuLone.run_callFunc_enter Tryd.func74 (by kernel_rfl) rfl args w
set_option maxRecDepth 100000 in
set_option maxHeartbeats 4000000 in
theorem ready1_any (kb g : Nat) (kA : Option Addr) (kc : Nat) (x y key : List UInt8) (w : World) (hb : Blk w kb 89 (ak (.slice kA key.length kc) 0 1 x y (.slice none 0 0)).toArray) (hx : x.length = 256) (hy : y.length = 256) (hk : key.length = 16 ∨ key.length = 32)
    (hr : Row w 0 1 kA key.length kc (bv key)) (ha : ∀ ad, kA = some ad → ad.block ≠ kb) (hg : w.cell? ⟨g, 0, none⟩ = some (.pointer (some ⟨kb, 0, none⟩))) (hl : g < w.heap.size) (hne : g ≠ kb) :
    Calls Tryd.prog 74 #[.pointer (some ⟨g, 0, none⟩)] w fun e w' => e = .returned (.tuple #[]) ∧ ∃ y' A c, y'.length = 256 ∧ Row w' w.heap.size 16 A (key.length / 4 + 7) c (bv (kexp key (3 * (key.length / 4) + 28))) ∧ Blk w' kb 89 (ak (.slice kA key.length kc) 0 1 sbL y' (.slice A (key.length / 4 + 7) c)).toArray ∧ Grew (· = kb) w w' := by
  have HM := Lib.hid (fun w1 h => maps_any kb 89 (.slice kA key.length kc) (.slice none 0 0) x y w1 h hx hy)
  have HE := Lib.hid (fun y2 w1 h1 h2 h3 => expand_any kb 89 kA kc y2 key w1 h1 h2 hk h3)
  have HB := Lib.hid hb
  have HR := Lib.hid hr
  have HA := Lib.hid ha
  clear hb hr ha hk hx hy
  go_enter Tryd.func74, Tryd.ntmps74
  go_wp2_with fail
  refine (HM.out _ HB.out).mono ?_
  rintro e w1 ⟨rfl, y1, hy1, hb1, hg1⟩
  have hgc : w1.cell? ⟨g, 0, none⟩ = some (.pointer (some ⟨kb, 0, none⟩)) := (hg1.cell (a := ⟨g, 0, none⟩) hl hne).trans hg
  have HE1 := Lib.hid (HE.out y1 w1 hb1 hy1 (HR.out.grew hg1 HA.out))
  have HG1 := Lib.hid hg1
  clear hb1 hg1 hg
  go_wp2_with fail
  refine (HE1.out).mono ?_
  rintro e w2 ⟨rfl, A, c, hrow, hb2, hg2⟩
  have HROW := Lib.hid hrow
  have HB2 := Lib.hid hb2
  have HG2 := Lib.hid hg2
  clear hrow hb2 hg2
  go_wp2_with fail
  go_end0
  exact ⟨rfl, y1, A, c, hy1, HROW.out.mono HG1.out.size, HB2.out, HG1.out.trans HG2.out⟩
/-- Behind the Once. -/
def ReadyOut (kb : Nat) (X : Nat → Prop) (key : List UInt8) (w : World) (e : Ending) (w' : World) : Prop :=
  e = .returned (.tuple #[]) ∧ KeyDone w' kb (OwnK X w w') key ∧ Grew (· = kb) w w'
set_option maxHeartbeats 2000000 in
theorem once_key (kb g : Nat) (X : Nat → Prop) (key : List UInt8) (w : World) (h : KeyAt w kb X key) (hk : key.length = 16 ∨ key.length = 32) (hg : w.cell? ⟨g, 0, none⟩ = some (.pointer (some ⟨kb, 0, none⟩))) (hl : g < w.heap.size) (hne : g ≠ kb) :
    Calls Tryd.prog 73 #[.pointer (some ⟨kb, 1, none⟩), .func (.func 74) #[] #[.pointer (some ⟨g, 0, none⟩)]] w (ReadyOut kb X key w) := by
  rcases h with ⟨A, c, x, y, hr, ha, hx, hy, hb⟩ | hd
  · have hs1 := hb.set 2 (.int .i32 1)
    rw [ak_sets] at hs1
    have hF := ready1_any kb g A c x y key (w.setCell ⟨kb, 2, none⟩ (.int .i32 1)) hs1 hx hy hk (hr.far (fun ad e => (ha ad e).2) _) (fun ad e => (ha ad e).2)
      (by rw [World.cell?_setCell_other _ _ _ _ (by simp only [ne_eq, Addr.mk.injEq]; omega)]; exact hg) (by simpa using hl) hne
    have hD := Once.Do_first kb 1 74 #[] #[.pointer (some ⟨g, 0, none⟩)]
      (fun w2 => ∃ y' A2 c2, y'.length = 256 ∧ Row w2 w.heap.size 16 A2 (key.length / 4 + 7) c2 (bv (kexp key (3 * (key.length / 4) + 28))) ∧ Blk w2 kb 89 (ak (.slice A key.length c) 0 1 sbL y' (.slice A2 (key.length / 4 + 7) c2)).toArray ∧ Grew (· = kb) w w2) w
      ((hb.cell _).trans (ak_d _ _ _ _ _ _)) ((hb.cell _).trans (ak_s _ _ _ _ _ _)) (hb.frozen _) (fun w => ready_enter _ w) (hF.mono fun e w2 ⟨he, y', A2, c2, e1, e2, e3, e4⟩ => ⟨he, ⟨y', A2, c2, e1, by simpa using e2, e3, ((Grew.refl (· = kb) w).set (p := ⟨kb, 2, none⟩) (.inl rfl) _).trans e4⟩,
        (e3.cell _).trans (ak_d _ _ _ _ _ _), (e3.cell _).trans (ak_s _ _ _ _ _ _), e3.frozen _, e3.frozen _⟩)
    refine hD.mono fun e w' ⟨he, w2, ⟨y', A2, c2, e1, e2, e3, e4⟩, _, _, hw'⟩ => ⟨he, ?_, ?_⟩
    · have hb' : Blk w' kb 89 (ak (.slice A key.length c) 1 0 sbL y' (.slice A2 (key.length / 4 + 7) c2)).toArray := by
        rw [hw']
        have := (e3.drew.set 1 (.int .u32 1)).set 2 (.int .i32 0)
        rwa [ak_setd, ak_sets] at this
      have hg' : Grew (· = kb) w w' := by rw [hw']; exact (e4.drew.set (p := ⟨kb, 1, none⟩) (.inl rfl) _).set (p := ⟨kb, 2, none⟩) (.inl rfl) _
      have hkl := hb.lt
      have hr' : Row w' w.heap.size 16 A2 (key.length / 4 + 7) c2 (bv (kexp key (3 * (key.length / 4) + 28))) := by
        rw [hw']; exact (e2.drew.far (fun ad e => by have := (e2.lt ad e).1; show ad.block ≠ kb; omega) _).far (fun ad e => by have := (e2.lt ad e).1; show ad.block ≠ kb; omega) _
      exact ⟨A, c, y', A2, c2, hr.grew hg' (fun ad e => (ha ad e).2), fun ad e => ⟨.inl ⟨(ha ad e).1, (hr.lt ad e).2⟩, (ha ad e).2⟩, e1, hb', hr'.mono (Nat.zero_le _), fun ad e => ⟨.inr (hr'.lt ad e), by have := (hr'.lt ad e).1; omega⟩⟩
    · rw [hw']; exact (e4.drew.set (p := ⟨kb, 1, none⟩) (.inl rfl) _).set (p := ⟨kb, 2, none⟩) (.inl rfl) _
  · obtain ⟨A, c, y, A2, c2, hr, ha, hy, hb, hr2, ha2⟩ := hd
    refine (Once.Do_done kb 1 _ w ((hb.cell _).trans (ak_d _ _ _ _ _ _))).mono fun e w' ⟨he, hw⟩ => ⟨he, ?_, ?_⟩
    · rw [← hw]; exact (show KeyDone w kb X key from ⟨A, c, y, A2, c2, hr, ha, hy, hb, hr2, ha2⟩).mono fun k hk hx => .inl ⟨hx, hk⟩
    · rw [← hw]; exact Grew.refl _ _
set_option maxRecDepth 100000 in
set_option maxHeartbeats 4000000 in
theorem ready_any (kb : Nat) (X : Nat → Prop) (key : List UInt8) (w : World) (h : KeyAt w kb X key) (hk : key.length = 16 ∨ key.length = 32) : Calls Tryd.prog 67 #[.pointer (some ⟨kb, 0, none⟩)] w (ReadyOut kb X key w) := by
  have hmf : ∀ (fn : Fn) (first cap : Array Value) (w : World), (Instr.makeFunc fn first cap).run Tryd.prog w = .ok (.func fn first cap) w := fun _ _ _ _ => rfl
  have hl := h.lt
  have H := Lib.hid h
  have HD := Lib.hid (once_key kb w.heap.size X key (w.alloc (.cells #[.pointer (some ⟨kb, 0, none⟩)] 56)) (h.below ((Below.refl w.heap.size w).alloc (Nat.le_refl _) _) (Nat.le_refl _)) hk (cell?_new _ _ _ _) (by simp) (by omega))
  clear h hk
  go_enter Tryd.func67, Tryd.ntmps67
  go_wp2_with fail
  refine HD.out.mono ?_
  rintro e w1 ⟨rfl, hd, hg⟩
  have HDD := Lib.hid hd
  have HG := Lib.hid hg
  clear hd hg HD
  go_wp2_with fail
  go_end0
  have hs := HG.out.size
  have hs2 : (w.alloc (.cells #[.pointer (some ⟨kb, 0, none⟩)] 56)).heap.size = w.heap.size + 1 := by simp
  refine ⟨rfl, HDD.out.mono fun k hk hx => ?_, (Grew.of_new ((Below.refl _ _).alloc (Nat.le_refl _) _)).trans HG.out⟩
  rcases hx with hx | hx
  · by_cases hkw : k < w.heap.size
    · exact .inl ⟨hx.1, hkw⟩
    · exact .inr ⟨by omega, hk⟩
  · exact .inr ⟨by omega, hk⟩
end Go.Proofs.YtiijjpjkfiookaaDoor
