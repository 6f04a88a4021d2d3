/- A number's digits by the library: the table that it reads, as it is laid. THE WALKS of keys: names, rings in memory, New. A ring of keys in memory; THE WALK of keys.New. THE WALKS of keys: a tenant's Once; Key. THE WALK of keys.Key. -/
import Derived.Test.YtogpnlfbdhddmaaGreatDoorShelf
import Derived.Test.YtogpnlfbdhddmaaGreatDoorGPlain
import Derived.Test.YtogpnlfbdhddmaaGreatDoorRows
import Derived.WalkKit
import Derived.WalkSmall
import Derived.Lib.ItoaMem
import Derived.Lib.AppendIntMem
import Derived.Lib.LaidTab
import Derived.Stop.LaidErr
import Derived.Test.YtogpnlfbdhddmaaGreatDoorGMac
import Derived.Test.YtogpnlfbdhddmaaGreatDoorGMem
import Derived.Conc.MuLone
namespace Go.Proofs.YtogpnlfbdhddmaaGreatDoor
open Go.RowKit

/-- The library's table of powers of ten reads as it is laid. -/
def Tab (w : World) : Prop := Lib.TabIs Tryz.prog w "internal/strconv.uint64pow10" .u64 Lib.pow10Tab
theorem tab_named : Tryz.prog.globalNamed "internal/strconv.uint64pow10" = some 1 := by kernel_rfl
theorem Tab.lt {w : World} (h : Tab w) : 1 < w.heap.size := by
  unfold Tab Lib.TabIs World.var? at h
  rw [tab_named] at h
  simp only [Option.bind_some] at h
  cases e : w.heap[1]? with
  | none => rw [e] at h; cases h
  | some _ => exact (Array.getElem?_eq_some_iff.1 e).1
theorem Tab.below {w w' : World} (h : Tab w) (hb : Below w.heap.size w w') : Tab w' := var?_below hb tab_named h.lt h
theorem Tab.drewN {w : World} (h : Tab w) (n : Nat) : Tab (w.drewN n) := h.below (below_drewN (Below.refl _ _) n)

/-- A number's digits. -/
theorem Itoa_any (n : Nat) (w : World) (hn : n ≤ 9223372036854775807) (ht : Tab w) : Calls Tryz.prog 49 #[.int .i64 n] w fun e w' => e = .returned (.string ⟨(dec n).toArray⟩) ∧ Below w.heap.size w w' := by
  refine (Tryz.strconv_Itoa n (by omega) (by omega) w ht).mono fun e w' ⟨he, k, os, hw⟩ => ⟨?_, ?_⟩
  · rw [he, Lib.itoa_nonneg]; rfl
  · rw [hw]; exact Lib.below_grow _ w (Nat.le_refl _) k os
theorem tab_of {a b : String × DataW Unit} {rest : List (String × DataW Unit)} {W : World} (h : laidMet Tryz.prog (a :: b :: ("internal/strconv.uint64pow10", Lib.tabData .u64 Lib.pow10Tab) :: rest) W) : Tab W :=
  Lib.tabIs_of_head tab_named (by kernel_rfl) Tryz.underlying243 Tryz.underlying126 (by kernel_rfl) (by kernel_rfl) h.tail.tail
end Go.Proofs.YtogpnlfbdhddmaaGreatDoor
namespace Go.Proofs.YtogpnlfbdhddmaaGreatDoor
open Go.RowKit

set_option maxHeartbeats 1000000 in
theorem Name_any (p : Int) (w : World) : Calls Tryz.prog 52 #[.int .i64 p] w fun e w' => e = .returned (.tuple #[.string (nameS p), .bool (nameB p)]) ∧ Below w.heap.size w w' := by
  by_cases h : 1 ≤ p ∧ p ≤ 4
  · obtain ⟨h1, h4⟩ := h
    have hc : p = 1 ∨ p = 2 ∨ p = 3 ∨ p = 4 := by omega
    rcases hc with rfl | rfl | rfl | rfl
    all_goals
      go_enter Tryz.func52, Tryz.ntmps52
      go_wp2_with fail
      go_ret2
      exact ⟨rfl, ((((((Below.refl _ _).alloc (Nat.le_refl _) _))))) ⟩
  · have HS := Lib.hid (nameS_no h)
    have HB := Lib.hid (nameB_no h)
    by_cases h1 : p < 1
    · clear h
      go_enter Tryz.func52, Tryz.ntmps52
      go_wp2_with fail
      go_ret2
      exact ⟨by rw [HS.out, HB.out]; rfl, (((((Below.refl _ _).alloc (Nat.le_refl _) _))))⟩
    · have h5 : 5 ≤ p := by omega
      clear h
      go_enter Tryz.func52, Tryz.ntmps52
      go_wp2_with fail
      go_ret2
      exact ⟨by rw [HS.out, HB.out]; rfl, (((((Below.refl _ _).alloc (Nat.le_refl _) _))))⟩
theorem rName_any (p : Int) (w : World) : Calls Tryz.prog 71 #[.int .i64 p] w fun e w' => e = .returned (.tuple #[.string (nameS p), .bool (nameB p)]) ∧ w = w' := by
  by_cases h : 1 ≤ p ∧ p ≤ 4
  · obtain ⟨h1, h4⟩ := h
    have hc : p = 1 ∨ p = 2 ∨ p = 3 ∨ p = 4 := by omega
    rcases hc with rfl | rfl | rfl | rfl
    all_goals
      go_enter Tryz.func71, Tryz.ntmps71
      go_wp2_with fail
      go_ret2
      exact ⟨rfl, rfl⟩
  · have HS := Lib.hid (nameS_no h)
    have HB := Lib.hid (nameB_no h)
    have e1 : (p == 1) = false := by simp; omega
    have e2 : (p == 2) = false := by simp; omega
    have e3 : (p == 3) = false := by simp; omega
    have e4 : (p == 4) = false := by simp; omega
    clear h
    go_enter Tryz.func71, Tryz.ntmps71
    go_wp2_with fail
    go_ret2
    exact ⟨by rw [HS.out, HB.out]; rfl, rfl⟩
end Go.Proofs.YtogpnlfbdhddmaaGreatDoor
namespace Go.Proofs.YtogpnlfbdhddmaaGreatDoor
open Go.RowKit

/-- A tenant's place in a ring: its key is made, or not yet. -/
def TenAt (w : World) (rb : Nat) (X : Nat → Prop) (m : List UInt8) (cs : Array Value) (t : Nat) : Prop :=
  cs[4 * t + 2]? = some (.int .i32 0) ∧ ((cs[4 * t + 1]? = some (.int .u32 0) ∧ ∃ v, cs[4 * t + 4]? = some v) ∨
    (cs[4 * t + 1]? = some (.int .u32 1) ∧ ∃ A c, cs[4 * t + 4]? = some (.slice A 32 c) ∧ Row w 0 1 A 32 c (bv (tenK m t)) ∧ ∀ ad, A = some ad → X ad.block ∧ ad.block ≠ rb))
/-- A ring at block rb of the master key m; what it owns lies in blocks of X. -/
def RingAt (w : World) (rb : Nat) (X : Nat → Prop) (m : List UInt8) : Prop :=
  ∃ (cs : Array Value) (A : Option Addr) (n c : Nat), Blk w rb 103 cs ∧ cs[0]? = some (.slice A n c) ∧ Row w 0 1 A n c (bv m) ∧ (∀ ad, A = some ad → X ad.block ∧ ad.block ≠ rb) ∧ ∀ t, t < 65 → TenAt w rb X m cs t
section
variable {w w' : World} {rb : Nat} {X X' : Nat → Prop} {m : List UInt8} {cs : Array Value} {t : Nat}
theorem RingAt.lt (h : RingAt w rb X m) : rb < w.heap.size := by
  obtain ⟨cs, A, n, c, hb, _⟩ := h
  exact hb.lt
theorem TenAt.grew {S : Nat → Prop} (h : TenAt w rb X m cs t) (hg : Grew S w w') (h2 : ∀ k, X k → ¬ S k) : TenAt w' rb X m cs t := by
  obtain ⟨h1, h3 | ⟨h3, A, c, h4, h5, h6⟩⟩ := h
  · exact ⟨h1, .inl h3⟩
  · exact ⟨h1, .inr ⟨h3, A, c, h4, h5.grew hg (fun ad e => h2 _ (h6 ad e).1), h6⟩⟩
theorem TenAt.mono (h : TenAt w rb X m cs t) (hx : ∀ k, k < w.heap.size → X k → X' k) : TenAt w rb X' m cs t := by
  obtain ⟨h1, h3 | ⟨h3, A, c, h4, h5, h6⟩⟩ := h
  · exact ⟨h1, .inl h3⟩
  · exact ⟨h1, .inr ⟨h3, A, c, h4, h5, fun ad e => ⟨hx _ (h5.lt ad e).2 (h6 ad e).1, (h6 ad e).2⟩⟩⟩
theorem RingAt.grew {S : Nat → Prop} (h : RingAt w rb X m) (hg : Grew S w w') (h1 : ¬ S rb) (h2 : ∀ k, X k → ¬ S k) : RingAt w' rb X m := by
  obtain ⟨cs, A, n, c, hb, h0, hr, ha, hT⟩ := h
  exact ⟨cs, A, n, c, hb.grew hg h1, h0, hr.grew hg (fun ad e => h2 _ (ha ad e).1), ha, fun t ht => (hT t ht).grew hg h2⟩
theorem RingAt.mono (h : RingAt w rb X m) (hx : ∀ k, k < w.heap.size → X k → X' k) : RingAt w rb X' m := by
  obtain ⟨cs, A, n, c, hb, h0, hr, ha, hT⟩ := h
  exact ⟨cs, A, n, c, hb, h0, hr, fun ad e => ⟨hx _ (hr.lt ad e).2 (ha ad e).1, (ha ad e).2⟩, fun t ht => (hT t ht).mono hx⟩
theorem RingAt.within (h : RingAt w rb X m) : RingAt w rb (fun k => X k ∧ k < w.heap.size) m := h.mono fun _ hk hx => ⟨hx, hk⟩
theorem RingAt.below {B : Nat} (h : RingAt w rb X m) (hb : Below B w w') (hB : w.heap.size ≤ B) : RingAt w' rb X m :=
  (h.within.grew (Grew.of_below (S := fun k => w.heap.size ≤ k) hb fun k hk hk2 => by omega) (by have := h.lt; omega) (fun k hk => by omega)).mono fun _ _ hx => hx.1
end

theorem ring_zero : Tryz.zeroCells103 = (Value.slice none 0 0 :: (List.replicate 65 [Value.int .u32 0, Value.int .i32 0, Value.int .u32 0, Value.slice none 0 0]).flatten).toArray := by kernel_rfl
theorem ring_zero_at (x : Value) (t k : Nat) (ht : t < 65) (hk : k < 4) : (Tryz.zeroCells103.setIfInBounds 0 x)[4 * t + 1 + k]? = [Value.int .u32 0, Value.int .i32 0, Value.int .u32 0, Value.slice none 0 0][k]? := by
  rw [Array.getElem?_setIfInBounds, if_neg (by omega), ring_zero]
  rw [show 4 * t + 1 + k = (4 * t + k) + 1 by omega]
  simp only [List.getElem?_toArray, List.getElem?_cons_succ]
  exact rep4 _ _ _ _ 65 t k ht hk
theorem ring_size : Tryz.zeroCells103.size = 261 := by kernel_rfl
theorem ring_new (x : Value) : (Tryz.zeroCells103.setIfInBounds 0 x)[0]? = some x := by
  rw [Array.getElem?_setIfInBounds, if_pos rfl, if_pos (by rw [ring_size]; omega)]

/-- A new ring, in new blocks. -/
def RingOut (m : List UInt8) (w : World) (e : Ending) (w' : World) : Prop :=
  ∃ rb, e = .returned (.tuple #[.pointer (some ⟨rb, 0, none⟩), .int .i64 0]) ∧ w.heap.size ≤ rb ∧ RingAt w' rb (fun k => w.heap.size ≤ k) m ∧ Below w.heap.size w w'
set_option maxRecDepth 100000 in
set_option maxHeartbeats 4000000 in
theorem New_ring (m : List UInt8) (A : Option Addr) (n c B : Nat) (w : World) (hr : Reads w B 1 A n (bv m)) (hB : B ≤ w.heap.size) (h1 : 16 ≤ n) (h2 : n ≤ 64) : Calls Tryz.prog 28 #[.slice A n c] w (RingOut m w) := by
  have hc := Lib.hid (bClone_any A n c B m w hr hB (by omega))
  have t1 : decide ((n : Int) < 16) = false := decide_eq_false (by omega)
  have t2 : decide ((64 : Int) < n) = false := decide_eq_false (by omega)
  clear hr
  go_enter Tryz.func28, Tryz.ntmps28
  go_wp2_with fail
  refine hc.out.mono ?_
  rintro e w1 ⟨A1, c1, rfl, hrow, hb1⟩
  have HROW := Lib.hid hrow
  have HB1 := Lib.hid hb1
  clear hrow hb1 hc
  go_wp2_with fail
  go_ret2
  have hs1 := HB1.out.size
  refine ⟨w1.heap.size, rfl, hs1, ⟨_, A1, m.length, c1, Blk.new w1 103 _, ring_new _, (HROW.out.mono (Nat.zero_le _)).alloc _, fun ad e => ?_, fun t ht => ⟨?_, .inl ⟨?_, ?_⟩⟩⟩, HB1.out.alloc hs1 _⟩
  · have := HROW.out.lt ad e
    exact ⟨this.1, by omega⟩
  · exact ring_zero_at _ t 1 ht (by omega)
  · exact ring_zero_at _ t 0 ht (by omega)
  · exact ⟨_, ring_zero_at _ t 3 ht (by omega)⟩
theorem New_no (A : Option Addr) (n c : Nat) (w : World) (h : n < 16 ∨ 64 < n) : Calls Tryz.prog 28 #[.slice A n c] w fun e w' => e = .returned (.tuple #[.pointer none, .int .i64 1]) ∧ w = w' := by
  rcases h with h | h
  · have t1 : decide ((n : Int) < 16) = true := decide_eq_true (by omega)
    go_enter Tryz.func28, Tryz.ntmps28
    go_wp2_with fail
    go_ret2
    exact ⟨rfl, rfl⟩
  · have t1 : decide ((n : Int) < 16) = false := decide_eq_false (by omega)
    have t2 : decide ((64 : Int) < n) = true := decide_eq_true (by omega)
    go_enter Tryz.func28, Tryz.ntmps28
    go_wp2_with fail
    go_ret2
    exact ⟨rfl, rfl⟩

/-- The strings of a new slice. -/
theorem StrsV.lit (L : List ByteArray) (t : TypeId) (w : World) : StrsV L (.slice (some ⟨w.heap.size, 0, none⟩) L.length L.length) (w.alloc (.cells (L.map Value.string).toArray t)) :=
  ⟨_, L.length, w.heap.size + 1, rfl, Nat.le_refl _, by simp, fun _ => ⟨w.heap.size, 0, rfl, by omega, fun i hi => by rw [Nat.zero_add, cell?_new]; simp [hi]⟩⟩

theorem len_arr (l : List UInt8) : (⟨l.toArray⟩ : ByteArray).size = l.length := by simp [ByteArray.size]
/-- The value is a row of its own from N on that reads these bytes. -/
def NewB (N : Nat) (l : List UInt8) (v : Value) (w : World) : Prop := ∃ A c, v = .slice A l.length c ∧ Row w N 1 A l.length c (bv l)
theorem NewB.grows {N : Nat} {l : List UInt8} {v : Value} {w w' : World} (h : NewB N l v w) (g : Grows w w') : NewB N l v w' := by
  obtain ⟨A, c, e, hr⟩ := h
  exact ⟨A, c, e, hr.below g (Nat.le_refl _)⟩
theorem st_new (N : Nat) (l : List UInt8) : Stable (NewB N l) := fun _ _ _ h g => h.grows g
/-- Behind the closure of a tenant's Once. -/
def TenOut (rb t : Nat) (cs : Array Value) (m : List UInt8) (w : World) (e : Ending) (w' : World) : Prop :=
  e = .returned (.tuple #[]) ∧ ∃ A c, Row w' w.heap.size 1 A 32 c (bv (tenK m t)) ∧ Blk w' rb 103 (cs.setIfInBounds (4 * t + 4) (.slice A 32 c)) ∧ Grew (· = rb) w w'
set_option maxRecDepth 100000 in
set_option maxHeartbeats 4000000 in
theorem ten_any (rb t g4 g5 g12 : Nat) (cs : Array Value) (m : List UInt8) (A : Option Addr) (n c : Nat) (w : World) (ht : t ≤ 64) (hm : m.length ≤ 64)
    (hb : Blk w rb 103 cs) (h0 : cs[0]? = some (.slice A n c)) (hr : Row w 0 1 A n c (bv m)) (hv : ∃ v, cs[4 * t + 4]? = some v)
    (c4 : w.cell? ⟨g4, 0, none⟩ = some (.pointer (some ⟨rb, 0, none⟩))) (c5 : w.cell? ⟨g5, 0, none⟩ = some (.int .i64 t)) (c12 : w.cell? ⟨g12, 0, none⟩ = some (.pointer (some ⟨rb, 4 * t + 1, none⟩)))
    (l4 : g4 < w.heap.size) (l5 : g5 < w.heap.size) (l12 : g12 < w.heap.size) :
    Calls Tryz.prog 54 #[.pointer (some ⟨g4, 0, none⟩), .pointer (some ⟨g5, 0, none⟩), .pointer (some ⟨g12, 0, none⟩)] w (TenOut rb t cs m w) := by
  have hn : m.length = n := by have := hr.1; rw [length_bv] at this; omega
  have cm := (hb.cell 0).trans h0
  obtain ⟨v0, hv0⟩ := hv
  have cv := (hb.cell (4 * t + 4)).trans hv0
  have fv := hb.frozen (4 * t + 4)
  have hlr := hb.lt
  have HBLK := Lib.hid hb
  have HR := Lib.hid hr
  have HN := Lib.hid hn
  have h0' := Lib.hid h0
  have HV0 := Lib.hid hv0
  clear hb hr hn h0 hv0
  obtain ⟨d, hd⟩ : ∃ d : ByteArray, d = ⟨(dec t).toArray⟩ := ⟨_, rfl⟩
  have HIT := Lib.hid (fun w => Tryz.strconv_Itoa_small t (by omega) w)
  have HD := Lib.hid hd
  have hds : d.size ≤ 3 := by
    rw [hd, len_arr]
    by_cases h1 : t < 10
    · rw [dec_one h1]; simp
    · rw [dec_more h1, dec_one (by omega)]; simp
  clear hd
  obtain ⟨kk, hkk⟩ : ∃ kk, kk = tenK m t := ⟨_, rfl⟩
  have hkl : kk.length = 32 := by rw [hkk]; exact length_tenK m t
  have HKK := Lib.hid hkk
  have HKL := Lib.hid hkl
  unfold TenOut
  rw [← hkk]
  clear hkk hkl
  go_enter Tryz.func54, Tryz.ntmps54
  go_wp2_with fail
  have hg0 : Below w.heap.size w w.drew := (Below.refl _ _).drew
  obtain ⟨F, hF⟩ : ∃ F, F = nthF [eqv (.pointer (some ⟨rb, 4 * t + 1, none⟩)), eqv (.pointer (some ⟨rb, 0, none⟩)), eqv (.pointer (some ⟨rb, 0, none⟩)), eqv (.pointer (some ⟨rb, 0, none⟩)), eqv (.slice A n c), eqv (.int .i64 t), eqv (.string d), StrsV [tenantS, d], NewB w.heap.size kk] := ⟨_, rfl⟩
  have E0 := Lib.hid (show F 0 = eqv (.pointer (some ⟨rb, 4 * t + 1, none⟩)) by rw [hF]; rfl)
  have E1 := Lib.hid (show F 1 = eqv (.pointer (some ⟨rb, 0, none⟩)) by rw [hF]; rfl)
  have E2 := Lib.hid (show F 2 = eqv (.pointer (some ⟨rb, 0, none⟩)) by rw [hF]; rfl)
  have E3 := Lib.hid (show F 3 = eqv (.pointer (some ⟨rb, 0, none⟩)) by rw [hF]; rfl)
  have E4 := Lib.hid (show F 4 = eqv (.slice A n c) by rw [hF]; rfl)
  have E5 := Lib.hid (show F 5 = eqv (.int .i64 t) by rw [hF]; rfl)
  have E6 := Lib.hid (show F 6 = eqv (.string d) by rw [hF]; rfl)
  have E7 := Lib.hid (show F 7 = StrsV [tenantS, d] by rw [hF]; rfl)
  have E8 := Lib.hid (show F 8 = NewB w.heap.size kk by rw [hF]; rfl)
  have hst : ∀ j v w w', F j v w → Grows w w' → F j v w' := by rw [hF]; exact nth_stable (by repeat (first | exact st_nil | exact st_eqv _ | exact st_any | exact st_strs _ | exact st_new _ _ | refine st_cons ?_ ?_))
  have HST0 := Lib.hid hst
  clear hF hst
  refine wp_region_facts_tail 9 F Grows (fun _ => True) (by kernel_rfl) (by kernel_rfl) (by kernel_rfl) (by decide) grows_refl grows_trans HST0.out (trivial) ?_ ?_
  · intro V; refine ⟨?_, ?_, ?_, ?_, ?_, ?_, ?_, ?_, ?_, trivial⟩
    · intro wx hg hJ hdep
      clear hdep
      have k1 := ((hg0.trans hg).cell (p := ⟨g12, 0, none⟩) l12).trans c12
      clear hg
      go_wp2_with fail
      exact ⟨rfl, grows_refl _, trivial, by rw [E0.out]; rfl⟩
    · intro wx hg hJ hdep
      clear hdep
      have k1 := ((hg0.trans hg).cell (p := ⟨g4, 0, none⟩) l4).trans c4
      clear hg
      go_wp2_with fail
      exact ⟨rfl, grows_refl _, trivial, by rw [E1.out]; rfl⟩
    · intro wx hg hJ hdep
      have v1 : V 1 = (.pointer (some ⟨rb, 0, none⟩)) := by have h := hdep 1 rfl; rw [E1.out] at h; exact h
      clear hdep
      clear hg
      go_wp2_with fail
      exact ⟨rfl, grows_refl _, trivial, by rw [E2.out]; rfl⟩
    · intro wx hg hJ hdep
      have v2 : V 2 = (.pointer (some ⟨rb, 0, none⟩)) := by have h := hdep 2 rfl; rw [E2.out] at h; exact h
      clear hdep
      clear hg
      go_wp2_with fail
      exact ⟨rfl, grows_refl _, trivial, by rw [E3.out]; rfl⟩
    · intro wx hg hJ hdep
      have v3 : V 3 = (.pointer (some ⟨rb, 0, none⟩)) := by have h := hdep 3 rfl; rw [E3.out] at h; exact h
      clear hdep
      have k1 := ((hg0.trans hg).cell (p := ⟨rb, 0, none⟩) hlr).trans cm
      clear hg
      go_wp2_with fail
      exact ⟨rfl, grows_refl _, trivial, by rw [E4.out]; rfl⟩
    · intro wx hg hJ hdep
      clear hdep
      have k1 := ((hg0.trans hg).cell (p := ⟨g5, 0, none⟩) l5).trans c5
      clear hg
      go_wp2_with fail
      exact ⟨rfl, grows_refl _, trivial, by rw [E5.out]; rfl⟩
    · intro wx hg hJ hdep
      have v5 : V 5 = (.int .i64 t) := by have h := hdep 5 rfl; rw [E5.out] at h; exact h
      clear hdep
      have hm := HIT.out wx
      rw [show (⟨(Lib.decDigits t).toArray⟩ : ByteArray) = d by rw [HD.out]; rfl] at hm
      have HM := Lib.hid hm
      clear hm hg
      go_wp2_with fail
      refine HM.out.mono ?_
      rintro e w2 ⟨rfl, rfl⟩
      go_wp2_with fail
      exact ⟨rfl, grows_refl _, trivial, by rw [E6.out]; rfl⟩
    · intro wx hg hJ hdep
      have v6 : V 6 = (.string d) := by have h := hdep 6 rfl; rw [E6.out] at h; exact h
      clear hdep
      clear hg
      go_wp2_with fail
      exact ⟨rfl, (Below.refl _ _).alloc (Nat.le_refl _) _, trivial, by rw [E7.out]; exact StrsV.lit [tenantS, d] _ _⟩
    · intro wx hg hJ hdep
      have v4 : V 4 = (.slice A n c) := by have h := hdep 4 rfl; rw [E4.out] at h; exact h
      have h7 : (StrsV [tenantS, d]) (V 7) wx := by have h := hdep 7 rfl; rw [E7.out] at h; exact h
      have v6 : V 6 = (.string d) := by have h := hdep 6 rfl; rw [E6.out] at h; exact h
      clear hdep
      have hbx := hg0.trans hg
      obtain ⟨LA, lc, LB, hv7, hlc, hLB, hp⟩ := h7
      have hsx := hbx.size
      have hm := Fold_any m [tenantS, d] A n c w.heap.size LA lc _ wx (HR.out.reads.below hbx) hsx (by have := HN.out; omega) hp (fun k hk => Nat.lt_of_lt_of_le hk hLB) (by simp) (by intro s hs; simp at hs; rcases hs with rfl | rfl; exact Nat.le_of_lt (by decide); omega)
      rw [show foldB m (bytesOf [tenantS, d]) = kk by rw [HKK.out, HD.out]; rfl] at hm
      have HM := Lib.hid hm
      have HV7 := Lib.hid hv7
      clear hm hg hbx hp hv7
      rw [HV7.out]
      go_wp2_with fail
      refine HM.out.mono ?_
      rintro e w2 ⟨A8, c8, rfl, hv8, hb8⟩
      have HV8 := Lib.hid (hv8.mono hsx)
      have HG8 := Lib.hid hb8
      clear hv8 hb8
      go_wp2_with fail
      exact ⟨rfl, HG8.out, trivial, by rw [E8.out]; exact ⟨_, _, rfl, HV8.out⟩⟩
  · intro V wx hg hJ hall
    have v0 : V 0 = (.pointer (some ⟨rb, 4 * t + 1, none⟩)) := by have h := hall 0 (by decide); rw [E0.out] at h; exact h
    have v1 : V 1 = (.pointer (some ⟨rb, 0, none⟩)) := by have h := hall 1 (by decide); rw [E1.out] at h; exact h
    have v2 : V 2 = (.pointer (some ⟨rb, 0, none⟩)) := by have h := hall 2 (by decide); rw [E2.out] at h; exact h
    have v3 : V 3 = (.pointer (some ⟨rb, 0, none⟩)) := by have h := hall 3 (by decide); rw [E3.out] at h; exact h
    have v4 : V 4 = (.slice A n c) := by have h := hall 4 (by decide); rw [E4.out] at h; exact h
    have v5 : V 5 = (.int .i64 t) := by have h := hall 5 (by decide); rw [E5.out] at h; exact h
    have v6 : V 6 = (.string d) := by have h := hall 6 (by decide); rw [E6.out] at h; exact h
    have h7 : (StrsV [tenantS, d]) (V 7) wx := by have h := hall 7 (by decide); rw [E7.out] at h; exact h
    have h8 : (NewB w.heap.size kk) (V 8) wx := by have h := hall 8 (by decide); rw [E8.out] at h; exact h
    clear hall
    simp only [List.take_succ_cons, List.take_zero, List.drop_succ_cons, List.drop_zero, fillTo, Act.put, List.setIfInBounds_toArray, List.set_cons_succ, List.set_cons_zero, Nat.reduceAdd, Nat.zero_add, v0, v1, v2, v3, v4, v5, v6]
    clear v0 v1 v2 v3 v4 v5 v6
    obtain ⟨A8, c8, hv8, hrow8⟩ := h8
    have hbx := hg0.trans hg
    have q1 := (hbx.cell (p := ⟨rb, 4 * t + 4, none⟩) hlr).trans cv
    have q2 := (hbx.frozen (p := ⟨rb, 4 * t + 4, none⟩) hlr).trans fv
    have HROW := Lib.hid hrow8
    have HBX := Lib.hid hbx
    have HBK := Lib.hid (HBLK.out.below hbx hlr)
    have hkl := HKL.out
    rw [hkl] at hv8
    rw [hv8]
    clear hg h7 hrow8 hbx hv8 hkl
    go_wp2_with fail
    go_end0
    have hrow2 := HROW.out.far (p := ⟨rb, 4 * t + 4, none⟩) (fun ad e => by have := (HROW.out.lt ad e).1; show ad.block ≠ rb; omega) (.slice A8 32 c8)
    rw [HKL.out] at hrow2
    exact ⟨rfl, A8, c8, hrow2, HBK.out.set (4 * t + 4) _, (Grew.of_new (S := fun k => k = rb) HBX.out).set (p := ⟨rb, 4 * t + 4, none⟩) (.inl rfl) _⟩
end Go.Proofs.YtogpnlfbdhddmaaGreatDoor
namespace Go.Proofs.YtogpnlfbdhddmaaGreatDoor
open Go.RowKit

theorem ten_enter (args : Array Value) (w : World) : (callFunc 54 args).run Tryz.prog w = .ok (.enter 54 args) w :=
  Go.MuLone.run_callFunc_enter Tryz.func54 (by kernel_rfl) rfl args w
/-- What a ring owns behind more work. -/
def OwnX (X : Nat → Prop) (w w' : World) (k : Nat) : Prop := (X k ∧ k < w.heap.size) ∨ (w.heap.size ≤ k ∧ k < w'.heap.size)
/-- Behind a tenant's Once. -/
def TenDone (rb t : Nat) (X : Nat → Prop) (m : List UInt8) (w : World) (e : Ending) (w' : World) : Prop :=
  e = .returned (.tuple #[]) ∧ RingAt w' rb (OwnX X w w') m ∧ (∃ A c, w'.cell? ⟨rb, 4 * t + 4, none⟩ = some (.slice A 32 c) ∧ Row w' 0 1 A 32 c (bv (tenK m t))) ∧ Grew (· = rb) w w'
theorem set4 {cs : Array Value} {t j : Nat} {a b c d : Value} (h : 4 * t + 4 < cs.size) :
    ((((cs.setIfInBounds (4 * t + 2) a).setIfInBounds (4 * t + 4) b).setIfInBounds (4 * t + 1) c).setIfInBounds (4 * t + 2) d)[j]? =
      if j = 4 * t + 2 then some d else if j = 4 * t + 1 then some c else if j = 4 * t + 4 then some b else cs[j]? := by
  simp only [Array.getElem?_setIfInBounds, Array.size_setIfInBounds]
  by_cases h1 : j = 4 * t + 2
  · subst h1; rw [if_pos rfl, if_pos (by omega), if_pos rfl]
  rw [if_neg (fun e => h1 e.symm), if_neg h1]
  by_cases h2 : j = 4 * t + 1
  · subst h2; rw [if_pos rfl, if_pos (by omega), if_pos rfl]
  rw [if_neg (fun e => h2 e.symm), if_neg h2]
  by_cases h3 : j = 4 * t + 4
  · subst h3; rw [if_pos rfl, if_pos (by omega), if_pos rfl]
  rw [if_neg (fun e => h3 e.symm), if_neg h3, if_neg (fun e => h1 e.symm)]
theorem set2 {cs : Array Value} {t j : Nat} {a b : Value} (h : 4 * t + 4 < cs.size) :
    ((cs.setIfInBounds (4 * t + 2) a).setIfInBounds (4 * t + 4) b)[j]? = if j = 4 * t + 4 then some b else if j = 4 * t + 2 then some a else cs[j]? := by
  simp only [Array.getElem?_setIfInBounds, Array.size_setIfInBounds]
  by_cases h3 : j = 4 * t + 4
  · subst h3; rw [if_pos rfl, if_pos (by omega), if_pos rfl]
  rw [if_neg (fun e => h3 e.symm), if_neg h3]
  by_cases h1 : j = 4 * t + 2
  · subst h1; rw [if_pos rfl, if_pos (by omega), if_pos rfl]
  rw [if_neg (fun e => h1 e.symm), if_neg h1]
theorem size_of_at {cs : Array Value} {j : Nat} {v : Value} (h : cs[j]? = some v) : j < cs.size := (Array.getElem?_eq_some_iff.1 h).1
set_option maxHeartbeats 2000000 in
theorem once_ten (rb t g4 g5 g12 : Nat) (X : Nat → Prop) (m : List UInt8) (w : World) (ht : t ≤ 64) (hm : m.length ≤ 64) (h : RingAt w rb X m)
    (c4 : w.cell? ⟨g4, 0, none⟩ = some (.pointer (some ⟨rb, 0, none⟩))) (c5 : w.cell? ⟨g5, 0, none⟩ = some (.int .i64 t)) (c12 : w.cell? ⟨g12, 0, none⟩ = some (.pointer (some ⟨rb, 4 * t + 1, none⟩)))
    (l4 : g4 < w.heap.size) (l5 : g5 < w.heap.size) (l12 : g12 < w.heap.size) (_n4 : g4 ≠ rb) (_n5 : g5 ≠ rb) (_n12 : g12 ≠ rb) :
    Calls Tryz.prog 53 #[.pointer (some ⟨rb, 4 * t + 1, none⟩), .func (.func 54) #[] #[.pointer (some ⟨g4, 0, none⟩), .pointer (some ⟨g5, 0, none⟩), .pointer (some ⟨g12, 0, none⟩)]] w (TenDone rb t X m w) := by
  have hw := h.within
  obtain ⟨cs, A, n, c, hb, h0, hr, ha, hT⟩ := hw
  have hlr := hb.lt
  obtain ⟨hs, hd⟩ := hT t (by omega)
  rcases hd with ⟨hd0, v, hv⟩ | ⟨hd1, A1, c1, hv1, hr1, ha1⟩
  · have hsz := size_of_at hv
    have hF := ten_any rb t g4 g5 g12 (cs.setIfInBounds (4 * t + 2) (.int .i32 1)) m A n c (w.setCell ⟨rb, 4 * t + 2, none⟩ (.int .i32 1)) ht hm (hb.set (4 * t + 2) _)
      (by rw [Array.getElem?_setIfInBounds, if_neg (by omega)]; exact h0) (hr.far (fun ad e => (ha ad e).2) _) ⟨v, by rw [Array.getElem?_setIfInBounds, if_neg (by omega)]; exact hv⟩
      (by rw [World.cell?_setCell_other _ _ _ _ (by simp only [ne_eq, Addr.mk.injEq]; omega)]; exact c4) (by rw [World.cell?_setCell_other _ _ _ _ (by simp only [ne_eq, Addr.mk.injEq]; omega)]; exact c5)
      (by rw [World.cell?_setCell_other _ _ _ _ (by simp only [ne_eq, Addr.mk.injEq]; omega)]; exact c12) (by simpa using l4) (by simpa using l5) (by simpa using l12)
    have hD := Once.Do_first rb (4 * t + 1) 54 #[] #[.pointer (some ⟨g4, 0, none⟩), .pointer (some ⟨g5, 0, none⟩), .pointer (some ⟨g12, 0, none⟩)]
      (fun w2 => ∃ A2 c2, Row w2 w.heap.size 1 A2 32 c2 (bv (tenK m t)) ∧ Blk w2 rb 103 ((cs.setIfInBounds (4 * t + 2) (.int .i32 1)).setIfInBounds (4 * t + 4) (.slice A2 32 c2)) ∧ Grew (· = rb) w w2) w
      ((hb.cell _).trans hd0) ((hb.cell _).trans hs) (hb.frozen _) (fun w => ten_enter _ w) (hF.mono fun e w2 ⟨he, A2, c2, e1, e2, e3⟩ => ⟨he, ⟨A2, c2, by simpa using e1, e2, ((Grew.refl (· = rb) w).set (p := ⟨rb, 4 * t + 2, none⟩) (.inl rfl) _).trans e3⟩,
        (e2.cell _).trans (by rw [set2 hsz, if_neg (by omega), if_neg (by omega)]; exact hd0),
        (e2.cell _).trans (by rw [set2 hsz, if_neg (by omega), if_pos (by omega)]), e2.frozen _, e2.frozen _⟩)
    refine hD.mono fun e w' ⟨he, w2, ⟨A2, c2, e1, e2, e3⟩, _, _, hw'⟩ => ⟨he, ?_, ?_, ?_⟩
    · have hb' : Blk w' rb 103 ((((cs.setIfInBounds (4 * t + 2) (.int .i32 1)).setIfInBounds (4 * t + 4) (.slice A2 32 c2)).setIfInBounds (4 * t + 1) (.int .u32 1)).setIfInBounds (4 * t + 2) (.int .i32 0)) := by rw [hw']; exact (e2.drew.set (4 * t + 1) (.int .u32 1)).set (4 * t + 2) (.int .i32 0)
      have hg' : Grew (· = rb) w w' := by rw [hw']; exact (e3.drew.set (p := ⟨rb, 4 * t + 1, none⟩) (.inl rfl) _).set (p := ⟨rb, 4 * t + 2, none⟩) (.inl rfl) _
      have hr' : Row w' w.heap.size 1 A2 32 c2 (bv (tenK m t)) := by
        rw [hw']; exact (e1.drew.far (fun ad e => by have := (e1.lt ad e).1; show ad.block ≠ rb; omega) _).far (fun ad e => by have := (e1.lt ad e).1; show ad.block ≠ rb; omega) _
      have hX : ∀ k, (X k ∧ k < w.heap.size) → k ≠ rb → OwnX X w w' k := fun k hk _ => .inl hk
      refine ⟨_, A, n, c, hb', ?_, hr.grew hg' (fun ad e => (ha ad e).2), fun ad e => ⟨.inl (ha ad e).1, (ha ad e).2⟩, fun t' ht' => ?_⟩
      · rw [set4 hsz, if_neg (by omega), if_neg (by omega), if_neg (by omega)]; exact h0
      · by_cases htt : t' = t
        · subst htt
          refine ⟨by rw [set4 hsz, if_pos rfl], .inr ⟨by rw [set4 hsz, if_neg (by omega), if_pos rfl], A2, c2, by rw [set4 hsz, if_neg (by omega), if_neg (by omega), if_pos rfl], hr'.mono (Nat.zero_le _), fun ad e => ⟨.inr (hr'.lt ad e), ?_⟩⟩⟩
          have := (hr'.lt ad e).1; omega
        · obtain ⟨q1, q2⟩ := hT t' ht'
          refine ⟨by rw [set4 hsz, if_neg (by omega), if_neg (by omega), if_neg (by omega)]; exact q1, ?_⟩
          rw [set4 hsz, if_neg (by omega), if_neg (by omega), if_neg (by omega), set4 hsz, if_neg (by omega), if_neg (by omega), if_neg (by omega)]
          rcases q2 with q2 | ⟨q2, A3, c3, q3, q4, q5⟩
          · exact .inl q2
          · exact .inr ⟨q2, A3, c3, q3, q4.grew hg' (fun ad e => (q5 ad e).2), fun ad e => ⟨.inl (q5 ad e).1, (q5 ad e).2⟩⟩
    · have hb' : Blk w' rb 103 ((((cs.setIfInBounds (4 * t + 2) (.int .i32 1)).setIfInBounds (4 * t + 4) (.slice A2 32 c2)).setIfInBounds (4 * t + 1) (.int .u32 1)).setIfInBounds (4 * t + 2) (.int .i32 0)) := by rw [hw']; exact (e2.drew.set (4 * t + 1) (.int .u32 1)).set (4 * t + 2) (.int .i32 0)
      have hr' : Row w' w.heap.size 1 A2 32 c2 (bv (tenK m t)) := by
        rw [hw']; exact (e1.drew.far (fun ad e => by have := (e1.lt ad e).1; show ad.block ≠ rb; omega) _).far (fun ad e => by have := (e1.lt ad e).1; show ad.block ≠ rb; omega) _
      exact ⟨A2, c2, (hb'.cell _).trans (by rw [set4 hsz, if_neg (by omega), if_neg (by omega), if_pos rfl]), hr'.mono (Nat.zero_le _)⟩
    · rw [hw']; exact (e3.drew.set (p := ⟨rb, 4 * t + 1, none⟩) (.inl rfl) _).set (p := ⟨rb, 4 * t + 2, none⟩) (.inl rfl) _
  · refine (Once.Do_done rb (4 * t + 1) _ w ((hb.cell _).trans hd1)).mono fun e w' ⟨he, hw⟩ => ⟨he, ?_, ?_, ?_⟩
    · rw [← hw]; exact h.mono fun k hk hx => .inl ⟨hx, hk⟩
    · rw [← hw]; exact ⟨A1, c1, (hb.cell _).trans hv1, hr1⟩
    · rw [← hw]; exact Grew.refl _ _
end Go.Proofs.YtogpnlfbdhddmaaGreatDoor
namespace Go.Proofs.YtogpnlfbdhddmaaGreatDoor
open Go.RowKit

/-- What Key answers, and the ring behind it. -/
def KeyOut (rb : Nat) (X : Nat → Prop) (m : List UInt8) (t p v : Int) (w : World) (e : Ending) (w' : World) : Prop :=
  ∃ X2 : Nat → Prop, (∀ k, X2 k → X k ∨ w.heap.size ≤ k) ∧ RingAt w' rb X2 m ∧ Grew (· = rb) w w' ∧
    ((keyOk t p v = false ∧ e = .returned (.tuple #[.slice none 0 0, .int .i64 1])) ∨
     (keyOk t p v = true ∧ ∃ A c, e = .returned (.tuple #[.slice A 32 c, .int .i64 0]) ∧ Row w' w.heap.size 1 A 32 c (bv (keyB m t.toNat p v.toNat)) ∧ ∀ ad, A = some ad → ¬ X2 ad.block))
theorem RingAt.new {w w' : World} {rb : Nat} {X : Nat → Prop} {m : List UInt8} (h : RingAt w rb X m) (hb : Below w.heap.size w w') : RingAt w' rb X m := h.below hb (Nat.le_refl _)
theorem keyOut_no {rb : Nat} {X : Nat → Prop} {m : List UInt8} {t p v : Int} {w w' : World} {e : Ending} (h : RingAt w rb X m) (hk : keyOk t p v = false) (hb : Below w.heap.size w w') (he : e = .returned (.tuple #[.slice none 0 0, .int .i64 1])) : KeyOut rb X m t p v w e w' :=
  ⟨X, fun _ h => .inl h, h.new hb, Grew.of_new hb, .inl ⟨hk, he⟩⟩
theorem two_boxes {w w1 : World} {a b : Value} {ta tb : TypeId} (hb : Below ((w.alloc (.cells #[a] ta)).alloc (.cells #[b] tb)).heap.size ((w.alloc (.cells #[a] ta)).alloc (.cells #[b] tb)) w1) :
    w1.cell? ⟨w.heap.size, 0, none⟩ = some a ∧ w1.cell? ⟨w.heap.size + 1, 0, none⟩ = some b ∧ w.heap.size + 2 ≤ w1.heap.size ∧ Below w.heap.size w w1 := by
  have h1 := (hb.cell (p := ⟨w.heap.size, 0, none⟩) (by simp; omega))
  have h2 := (hb.cell (p := ⟨w.heap.size + 1, 0, none⟩) (by simp))
  refine ⟨h1.trans ?_, h2.trans ?_, by have := hb.size; simp at this; omega, ?_⟩
  · rw [World.cell?_alloc_lt _ _ _ (by simp), cell?_new]; rfl
  · have := cell?_new (w.alloc (.cells #[a] ta)) #[b] tb 0
    rw [show (w.alloc (.cells #[a] ta)).heap.size = w.heap.size + 1 by simp] at this
    exact this
  · exact (((Below.refl _ _).alloc (Nat.le_refl _) _).alloc (by simp) _).trans (hb.mono (by simp; omega))
set_option maxRecDepth 100000 in
set_option maxHeartbeats 4000000 in
theorem Key_no (rb : Nat) (X : Nat → Prop) (m : List UInt8) (t p v : Int) (w : World) (h : RingAt w rb X m) (hk : keyOk t p v = false) :
    Calls Tryz.prog 29 #[.pointer (some ⟨rb, 0, none⟩), .int .i64 t, .int .i64 p, .int .i64 v] w (KeyOut rb X m t p v w) := by
  have HK := Lib.hid hk
  have H := Lib.hid h
  have hno : ¬ (1 ≤ t ∧ t ≤ 64 ∧ 1 ≤ p ∧ p ≤ 4 ∧ 1 ≤ v ∧ v ≤ 255) := fun hh => by rw [keyOk_iff.2 hh] at hk; cases hk
  clear hk h
  by_cases h1 : t < 1
  · clear hno
    go_enter Tryz.func29, Tryz.ntmps29
    go_wp2_with fail
    refine (Name_any _ _).mono ?_
    generalize nameS p = ns
    generalize nameB p = nb
    rintro e w1 ⟨rfl, hb1⟩
    obtain ⟨c4, c5, hs, hb⟩ := two_boxes hb1
    clear hb1
    go_wp2_with fail
    go_ret2
    exact keyOut_no H.out HK.out hb rfl
  by_cases h2 : 64 < t
  · clear hno
    go_enter Tryz.func29, Tryz.ntmps29
    go_wp2_with fail
    refine (Name_any _ _).mono ?_
    generalize nameS p = ns
    generalize nameB p = nb
    rintro e w1 ⟨rfl, hb1⟩
    obtain ⟨c4, c5, hs, hb⟩ := two_boxes hb1
    clear hb1
    go_wp2_with fail
    go_ret2
    exact keyOut_no H.out HK.out hb rfl
  by_cases h3 : 1 ≤ p ∧ p ≤ 4
  · have HN := Lib.hid (nameB_iff.2 h3)
    by_cases h4 : v < 1
    · clear hno h3
      go_enter Tryz.func29, Tryz.ntmps29
      go_wp2_with fail
      refine (Name_any _ _).mono ?_
      rw [HN.out]
      generalize nameS p = ns
      rintro e w1 ⟨rfl, hb1⟩
      obtain ⟨c4, c5, hs, hb⟩ := two_boxes hb1
      clear hb1
      go_wp2_with fail
      go_ret2
      exact keyOut_no H.out HK.out hb rfl
    · have h5 : 255 < v := by omega
      clear hno h3
      go_enter Tryz.func29, Tryz.ntmps29
      go_wp2_with fail
      refine (Name_any _ _).mono ?_
      rw [HN.out]
      generalize nameS p = ns
      rintro e w1 ⟨rfl, hb1⟩
      obtain ⟨c4, c5, hs, hb⟩ := two_boxes hb1
      clear hb1
      go_wp2_with fail
      go_ret2
      exact keyOut_no H.out HK.out hb rfl
  · have HN := Lib.hid (nameB_no h3)
    clear hno h3
    go_enter Tryz.func29, Tryz.ntmps29
    go_wp2_with fail
    refine (Name_any _ _).mono ?_
    rw [HN.out]
    generalize nameS p = ns
    rintro e w1 ⟨rfl, hb1⟩
    obtain ⟨c4, c5, hs, hb⟩ := two_boxes hb1
    clear hb1
    go_wp2_with fail
    go_ret2
    exact keyOut_no H.out HK.out hb rfl

theorem Tab.grew {S : Nat → Prop} {w w' : World} (h : Tab w) (hg : Grew S w w') (hn : ¬ S 1) : Tab w' := by
  have hl := h.lt
  unfold Tab Lib.TabIs World.var? at h ⊢
  rw [tab_named] at h ⊢
  simp only [Option.bind_some] at h ⊢
  rw [hg.block _ hl hn]
  exact h
theorem ring_not_tab {w : World} {rb : Nat} {X : Nat → Prop} {m : List UInt8} (h : RingAt w rb X m) (ht : Tab w) : rb ≠ 1 := by
  intro e
  subst e
  obtain ⟨cs, A, n, c, hb, h0, _⟩ := h
  unfold Tab Lib.TabIs World.var? at ht
  rw [tab_named] at ht
  simp only [Option.bind_some] at ht
  unfold Blk at hb
  rw [hb] at ht
  injection ht with ht
  rw [ht] at h0
  simp [Lib.pow10Tab] at h0
theorem dec_le (n : Nat) (h : n ≤ 999) : (dec n).length ≤ 3 := by
  by_cases h1 : n < 10
  · rw [dec_one h1]; simp
  · rw [dec_more h1]
    by_cases h2 : n / 10 < 10
    · rw [dec_one h2]; simp
    · rw [dec_more h2, dec_one (by omega)]; simp
set_option maxRecDepth 100000 in
set_option maxHeartbeats 4000000 in
theorem Key_yes (rb : Nat) (X : Nat → Prop) (m : List UInt8) (t : Nat) (p : Int) (v : Nat) (w : World) (h : RingAt w rb X m) (hm : m.length ≤ 64) (hk : keyOk t p v = true) (htab : Tab w) :
    Calls Tryz.prog 29 #[.pointer (some ⟨rb, 0, none⟩), .int .i64 t, .int .i64 p, .int .i64 v] w (KeyOut rb X m t p v w) := by
  obtain ⟨h1, h2, h3, h4, h5, h6⟩ := keyOk_iff.1 hk
  have HN := Lib.hid (nameB_iff.2 ⟨h3, h4⟩)
  have HK := Lib.hid hk
  have H := Lib.hid h
  have hlr := h.lt
  have hmf : ∀ (fn : Fn) (first cap : Array Value) (w : World), (Instr.makeFunc fn first cap).run Tryz.prog w = .ok (.func fn first cap) w := fun _ _ _ _ => rfl
  have hns := nameS_size p
  obtain ⟨ns, hnse⟩ : ∃ ns, ns = nameS p := ⟨_, rfl⟩
  have HNS := Lib.hid hnse
  rw [← hnse] at hns
  clear hk h hnse
  go_enter Tryz.func29, Tryz.ntmps29
  go_wp2_with fail
  refine (Name_any _ _).mono ?_
  rw [HN.out, ← HNS.out]
  rintro e w1 ⟨rfl, hb1⟩
  obtain ⟨c4, c5, hs, hb⟩ := two_boxes hb1
  have HB1 := Lib.hid hb
  clear hb1 hb
  have l4 : w.heap.size < w1.heap.size := by omega
  have l5 : w.heap.size + 1 < w1.heap.size := by omega
  have ht65 : (t : Int) < 65 := by omega
  go_wp2_with fail
  go_region
  have e12 := cell?_new w1 #[Value.pointer (some ⟨rb, 1 + t * 4, none⟩)] 106 0
  have d12 : (w1.alloc (Obj.cells #[Value.pointer (some ⟨rb, 1 + t * 4, none⟩)] 106)).drew.cell? ⟨w1.heap.size, 0, none⟩ = some (Value.pointer (some ⟨rb, 4 * t + 1, none⟩)) := by
    rw [show 4 * t + 1 = 1 + t * 4 by omega]; exact e12
  have d4 : (w1.alloc (Obj.cells #[Value.pointer (some ⟨rb, 1 + t * 4, none⟩)] 106)).drew.cell? ⟨w.heap.size, 0, none⟩ = some (Value.pointer (some ⟨rb, 0, none⟩)) := by
    refine Eq.trans ?_ c4; exact World.cell?_alloc_lt _ _ _ l4
  have d5 : (w1.alloc (Obj.cells #[Value.pointer (some ⟨rb, 1 + t * 4, none⟩)] 106)).drew.cell? ⟨w.heap.size + 1, 0, none⟩ = some (Value.int .i64 t) := by
    refine Eq.trans ?_ c5; exact World.cell?_alloc_lt _ _ _ l5
  have s3 : w1.heap.size < (w1.alloc (Obj.cells #[Value.pointer (some ⟨rb, 1 + t * 4, none⟩)] 106)).drew.heap.size := by simp
  have HB3 := Lib.hid (show Below w.heap.size w (w1.alloc (Obj.cells #[Value.pointer (some ⟨rb, 1 + t * 4, none⟩)] 106)).drew from (HB1.out.alloc HB1.out.size _).drew)
  generalize (w1.alloc (Obj.cells #[Value.pointer (some ⟨rb, 1 + t * 4, none⟩)] 106)).drew = w3 at d12 d4 d5 s3 HB3 ⊢
  clear e12 c4 c5
  go_wp2_with fail
  refine (once_ten rb t w.heap.size (w.heap.size + 1) w1.heap.size X m w3 (by omega) hm (H.out.new HB3.out) d4 d5 d12 (by omega) (by omega) s3 (by omega) (by omega) (by omega)).mono ?_
  rintro e w4 ⟨rfl, hr4, ⟨A, c, hc4, hrow4⟩, hg4⟩
  have hs4 := hg4.size
  have f12 : w4.cell? ⟨w1.heap.size, 0, none⟩ = some (Value.pointer (some ⟨rb, 4 * t + 1, none⟩)) := (hg4.cell (a := ⟨w1.heap.size, 0, none⟩) s3 (by show ¬ w1.heap.size = rb; omega)).trans d12
  have htab4 := (htab.below HB3.out).grew hg4 (fun e => ring_not_tab (H.out.new HB3.out) (htab.below HB3.out) e.symm)
  have l12 : w1.heap.size < w4.heap.size := by omega
  have lrb : rb < w4.heap.size := by omega
  have HR4 := Lib.hid hr4
  have HROW4 := Lib.hid hrow4
  have HG4 := Lib.hid hg4
  clear d12 d4 d5 hr4 hrow4 hg4
  obtain ⟨d, hd⟩ : ∃ d : ByteArray, d = ⟨(dec v).toArray⟩ := ⟨_, rfl⟩
  have HIT := Lib.hid (fun w (h : Tab w) => Itoa_any v w (by omega) h)
  rw [← hd] at HIT
  have hds : d.size ≤ 140737488351232 := by rw [hd, len_arr]; have := dec_le v (by omega); omega
  have HD := Lib.hid hd
  obtain ⟨kk, hkk⟩ : ∃ kk, kk = keyB m t p v := ⟨_, rfl⟩
  have hkl : kk.length = 32 := by rw [hkk]; exact length_keyB m t p v
  have HKK := Lib.hid hkk
  have HKL := Lib.hid hkl
  have HTL := Lib.hid (length_tenK m t)
  clear hd hkk hkl
  go_wp2_with fail
  have hg0 : Below w4.heap.size w4 w4.drew := (Below.refl _ _).drew
  obtain ⟨F, hF⟩ : ∃ F, F = nthF [eqv (.pointer (some ⟨rb, 4 * t + 1, none⟩)), eqv (.pointer (some ⟨rb, 4 * t + 1, none⟩)), eqv (.pointer (some ⟨rb, 4 * t + 1 + 3, none⟩)), eqv (.slice A 32 c), eqv (.string ns), eqv (.int .i64 v), eqv (.string d), StrsV [ns, versionS, d], NewB w4.heap.size kk, NewB w4.heap.size kk, eqv (.int .i64 0)] := ⟨_, rfl⟩
  have E0 := Lib.hid (show F 0 = eqv (.pointer (some ⟨rb, 4 * t + 1, none⟩)) by rw [hF]; rfl)
  have E1 := Lib.hid (show F 1 = eqv (.pointer (some ⟨rb, 4 * t + 1, none⟩)) by rw [hF]; rfl)
  have E2 := Lib.hid (show F 2 = eqv (.pointer (some ⟨rb, 4 * t + 1 + 3, none⟩)) by rw [hF]; rfl)
  have E3 := Lib.hid (show F 3 = eqv (.slice A 32 c) by rw [hF]; rfl)
  have E4 := Lib.hid (show F 4 = eqv (.string ns) by rw [hF]; rfl)
  have E5 := Lib.hid (show F 5 = eqv (.int .i64 v) by rw [hF]; rfl)
  have E6 := Lib.hid (show F 6 = eqv (.string d) by rw [hF]; rfl)
  have E7 := Lib.hid (show F 7 = StrsV [ns, versionS, d] by rw [hF]; rfl)
  have E8 := Lib.hid (show F 8 = NewB w4.heap.size kk by rw [hF]; rfl)
  have E9 := Lib.hid (show F 9 = NewB w4.heap.size kk by rw [hF]; rfl)
  have E10 := Lib.hid (show F 10 = eqv (.int .i64 0) by rw [hF]; rfl)
  have hst : ∀ j v w w', F j v w → Grows w w' → F j v w' := by rw [hF]; exact nth_stable (by repeat (first | exact st_nil | exact st_eqv _ | exact st_any | exact st_strs _ | exact st_new _ _ | refine st_cons ?_ ?_))
  have HST0 := Lib.hid hst
  clear hF hst
  refine wp_region_facts F Grows (fun _ => True) (by kernel_rfl) (by kernel_rfl) grows_refl grows_trans HST0.out (trivial) ?_ ?_
  · intro V; refine ⟨?_, ?_, ?_, ?_, ?_, ?_, ?_, ?_, ?_, ?_, ?_, trivial⟩
    · intro wx hg hJ hdep
      clear hdep
      have k1 := ((hg0.trans hg).cell (p := ⟨w1.heap.size, 0, none⟩) l12).trans f12
      clear hg
      go_wp2_with fail
      exact ⟨rfl, grows_refl _, trivial, by rw [E0.out]; rfl⟩
    · intro wx hg hJ hdep
      have v0 : V 0 = (.pointer (some ⟨rb, 4 * t + 1, none⟩)) := by have h := hdep 0 rfl; rw [E0.out] at h; exact h
      clear hdep
      clear hg
      go_wp2_with fail
      exact ⟨rfl, grows_refl _, trivial, by rw [E1.out]; rfl⟩
    · intro wx hg hJ hdep
      have v1 : V 1 = (.pointer (some ⟨rb, 4 * t + 1, none⟩)) := by have h := hdep 1 rfl; rw [E1.out] at h; exact h
      clear hdep
      clear hg
      go_wp2_with fail
      exact ⟨rfl, grows_refl _, trivial, by rw [E2.out]; rfl⟩
    · intro wx hg hJ hdep
      have v2 : V 2 = (.pointer (some ⟨rb, 4 * t + 1 + 3, none⟩)) := by have h := hdep 2 rfl; rw [E2.out] at h; exact h
      clear hdep
      have k1 := ((hg0.trans hg).cell (p := ⟨rb, 4 * t + 4, none⟩) lrb).trans hc4
      clear hg
      go_wp2_with fail
      exact ⟨rfl, grows_refl _, trivial, by rw [E3.out]; rfl⟩
    · intro wx hg hJ hdep
      clear hdep
      clear hg
      go_wp2_with fail
      exact ⟨rfl, grows_refl _, trivial, by rw [E4.out]; rfl⟩
    · intro wx hg hJ hdep
      clear hdep
      clear hg
      go_wp2_with fail
      exact ⟨rfl, grows_refl _, trivial, by rw [E5.out]; rfl⟩
    · intro wx hg hJ hdep
      have v5 : V 5 = (.int .i64 v) := by have h := hdep 5 rfl; rw [E5.out] at h; exact h
      clear hdep
      have HM := Lib.hid (HIT.out wx (htab4.below (hg0.trans hg)))
      clear hg
      go_wp2_with fail
      refine HM.out.mono ?_
      rintro e w5 ⟨rfl, hb5⟩
      have HG5 := Lib.hid hb5
      clear hb5
      go_wp2_with fail
      exact ⟨rfl, HG5.out, trivial, by rw [E6.out]; rfl⟩
    · intro wx hg hJ hdep
      have v4 : V 4 = (.string ns) := by have h := hdep 4 rfl; rw [E4.out] at h; exact h
      have v6 : V 6 = (.string d) := by have h := hdep 6 rfl; rw [E6.out] at h; exact h
      clear hdep
      clear hg
      go_wp2_with fail
      exact ⟨rfl, (Below.refl _ _).alloc (Nat.le_refl _) _, trivial, by rw [E7.out]; exact StrsV.lit [ns, versionS, d] _ _⟩
    · intro wx hg hJ hdep
      have v3 : V 3 = (.slice A 32 c) := by have h := hdep 3 rfl; rw [E3.out] at h; exact h
      have h7 : (StrsV [ns, versionS, d]) (V 7) wx := by have h := hdep 7 rfl; rw [E7.out] at h; exact h
      have v6 : V 6 = (.string d) := by have h := hdep 6 rfl; rw [E6.out] at h; exact h
      clear hdep
      have hbx := hg0.trans hg
      obtain ⟨LA, lc, LB, hv7, hlc, hLB, hp⟩ := h7
      have hsx := hbx.size
      have hm := Fold_any (tenK m t) [ns, versionS, d] A 32 c w4.heap.size LA lc _ wx (HROW4.out.reads.below hbx) hsx (by omega) hp (fun k hk => Nat.lt_of_lt_of_le hk hLB) (by simp) (by intro s hs; simp at hs; rcases hs with rfl | rfl | rfl; omega; exact Nat.le_of_lt (by decide); omega)
      rw [show foldB (tenK m t) (bytesOf [ns, versionS, d]) = kk by rw [HKK.out, HD.out, HNS.out]; rfl] at hm
      have HM := Lib.hid hm
      have HV7 := Lib.hid hv7
      clear hm hg hbx hp hv7
      rw [HV7.out]
      go_wp2_with fail
      refine HM.out.mono ?_
      rintro e w5 ⟨A8, c8, rfl, hv8, hb8⟩
      have HV8 := Lib.hid (hv8.mono hsx)
      have HG8 := Lib.hid hb8
      clear hv8 hb8
      go_wp2_with fail
      exact ⟨rfl, HG8.out, trivial, by rw [E8.out]; exact ⟨_, _, rfl, HV8.out⟩⟩
    · intro wx hg hJ hdep
      have h8 : (NewB w4.heap.size kk) (V 8) wx := by have h := hdep 8 rfl; rw [E8.out] at h; exact h
      clear hdep
      have H8 := Lib.hid h8
      clear hg h8
      go_wp2_with fail
      exact ⟨rfl, grows_refl _, trivial, by rw [E9.out]; exact H8.out⟩
    · intro wx hg hJ hdep
      clear hdep
      clear hg
      go_wp2_with fail
      exact ⟨rfl, grows_refl _, trivial, by rw [E10.out]; rfl⟩
  · intro V wx hg hJ hall
    have v0 : V 0 = (.pointer (some ⟨rb, 4 * t + 1, none⟩)) := by have h := hall 0 (by decide); rw [E0.out] at h; exact h
    have v1 : V 1 = (.pointer (some ⟨rb, 4 * t + 1, none⟩)) := by have h := hall 1 (by decide); rw [E1.out] at h; exact h
    have v2 : V 2 = (.pointer (some ⟨rb, 4 * t + 1 + 3, none⟩)) := by have h := hall 2 (by decide); rw [E2.out] at h; exact h
    have v3 : V 3 = (.slice A 32 c) := by have h := hall 3 (by decide); rw [E3.out] at h; exact h
    have v4 : V 4 = (.string ns) := by have h := hall 4 (by decide); rw [E4.out] at h; exact h
    have v5 : V 5 = (.int .i64 v) := by have h := hall 5 (by decide); rw [E5.out] at h; exact h
    have v6 : V 6 = (.string d) := by have h := hall 6 (by decide); rw [E6.out] at h; exact h
    have h7 : (StrsV [ns, versionS, d]) (V 7) wx := by have h := hall 7 (by decide); rw [E7.out] at h; exact h
    have h8 : (NewB w4.heap.size kk) (V 8) wx := by have h := hall 8 (by decide); rw [E8.out] at h; exact h
    have h9 : (NewB w4.heap.size kk) (V 9) wx := by have h := hall 9 (by decide); rw [E9.out] at h; exact h
    have v10 : V 10 = (.int .i64 0) := by have h := hall 10 (by decide); rw [E10.out] at h; exact h
    clear hall
    simp only [fillTo, Act.put, List.setIfInBounds_toArray, List.set_cons_succ, List.set_cons_zero, Nat.reduceAdd, Nat.zero_add, v0, v1, v2, v3, v4, v5, v6, v10]
    clear v0 v1 v2 v3 v4 v5 v6 v10
    obtain ⟨A8, c8, hv8, hrow8⟩ := h9
    have HROW := Lib.hid hrow8
    have HBX := Lib.hid (hg0.trans hg)
    have hkl := HKL.out
    rw [hkl] at hv8
    rw [hv8]
    clear hg h7 h8 hrow8 hv8 hkl
    go_wp2_with fail
    go_ret2
    have hrow := HROW.out
    rw [HKL.out, HKK.out] at hrow
    exact ⟨OwnX X w3 w4, fun k hk => by rcases hk with hk | hk; exact .inl hk.1; exact .inr (Nat.le_trans HB3.out.size hk.1), HR4.out.new HBX.out, ((Grew.of_new (S := fun k => k = rb) HB3.out).next HG4.out (fun _ _ h => h)).next_new HBX.out,
      .inr ⟨HK.out, A8, c8, rfl, hrow.mono (Nat.le_trans HB3.out.size hs4), fun ad e hx => by have := (hrow.lt ad e).1; rcases hx with hx | hx <;> omega⟩⟩
end Go.Proofs.YtogpnlfbdhddmaaGreatDoor
