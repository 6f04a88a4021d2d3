/- A ring of keys in memory; THE WALK of keys.New. -/
import Derived.Test.YtdjpiccehloaiaaDoorKey1
namespace Go.Proofs.YtdjpiccehloaiaaDoor
open Go.RowKit

/-- A tenant's place in a ring: its key is made, or not yet. -/
def TenAt (w : World) (rb : Nat) (X : Nat → Prop) (m : List UInt8) (cs : Array Value) (t : Nat) : Prop :=
  cs[4 * t + 2]? = some (.int .i32 0) ∧ ((cs[4 * t + 1]? = some (.int .u32 0) ∧ ∃ v, cs[4 * t + 4]? = some v) ∨
    (cs[4 * t + 1]? = some (.int .u32 1) ∧ ∃ A c, cs[4 * t + 4]? = some (.slice A 32 c) ∧ Row w 0 1 A 32 c (bv (tenK m t)) ∧ ∀ ad, A = some ad → X ad.block ∧ ad.block ≠ rb))
/-- A ring at block rb of the master key m; what it owns lies in blocks of X. -/
def RingAt (w : World) (rb : Nat) (X : Nat → Prop) (m : List UInt8) : Prop :=
  ∃ (cs : Array Value) (A : Option Addr) (n c : Nat), Blk w rb 59 cs ∧ cs[0]? = some (.slice A n c) ∧ Row w 0 1 A n c (bv m) ∧ (∀ ad, A = some ad → X ad.block ∧ ad.block ≠ rb) ∧ ∀ t, t < 65 → TenAt w rb X m cs t
section
variable {w w' : World} {rb : Nat} {X X' : Nat → Prop} {m : List UInt8} {cs : Array Value} {t : Nat}
theorem RingAt.lt (h : RingAt w rb X m) : rb < w.heap.size := by
  obtain ⟨cs, A, n, c, hb, _⟩ := h
  exact hb.lt
theorem TenAt.grew {S : Nat → Prop} (h : TenAt w rb X m cs t) (hg : Grew S w w') (h2 : ∀ k, X k → ¬ S k) : TenAt w' rb X m cs t := by
  obtain ⟨h1, h3 | ⟨h3, A, c, h4, h5, h6⟩⟩ := h
  · exact ⟨h1, .inl h3⟩
  · exact ⟨h1, .inr ⟨h3, A, c, h4, h5.grew hg (fun ad e => h2 _ (h6 ad e).1), h6⟩⟩
theorem TenAt.mono (h : TenAt w rb X m cs t) (hx : ∀ k, k < w.heap.size → X k → X' k) : TenAt w rb X' m cs t := by
  obtain ⟨h1, h3 | ⟨h3, A, c, h4, h5, h6⟩⟩ := h
  · exact ⟨h1, .inl h3⟩
  · exact ⟨h1, .inr ⟨h3, A, c, h4, h5, fun ad e => ⟨hx _ (h5.lt ad e).2 (h6 ad e).1, (h6 ad e).2⟩⟩⟩
theorem RingAt.grew {S : Nat → Prop} (h : RingAt w rb X m) (hg : Grew S w w') (h1 : ¬ S rb) (h2 : ∀ k, X k → ¬ S k) : RingAt w' rb X m := by
  obtain ⟨cs, A, n, c, hb, h0, hr, ha, hT⟩ := h
  exact ⟨cs, A, n, c, hb.grew hg h1, h0, hr.grew hg (fun ad e => h2 _ (ha ad e).1), ha, fun t ht => (hT t ht).grew hg h2⟩
theorem RingAt.mono (h : RingAt w rb X m) (hx : ∀ k, k < w.heap.size → X k → X' k) : RingAt w rb X' m := by
  obtain ⟨cs, A, n, c, hb, h0, hr, ha, hT⟩ := h
  exact ⟨cs, A, n, c, hb, h0, hr, fun ad e => ⟨hx _ (hr.lt ad e).2 (ha ad e).1, (ha ad e).2⟩, fun t ht => (hT t ht).mono hx⟩
theorem RingAt.within (h : RingAt w rb X m) : RingAt w rb (fun k => X k ∧ k < w.heap.size) m := h.mono fun _ hk hx => ⟨hx, hk⟩
theorem RingAt.below {B : Nat} (h : RingAt w rb X m) (hb : Below B w w') (hB : w.heap.size ≤ B) : RingAt w' rb X m :=
  (h.within.grew (Grew.of_below (S := fun k => w.heap.size ≤ k) hb fun k hk hk2 => by omega) (by have := h.lt; omega) (fun k hk => by omega)).mono fun _ _ hx => hx.1
end

theorem ring_zero : Tryd.zeroCells59 = (Value.slice none 0 0 :: (List.replicate 65 [Value.int .u32 0, Value.int .i32 0, Value.int .u32 0, Value.slice none 0 0]).flatten).toArray := by kernel_rfl
theorem ring_zero_at (x : Value) (t k : Nat) (ht : t < 65) (hk : k < 4) : (Tryd.zeroCells59.setIfInBounds 0 x)[4 * t + 1 + k]? = [Value.int .u32 0, Value.int .i32 0, Value.int .u32 0, Value.slice none 0 0][k]? := by
  rw [Array.getElem?_setIfInBounds, if_neg (by omega), ring_zero]
  rw [show 4 * t + 1 + k = (4 * t + k) + 1 by omega]
  simp only [List.getElem?_toArray, List.getElem?_cons_succ]
  exact rep4 _ _ _ _ 65 t k ht hk
theorem ring_size : Tryd.zeroCells59.size = 261 := by kernel_rfl
theorem ring_new (x : Value) : (Tryd.zeroCells59.setIfInBounds 0 x)[0]? = some x := by
  rw [Array.getElem?_setIfInBounds, if_pos rfl, if_pos (by rw [ring_size]; omega)]

/-- A new ring, in new blocks. -/
def RingOut (m : List UInt8) (w : World) (e : Ending) (w' : World) : Prop :=
  ∃ rb, e = .returned (.tuple #[.pointer (some ⟨rb, 0, none⟩), .int .i64 0]) ∧ w.heap.size ≤ rb ∧ RingAt w' rb (fun k => w.heap.size ≤ k) m ∧ Below w.heap.size w w'
set_option maxRecDepth 100000 in
set_option maxHeartbeats 4000000 in
theorem New_ring (m : List UInt8) (A : Option Addr) (n c B : Nat) (w : World) (hr : Reads w B 1 A n (bv m)) (hB : B ≤ w.heap.size) (h1 : 16 ≤ n) (h2 : n ≤ 64) : Calls Tryd.prog 9 #[.slice A n c] w (RingOut m w) := by
  have hc := Lib.hid (bClone_any A n c B m w hr hB (by omega))
  have t1 : decide ((n : Int) < 16) = false := decide_eq_false (by omega)
  have t2 : decide ((64 : Int) < n) = false := decide_eq_false (by omega)
  clear hr
  go_enter Tryd.func9, Tryd.ntmps9
  go_wp2_with fail
  refine hc.out.mono ?_
  rintro e w1 ⟨A1, c1, rfl, hrow, hb1⟩
  have HROW := Lib.hid hrow
  have HB1 := Lib.hid hb1
  clear hrow hb1 hc
  go_wp2_with fail
  go_ret2
  have hs1 := HB1.out.size
  refine ⟨w1.heap.size, rfl, hs1, ⟨_, A1, m.length, c1, Blk.new w1 59 _, ring_new _, (HROW.out.mono (Nat.zero_le _)).alloc _, fun ad e => ?_, fun t ht => ⟨?_, .inl ⟨?_, ?_⟩⟩⟩, HB1.out.alloc hs1 _⟩
  · have := HROW.out.lt ad e
    exact ⟨this.1, by omega⟩
  · exact ring_zero_at _ t 1 ht (by omega)
  · exact ring_zero_at _ t 0 ht (by omega)
  · exact ⟨_, ring_zero_at _ t 3 ht (by omega)⟩
theorem New_no (A : Option Addr) (n c : Nat) (w : World) (h : n < 16 ∨ 64 < n) : Calls Tryd.prog 9 #[.slice A n c] w fun e w' => e = .returned (.tuple #[.pointer none, .int .i64 1]) ∧ w = w' := by
  rcases h with h | h
  · have t1 : decide ((n : Int) < 16) = true := decide_eq_true (by omega)
    go_enter Tryd.func9, Tryd.ntmps9
    go_wp2_with fail
    go_ret2
    exact ⟨rfl, rfl⟩
  · have t1 : decide ((n : Int) < 16) = false := decide_eq_false (by omega)
    have t2 : decide ((64 : Int) < n) = true := decide_eq_true (by omega)
    go_enter Tryd.func9, Tryd.ntmps9
    go_wp2_with fail
    go_ret2
    exact ⟨rfl, rfl⟩

/-- The strings of a new slice. -/
theorem StrsV.lit (L : List ByteArray) (t : TypeId) (w : World) : StrsV L (.slice (some ⟨w.heap.size, 0, none⟩) L.length L.length) (w.alloc (.cells (L.map Value.string).toArray t)) :=
  ⟨_, L.length, w.heap.size + 1, rfl, Nat.le_refl _, by simp, fun _ => ⟨w.heap.size, 0, rfl, by omega, fun i hi => by rw [Nat.zero_add, cell?_new]; simp [hi]⟩⟩

theorem len_arr (l : List UInt8) : (⟨l.toArray⟩ : ByteArray).size = l.length := by simp [ByteArray.size]
/-- The value is a row of its own from N on that reads these bytes. -/
def NewB (N : Nat) (l : List UInt8) (v : Value) (w : World) : Prop := ∃ A c, v = .slice A l.length c ∧ Row w N 1 A l.length c (bv l)
theorem NewB.grows {N : Nat} {l : List UInt8} {v : Value} {w w' : World} (h : NewB N l v w) (g : Grows w w') : NewB N l v w' := by
  obtain ⟨A, c, e, hr⟩ := h
  exact ⟨A, c, e, hr.below g (Nat.le_refl _)⟩
theorem st_new (N : Nat) (l : List UInt8) : Stable (NewB N l) := fun _ _ _ h g => h.grows g
/-- Behind the closure of a tenant's Once. -/
def TenOut (rb t : Nat) (cs : Array Value) (m : List UInt8) (w : World) (e : Ending) (w' : World) : Prop :=
  e = .returned (.tuple #[]) ∧ ∃ A c, Row w' w.heap.size 1 A 32 c (bv (tenK m t)) ∧ Blk w' rb 59 (cs.setIfInBounds (4 * t + 4) (.slice A 32 c)) ∧ Grew (· = rb) w w'
set_option maxRecDepth 100000 in
set_option maxHeartbeats 4000000 in
theorem ten_any (rb t g4 g5 g12 : Nat) (cs : Array Value) (m : List UInt8) (A : Option Addr) (n c : Nat) (w : World) (ht : t ≤ 64) (hm : m.length ≤ 64)
    (hb : Blk w rb 59 cs) (h0 : cs[0]? = some (.slice A n c)) (hr : Row w 0 1 A n c (bv m)) (hv : ∃ v, cs[4 * t + 4]? = some v)
    (c4 : w.cell? ⟨g4, 0, none⟩ = some (.pointer (some ⟨rb, 0, none⟩))) (c5 : w.cell? ⟨g5, 0, none⟩ = some (.int .i64 t)) (c12 : w.cell? ⟨g12, 0, none⟩ = some (.pointer (some ⟨rb, 4 * t + 1, none⟩)))
    (l4 : g4 < w.heap.size) (l5 : g5 < w.heap.size) (l12 : g12 < w.heap.size) :
    Calls Tryd.prog 20 #[.pointer (some ⟨g4, 0, none⟩), .pointer (some ⟨g5, 0, none⟩), .pointer (some ⟨g12, 0, none⟩)] w (TenOut rb t cs m w) := by
  have hn : m.length = n := by have := hr.1; rw [length_bv] at this; omega
  have cm := (hb.cell 0).trans h0
  obtain ⟨v0, hv0⟩ := hv
  have cv := (hb.cell (4 * t + 4)).trans hv0
  have fv := hb.frozen (4 * t + 4)
  have hlr := hb.lt
  have HBLK := Lib.hid hb
  have HR := Lib.hid hr
  have HN := Lib.hid hn
  have h0' := Lib.hid h0
  have HV0 := Lib.hid hv0
  clear hb hr hn h0 hv0
  obtain ⟨d, hd⟩ : ∃ d : ByteArray, d = ⟨(dec t).toArray⟩ := ⟨_, rfl⟩
  have HIT := Lib.hid (fun w => Tryd.strconv_Itoa_small t (by omega) w)
  have HD := Lib.hid hd
  have hds : d.size ≤ 3 := by
    rw [hd, len_arr]
    by_cases h1 : t < 10
    · rw [dec_one h1]; simp
    · rw [dec_more h1, dec_one (by omega)]; simp
  clear hd
  obtain ⟨kk, hkk⟩ : ∃ kk, kk = tenK m t := ⟨_, rfl⟩
  have hkl : kk.length = 32 := by rw [hkk]; exact length_tenK m t
  have HKK := Lib.hid hkk
  have HKL := Lib.hid hkl
  unfold TenOut
  rw [← hkk]
  clear hkk hkl
  go_enter Tryd.func20, Tryd.ntmps20
  go_wp2_with fail
  have hg0 : Below w.heap.size w w.drew := (Below.refl _ _).drew
  obtain ⟨F, hF⟩ : ∃ F, F = nthF [eqv (.pointer (some ⟨rb, 4 * t + 1, none⟩)), eqv (.pointer (some ⟨rb, 0, none⟩)), eqv (.pointer (some ⟨rb, 0, none⟩)), eqv (.pointer (some ⟨rb, 0, none⟩)), eqv (.slice A n c), eqv (.int .i64 t), eqv (.string d), StrsV [tenantS, d], NewB w.heap.size kk] := ⟨_, rfl⟩
  have E0 := Lib.hid (show F 0 = eqv (.pointer (some ⟨rb, 4 * t + 1, none⟩)) by rw [hF]; rfl)
  have E1 := Lib.hid (show F 1 = eqv (.pointer (some ⟨rb, 0, none⟩)) by rw [hF]; rfl)
  have E2 := Lib.hid (show F 2 = eqv (.pointer (some ⟨rb, 0, none⟩)) by rw [hF]; rfl)
  have E3 := Lib.hid (show F 3 = eqv (.pointer (some ⟨rb, 0, none⟩)) by rw [hF]; rfl)
  have E4 := Lib.hid (show F 4 = eqv (.slice A n c) by rw [hF]; rfl)
  have E5 := Lib.hid (show F 5 = eqv (.int .i64 t) by rw [hF]; rfl)
  have E6 := Lib.hid (show F 6 = eqv (.string d) by rw [hF]; rfl)
  have E7 := Lib.hid (show F 7 = StrsV [tenantS, d] by rw [hF]; rfl)
  have E8 := Lib.hid (show F 8 = NewB w.heap.size kk by rw [hF]; rfl)
  have hst : ∀ j v w w', F j v w → Grows w w' → F j v w' := by rw [hF]; exact nth_stable (by repeat (first | exact st_nil | exact st_eqv _ | exact st_any | exact st_strs _ | exact st_new _ _ | refine st_cons ?_ ?_))
  have HST0 := Lib.hid hst
  clear hF hst
  refine wp_region_facts_tail 9 F Grows (fun _ => True) (by kernel_rfl) (by kernel_rfl) (by kernel_rfl) (by decide) grows_refl grows_trans HST0.out (trivial) ?_ ?_
  · intro V; refine ⟨?_, ?_, ?_, ?_, ?_, ?_, ?_, ?_, ?_, trivial⟩
    · intro wx hg hJ hdep
      clear hdep
      have k1 := ((hg0.trans hg).cell (p := ⟨g12, 0, none⟩) l12).trans c12
      clear hg
      go_wp2_with fail
      exact ⟨rfl, grows_refl _, trivial, by rw [E0.out]; rfl⟩
    · intro wx hg hJ hdep
      clear hdep
      have k1 := ((hg0.trans hg).cell (p := ⟨g4, 0, none⟩) l4).trans c4
      clear hg
      go_wp2_with fail
      exact ⟨rfl, grows_refl _, trivial, by rw [E1.out]; rfl⟩
    · intro wx hg hJ hdep
      have v1 : V 1 = (.pointer (some ⟨rb, 0, none⟩)) := by have h := hdep 1 rfl; rw [E1.out] at h; exact h
      clear hdep
      clear hg
      go_wp2_with fail
      exact ⟨rfl, grows_refl _, trivial, by rw [E2.out]; rfl⟩
    · intro wx hg hJ hdep
      have v2 : V 2 = (.pointer (some ⟨rb, 0, none⟩)) := by have h := hdep 2 rfl; rw [E2.out] at h; exact h
      clear hdep
      clear hg
      go_wp2_with fail
      exact ⟨rfl, grows_refl _, trivial, by rw [E3.out]; rfl⟩
    · intro wx hg hJ hdep
      have v3 : V 3 = (.pointer (some ⟨rb, 0, none⟩)) := by have h := hdep 3 rfl; rw [E3.out] at h; exact h
      clear hdep
      have k1 := ((hg0.trans hg).cell (p := ⟨rb, 0, none⟩) hlr).trans cm
      clear hg
      go_wp2_with fail
      exact ⟨rfl, grows_refl _, trivial, by rw [E4.out]; rfl⟩
    · intro wx hg hJ hdep
      clear hdep
      have k1 := ((hg0.trans hg).cell (p := ⟨g5, 0, none⟩) l5).trans c5
      clear hg
      go_wp2_with fail
      exact ⟨rfl, grows_refl _, trivial, by rw [E5.out]; rfl⟩
    · intro wx hg hJ hdep
      have v5 : V 5 = (.int .i64 t) := by have h := hdep 5 rfl; rw [E5.out] at h; exact h
      clear hdep
      have hm := HIT.out wx
      rw [show (⟨(Lib.decDigits t).toArray⟩ : ByteArray) = d by rw [HD.out]; rfl] at hm
      have HM := Lib.hid hm
      clear hm hg
      go_wp2_with fail
      refine HM.out.mono ?_
      rintro e w2 ⟨rfl, rfl⟩
      go_wp2_with fail
      exact ⟨rfl, grows_refl _, trivial, by rw [E6.out]; rfl⟩
    · intro wx hg hJ hdep
      have v6 : V 6 = (.string d) := by have h := hdep 6 rfl; rw [E6.out] at h; exact h
      clear hdep
      clear hg
      go_wp2_with fail
      exact ⟨rfl, (Below.refl _ _).alloc (Nat.le_refl _) _, trivial, by rw [E7.out]; exact StrsV.lit [tenantS, d] _ _⟩
    · intro wx hg hJ hdep
      have v4 : V 4 = (.slice A n c) := by have h := hdep 4 rfl; rw [E4.out] at h; exact h
      have h7 : (StrsV [tenantS, d]) (V 7) wx := by have h := hdep 7 rfl; rw [E7.out] at h; exact h
      have v6 : V 6 = (.string d) := by have h := hdep 6 rfl; rw [E6.out] at h; exact h
      clear hdep
      have hbx := hg0.trans hg
      obtain ⟨LA, lc, LB, hv7, hlc, hLB, hp⟩ := h7
      have hsx := hbx.size
      have hm := Fold_any m [tenantS, d] A n c w.heap.size LA lc _ wx (HR.out.reads.below hbx) hsx (by have := HN.out; omega) hp (fun k hk => Nat.lt_of_lt_of_le hk hLB) (by simp) (by intro s hs; simp at hs; rcases hs with rfl | rfl; exact Nat.le_of_lt (by decide); omega)
      rw [show foldB m (bytesOf [tenantS, d]) = kk by rw [HKK.out, HD.out]; rfl] at hm
      have HM := Lib.hid hm
      have HV7 := Lib.hid hv7
      clear hm hg hbx hp hv7
      rw [HV7.out]
      go_wp2_with fail
      refine HM.out.mono ?_
      rintro e w2 ⟨A8, c8, rfl, hv8, hb8⟩
      have HV8 := Lib.hid (hv8.mono hsx)
      have HG8 := Lib.hid hb8
      clear hv8 hb8
      go_wp2_with fail
      exact ⟨rfl, HG8.out, trivial, by rw [E8.out]; exact ⟨_, _, rfl, HV8.out⟩⟩
  · intro V wx hg hJ hall
    have v0 : V 0 = (.pointer (some ⟨rb, 4 * t + 1, none⟩)) := by have h := hall 0 (by decide); rw [E0.out] at h; exact h
    have v1 : V 1 = (.pointer (some ⟨rb, 0, none⟩)) := by have h := hall 1 (by decide); rw [E1.out] at h; exact h
    have v2 : V 2 = (.pointer (some ⟨rb, 0, none⟩)) := by have h := hall 2 (by decide); rw [E2.out] at h; exact h
    have v3 : V 3 = (.pointer (some ⟨rb, 0, none⟩)) := by have h := hall 3 (by decide); rw [E3.out] at h; exact h
    have v4 : V 4 = (.slice A n c) := by have h := hall 4 (by decide); rw [E4.out] at h; exact h
    have v5 : V 5 = (.int .i64 t) := by have h := hall 5 (by decide); rw [E5.out] at h; exact h
    have v6 : V 6 = (.string d) := by have h := hall 6 (by decide); rw [E6.out] at h; exact h
    have h7 : (StrsV [tenantS, d]) (V 7) wx := by have h := hall 7 (by decide); rw [E7.out] at h; exact h
    have h8 : (NewB w.heap.size kk) (V 8) wx := by have h := hall 8 (by decide); rw [E8.out] at h; exact h
    clear hall
    simp only [List.take_succ_cons, List.take_zero, List.drop_succ_cons, List.drop_zero, fillTo, Act.put, List.setIfInBounds_toArray, List.set_cons_succ, List.set_cons_zero, Nat.reduceAdd, Nat.zero_add, v0, v1, v2, v3, v4, v5, v6]
    clear v0 v1 v2 v3 v4 v5 v6
    obtain ⟨A8, c8, hv8, hrow8⟩ := h8
    have hbx := hg0.trans hg
    have q1 := (hbx.cell (p := ⟨rb, 4 * t + 4, none⟩) hlr).trans cv
    have q2 := (hbx.frozen (p := ⟨rb, 4 * t + 4, none⟩) hlr).trans fv
    have HROW := Lib.hid hrow8
    have HBX := Lib.hid hbx
    have HBK := Lib.hid (HBLK.out.below hbx hlr)
    have hkl := HKL.out
    rw [hkl] at hv8
    rw [hv8]
    clear hg h7 hrow8 hbx hv8 hkl
    go_wp2_with fail
    go_end0
    have hrow2 := HROW.out.far (p := ⟨rb, 4 * t + 4, none⟩) (fun ad e => by have := (HROW.out.lt ad e).1; show ad.block ≠ rb; omega) (.slice A8 32 c8)
    rw [HKL.out] at hrow2
    exact ⟨rfl, A8, c8, hrow2, HBK.out.set (4 * t + 4) _, (Grew.of_new (S := fun k => k = rb) HBX.out).set (p := ⟨rb, 4 * t + 4, none⟩) (.inl rfl) _⟩
end Go.Proofs.YtdjpiccehloaiaaDoor
