/- THE WALKS of a maker of tags: its Once, Mac; mac.New, mac.Mac. -/
import Derived.Test.YtbjlmodabiadfaaHMacHalves
import Derived.Deep.RegionHeld3
import Derived.Conc.MuLone
namespace Go.Proofs.Ytbjlmodabiadfaa
open Go.RowKit

theorem Grew.next {S T : Nat → Prop} {w w1 w2 : World} (h : Grew S w w1) (k : Grew T w1 w2) (hT : ∀ k, k < w.heap.size → T k → S k) : Grew S w w2 :=
  ⟨k.os.trans h.os, k.tape.trans h.tape, k.output.trans h.output, Nat.le_trans h.size k.size, fun i hi hn => (k.block i (Nat.lt_of_lt_of_le hi h.size) (fun ht => hn (hT i hi ht))).trans (h.block i hi hn)⟩
theorem Grew.next_new {S : Nat → Prop} {w w1 w2 : World} (h : Grew S w w1) (k : Below w1.heap.size w1 w2) : Grew S w w2 := h.trans (Grew.of_new k)

theorem HashAt.drew {w : World} {hb q : Nat} {X : Nat → Prop} {l : List UInt8} (h : HashAt w hb X l q) : HashAt w.drew hb X l q := by
  obtain ⟨A, n, c, h1, h2, h3, h4⟩ := h
  exact ⟨A, n, c, h1.drew, h2.drew, h3, h4⟩

/-- Behind the maker's Once: its halves are made. -/
def OnceOut (mb : Nat) (k : Value) (key : List UInt8) (w : World) (e : Ending) (w' : World) : Prop := e = .returned (.tuple #[]) ∧ Blk w' mb 85 (mk k 1 0 (halfX key) (halfY key)).toArray ∧ Grew (· = mb) w w'
theorem halves_enter (args : Array Value) (w : World) : (callFunc 48 args).run Try.prog w = .ok (.enter 48 args) w :=
  Go.MuLone.run_callFunc_enter Try.func48 (by kernel_rfl) rfl args w
theorem once_maker (mb : Nat) (A : Option Addr) (n c : Nat) (key : List UInt8) (w : World) (hr : Row w 0 1 A n c (bv key)) (ha : ∀ ad, A = some ad → ad.block ≠ mb) (hn : n ≤ 140737488351232)
    (hb : Blk w mb 85 (mk (.slice A n c) 0 0 (zeros 64) (zeros 64)).toArray ∨ Blk w mb 85 (mk (.slice A n c) 1 0 (halfX key) (halfY key)).toArray) :
    Calls Try.prog 47 #[.pointer (some ⟨mb, 1, none⟩), .func (.func 48) #[.pointer (some ⟨mb, 0, none⟩)] #[]] w (OnceOut mb (.slice A n c) key w) := by
  rcases hb with hb | hb
  · have hb2 := hb.set 2 (.int .i32 1)
    rw [mk_sets] at hb2
    have hh := halves_any mb A n c key (w.setCell ⟨mb, 2, none⟩ (.int .i32 1)) hb2 (hr.far (fun ad e => ha ad e) _) ha hn
    have hd := Once.Do_first mb 1 48 #[.pointer (some ⟨mb, 0, none⟩)] #[] (fun w2 => Blk w2 mb 85 (mk (.slice A n c) 0 1 (halfX key) (halfY key)).toArray ∧ Grew (· = mb) w w2) w
      ((hb.cell 1).trans (mk_d _ _ _ _ _)) ((hb.cell 2).trans (mk_s _ _ _ _ _)) (hb.frozen 2) (fun w => halves_enter _ w)
      (hh.mono fun e w2 ⟨he, h1, h2⟩ => ⟨he, ⟨h1, ((Grew.refl (· = mb) w).set (p := ⟨mb, 2, none⟩) (.inl rfl) _).trans h2⟩, (h1.cell 1).trans (mk_d _ _ _ _ _), (h1.cell 2).trans (mk_s _ _ _ _ _), h1.frozen 1, h1.frozen 2⟩)
    refine hd.mono fun e w' ⟨he, w2, ⟨h1, h2⟩, _, _, hw⟩ => ⟨he, ?_, ?_⟩
    · have h3 := (h1.drew.set 1 (.int .u32 1)).set 2 (.int .i32 0)
      rw [mk_setd, mk_sets] at h3
      rw [hw]
      exact h3
    · rw [hw]
      exact (h2.drew.set (p := ⟨mb, 1, none⟩) (.inl rfl) _).set (p := ⟨mb, 2, none⟩) (.inl rfl) _
  · refine (Once.Do_done mb 1 _ w ((hb.cell 1).trans (mk_d _ _ _ _ _))).mono fun e w' ⟨he, hw⟩ => ⟨he, ?_, ?_⟩
    · rw [← hw]; exact hb
    · rw [← hw]; exact Grew.refl _ _
/-- A tag in a new row; the maker is one still. -/
def MacOut (mb : Nat) (X : Nat → Prop) (key t : List UInt8) (w : World) (e : Ending) (w' : World) : Prop :=
  ∃ A c, e = .returned (.slice A t.length c) ∧ Row w' w.heap.size 1 A t.length c (bv t) ∧ MakerAt w' mb X key ∧ Grew (· = mb) w w'
theorem macB_def (key b : List UInt8) : macB key b = Sha.sum (halfY key ++ Sha.sum (halfX key ++ b)) := rfl
theorem half_part {w : World} {mb : Nat} {k : Value} {key : List UInt8} (h : Blk w mb 85 (mk k 1 0 (halfX key) (halfY key)).toArray) :
    Part w (· = mb) (.slice (some ⟨mb, 4, none⟩) 64 64) (halfX key) ∧ Part w (· = mb) (.slice (some ⟨mb, 68, none⟩) 64 64) (halfY key) := by
  constructor
  · refine Part.of_row (base := 0) ?_ (by omega) fun ad e => by simp at e; rw [← e]
    have := Blk.mid (pre := mkh k 1 0) (xs := bv (halfX key)) (post := bv (halfY key)) h (n := 64) (by rw [length_bv, length_halfX]) (by unfold maxLen; omega)
    exact this
  · refine Part.of_row (base := 0) ?_ (by omega) fun ad e => by simp at e; rw [← e]
    rw [mk_y] at h
    have := Blk.mid h (n := 64) (by rw [length_bv, length_halfY]) (by unfold maxLen; omega)
    rw [List.length_append, length_bv, length_halfX] at this
    exact this

theorem outer_call {w5 : World} {mb base c5 : Nat} {k : Value} {key d t : List UInt8} {A5 : Option Addr} (hb : Blk w5 mb 85 (mk k 1 0 (halfX key) (halfY key)).toArray) (hr : Row w5 base 1 A5 d.length c5 (bv d)) (hd : d.length ≤ 32) (ht : Sha.sum (halfY key ++ d) = t) :
    Calls Try.prog 24 #[.slice (some ⟨w5.heap.size, 0, none⟩) 2 2] (w5.alloc (.cells #[.slice (some ⟨mb, 68, none⟩) 64 64, .slice A5 d.length c5] 22)) (RowOut t (w5.alloc (.cells #[.slice (some ⟨mb, 68, none⟩) 64 64, .slice A5 d.length c5] 22))) := by
  have hbl := hb.lt
  have h := sSum_any [halfY key, d] _ 2 _ _ (Parts.two (t := 22) (R := fun k => k < w5.heap.size) ((half_part hb).2.mono fun k hk => by omega) (Part.of_row hr (by omega) fun ad e => (hr.lt ad e).2) (fun k hk => hk)) (fun k hk => by simp; omega) (by simp) (by simp [length_halfY]; omega)
  rw [show Sha.sum [halfY key, d].flatten = t by rw [← ht]; simp] at h
  exact h

set_option maxRecDepth 100000 in
set_option maxHeartbeats 4000000 in
theorem MMac_any (mb : Nat) (X : Nat → Prop) (key : List UInt8) (L : List (List UInt8)) (PA : Option Addr) (pc : Nat) (R : Nat → Prop) (w : World) (h : MakerAt w mb X key) (hk : key.length ≤ 140737488351232) (hp : Parts w R PA L) (hR : ∀ k, R k → k < w.heap.size ∧ k ≠ mb)
    (hlen : L.length ≤ 140737488351232) (hsum : L.flatten.length ≤ 576460752303423488) :
    Calls Try.prog 21 #[.pointer (some ⟨mb, 0, none⟩), .slice PA L.length pc] w (MacOut mb X key (macB key L.flatten) w) := by
  have hml := h.lt
  obtain ⟨A, n, c, hrow, ha, hb⟩ := h
  have hmf : ∀ (fn : Fn) (first cap : Array Value) (w : World), (Instr.makeFunc fn first cap).run Try.prog w = .ok (.func fn first cap) w := fun _ _ _ _ => rfl
  have hd := Lib.hid (once_maker mb A n c key w hrow (fun ad e => (ha ad e).2) (by have := hrow.1; rw [length_bv] at this; omega) hb)
  generalize ht : macB key L.flatten = t
  have HT := Lib.hid ht
  have HROW := Lib.hid hrow
  have HA := Lib.hid ha
  have HP := Lib.hid hp
  have HR := Lib.hid hR
  clear ht hrow ha hp hR hb
  go_enter Try.func21, Try.ntmps21
  go_wp2_with fail
  refine hd.out.mono ?_
  rintro e w1 ⟨rfl, hb1, hg1⟩
  have HB1 := Lib.hid hb1
  have HG1 := Lib.hid hg1
  have hs1 := hg1.size
  clear hb1 hg1 hd
  go_wp2_with fail
  refine (New_any w1).mono ?_
  rintro e w2 ⟨rfl, hh2, hb2, hs2⟩
  have HH2 := Lib.hid (hh2 (fun _ => False))
  have HG2 := Lib.hid (HG1.out.next_new hb2)
  have HB2 := Lib.hid (HB1.out.below hb2 (by omega))
  generalize hhb : w2.heap.size - 1 = hb at HH2
  have hhl : hb < w2.heap.size := HH2.out.lt
  have hhg : w.heap.size ≤ hb := by omega
  clear hh2 hb2 hhb
  go_wp2_with fail
  refine (Write_any hb (fun _ => False) [] [halfX key] _ 1 _ _ 0 (HH2.out.alloc _) (Parts.one (half_part HB2.out).1 (fun k hk => by omega)) (fun k hk => by have : k ≠ hb := (by rcases hk with hk | hk <;> omega); exact ⟨by simp; omega, this, fun h => h⟩) (by simp) (by simp [length_halfX])).mono ?_
  rintro e w3 ⟨rfl, hh3, hg3⟩
  simp only [List.nil_append, List.flatten_cons, List.flatten_nil, List.append_nil, length_halfX, Nat.zero_add] at hh3
  have hs3 : w2.heap.size < w3.heap.size := by have := hg3.size; simp at this; omega
  have HG3 := Lib.hid ((HG2.out.alloc _).next hg3 fun k hk h => by rcases h with rfl | h; omega; exact h.elim)
  have HB3 := Lib.hid ((HB2.out.alloc _).grew hg3 (fun h => by rcases h with h | h; omega; exact h))
  have HH3 := Lib.hid hh3
  clear hh3 hg3
  go_wp2_with fail
  refine (Write_any hb _ (halfX key) L PA pc R w3 64 HH3.out (HP.out.grew HG3.out fun k hk => HR.out k hk) (fun k hk => by have := HR.out k hk; exact ⟨by omega, by omega, fun h => by rcases h with h | h; exact h; simp at h; omega⟩) hlen (by omega)).mono ?_
  rintro e w4 ⟨rfl, hh4, hg4⟩
  have hs4 := hg4.size
  have HG4 := Lib.hid (HG3.out.next hg4 fun k hk h => by rcases h with rfl | h | h; omega; exact h.elim; simp at h; omega)
  have HB4 := Lib.hid (HB3.out.grew hg4 (fun h => by rcases h with h | h | h; omega; exact h; simp at h; omega))
  have hsl : 64 + L.flatten.length = (halfX key ++ L.flatten).length := by rw [List.length_append, length_halfX]
  rw [hsl] at hh4
  have HH4 := Lib.hid hh4
  have hml4 : mb < w4.heap.size := by omega
  have hdl : (halfX key ++ L.flatten).length ≤ 1152921504606846976 := by omega
  have htd := HT.out
  rw [macB_def] at htd
  have HTD := Lib.hid htd
  clear hh4 hg4 hsl htd
  go_wp2_with fail
  have hsum4 := HSum_any hb _ _ w4.drew HH4.out.drew hdl
  have hd32 : (Sha.sum (halfX key ++ L.flatten)).length ≤ 32 := Nat.le_of_eq (Sha.length_sum _)
  generalize Sha.sum (halfX key ++ L.flatten) = d at hsum4 HTD hd32
  have HSUM4 := Lib.hid hsum4
  clear hsum4
  go_region_held3 (fun _ => True) (trivial)
    (first
      | (go_at_call 51; refine HSUM4.out.mono ?_; rintro e w5 ⟨A5, c5, rfl, hrow5, hb5⟩; have HROW5 := Lib.hid hrow5; have HG5 := Lib.hid (HG4.out.drew.next_new hb5); have HB5 := Lib.hid (HB4.out.drew.below hb5 hml4); have hs5 : w4.heap.size ≤ w5.heap.size := hb5.size; clear hrow5 hb5)
      | (go_at_call 24; refine (outer_call HB5.out HROW5.out hd32 HTD.out).mono ?_; rintro e w6 ⟨A6, c6, rfl, hrow6, hb6⟩; have HROW6 := Lib.hid hrow6; have HG6 := Lib.hid ((HG5.out.alloc _).next_new hb6); have HB6 := Lib.hid (((HB5.out.alloc _).below hb6 (by simp; omega))); have hs6 : w5.heap.size + 1 ≤ w6.heap.size := (by have h := hb6.size; simp at h; exact h); clear hrow6 hb6))
  go_wp2_with fail
  go_ret
  exact ⟨A6, c6, rfl, HROW6.out.mono (by simp; omega), ⟨A, n, c, HROW.out.grew HG6.out (fun ad e => (HA.out ad e).2), HA.out, .inr HB6.out⟩, HG6.out⟩

theorem mk_new (x : Value) : Try.zeroCells85.setIfInBounds 0 x = (mk x 0 0 (zeros 64) (zeros 64)).toArray := by kernel_rfl
/-- A new maker, in new blocks. -/
def NewOut (key : List UInt8) (w : World) (e : Ending) (w' : World) : Prop :=
  ∃ mb, e = .returned (.pointer (some ⟨mb, 0, none⟩)) ∧ w.heap.size ≤ mb ∧ MakerAt w' mb (fun k => w.heap.size ≤ k) key ∧ Below w.heap.size w w'
set_option maxRecDepth 100000 in
set_option maxHeartbeats 4000000 in
theorem New_maker (key : List UInt8) (A : Option Addr) (n c B : Nat) (w : World) (hr : Reads w B 1 A n (bv key)) (hB : B ≤ w.heap.size) (hn : n ≤ 140737488351232) :
    Calls Try.prog 17 #[.slice A n c] w (NewOut key w) := by
  have hc := Lib.hid (bClone_any A n c B key w hr hB (by omega))
  clear hr
  go_enter Try.func17, Try.ntmps17
  go_wp2_with fail
  refine hc.out.mono ?_
  rintro e w1 ⟨A1, c1, rfl, hrow, hb1⟩
  have HROW := Lib.hid hrow
  have HB1 := Lib.hid hb1
  clear hrow hb1 hc
  go_wp2_with fail
  go_ret
  have hs1 := HB1.out.size
  refine ⟨w1.heap.size, rfl, hs1, ⟨A1, key.length, c1, (HROW.out.mono (Nat.zero_le _)).alloc _, fun ad e => ?_, .inl ?_⟩, HB1.out.alloc hs1 _⟩
  · have := HROW.out.lt ad e
    exact ⟨this.1, by omega⟩
  · rw [← mk_new]
    exact Blk.new w1 85 _

set_option maxHeartbeats 1000000 in
theorem Mac_any (key : List UInt8) (L : List (List UInt8)) (A : Option Addr) (n c B : Nat) (PA : Option Addr) (pc : Nat) (R : Nat → Prop) (w : World) (hr : Reads w B 1 A n (bv key)) (hB : B ≤ w.heap.size) (hn : n ≤ 140737488351232) (hp : Parts w R PA L) (hR : ∀ k, R k → k < w.heap.size)
    (hlen : L.length ≤ 140737488351232) (hsum : L.flatten.length ≤ 576460752303423488) :
    Calls Try.prog 18 #[.slice A n c, .slice PA L.length pc] w (RowOut (macB key L.flatten) w) := by
  have hkl : key.length = n := by have := hr.1; rw [length_bv] at this; omega
  have hc := Lib.hid (New_maker key A n c B w hr hB hn)
  generalize ht : macB key L.flatten = t
  have HT := Lib.hid ht
  have HP := Lib.hid hp
  have HR := Lib.hid hR
  have HKL := Lib.hid hkl
  clear hr ht hp hR hkl
  go_enter Try.func18, Try.ntmps18
  go_wp2_with fail
  refine hc.out.mono ?_
  rintro e w1 ⟨mb, rfl, hmb, hm, hb1⟩
  have HM := Lib.hid hm
  have HB1 := Lib.hid hb1
  have hs1 := hb1.size
  clear hm hb1 hc
  go_wp2_with fail
  have hm2 := MMac_any mb _ key L PA pc R w1 HM.out (by rw [HKL.out]; exact hn) (HP.out.keep fun k hk => HB1.out.block k (HR.out k hk)) (fun k hk => by have := HR.out k hk; omega) hlen hsum
  rw [HT.out] at hm2
  refine hm2.mono ?_
  rintro e w2 ⟨A2, c2, rfl, hrow, _, hg⟩
  have HROW := Lib.hid hrow
  have HG := Lib.hid hg
  clear hrow hg hm2
  go_wp2_with fail
  go_ret
  exact ⟨A2, c2, rfl, HROW.out.mono hs1, HB1.out.trans (HG.out.below hs1 fun k _ hk => by omega)⟩
end Go.Proofs.Ytbjlmodabiadfaa
