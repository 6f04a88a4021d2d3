/- THE WALK of (*sha.Hash).Write. -/
import Derived.Test.YtbjlmodabiadfaaHShaNew
import Derived.Deep.LoopGhost
namespace Go.Proofs.Ytbjlmodabiadfaa
open Go.RowKit

def hcells (s : Sha.St) (x y : Value) : Array Value := (s.vals ++ [x, y]).toArray
theorem hc8 (s : Sha.St) (x y : Value) : (hcells s x y)[8]? = some x := rfl
theorem hc9 (s : Sha.St) (x y : Value) : (hcells s x y)[9]? = some y := rfl
theorem hset8 (s : Sha.St) (x y z : Value) : (hcells s x y).setIfInBounds 8 z = hcells s z y := rfl
theorem hset9 (s : Sha.St) (x y z : Value) : (hcells s x y).setIfInBounds 9 z = hcells s x z := rfl

/-- Blocks of a digest's own. -/
def hashOwn (hb : Nat) (Y : Nat → Prop) (k : Nat) : Prop := k = hb ∨ Y k
/-- Behind j blocks of the text t. -/
def InRel (w : World) (hb kb : Nat) (Y : Nat → Prop) (s : Sha.St) (t : List UInt8) (cnt : Value) (g : Nat) (wr : World) : Prop :=
  ∃ (j : Nat) (A : Option Addr) (n c : Nat), g + j = t.length / 64 ∧ n + 64 * j = t.length ∧ Blk wr hb 109 (hcells (Sha.blocks s t j) (.slice A n c) cnt) ∧ Row wr 0 1 A n c (bv (t.drop (64 * j))) ∧
    (∀ ad, A = some ad → Y ad.block ∧ ad.block ≠ hb ∧ ad.block ≠ kb) ∧ Blk wr kb 110 KC ∧ Grew (hashOwn hb Y) w wr
/-- Behind k parts. -/
def OutRel (w : World) (hb kb : Nat) (Y : Nat → Prop) (l : List UInt8) (q : Nat) (L : List (List UInt8)) (g : Nat) (i : Value) (wr : World) : Prop :=
  ∃ (k : Nat) (A : Option Addr) (n c : Nat), g + k = L.length ∧ i = .int .i64 k ∧ n = (l ++ (L.take k).flatten).length % 64 ∧
    Blk wr hb 109 (hcells (Sha.run Sha.start (l ++ (L.take k).flatten)) (.slice A n c) (.int .i64 ((q + (L.take k).flatten.length : Nat) : Int))) ∧ Row wr 0 1 A n c (bv (Sha.left (l ++ (L.take k).flatten))) ∧
    (∀ ad, A = some ad → Y ad.block ∧ ad.block ≠ hb ∧ ad.block ≠ kb) ∧ Blk wr kb 110 KC ∧ Grew (hashOwn hb Y) w wr

theorem flat_step (l : List UInt8) (L : List (List UInt8)) (k : Nat) (h : k < L.length) : l ++ (L.take (k + 1)).flatten = (l ++ (L.take k).flatten) ++ L[k] := by
  rw [List.take_succ_eq_append_getElem h, List.flatten_append]; simp
theorem flat_len (L : List (List UInt8)) (k : Nat) (h : k < L.length) : (L.take k).flatten.length + L[k].length ≤ L.flatten.length := by
  have e : L.flatten = (L.take (k + 1)).flatten ++ (L.drop (k + 1)).flatten := by rw [← List.flatten_append, List.take_append_drop]
  rw [e, List.take_succ_eq_append_getElem h, List.flatten_append]
  simp only [List.length_append, List.flatten_cons, List.flatten_nil, List.append_nil]
  omega
theorem block_at (l : List UInt8) (j i : Nat) (h : 64 * j + i < l.length) (hi : i < 64) : ((l.drop (64 * j)).take 64)[i]? = some l[64 * j + i] := by
  rw [List.getElem?_take, if_pos hi, List.getElem?_drop, List.getElem?_eq_getElem h]

/-- Behind the count's store and the append. -/
theorem write_mid {w wr w2 : World} {hb kb n c : Nat} {Y : Nat → Prop} {A A2 : Option Addr} {s : Sha.St} {cnt cnt' : Value} (hgr : Grew (hashOwn hb Y) w wr) (hblk2 : Blk (wr.setCell ⟨hb, 9, none⟩ cnt') hb 109 (hcells s (.slice A n c) cnt))
    (hY : ∀ k, w.heap.size ≤ k → Y k) (hkc : Blk wr kb 110 KC) (hne : hb ≠ kb) (hak : ∀ ad, A = some ad → Y ad.block ∧ ad.block ≠ hb ∧ ad.block ≠ kb)
    (hgr3 : (wr.setCell ⟨hb, 9, none⟩ cnt').grownBy w2 (A.map (·.block))) (hat : A2 = A ∨ ∃ ad, A2 = some ad ∧ (wr.setCell ⟨hb, 9, none⟩ cnt').heap.size ≤ ad.block) :
    Grew (hashOwn hb Y) w w2 ∧ Blk w2 hb 109 (hcells s (.slice A n c) cnt) ∧ Blk w2 kb 110 KC ∧ (∀ ad, A2 = some ad → Y ad.block ∧ ad.block ≠ hb ∧ ad.block ≠ kb) := by
  have hm : ∀ k, A.map (·.block) = some k → Y k ∧ k ≠ hb ∧ k ≠ kb := fun k hk => by
    cases A with
    | none => cases hk
    | some ad => simp only [Option.map_some, Option.some.injEq] at hk; subst hk; exact hak ad rfl
  have hkl := hkc.lt
  have hbl : hb < wr.heap.size := by have := hblk2.lt; simpa [World.setCell] using this
  have hk2 : Blk (wr.setCell ⟨hb, 9, none⟩ cnt') kb 110 KC := hkc.far (Ne.symm hne) _
  refine ⟨(hgr.set (p := ⟨hb, 9, none⟩) (.inl (.inl rfl)) cnt').trans (Grew.of_grown hgr3 fun k hk _ => .inr (hm k hk).1), hblk2.grown hgr3 (fun e => (hm hb e.symm).2.1 rfl), hk2.grown hgr3 (fun e => (hm kb e.symm).2.2 rfl), fun ad e => ?_⟩
  rcases hat with rfl | ⟨ad', e', hle⟩
  · exact hak ad e
  · rw [e'] at e
    simp only [Option.some.injEq] at e
    subst e
    have h1 : (wr.setCell ⟨hb, 9, none⟩ cnt').heap.size = wr.heap.size := by simp [World.setCell]
    have h2 := hgr.size
    exact ⟨hY _ (by omega), by omega, by omega⟩
theorem write_start {w w2 : World} {hb kb n c N c3 : Nat} {Y : Nat → Prop} {A A2 : Option Addr} {s : Sha.St} {cnt : Value} {t : List UInt8} (hg : Grew (hashOwn hb Y) w w2) (hblk : Blk w2 hb 109 (hcells s (.slice A n c) cnt)) (hrow : Row w2 0 1 A2 N c3 (bv t)) (hne : hb ≠ kb)
    (hk : Blk w2 kb 110 KC) (hak : ∀ ad, A2 = some ad → Y ad.block ∧ ad.block ≠ hb ∧ ad.block ≠ kb) : InRel w hb kb Y s t cnt (t.length / 64) (w2.setCell ⟨hb, 8, none⟩ (.slice A2 N c3)) := by
  refine ⟨0, A2, N, c3, rfl, by have := hrow.1; rw [length_bv] at this; omega, hset8 s _ _ _ ▸ hblk.set 8 _, hrow.far (fun ad e => (hak ad e).2.1) _, hak, hk.far (Ne.symm hne) _, hg.set (.inl (.inl rfl)) _⟩
theorem write_block {w wr w3 : World} {hb kb n c j : Nat} {Y : Nat → Prop} {A A' : Option Addr} {s : Sha.St} {cnt : Value} {t : List UInt8} (hj : n + 64 * j = t.length) (h64 : 64 ≤ n) (hrow : Row wr 0 1 A n c (bv (t.drop (64 * j)))) (hak : ∀ ad, A = some ad → Y ad.block ∧ ad.block ≠ hb ∧ ad.block ≠ kb) (hk : Blk wr kb 110 KC) (hg : Grew (hashOwn hb Y) w wr)
    (hne : hb ≠ kb) (hb3 : Blk w3 hb 109 (hcells (Sha.block (Sha.blocks s t j) ((t.drop (64 * j)).take 64)) (.slice A n c) cnt)) (hg3 : wr.grownBy w3 (some hb)) (hA : A' = if c = 64 then A else A.map (·.add (64 * 1))) {g : Nat} (hgj : g + j = t.length / 64) :
    g - 1 < g ∧ InRel w hb kb Y s t cnt (g - 1) (w3.setCell ⟨hb, 8, none⟩ (.slice A' (n - 64) (c - 64))) := by
  have hrow3 : Row w3 0 1 A n c (bv (t.drop (64 * j))) := hrow.grown hg3 fun ad e => by have := (hak ad e).2.1; simp only [ne_eq, Option.some.injEq]; omega
  have hcut := hrow3.cut (k := 64) h64
  have hak' : ∀ ad, A' = some ad → Y ad.block ∧ ad.block ≠ hb ∧ ad.block ≠ kb := fun ad e => by
    rw [hA] at e
    split at e
    · exact hak ad e
    · cases A with
      | none => cases e
      | some a0 =>
        simp only [Option.map_some, Option.some.injEq] at e
        rw [← e, block_of_add]
        exact hak a0 rfl
  rw [← hA, Nat.mul_one, ← bv_drop, List.drop_drop, show 64 * j + 64 = 64 * (j + 1) by omega] at hcut
  exact ⟨by omega, j + 1, A', n - 64, c - 64, by omega, by omega, hset8 _ _ _ _ ▸ hb3.set 8 _, hcut.far (fun ad e => (hak' ad e).2.1) _, hak', (hk.grown hg3 (by simp; omega)).far (Ne.symm hne) _, (hg.trans (Grew.of_grown hg3 fun k hk _ => .inl (by simpa using hk.symm))).set (.inl (.inl rfl)) _⟩
/-- What does not fill a block is left. -/
theorem write_end {w wr : World} {hb kb n c j k q q' : Nat} {Y : Nat → Prop} {A : Option Addr} {l l' p : List UInt8} {L : List (List UInt8)} (hj : n + 64 * j = (Sha.left l' ++ p).length) (h64 : ¬ 64 ≤ n) (hblk : Blk wr hb 109 (hcells (Sha.blocks (Sha.run Sha.start l') (Sha.left l' ++ p) j) (.slice A n c) (.int .i64 ((q' : Int) + p.length))))
    (hrow : Row wr 0 1 A n c (bv ((Sha.left l' ++ p).drop (64 * j)))) (hak : ∀ ad, A = some ad → Y ad.block ∧ ad.block ≠ hb ∧ ad.block ≠ kb) (hk : Blk wr kb 110 KC) (hg : Grew (hashOwn hb Y) w wr) (hfs : l ++ (L.take (k + 1)).flatten = l' ++ p) (hcs : q + (L.take (k + 1)).flatten.length = q' + p.length) {g : Nat} (hgk : g + k = L.length) (hlt : k < L.length) :
    g - 1 < g ∧ OutRel w hb kb Y l q L (g - 1) (.int .i64 ((k : Int) + 1)) wr := by
  have hjj : j = (Sha.left l' ++ p).length / 64 := by omega
  have h1 : Sha.blocks (Sha.run Sha.start l') (Sha.left l' ++ p) j = Sha.run Sha.start (l' ++ p) := by rw [hjj]; exact Sha.run_append Sha.start l' p
  have h2 : (Sha.left l' ++ p).drop (64 * j) = Sha.left (l' ++ p) := by rw [hjj]; exact Sha.left_append l' p
  rw [h1] at hblk
  rw [h2] at hrow
  refine ⟨by omega, k + 1, A, n, c, by omega, by go_num, ?_, ?_, by rw [hfs]; exact hrow, hak, hk, hg⟩
  · rw [hfs]
    have := Sha.length_left (l' ++ p)
    have h3 := hrow.1
    rw [length_bv] at h3
    omega
  · rw [hfs, hcs]
    have e : ((q' + p.length : Nat) : Int) = (q' : Int) + p.length := by simp
    rw [e]
    exact hblk

set_option maxRecDepth 100000 in
set_option maxHeartbeats 4000000 in
theorem Write_any (hb : Nat) (X : Nat → Prop) (l : List UInt8) (L : List (List UInt8)) (PA : Option Addr) (pc : Nat) (R : Nat → Prop) (w : World) (q : Nat) (h : HashAt w hb X l q) (hp : Parts w R PA L) (hR : ∀ k, R k → k < w.heap.size ∧ k ≠ hb ∧ ¬ X k)
    (hlen : L.length ≤ 140737488351232) (hsum : q + L.flatten.length ≤ 4611686018427387904) :
    Calls Try.prog 50 #[.pointer (some ⟨hb, 0, none⟩), .slice PA L.length pc] w fun e w' => e = .returned (.tuple #[]) ∧ HashAt w' hb (fun k => X k ∨ w.heap.size ≤ k) (l ++ L.flatten) (q + L.flatten.length) ∧ Grew (fun k => k = hb ∨ X k) w w' := by
  have hbw := h.lt
  obtain ⟨A0, n0, c0, hblk0, hrow0, hn0, ha0⟩ := h
  generalize hYd : (fun k => X k ∨ w.heap.size ≤ k) = Y
  have hY : ∀ k, w.heap.size ≤ k → Y k := fun k hk => by rw [← hYd]; exact .inr hk
  have hXY : ∀ k, X k → Y k := fun k hk => by rw [← hYd]; exact .inl hk
  have hYX : ∀ k, k < w.heap.size → Y k → X k := fun k hk h => by rw [← hYd] at h; rcases h with h | h; exact h; omega
  have HY := Lib.hid hY
  have HXY := Lib.hid hXY
  have HYX := Lib.hid hYX
  clear hY hXY hYX hYd
  go_enter Try.func50, Try.ntmps50
  go_wp2_with fail
  refine (words_walk _).mono ?_
  rintro e w1 ⟨rfl, hb1⟩
  go_wp2_with (refine wpList_plain rfl fun K hK => ?_; refine wp_store_row 110 _ _ rfl w1.heap.size KC rfl rfl 110 _ (heap_alloc_new w1 _) (by rw [KC_size]; kernel_rfl) (by rw [KC_size]; simp) KC_one (hK _ _ ?_); clear hK K)
  have hgk : Grew (hashOwn hb Y) w ((w1.alloc (.cells (Array.replicate 64 (.int .u32 0)) 110)).setRow w1.heap.size KC) :=
    Grew.of_new (below_setRow (hb1.alloc hb1.size _) hb1.size _)
  have hkc : Blk ((w1.alloc (.cells (Array.replicate 64 (.int .u32 0)) 110)).setRow w1.heap.size KC) w1.heap.size 110 KC := setRow_heap _ _ _ _ _ _ (heap_alloc_new w1 _)
  have hsz : w.heap.size ≤ w1.heap.size := hb1.size
  have hbB : Blk ((w1.alloc (.cells (Array.replicate 64 (.int .u32 0)) 110)).setRow w1.heap.size KC) hb 109 (hcells (Sha.run Sha.start l) (.slice A0 n0 c0) (.int .i64 (q : Int))) :=
    hblk0.below (below_setRow (hb1.alloc hb1.size _) hb1.size _) hbw
  have hrB : Row ((w1.alloc (.cells (Array.replicate 64 (.int .u32 0)) 110)).setRow w1.heap.size KC) 0 1 A0 n0 c0 (bv (Sha.left l)) :=
    hrow0.below (below_setRow (hb1.alloc hb1.size _) hb1.size _) (Nat.le_refl _)
  have hst : OutRel w hb w1.heap.size Y l q L L.length (.int .i64 0) ((w1.alloc (.cells (Array.replicate 64 (.int .u32 0)) 110)).setRow w1.heap.size KC) :=
    ⟨0, A0, n0, c0, rfl, rfl, by simpa using hn0, by simpa using hbB, by simpa using hrB, fun ad e => ⟨HXY.out _ (ha0 ad e).1, (ha0 ad e).2, by have := (hrow0.lt ad e).2; omega⟩, hkc, hgk⟩
  have HST := Lib.hid hst
  clear hst hrB hbB hkc hgk hblk0 hrow0 hn0 hb1 ha0
  go_loopg [10] L.length (fun g i wr => OutRel w hb w1.heap.size Y l q L g i wr)
  case atStart => exact HST.out
  case round =>
    clear HST
    obtain ⟨g1, rfl⟩ : ∃ g1, g1 = gk := ⟨_, rfl⟩
    obtain ⟨k, A, n, c, hgk, rfl, hn, hblk, hrow, hak, hkc, hgr⟩ := hrel
    by_cases hlt : k < L.length
    · have hp2 := hp.grew hgr (fun k hk => ⟨(hR k hk).1, fun hh => hh.elim (hR k hk).2.1 fun hh => (hR k hk).2.2 (HYX.out k (hR k hk).1 hh)⟩)
      obtain ⟨pb, po, hPA, hpR, hpc⟩ := hp2 (by omega)
      obtain ⟨v, hv, hpart⟩ := hpc k hlt
      obtain ⟨PA2, m, c2, rfl, hml, hmc, hm47, hread⟩ := hpart.reads (B := w.heap.size) (fun k hk => (hR k hk).1)
      have hsum' : q + (L.take k).flatten.length + m ≤ 4611686018427387904 := by have := flat_len L k hlt; omega
      have hcs0 : q + (L.take (k + 1)).flatten.length = q + (L.take k).flatten.length + L[k].length := by rw [List.take_succ_eq_append_getElem hlt, List.flatten_append]; simp; omega
      have HFS := Lib.hid (flat_step l L k hlt)
      have HCS := Lib.hid hcs0
      clear hcs0
      generalize q + (L.take k).flatten.length = q' at hblk hsum' HCS
      generalize l ++ (L.take k).flatten = l' at hn hblk hrow HFS
      generalize hLk : L[k] = p at hml hread HFS HCS hpart
      have HML := Lib.hid hml
      have HN := Lib.hid hn
      have hn64 : n < 64 := by omega
      have hlc : (q' : Int) + m ≤ 4611686018427387904 := by omega
      have g8 := (hblk.cell 8).trans (hc8 _ _ _)
      have g9 := (hblk.cell 9).trans (hc9 _ _ _)
      have f8 := hblk.frozen 8
      have f9 := hblk.frozen 9
      have hne : hb ≠ w1.heap.size := by omega
      have hbr1 := hblk.lt
      -- behind the count's store
      have hblk2 := hblk.set 9 (.int .i64 ((q' : Int) + m))
      rw [hset9] at hblk2
      have hrow2 := hrow.far (p := ⟨hb, 9, none⟩) (fun ad e => (hak ad e).2.1) (.int .i64 ((q' : Int) + m))
      obtain ⟨_, _, _, hread2⟩ := (hpart.keep (w' := wr.setCell ⟨hb, 9, none⟩ (.int .i64 ((q' : Int) + m))) (fun k hk => Below.heap_setCell wr _ _ k (hR k hk).2.1)).its (B := w.heap.size) (fun k hk => (hR k hk).1)
      obtain ⟨i0, hi, hz0, hz1, hz2⟩ := info_parts byte_info
      have HP := Lib.hid hp
      have HHR := Lib.hid hR
      have HPC := Lib.hid hpc
      have HPA := Lib.hid hPA
      have HNE := Lib.hid hne
      have HAK := Lib.hid hak
      have HROW2 := Lib.hid hrow2
      have HBLK2 := Lib.hid hblk2
      have HKC := Lib.hid hkc
      have HGR := Lib.hid hgr
      have HLK := Lib.hid hLk
      have HREAD2 := Lib.hid hread2
      have HGK := Lib.hid hgk
      clear hp hp2 hR hpc hak hrow hrow2 hblk hblk2 hkc hgr hLk hread hread2 hpart hml hn hsum' hgk hne
      subst hPA
      go_wp2_with (at_builtin; refine wpList_append_row rfl (.tmp 27) (.tmp 28) rfl Try.underlying22 hi hz0 hz1 hz2 rfl (by decide) rfl HROW2.out rfl HREAD2.out (bv_one p) (by unfold maxLen; omega) (by omega) (Nat.zero_le _) ?_; intro A2 c3 w2 hrow3 hgr3 hat3; obtain ⟨hg4, hb4, hk4, ha4⟩ := write_mid HGR.out HBLK2.out HY.out HKC.out HNE.out HAK.out hgr3 hat3; have g8' := (hb4.cell 8).trans (hc8 _ _ _); have f8' := hb4.frozen 8; have HIN := Lib.hid (write_start hg4 hb4 (bv_append _ _ ▸ hrow3) HNE.out hk4 ha4); clear hg4 hb4 hk4 ha4 hrow3 hgr3 hat3)
      clear g8 g9 f8 f9 g8' f8' HBLK2 HROW2 HREAD2 HKC HGR HAK
      go_loopg [] ((Sha.left l' ++ p).length / 64) (fun g wr => InRel w hb w1.heap.size Y (Sha.run Sha.start l') (Sha.left l' ++ p) (.int .i64 ((q' : Int) + m)) g wr)
      case atStart => exact HIN.out
      case round =>
        clear HIN
        obtain ⟨j, A4, n4, c4, hgj, hj, hblk, hrow, hak, hkc, hgr⟩ := hrel
        have hb1 := hblk.lt
        have g8 := (hblk.cell 8).trans (hc8 _ _ _)
        have f8 := hblk.frozen 8
        have hn4c := hrow.2.1
        have hc4m := hrow.2.2.1
        have hc4m' : c4 ≤ 9223372036854775807 := hc4m
        by_cases h64 : 64 ≤ n4
        · obtain ⟨g, o, rfl⟩ : ∃ g o, A4 = some ⟨g, o, none⟩ := by
            cases A4 with
            | none => have := hrow.2.2.2.1 rfl; omega
            | some ad => obtain ⟨g, o, rfl, _⟩ := hrow.2.2.2.2 _ rfl; exact ⟨g, o, rfl⟩
          have hll : ((Sha.left l' ++ p).drop (64 * j)).length = n4 := by rw [List.length_drop]; omega
          have hl64 : (((Sha.left l' ++ p).drop (64 * j)).take 64).length = 64 := by rw [List.length_take, hll]; omega
          have HL64 := Lib.hid hl64
          have HBY : Hid (∀ i (h : i < 64), wr.cell? ⟨g, o + i, none⟩ = some (.int .u8 (((((Sha.left l' ++ p).drop (64 * j)).take 64)[i]'(Nat.lt_of_lt_of_eq h HL64.out.symm)).toNat : Int))) := Lib.hid fun i h => by
            rw [List.getElem_take]
            exact hrow.cell (bv_at _ i (by omega))
          have HKB : Hid (∀ i, i < 64 → wr.cell? ⟨w1.heap.size, i, none⟩ = some (uv (Sha.K.getD i 0))) := Lib.hid fun i h => (hkc.cell i).trans (KC_at i h)
          have hkl := hkc.lt
          have hgl := hrow.at_.2.1
          have HGJ := Lib.hid hgj
          have HJ := Lib.hid hj
          have HBLK := Lib.hid hblk
          have HROW := Lib.hid hrow
          have HAK := Lib.hid hak
          have HKC := Lib.hid hkc
          have HGR := Lib.hid hgr
          clear hgj hj hblk hrow hak hkc hgr hc4m hll hl64
          go_wp2_with fail
          go_still_tail 7, (by kernel_rfl)
          go_wp2_with fail
          refine (block_any hb w1.heap.size g o n4 c4 _ _ [.slice (some ⟨g, o, none⟩) n4 c4, .int .i64 ((q' : Int) + m)] 109 wr.drew h64 hn4c hc4m' HL64.out HBLK.out HKB.out hkl HBY.out hgl (Sha.blocks_ok (Sha.run_ok Sha.start_ok _) _ _)).mono ?_
          rintro e w3 ⟨rfl, hb3, hg3⟩
          have g8' := (hb3.cell 8).trans (hc8 _ _ _)
          have f8' := hb3.frozen 8
          have HEND := fun A' hA => Lib.hid (write_block (A' := A') HJ.out h64 HROW.out HAK.out HKC.out HGR.out HNE.out hb3 ⟨hg3.os, hg3.tape, hg3.output, hg3.size, hg3.block⟩ hA HGJ.out)
          have HEND2 := Lib.hid HEND
          clear HEND hb3 hg3 g8 f8 hkl hgl
          go_wp2_with fail
          all_goals go_roundg (gk - 1)
          all_goals first | exact (HEND2.out _ rfl).out.1 | exact (HEND2.out _ (by rw [if_neg (by assumption), Option.map_some, add_plain])).out.2 | (have hx := (HEND2.out (some ⟨g, o, none⟩) (by rw [if_pos (by omega)])).out.2; rw [show c4 - 64 = 0 by omega] at hx; exact hx)
        · have hml := HML.out
          have HOUT := Lib.hid (write_end hj h64 (by rw [hml]; exact hblk) hrow hak hkc hgr HFS.out HCS.out HGK.out hlt)
          clear hgj hj hblk hrow hak hkc hgr hml
          go_wp2_with fail
          go_roundg (g1 - 1)
          case measure => exact HOUT.out.1
          case rel => exact HOUT.out.2
    · obtain rfl : k = L.length := by omega
      rw [List.take_length] at hblk hrow hn
      have hb1 := hblk.lt
      have g8 := (hblk.cell 8).trans (hc8 _ _ _)
      have f8 := hblk.frozen 8
      have hgsz := hgr.size
      have HBLK := Lib.hid hblk
      have HROW := Lib.hid hrow
      have HGR := Lib.hid hgr
      have HN := Lib.hid hn
      have hn64 : n < 64 := by omega
      clear hblk hrow hgr hgk hn hak hkc
      go_wp2_with fail
      refine (sClone_any A n c _ _ _ HROW.out.reads (Nat.le_refl _) (by omega)).mono ?_
      rintro e w3 ⟨A3, c3, rfl, hrow3, hb3⟩
      have hblk3 := HBLK.out.below hb3 hb1
      have g8' := (hblk3.cell 8).trans (hc8 _ _ _)
      have f8' := hblk3.frozen 8
      have HBLK3 := Lib.hid hblk3
      have HROW3 := Lib.hid hrow3
      clear hblk3 hrow3 g8 f8
      go_wp2_with fail
      go_end0
      refine ⟨rfl, ⟨A3, _, c3, HBLK3.out.set 8 _, (HROW3.out.mono (Nat.zero_le _)).far (fun ad e => by have := (HROW3.out.lt ad e).1; show ad.block ≠ hb; omega) _, ?_, fun ad e => ?_⟩, ((HGR.out.trans (Grew.of_new hb3)).set (.inl (.inl rfl)) _).mono fun k hk h => h.imp id (HYX.out k hk)⟩
      · have := Sha.length_left (l ++ L.flatten)
        omega
      · have h1 := (HROW3.out.lt ad e).1
        exact ⟨HY.out _ (by omega), by omega⟩
end Go.Proofs.Ytbjlmodabiadfaa
