/- THE WALK of aes's expand: the round keys. -/
import Derived.Test.YtiijjpjkfiookaaDoorAes2
import Derived.Deep.RegionHeld3
import Derived.Outline
import Derived.Deep.CutBlock
namespace Go.Proofs.YtiijjpjkfiookaaDoor
open Go.RowKit

def topW (key : List UInt8) (k : Nat) : List UInt8 := ((kexp key k).drop (4 * (key.length / 4 + k) - 4)).take 4
def oldW (key : List UInt8) (k : Nat) : List UInt8 := ((kexp key k).drop (4 * k)).take 4
def nxtW (key : List UInt8) (k : Nat) : List UInt8 := xorL (tword (key.length / 4) (key.length / 4 + k) (topW key k)) (oldW key k)
theorem kexp_succ (key : List UInt8) (k : Nat) : kexp key (k + 1) = kexp key k ++ nxtW key k := rfl
theorem length_topW {key : List UInt8} (h : key.length = 16 ∨ key.length = 32) (k : Nat) : (topW key k).length = 4 := by
  unfold topW; rw [List.length_take, List.length_drop, length_kexp key h]; omega
theorem length_oldW {key : List UInt8} (h : key.length = 16 ∨ key.length = 32) (k : Nat) : (oldW key k).length = 4 := by
  unfold oldW; rw [List.length_take, List.length_drop, length_kexp key h]; omega
theorem length_nxtW {key : List UInt8} (h : key.length = 16 ∨ key.length = 32) (k : Nat) : (nxtW key k).length = 4 := by
  unfold nxtW; rw [length_xorL, length_tword _ _ (length_topW h k), length_oldW h]; rfl
/-- What expand has in memory when k words and r bytes have been made. -/
def ExpAt (w wx : World) (kb : Nat) (T : TypeId) (raw : Value) (y key : List UInt8) (k r : Nat) (A : Option Addr) (c : Nat) : Prop :=
  Row wx w.heap.size 1 A (4 * (key.length / 4 + k) + r) c (bv (kexp key k ++ (nxtW key k).take r)) ∧ Blk wx kb T (ak raw 0 1 sbL y (.slice none 0 0)).toArray ∧ Grew (· = kb) w wx ∧ kb < w.heap.size
theorem ExpAt.alloc {w wx : World} {kb : Nat} {T : TypeId} {raw : Value} {y key : List UInt8} {k r : Nat} {A : Option Addr} {c : Nat} (h : ExpAt w wx kb T raw y key k r A c) (o : Obj) : ExpAt w (wx.alloc o) kb T raw y key k r A c :=
  ⟨h.1.alloc o, h.2.1.alloc o, h.2.2.1.alloc o, h.2.2.2⟩
theorem ExpAt.drewN {w wx : World} {kb : Nat} {T : TypeId} {raw : Value} {y key : List UInt8} {k r : Nat} {A : Option Addr} {c : Nat} (h : ExpAt w wx kb T raw y key k r A c) (n : Nat) : ExpAt w (wx.drewN n) kb T raw y key k r A c :=
  ⟨h.1.drewN n, h.2.1.drewN n, h.2.2.1.drewN n, h.2.2.2⟩
theorem ExpAt.far {w wx : World} {kb : Nat} {T : TypeId} {raw : Value} {y key : List UInt8} {k r : Nat} {A : Option Addr} {c : Nat} (h : ExpAt w wx kb T raw y key k r A c) {p : Addr} (hp : w.heap.size ≤ p.block) (hA : ∀ ad, A = some ad → ad.block ≠ p.block) (u : Value) : ExpAt w (wx.setCell p u) kb T raw y key k r A c :=
  ⟨h.1.far hA u, h.2.1.far (by have := h.2.2.2; omega) u, h.2.2.1.set (p := p) (.inr hp) u, h.2.2.2⟩
/-- Ahead of word k. -/
def ExpRel (w : World) (kb : Nat) (T : TypeId) (raw : Value) (y key : List UInt8) (g : Nat) (s3 s4 s5 : Value) (wr : World) : Prop :=
  ∃ (k : Nat) (A : Option Addr) (c : Nat), k ≤ 3 * (key.length / 4) + 28 ∧ g = 3 * (key.length / 4) + 28 - k ∧ s3 = .slice A (4 * (key.length / 4 + k)) c ∧ s4 = .int .u8 ((rcG ((k + key.length / 4 - 1) / (key.length / 4))).toNat : Int) ∧ s5 = .int .i64 (key.length / 4 + k : Nat) ∧ ExpAt w wr kb T raw y key k 0 A c
/-- Behind the word's map. -/
def WordRel (w : World) (kb tb : Nat) (T : TypeId) (raw : Value) (y key : List UInt8) (k : Nat) (A : Option Addr) (c : Nat) (s4 : Value) (wx : World) : Prop :=
  s4 = .int .u8 ((rcG ((k + 1 + key.length / 4 - 1) / (key.length / 4))).toNat : Int) ∧ ExpAt w wx kb T raw y key k 0 A c ∧ Bk wx tb 115 (tword (key.length / 4) (key.length / 4 + k) (topW key k)) ∧ (∀ ad, A = some ad → ad.block ≠ tb) ∧ w.heap.size ≤ tb
/-- Behind r bytes mapped. -/
def MapRel (w : World) (kb tb : Nat) (T : TypeId) (raw : Value) (y key : List UInt8) (k : Nat) (A : Option Addr) (c : Nat) (i : Value) (gg : Nat) (wx : World) : Prop :=
  ∃ r : Nat, r ≤ 4 ∧ gg = 4 - r ∧ i = .int .i64 r ∧ ExpAt w wx kb T raw y key k 0 A c ∧ Bk wx tb 115 (setsTo (fun j => sb ((topW key k).getD j 0)) (topW key k) r)
theorem MapRel.drew {w wx : World} {kb tb : Nat} {T : TypeId} {raw : Value} {y key : List UInt8} {k : Nat} {A : Option Addr} {c : Nat} {i : Value} {gg : Nat} (h : MapRel w kb tb T raw y key k A c i gg wx) : MapRel w kb tb T raw y key k A c i gg wx.drew := by
  obtain ⟨r, h1, h2, h3, h4, h5⟩ := h
  exact ⟨r, h1, h2, h3, h4.drewN 1, h5.drew⟩
/-- Behind r bytes appended. -/
def AppRel (w : World) (kb tb : Nat) (T : TypeId) (raw : Value) (y key : List UInt8) (k : Nat) (s3 i : Value) (gg : Nat) (wx : World) : Prop :=
  ∃ (r : Nat) (A : Option Addr) (c : Nat), r ≤ 4 ∧ gg = 4 - r ∧ s3 = .slice A (4 * (key.length / 4 + k) + r) c ∧ i = .int .i64 r ∧ ExpAt w wx kb T raw y key k r A c ∧ Bk wx tb 115 (tword (key.length / 4) (key.length / 4 + k) (topW key k)) ∧ ∀ ad, A = some ad → ad.block ≠ tb
/-- Where only one block has grown. -/
theorem Grew.then_ {S T : Nat → Prop} {w w1 w2 : World} (h : Grew S w w1) (k : Grew T w1 w2) (hT : ∀ k, k < w.heap.size → T k → S k) : Grew S w w2 :=
  ⟨k.os.trans h.os, k.tape.trans h.tape, k.output.trans h.output, Nat.le_trans h.size k.size, fun j hj hs => (k.block j (Nat.lt_of_lt_of_le hj h.size) fun ht => hs (hT j hj ht)).trans (h.block j hj hs)⟩
theorem app_step {w wr w2 : World} {kb tb g3 o3 k r c3 c2 : Nat} {T : TypeId} {raw : Value} {y key : List UInt8} {z : UInt8} {A2 : Option Addr} {o : Obj} (he : ExpAt w wr kb T raw y key k r (some ⟨g3, o3, none⟩) c3) (hbk : Bk wr tb 115 (tword (key.length / 4) (key.length / 4 + k) (topW key k)))
    (hne : g3 ≠ tb) (hr4 : r < 4) (hx : (nxtW key k)[r]? = some z) (htx : tb < wr.heap.size) (hrow2 : Row w2 w.heap.size 1 A2 (4 * (key.length / 4 + k) + r + 1) c2 (bv (kexp key k ++ (nxtW key k).take r) ++ [u8v z]))
    (hgr2 : (wr.alloc o).drew.grownBy w2 (some g3)) (hat2 : A2 = some ⟨g3, o3, none⟩ ∨ ∃ ad, A2 = some ad ∧ (wr.alloc o).drew.heap.size ≤ ad.block) :
    AppRel w kb tb T raw y key k (.slice A2 (4 * (key.length / 4 + k) + r + 1) c2) (.int .i64 ((r : Int) + 1)) (3 - r) w2 := by
  obtain ⟨h1, h2, h3, h4⟩ := he
  have hg3 := h1.at_.1
  have hl : (wr.alloc o).drew.heap.size = wr.heap.size + 1 := by show (wr.alloc o).heap.size = _; simp
  refine ⟨r + 1, A2, c2, by omega, by omega, rfl, by go_num, ⟨?_, ?_, ?_, h4⟩, ?_, ?_⟩
  · have e : (nxtW key k).take (r + 1) = (nxtW key k).take r ++ [z] := by
      rw [List.take_add_one, hx]; rfl
    rw [e, ← List.append_assoc, bv_append]
    exact hrow2
  · exact ((h2.alloc o).drew).grown hgr2 (by intro e; injection e with e; omega)
  · exact ((h3.alloc o).drew).then_ (Grew.of_grown (S := (· = g3)) hgr2 (fun j hj _ => by injection hj with hj; exact hj.symm)) (fun j hj e => by omega)
  · exact ((hbk.alloc o).drew).grown hgr2 (by intro e; injection e with e; exact hne e.symm)
  · intro ad e
    rcases hat2 with rfl | ⟨ad2, h, h5⟩
    · cases e; exact hne
    · rw [e] at h; cases h; omega
theorem exp_next {w wx : World} {kb : Nat} {T : TypeId} {raw : Value} {y key : List UInt8} {k : Nat} {A : Option Addr} {c : Nat} (hk : key.length = 16 ∨ key.length = 32) (h : ExpAt w wx kb T raw y key k 4 A c) : ExpAt w wx kb T raw y key (k + 1) 0 A c := by
  obtain ⟨h1, h2⟩ := h
  refine ⟨?_, h2⟩
  rw [List.take_zero, List.append_nil, kexp_succ, show 4 * (key.length / 4 + (k + 1)) + 0 = 4 * (key.length / 4 + k) + 4 by omega]
  rwa [List.take_of_length_le (by rw [length_nxtW hk]; exact Nat.le_refl _)] at h1
/-- Behind q round keys. -/
def RndRel (w : World) (kb : Nat) (T : TypeId) (raw : Value) (y key : List UInt8) (A : Option Addr) (c : Nat) (s9 : Value) (gg : Nat) (wx : World) : Prop :=
  ∃ (q : Nat) (A2 : Option Addr) (c2 : Nat), q ≤ key.length / 4 + 7 ∧ gg = key.length / 4 + 7 - q ∧ s9 = .int .i64 (16 * q : Nat) ∧ Blk wx kb T (ak raw 0 1 sbL y (.slice A2 q c2)).toArray ∧
    Row wx w.heap.size 16 A2 q c2 (bv ((kexp key (3 * (key.length / 4) + 28)).take (16 * q))) ∧ (∀ ad, A2 = some ad → ∀ ad', A = some ad' → ad.block ≠ ad'.block) ∧
    Row wx w.heap.size 1 A (4 * (key.length / 4 + (3 * (key.length / 4) + 28)) + 0) c (bv (kexp key (3 * (key.length / 4) + 28))) ∧ Grew (· = kb) w wx ∧ kb < w.heap.size
theorem sixteen_of {l : List UInt8} (h : l.length = 16) : ∃ x0 x1 x2 x3 x4 x5 x6 x7 x8 x9 x10 x11 x12 x13 x14 x15, l = [x0, x1, x2, x3, x4, x5, x6, x7, x8, x9, x10, x11, x12, x13, x14, x15] := by
  match l, h with
  | [x0, x1, x2, x3, x4, x5, x6, x7, x8, x9, x10, x11, x12, x13, x14, x15], _ => exact ⟨x0, x1, x2, x3, x4, x5, x6, x7, x8, x9, x10, x11, x12, x13, x14, x15, rfl⟩
theorem block_info3 : (Tryd.prog.info? 108).map (fun i => (i.zero, i.size, i.bytes)) = some (some (.agg #[.int .u8 0, .int .u8 0, .int .u8 0, .int .u8 0, .int .u8 0, .int .u8 0, .int .u8 0, .int .u8 0, .int .u8 0, .int .u8 0, .int .u8 0, .int .u8 0, .int .u8 0, .int .u8 0, .int .u8 0, .int .u8 0]), 16, 16) := by kernel_rfl
theorem block_zero : (Value.agg #[.int .u8 0, .int .u8 0, .int .u8 0, .int .u8 0, .int .u8 0, .int .u8 0, .int .u8 0, .int .u8 0, .int .u8 0, .int .u8 0, .int .u8 0, .int .u8 0, .int .u8 0, .int .u8 0, .int .u8 0, .int .u8 0]).cells.size = 16 := by kernel_rfl
theorem rnd_cell {w wr w4 : World} {kb q c2 : Nat} {A2 : Option Addr} {xs : List Value} {o : Obj} {v : Value} (hk : kb < w.heap.size) (hw : w.heap.size ≤ wr.heap.size) (hr : Row wr w.heap.size 16 A2 q c2 xs) (hg : (wr.alloc o).drew.grownBy w4 (A2.map (·.block))) (h : wr.cell? ⟨kb, 516, none⟩ = some v) : w4.cell? ⟨kb, 516, none⟩ = some v := by
  have h1 : (wr.alloc o).drew.cell? ⟨kb, 516, none⟩ = wr.cell? ⟨kb, 516, none⟩ := World.cell?_alloc_lt wr o ⟨kb, 516, none⟩ (by show kb < _; omega)
  rw [← h, ← h1]
  refine World.cell?_of_block (a := ⟨kb, 516, none⟩) (hg.block kb (by show kb < (wr.alloc o).heap.size; simp; omega) fun e => ?_)
  cases A2 with
  | none => cases e
  | some ad => have := (hr.lt ad rfl).1; have e2 : kb = ad.block := Option.some.inj e; omega
theorem rnd_free {w wr w4 : World} {kb q c2 : Nat} {A2 : Option Addr} {xs : List Value} {o : Obj} (hk : kb < w.heap.size) (hw : w.heap.size ≤ wr.heap.size) (hr : Row wr w.heap.size 16 A2 q c2 xs) (hg : (wr.alloc o).drew.grownBy w4 (A2.map (·.block))) (h : wr.frozen? ⟨kb, 516, none⟩ = false) : w4.frozen? ⟨kb, 516, none⟩ = false := by
  have e1 : w4.heap[kb]? = wr.heap[kb]? := (hg.block kb (by show kb < (wr.alloc o).heap.size; simp; omega) (fun e => by
    cases A2 with
    | none => cases e
    | some ad => have := (hr.lt ad rfl).1; have e2 : kb = ad.block := Option.some.inj e; omega)).trans (Below.heap_alloc wr o kb (by omega))
  rw [← h]
  exact World.frozen?_of_block (a := ⟨kb, 516, none⟩) e1
theorem rnd_step {w wr w4 : World} {kb q c2 c c4 g o : Nat} {T : TypeId} {raw : Value} {y key xl : List UInt8} {A2 A4 : Option Addr} {ob : Obj} (hy : y.length = 256) (hbk : Blk wr kb T (ak raw 0 1 sbL y (.slice A2 q c2)).toArray)
    (hrw : Row wr w.heap.size 16 A2 q c2 (bv ((kexp key (3 * (key.length / 4) + 28)).take (16 * q)))) (hne : ∀ ad, A2 = some ad → ∀ ad', some (⟨g, o, none⟩ : Addr) = some ad' → ad.block ≠ ad'.block) (hrow : Row wr w.heap.size 1 (some ⟨g, o, none⟩) (4 * (key.length / 4 + (3 * (key.length / 4) + 28)) + 0) c (bv (kexp key (3 * (key.length / 4) + 28))))
    (hgw : Grew (· = kb) w wr) (hkw : kb < w.heap.size) (hxs : ((kexp key (3 * (key.length / 4) + 28)).drop (16 * q)).take 16 = xl) (hq : q < key.length / 4 + 7) (hrow4 : Row w4 w.heap.size 16 A4 (q + 1) c4 (bv ((kexp key (3 * (key.length / 4) + 28)).take (16 * q)) ++ bv xl))
    (hgr4 : (wr.alloc ob).drew.grownBy w4 (A2.map (·.block))) (hat4 : A4 = A2 ∨ ∃ ad, A4 = some ad ∧ (wr.alloc ob).drew.heap.size ≤ ad.block) :
    RndRel w kb T raw y key (some ⟨g, o, none⟩) c (.int .i64 (16 * (q + 1) : Nat)) (key.length / 4 + 7 - (q + 1)) (w4.setCell ⟨kb, 516, none⟩ (.slice A4 (q + 1) c4)) := by
  have hl : (wr.alloc ob).drew.heap.size = wr.heap.size + 1 := by show (wr.alloc ob).heap.size = _; simp
  have hgs := hgw.size
  have hg := hrow.at_
  have hA2 : ∀ k, k < w.heap.size → some k ≠ A2.map (·.block) := fun k hk e => by
    cases A2 with
    | none => cases e
    | some ad => have := (hrw.lt ad rfl).1; have e2 : k = ad.block := Option.some.inj e; omega
  refine ⟨q + 1, A4, c4, by omega, rfl, rfl, ?_, ?_, ?_, ?_, ?_, hkw⟩
  · have h1 := (((hbk.alloc ob).drew).grown hgr4 (hA2 _ hkw)).set 516 (.slice A4 (q + 1) c4)
    rwa [ak_setr _ _ _ _ _ _ _ length_sbL hy] at h1
  · have e : (kexp key (3 * (key.length / 4) + 28)).take (16 * (q + 1)) = (kexp key (3 * (key.length / 4) + 28)).take (16 * q) ++ xl := by
      rw [← hxs, show 16 * (q + 1) = 16 * q + 16 by omega, List.take_add]
    rw [e, bv_append]
    exact hrow4.far (p := ⟨kb, 516, none⟩) (fun ad e => by have := (hrow4.lt ad e).1; show ad.block ≠ kb; omega) _
  · intro ad e ad' e'
    cases e'
    rcases hat4 with h | ⟨ad2, h, h5⟩
    · rw [h] at e; exact hne ad e ⟨g, o, none⟩ rfl
    · rw [e] at h; cases h; show ad.block ≠ g; omega
  · have h1 := ((hrow.alloc ob).drew).grown hgr4 (fun ad e => by
      cases e
      intro e2
      cases A2 with
      | none => cases e2
      | some a2 => exact hne a2 rfl ⟨g, o, none⟩ rfl (Option.some.inj e2).symm)
    exact h1.far (p := ⟨kb, 516, none⟩) (fun ad e => by cases e; show g ≠ kb; omega) _
  · have h9 : Grew (· = kb) w w4 := ((hgw.alloc ob).drew).then_ (Grew.of_grown (S := fun k => w.heap.size ≤ k) hgr4 fun k hk _ => by
      cases A2 with
      | none => cases hk
      | some ad => have := (hrw.lt ad rfl).1; have e2 : ad.block = k := Option.some.inj hk; show w.heap.size ≤ k; omega) fun k hk h => by
        have h2 : w.heap.size ≤ k := h
        omega
    exact h9.set (p := ⟨kb, 516, none⟩) (.inl rfl) _
theorem quad_of {l : List UInt8} (h : l.length = 4) : ∃ a b c d, l = [a, b, c, d] := by
  match l, h with
  | [a, b, c, d], _ => exact ⟨a, b, c, d, rfl⟩
theorem word_a {n k : Nat} {a b c d : UInt8} (h48 : n = 4 ∨ n = 8) (h : (n + k) % n = 0) :
    tword n (n + k) [a, b, c, d] = [sb b ^^^ rcG ((k + n - 1) / n), sb c, sb d, sb a] ∧ (k + 1 + n - 1) / n = (k + n - 1) / n + 1 := by
  refine ⟨?_, by rcases h48 with rfl | rfl <;> omega⟩
  unfold tword
  rw [if_pos h, show (n + k) / n - 1 = (k + n - 1) / n by rcases h48 with rfl | rfl <;> omega]
  rfl
theorem word_b {n k : Nat} {l : List UInt8} (h8 : n = 8) (h : (n + k) % n = 4) : tword n (n + k) l = l.map sb ∧ (k + 1 + n - 1) / n = (k + n - 1) / n := by
  subst h8
  refine ⟨?_, by omega⟩
  unfold tword
  rw [if_neg (by omega), if_pos ⟨rfl, h⟩]
theorem word_c {n k : Nat} {l : List UInt8} (h48 : n = 4 ∨ n = 8) (h : ¬ (n + k) % n = 0) (h2 : ¬ (n = 8 ∧ (n + k) % n = 4)) : tword n (n + k) l = l ∧ (k + 1 + n - 1) / n = (k + n - 1) / n := by
  refine ⟨?_, by rcases h48 with rfl | rfl <;> omega⟩
  unfold tword
  rw [if_neg h, if_neg h2]
set_option maxRecDepth 100000 in
set_option maxHeartbeats 8000000 in
theorem expand_any (kb : Nat) (T : TypeId) (kA : Option Addr) (kc : Nat) (y key : List UInt8) (w : World) (hb : Blk w kb T (ak (.slice kA key.length kc) 0 1 sbL y (.slice none 0 0)).toArray) (hy : y.length = 256) (hk : key.length = 16 ∨ key.length = 32) (hr : Row w 0 1 kA key.length kc (bv key)) :
    Calls Tryd.prog 76 #[.pointer (some ⟨kb, 0, none⟩)] w fun e w' => e = .returned (.tuple #[]) ∧ ∃ A c, Row w' w.heap.size 16 A (key.length / 4 + 7) c (bv (kexp key (3 * (key.length / 4) + 28))) ∧ Blk w' kb T (ak (.slice kA key.length kc) 0 1 sbL y (.slice A (key.length / 4 + 7) c)).toArray ∧ Grew (· = kb) w w' := by
  have c0 : w.cell? ⟨kb, 0, none⟩ = some (.slice kA key.length kc) := hb.cell 0
  have HB := Lib.hid hb
  have hkl := hb.lt
  have HR := Lib.hid hr
  have HK := Lib.hid hk
  obtain ⟨n, hn⟩ : ∃ n, n = key.length / 4 := ⟨_, rfl⟩
  have hn48 : n = 4 ∨ n = 8 := by omega
  have HN48 := Lib.hid hn48
  have hq : ((key.length : Nat) : Int).tdiv 4 = (n : Int) := by rw [Int.tdiv_eq_ediv_of_nonneg (by omega)]; omega
  have hq2 : ((key.length : Nat) : Int) / 4 = (n : Int) := by omega
  have HCL := Lib.hid (fun w1 h => bClone_any kA key.length kc w1.heap.size key w1 h (Nat.le_refl _) (by omega))
  have hn4 : 4 ≤ n := by omega
  have hn8 : n ≤ 8 := by omega
  have HN := Lib.hid hn
  clear hb hr hk hn48 hn
  go_enter Tryd.func76, Tryd.ntmps76
  go_wp2_with fail
  refine (HCL.out _ (HR.out.reads)).mono ?_
  rintro e w1 ⟨A0, ca, rfl, hrow0, hb1⟩
  have HST : Hid (ExpRel w kb T (.slice kA key.length kc) y key (3 * n + 28) (.slice A0 key.length ca) (.int .u8 1) (.int .i64 n) w1) := Lib.hid
    ⟨0, A0, ca, by omega, by rw [HN.out]; rfl, by congr 1; have := HK.out; omega, by
      rw [Nat.div_eq_of_lt (by have := HN.out; omega)]; rfl, by rw [HN.out]; rfl, by
      have := HK.out
      rw [show 4 * (key.length / 4 + 0) + 0 = key.length by omega, List.take_zero, List.append_nil]; exact hrow0, HB.out.below hb1 hkl, Grew.of_new hb1, hkl⟩
  clear hrow0 hb1 HCL hq hq2
  go_wp2_with fail
  go_loopg [3, 4, 5] (3 * n + 28) (fun g s3 s4 s5 wr => ExpRel w kb T (.slice kA key.length kc) y key g s3 s4 s5 wr)
  case atStart => exact HST.out
  case round =>
    clear HST
    obtain ⟨k, A, c, hk, hgk, rfl, rfl, rfl, hex⟩ := hrel
    obtain ⟨og, hog⟩ : ∃ og, og = gk := ⟨_, rfl⟩
    have HOG := Lib.hid hog
    have HGK := Lib.hid hgk
    clear hog hgk
    have hrow := hex.1
    have hcap := hrow.2.1
    have hcm := hrow.2.2.1
    unfold maxLen at hcm
    obtain ⟨i, hi⟩ : ∃ i, i = n + k := ⟨_, rfl⟩
    rw [← HN.out] at hcap hrow hk ⊢
    rw [← hi] at hcap hrow ⊢
    have HI := Lib.hid hi
    have hi4 : 4 ≤ i := by omega
    have HEX := Lib.hid hex
    by_cases hlt : i < 4 * (n + 7)
    · obtain ⟨g, o, hA⟩ : ∃ g o, A = some ⟨g, o, none⟩ := by
        cases A with
        | none => have := hrow.2.2.2.1 rfl; omega
        | some ad => obtain ⟨g, o, rfl, _⟩ := hrow.2.2.2.2 _ rfl; exact ⟨g, o, rfl⟩
      subst hA
      obtain ⟨m, hm⟩ : ∃ m, m = 4 * i - 4 := ⟨_, rfl⟩
      have htl := length_topW HK.out k
      have HCT : Hid (∀ j u, (bv (topW key k)).toArray[j]? = some u → wr.cell? ⟨g, o + m + j, none⟩ = some u) := Lib.hid fun j u hj => by
        have hj4 : j < 4 := by
          by_cases h : j < 4
          · exact h
          · rw [Array.getElem?_eq_none (by rw [bvA_size, htl]; omega)] at hj; cases hj
        have h2 : (bv (topW key k))[j]? = some u := by simpa using hj
        rw [Nat.add_assoc]
        refine hrow.cell (j := m + j) ?_
        rw [List.take_zero, List.append_nil]
        unfold topW at h2
        rw [bv_take, List.getElem?_take, if_pos hj4, bv_drop, List.getElem?_drop, ← HN.out, ← hi, ← hm] at h2
        exact h2
      have HI4 := Lib.hid (quad_info (l := topW key k) htl)
      have H1 := Lib.hid (bvA_one (topW key k))
      have HS := Lib.hid (show (4 : Nat) = (bv (topW key k)).toArray.size by rw [bvA_size, htl])
      obtain ⟨ka, hka⟩ : ∃ ka, ka = (bv (topW key k)).toArray := ⟨_, rfl⟩
      have HKA := Lib.hid hka
      rw [← hka] at HCT HI4 H1 HS
      have e1 : (4 : Int) * (i : Int) - 4 = (m : Int) := by omega
      have e2 : 4 * i - m = 4 := by omega
      have e3 : ¬ c = m := by omega
      have e4 : (0 : Int) ≤ (m : Int) := by omega
      have e5 : (m : Int) ≤ 4 * (i : Int) := by omega
      have e6 : 4 * (i : Int) ≤ (c : Int) := by omega
      have e7 : (i : Int) < 4 * ((n : Int) + 7) := by omega
      have hgl := hrow.at_
      have HGL := Lib.hid hgl
      have hat : ∀ c w, (Instr.arrayAt 115 (.slice (some ⟨g, o + m, none⟩) 4 c)).run Tryd.prog w = .ok (.pointer (some ⟨g, o + m, none⟩)) w := fun c w => run_arrayAt w _ _ 4 _ 4 c Tryd.underlying115 (Nat.le_refl _)
      clear hrow hex hgl hka hi hm htl
      go_upto_block 2 with (first
        | (refine wpList_load_cells rfl 115 (.tmp 36) rfl g (o + m) rfl ka _ HCT.out Tryd.underlying115 rfl HI4.out ?_)
        | (refine wpList_store_new rfl 115 (.tmp 6) (.tmp 37) rfl _ _ ka rfl rfl HI4.out HS.out H1.out ?_))
      have hb0 : Bk (wr.alloc (.cells ka 115)) wr.heap.size 115 (topW key k) := by rw [HKA.out]; exact Blk.new _ _ _
      have HB0 := Lib.hid hb0
      clear hb0 HCT HI4 H1 HS hat e1 e2 e3 e4 e5 e6
      have HE0 := Lib.hid (HEX.out.alloc (.cells ka 115))
      have hgt : g ≠ wr.heap.size := by have := HGL.out.2.1; omega
      have htw : w.heap.size ≤ wr.heap.size := HEX.out.2.2.1.size
      dsimp only [Act.put]
      obtain ⟨tb, htb⟩ : ∃ tb, tb = wr.heap.size := ⟨_, rfl⟩
      rw [← htb] at HB0 hgt htw ⊢
      generalize wr.alloc (Obj.cells ka 115) = wt at HB0 HE0 ⊢
      clear htb HEX HGL
      obtain ⟨a0, a1, a2, a3, htop⟩ := quad_of (length_topW HK.out k)
      have HTOP := Lib.hid htop
      clear htop
      go_cut [4] (fun s4 wx => WordRel w kb tb T (.slice kA key.length kc) y key k (some ⟨g, o, none⟩) c s4 wx)
      case first =>
        by_cases hm0 : i % n = 0
        · have hb0 := HB0.out
          rw [HTOP.out] at hb0
          have n0 : wt.cell? ⟨tb, 0, none⟩ = some (.int .u8 (a0.toNat : Int)) := Bk.at_ hb0 0 (show 0 < 4 by decide)
          have n1 : wt.cell? ⟨tb, 1, none⟩ = some (.int .u8 (a1.toNat : Int)) := Bk.at_ hb0 1 (show 1 < 4 by decide)
          have n2 : wt.cell? ⟨tb, 2, none⟩ = some (.int .u8 (a2.toNat : Int)) := Bk.at_ hb0 2 (show 2 < 4 by decide)
          have n3 : wt.cell? ⟨tb, 3, none⟩ = some (.int .u8 (a3.toNat : Int)) := Bk.at_ hb0 3 (show 3 < 4 by decide)
          have f0 := Blk.frozen hb0 0
          have f1 := Blk.frozen hb0 1
          have f2 := Blk.frozen hb0 2
          have f3 := Blk.frozen hb0 3
          have hbx := box_of HE0.out.2.1
          have b0 := hbx a0.toNat a0.toNat_lt
          have b1 := hbx a1.toNat a1.toNat_lt
          have b2 := hbx a2.toNat a2.toNat_lt
          have b3 := hbx a3.toNat a3.toNat_lt
          rw [UInt8.ofNat_toNat] at b0 b1 b2 b3
          have l0 := a0.toNat_lt
          have l1 := a1.toNat_lt
          have l2 := a2.toNat_lt
          have l3 := a3.toNat_lt
          have hw := word_a (k := k) (a := a0) (b := a1) (c := a2) (d := a3) HN48.out (by rw [← HI.out]; exact hm0)
          have e1 := bx_xor (sb a1) (rcG ((k + n - 1) / n))
          have hmi : (i : Int) % (n : Int) = 0 := by omega
          have hfin : WordRel w kb tb T (.slice kA key.length kc) y key k (some ⟨g, o, none⟩) c (.int .u8 ((mulG (rcG ((k + n - 1) / n)) 2).toNat : Int)) ((((wt.drew.setCell ⟨tb, 0, none⟩ (u8v (sb a1 ^^^ rcG ((k + n - 1) / n)))).setCell ⟨tb, 1, none⟩ (u8v (sb a2))).setCell ⟨tb, 2, none⟩ (u8v (sb a3))).setCell ⟨tb, 3, none⟩ (u8v (sb a0))) := by
            refine ⟨?_, ((((HE0.out.drewN 1).far (p := ⟨tb, 0, none⟩) htw (fun ad e => by cases e; exact hgt) _).far (p := ⟨tb, 1, none⟩) htw (fun ad e => by cases e; exact hgt) _).far (p := ⟨tb, 2, none⟩) htw (fun ad e => by cases e; exact hgt) _).far (p := ⟨tb, 3, none⟩) htw (fun ad e => by cases e; exact hgt) _, ?_, fun ad e => by cases e; exact hgt, htw⟩
            · rw [← HN.out, hw.2]; rfl
            · rw [← HN.out, HTOP.out, hw.1]
              exact Bk.set_ (Bk.set_ (Bk.set_ (Bk.set_ hb0.drew 0 _) 1 _) 2 _) 3 _
          have HFIN := Lib.hid hfin
          have HML := Lib.hid (fun w => fMul_any (rcG ((k + n - 1) / n)) 2 w)
          rw [show (((2 : UInt8).toNat : Nat) : Int) = 2 from rfl] at HML
          have cw : ∀ d o u a, ({ heap := wt.heap, tape := wt.tape, drawn := d, os := o, output := u } : World).cell? a = wt.cell? a := fun _ _ _ _ => rfl
          clear hb0 hbx hw hfin
          unfold u8v at b0 b1 b2 b3 HFIN
          generalize ((sb a0).toNat : Int) = S0 at b0 HFIN
          generalize ((sb a2).toNat : Int) = S2 at b2 HFIN
          generalize ((sb a3).toNat : Int) = S3 at b3 HFIN
          generalize ((sb a1 ^^^ rcG ((k + n - 1) / n)).toNat : Int) = S4 at e1 HFIN
          generalize ((sb a1).toNat : Int) = S1 at b1 e1
          generalize a0.toNat = A0' at n0 b0 l0
          generalize a1.toNat = A1' at n1 b1 l1
          generalize a2.toNat = A2' at n2 b2 l2
          generalize a3.toNat = A3' at n3 b3 l3
          have m0 : (A0' : Int) < 256 := by omega
          have m1 : (A1' : Int) < 256 := by omega
          have m2 : (A2' : Int) < 256 := by omega
          have m3 : (A3' : Int) < 256 := by omega
          go_wp2_with fail
          go_still_tail 31, (by kernel_rfl)
          clear cw
          change wpList _ _ _ _ _ wt.drew
          trace_state
          go_wp2_with fail
          refine (HML.out _).mono ?_
          rintro e w5 ⟨rfl, rfl⟩
          go_wp2_with fail
          go_meet
          exact HFIN.out
        · by_cases hm4 : n = 8 ∧ i % n = 4
          · obtain ⟨h8, hm4⟩ := hm4
            have hw := word_b (k := k) (l := topW key k) h8 (by rw [← HI.out]; exact hm4)
            have HW := Lib.hid hw
            clear hw
            subst h8
            have hmi : (i : Int) % 8 = 4 := by omega
            have HTL := Lib.hid (length_topW HK.out k)
            have HMP := Lib.hid (show (List.range 4).map (fun j => sb ((topW key k).getD j 0)) = (topW key k).map sb by rw [HTOP.out]; rfl)
            have hst : MapRel w kb tb T (.slice kA key.length kc) y key k (some ⟨g, o, none⟩) c (.int .i64 0) 4 wt := ⟨0, by omega, rfl, rfl, HE0.out, HB0.out⟩
            have HST := Lib.hid hst
            clear hst
            go_wp2_with fail
            go_loopg [7, 85] 4 (fun gg _ s wx => MapRel w kb tb T (.slice kA key.length kc) y key k (some ⟨g, o, none⟩) c s gg wx)
            case atStart => exact HST.out
            case round =>
              clear HST
              obtain ⟨r, hr, hgr, rfl, he, hbk⟩ := hrel
              have HGR := Lib.hid hgr
              clear hgr
              by_cases hr4 : r < 4
              · have c1 := Bk.at_ hbk r (by rw [length_setsTo, HTL.out]; exact hr4)
                rw [getD_setsTo_at] at c1
                have f1 := Blk.frozen hbk r
                have hl := ((topW key k).getD r 0).toNat_lt
                have b1 := box_of he.2.1 _ hl
                rw [UInt8.ofNat_toNat] at b1
                have hne : MapRel w kb tb T (.slice kA key.length kc) y key k (some ⟨g, o, none⟩) c (.int .i64 ((r : Int) + 1)) (3 - r) (wr.setCell ⟨tb, r, none⟩ (u8v (sb ((topW key k).getD r 0)))) :=
                  ⟨r + 1, by omega, by omega, by go_num, he.far (p := ⟨tb, r, none⟩) htw (fun ad e => by cases e; exact hgt) _, Bk.set_ hbk r _⟩
                have HNE := Lib.hid hne
                clear hne he hbk
                unfold u8v at c1 b1 HNE
                generalize ((sb ((topW key k).getD r 0)).toNat : Int) = Z at b1 HNE
                generalize ((topW key k).getD r 0).toNat = X at c1 b1 hl
                have hl2 : (X : Int) < 256 := by omega
                go_wp2_with fail
                go_region
                go_wp2_with fail
                go_roundg (3 - r)
                case measure => have := HGR.out; omega
                case rel => exact HNE.out.drew
              · obtain rfl : r = 4 := by omega
                rw [setsTo_all _ _ HTL.out, HMP.out] at hbk
                have HBK := Lib.hid hbk
                have HE := Lib.hid he
                clear hbk he
                go_wp2_with fail
                go_meet
                exact ⟨by rw [← HN.out, HW.out.2]; rfl, HE.out, by rw [← HN.out, HW.out.1]; exact HBK.out, fun ad e => by cases e; exact hgt, htw⟩
          · have hw := word_c (k := k) (l := topW key k) HN48.out (by rw [← HI.out]; exact hm0) (by rw [← HI.out]; exact hm4)
            have HW := Lib.hid hw
            clear hw
            have hmi : ¬ (i : Int) % (n : Int) = 0 := by omega
            have hfin : WordRel w kb tb T (.slice kA key.length kc) y key k (some ⟨g, o, none⟩) c (.int .u8 ((rcG ((k + n - 1) / n)).toNat : Int)) wt :=
              ⟨by rw [← HN.out, HW.out.2], HE0.out, by rw [← HN.out, HW.out.1]; exact HB0.out, fun ad e => by cases e; exact hgt, htw⟩
            have HFIN := Lib.hid hfin
            clear hfin
            by_cases h8 : n = 8
            · subst h8
              have hm5 : ¬ (i : Int) % 8 = 4 := by omega
              have hm6 : ¬ (i : Int) % 8 = 0 := by omega
              clear hm4 hmi
              go_wp2_with fail
              go_meet
              exact HFIN.out
            · have hn8' : ¬ (n : Int) = 8 := by omega
              clear hm4
              go_wp2_with fail
              go_meet
              exact HFIN.out
      case rest =>
        obtain ⟨hs4, he, hbk, hne, htw2⟩ := hcut
        have HS4 := Lib.hid hs4
        clear hs4
        have HW := Lib.hid (length_tword n (n + k) (length_topW HK.out k))
        have hst : AppRel w kb tb T (.slice kA key.length kc) y key k (.slice (some ⟨g, o, none⟩) (4 * i) c) (.int .i64 0) 4 wc := ⟨0, _, c, by omega, rfl, by rw [HI.out, HN.out]; rfl, rfl, he, hbk, hne⟩
        have HST := Lib.hid hst
        clear hst he hbk hne HE0 HB0
        obtain ⟨i0, hi0, hz0, hz1, hz2⟩ := info_parts byte_info
        go_wp2_with fail
        go_loopg [3, 8, 99] 4 (fun gg s3 _ s99 wx => AppRel w kb tb T (.slice kA key.length kc) y key k s3 s99 gg wx)
        case atStart => exact HST.out
        case round =>
          clear HST
          obtain ⟨r, A3, c3, hr, hgr, rfl, rfl, he, hbk, hne⟩ := hrel
          have HGR := Lib.hid hgr
          clear hgr
          have hrow := he.1
          obtain ⟨M, hM⟩ : ∃ M, 4 * (key.length / 4 + k) + r = M := ⟨_, rfl⟩
          rw [hM] at hrow ⊢
          have hMi : M = 4 * i + r := by have := HI.out; have := HN.out; omega
          have HM := Lib.hid hM
          have hcap := hrow.2.1
          have hcm2 := hrow.2.2.1
          unfold maxLen at hcm2
          clear hM
          by_cases hr4 : r < 4
          · obtain ⟨g3, o3, hA3⟩ : ∃ g o, A3 = some ⟨g, o, none⟩ := by
              cases A3 with
              | none => have := hrow.2.2.2.1 rfl; omega
              | some ad => obtain ⟨g, o, rfl, _⟩ := hrow.2.2.2.2 _ rfl; exact ⟨g, o, rfl⟩
            subst hA3
            have hol := length_oldW HK.out k
            have hwl := HW.out
            have hnl := length_nxtW HK.out k
            have hkl3 := length_kexp key HK.out k
            have hni := HI.out
            have hnk := HN.out
            have c1 := Bk.at_ hbk r (by rw [← HN.out, HW.out]; exact hr4)
            rw [← HN.out] at c1
            have c2 : wr.cell? ⟨g3, o3 + (4 * k + r), none⟩ = some (u8v ((oldW key k).getD r 0)) := by
              refine hrow.cell (j := 4 * k + r) ?_
              rw [bv_append, List.getElem?_append_left (by rw [length_bv, hkl3]; omega), bv_at _ _ (by rw [hkl3]; omega)]
              unfold oldW
              rw [List.getD_eq_getElem?_getD, List.getElem?_take, if_pos hr4, List.getElem?_drop, List.getElem?_eq_getElem (by rw [hkl3]; omega)]
              rfl
            have hnx : nxtW key k = (nxtW key k) := rfl
            have hx : (nxtW key k)[r]? = some ((tword n (n + k) (topW key k)).getD r 0 ^^^ (oldW key k).getD r 0) := by
              unfold nxtW
              rw [← HN.out, getD_xorL _ _ r (by omega) (by omega)]
              simp [show r < (tword n (n + k) (topW key k)).length by omega, show r < (oldW key k).length by omega]
            have HX := Lib.hid hx
            have e1 := bx_xor ((tword n (n + k) (topW key k)).getD r 0) ((oldW key k).getD r 0)
            obtain ⟨z, hz⟩ : ∃ z, z = (tword n (n + k) (topW key k)).getD r 0 ^^^ (oldW key k).getD r 0 := ⟨_, rfl⟩
            rw [← hz] at e1 HX
            have hgx := hrow.at_.2.1
            have htx := hbk.lt
            have hg3t : g3 ≠ tb := hne _ rfl
            have HE := Lib.hid he
            have HBK := Lib.hid hbk
            have HROW := Lib.hid hrow
            have hbw : w.heap.size ≤ wr.heap.size := he.2.2.1.size
            clear hnx hx hz he hbk hne hrow hol hwl hnl hkl3 hni hnk
            unfold u8v at c1 c2
            generalize (((tword n (n + k) (topW key k)).getD r 0).toNat : Int) = X1 at c1 e1
            generalize (((oldW key k).getD r 0).toNat : Int) = X2 at c2 e1
            have q1 : (i : Int) - (n : Int) = (k : Int) := by have := HI.out; omega
            have q2 : IntKind.i64.wrap (k : Int) = (k : Int) := IntWalk.i64_in _ (by omega)
            have q3 : IntKind.i64.wrap (4 * (k : Int)) = 4 * (k : Int) := IntWalk.i64_in _ (by omega)
            have q4 : IntKind.i64.wrap (4 * (k : Int) + (r : Int)) = 4 * (k : Int) + (r : Int) := IntWalk.i64_in _ (by omega)
            have q5 : (0 : Int) ≤ 4 * (k : Int) + (r : Int) := by omega
            have q6 : 4 * (k : Int) + (r : Int) < (M : Int) := by omega
            have q7 : (4 * (k : Int) + (r : Int)).toNat = 4 * k + r := by omega
            have q8 : (r : Int) < 4 := by omega
            have hM0 : M ≤ 300 := by omega
            have HMI := Lib.hid hMi
            clear hMi
            go_wp2_with fail
            go_region_law (refine step_append_row (by rfl) (.tmp 102) (.tmp 116) (by rfl) Tryd.underlying32 hi0 hz0 hz1 hz2 (by rfl) (by decide) (by rfl) (HROW.out.alloc _).drew (by rfl) (Reads.lit _ _ _ (n := 1) rfl).drew (by intro v hv; simp at hv; rcases hv with rfl; rfl) (by unfold maxLen; omega) (by omega) (by simp; omega) ?_; intro A2 c2 w2 hrow2 hgr2 hat2)
            all_goals
              have HFIN := Lib.hid (app_step HE.out HBK.out hg3t hr4 HX.out htx (by rw [HM.out]; exact hrow2) hgr2 hat2)
              clear hrow2 hgr2 hat2
              go_wp2_with fail
              go_roundg (3 - r)
              case measure => have := HGR.out; omega
              case rel => have h := HFIN.out; rw [HM.out] at h; exact h
          · obtain rfl : r = 4 := by omega
            have HE := Lib.hid he
            have hkk : k < 3 * n + 28 := by have := HI.out; omega
            have hlen := length_kexp key HK.out k
            have hnk := HN.out
            have hfin : ExpRel w kb T (.slice kA key.length kc) y key (og - 1) (.slice A3 M c3) _ (.int .i64 ((i : Int) + 1)) wr :=
              ⟨k + 1, A3, c3, by omega, by have := HOG.out; have := HGK.out; omega, by congr 1; have := HM.out; omega, HS4.out, by congr 1; have := HI.out; omega, exp_next HK.out he⟩
            have HFIN := Lib.hid hfin
            clear he hbk hne hrow hlen hnk hfin HE
            go_wp2_with fail
            go_roundg (og - 1)
            case measure => have := HOG.out; have := HGK.out; have := HN.out; omega
            case rel => exact HFIN.out
    · have hke : k = 3 * n + 28 := by omega
      have hie : i = 4 * (n + 7) := by omega
      have hst : RndRel w kb T (.slice kA key.length kc) y key A c (.int .i64 0) (n + 7) wr := ⟨0, none, 0, by omega, by rw [HN.out]; omega, rfl, hex.2.1, Row.nil_ _ _ _, (fun ad e => by cases e), by
        have h := hex.1
        rw [List.take_zero, List.append_nil, ← HN.out, hke] at h
        rw [← HN.out]
        exact h, hex.2.2.1, hex.2.2.2⟩
      have HST := Lib.hid hst
      have e7 : ¬ (i : Int) < 4 * ((n : Int) + 7) := by omega
      obtain ⟨M, hM⟩ : ∃ M, 4 * i = M := ⟨_, rfl⟩
      have hM16 : M = 16 * (n + 7) := by omega
      rw [hM]
      have HM16 := Lib.hid hM16
      clear hst hex hrow hi hke hie hM hM16 hcap
      go_wp2_with fail
      go_loopg [9] (n + 7) (fun gg s9 wx => RndRel w kb T (.slice kA key.length kc) y key A c s9 gg wx)
      case atStart => exact HST.out
      case round =>
        clear HST
        obtain ⟨q, A2, c2, hq, hgr, rfl, hbk, hrw, hne, hrow, hgw, hkw⟩ := hrel
        have HGR := Lib.hid hgr
        clear hgr
        have hnk := HN.out
        obtain ⟨m, hm⟩ : ∃ m, 16 * q = m := ⟨_, rfl⟩
        rw [hm]
        have hkx := length_kexp key HK.out (3 * (key.length / 4) + 28)
        have hM16 := HM16.out
        have hk32 := HK.out
        by_cases hlq : q < n + 7
        · obtain ⟨g, o, hA⟩ : ∃ g o, A = some ⟨g, o, none⟩ := by
            cases A with
            | none => have := hrow.2.2.2.1 rfl; have := hrow.2.1; omega
            | some ad => obtain ⟨g, o, rfl, _⟩ := hrow.2.2.2.2 _ rfl; exact ⟨g, o, rfl⟩
          subst hA
          have hc1 := hrow.2.1
          have hc2 := hrow.2.2.1
          have hq2 := hrw.2.2.1
          unfold maxLen at hc2
          have hbl : (((kexp key (3 * (key.length / 4) + 28)).drop (16 * q)).take 16).length = 16 := by rw [List.length_take, List.length_drop, hkx]; omega
          obtain ⟨x0, x1, x2, x3, x4, x5, x6, x7, x8, x9, x10, x11, x12, x13, x14, x15, hxs⟩ := sixteen_of hbl
          have HZ : Hid (∀ j (_ : j < 16) v, (bv [x0, x1, x2, x3, x4, x5, x6, x7, x8, x9, x10, x11, x12, x13, x14, x15])[j]? = some v → wr.cell? ⟨g, o + m + j, none⟩ = some v) := Lib.hid fun j hj v hv => by
            rw [← hxs, bv_take, List.getElem?_take, if_pos hj, bv_drop, List.getElem?_drop, hm] at hv
            rw [Nat.add_assoc]
            exact hrow.cell hv
          have z0 := HZ.out 0 (by decide) _ rfl
          have z1 := HZ.out 1 (by decide) _ rfl
          have z2 := HZ.out 2 (by decide) _ rfl
          have z3 := HZ.out 3 (by decide) _ rfl
          have z4 := HZ.out 4 (by decide) _ rfl
          have z5 := HZ.out 5 (by decide) _ rfl
          have z6 := HZ.out 6 (by decide) _ rfl
          have z7 := HZ.out 7 (by decide) _ rfl
          have z8 := HZ.out 8 (by decide) _ rfl
          have z9 := HZ.out 9 (by decide) _ rfl
          have z10 := HZ.out 10 (by decide) _ rfl
          have z11 := HZ.out 11 (by decide) _ rfl
          have z12 := HZ.out 12 (by decide) _ rfl
          have z13 := HZ.out 13 (by decide) _ rfl
          have z14 := HZ.out 14 (by decide) _ rfl
          have z15 := HZ.out 15 (by decide) _ rfl
          rw [Nat.add_zero] at z0
          have c516 := (hbk.cell 516).trans (ak_rat _ _ _ _ _ _ length_sbL hy)
          have f516 := hbk.frozen 516
          have HXS := Lib.hid hxs
          have HBK := Lib.hid hbk
          have HRW := Lib.hid hrw
          have HNE := Lib.hid hne
          have HROW := Lib.hid hrow
          have HGW := Lib.hid hgw
          have hbw := hgw.size
          have HM := Lib.hid hm
          have hat : ∀ c w, (Instr.arrayAt 108 (.slice (some ⟨g, o + m, none⟩) 16 c)).run Tryd.prog w = .ok (.pointer (some ⟨g, o + m, none⟩)) w := fun c w => run_arrayAt w _ _ 16 _ 16 c Tryd.underlying108 (Nat.le_refl _)
          have k1 : IntKind.i64.wrap ((m : Int) + 16) = (m : Int) + 16 := IntWalk.i64_in _ (by omega)
          have k2 : (m : Int) ≤ (m : Int) + 16 := by omega
          have k3 : (m : Int) + 16 ≤ (c : Int) := by omega
          have k4 : ¬ c = m := by omega
          have k5 : (m : Int) < (M : Int) := by omega
          have k6 : (0 : Int) ≤ (m : Int) := by omega
          have k7 : ((m : Int) + 16).toNat = m + 16 := by omega
          have k8 : (0 : Int) ≤ (m : Int) + 16 := by omega
          have k9 : (m : Int) ≤ (c : Int) := by omega
          have hq3 : q ≤ 15 := by omega
          have hkr : kb < wr.heap.size := by omega
          have hgr2 : g < wr.heap.size := HROW.out.at_.2.1
          obtain ⟨i1, hi1, hz0, hz1, hz2⟩ := info_parts block_info3
          clear hm hbl hxs hbk hrw hne hrow hgw hnk hkx hM16 hk32 hc1 hc2 HZ
          go_wp2_with fail
          go_region_law (refine step_append_row (by rfl) (.tmp 129) (.tmp 137) (by rfl) Tryd.underlying87 hi1 hz0 hz1 hz2 block_zero (by decide) (by rfl) (HRW.out.alloc _).drew (by rfl) (Reads.lit _ _ _ (n := 1) rfl).drew (by intro v hv; simp at hv; rcases hv with rfl | rfl | rfl | rfl | rfl | rfl | rfl | rfl | rfl | rfl | rfl | rfl | rfl | rfl | rfl | rfl <;> rfl) (by unfold maxLen; omega) (by omega) (by simp; omega) ?_; intro A4 c4 w4 hrow4 hgr4 hat4; have d516 := rnd_cell hkw hbw HRW.out hgr4 c516; have g516 := rnd_free hkw hbw HRW.out hgr4 f516)
          all_goals
            have HFIN := Lib.hid (rnd_step hy HBK.out HRW.out HNE.out HROW.out HGW.out hkw HXS.out (by have := HN.out; omega) hrow4 hgr4 hat4)
            clear hrow4 hgr4 hat4 d516 g516
            go_wp2_with fail
            go_roundg (gk - 1)
            case measure => have := HGR.out; have := HN.out; omega
            case rel =>
              have h := HFIN.out
              rw [show key.length / 4 + 7 - (q + 1) = gk - 1 by have := HGR.out; omega, show 16 * (q + 1) = m + 16 by have := HM.out; omega] at h
              exact h
        · obtain rfl : q = n + 7 := by omega
          rw [List.take_of_length_le (by rw [hkx]; omega)] at hrw
          rw [hnk] at hrw hbk
          have HRW := Lib.hid hrw
          have HBK := Lib.hid hbk
          have HGW := Lib.hid hgw
          have k5 : ¬ (m : Int) < (M : Int) := by omega
          clear hrw hbk hgw hrow hne hm hM16 hkx hnk
          go_wp2_with fail
          go_end0
          exact ⟨rfl, A2, c2, HRW.out, HBK.out, HGW.out⟩
end Go.Proofs.YtiijjpjkfiookaaDoor
