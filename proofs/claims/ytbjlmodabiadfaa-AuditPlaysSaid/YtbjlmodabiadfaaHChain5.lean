/- Audit: a record more. -/
import Derived.Test.YtbjlmodabiadfaaHChain4
import Derived.Test.YtbjlmodabiadfaaGMem
import Derived.Deep.RegionHeld3
namespace Go.Proofs.Ytbjlmodabiadfaa
open Go.RowKit

attribute [local go_sem ↓] Go.wp_at_zero Go.wp_at_succ
/-- A record's value. -/
def RecV (r : Rec) (v : Value) (w : World) : Prop := ∃ t, v = .agg #[.int .i64 r.seq, .string r.text, t] ∧ BytesV r.tag t w
theorem st_rec (r : Rec) : Stable (RecV r) := fun _ _ _ ⟨t, e, h⟩ g => ⟨t, e, h.grows g⟩
/-- Bytes in a new row. -/
def RowV (N : Nat) (l : List UInt8) (v : Value) (w : World) : Prop := ∃ A c, v = .slice A l.length c ∧ Row w N 1 A l.length c (bv l)
theorem st_row (N : Nat) (l : List UInt8) : Stable (RowV N l) := fun _ _ _ ⟨A, c, e, h⟩ g => ⟨A, c, e, h.below g (Nat.le_refl _)⟩
/-- A record whose tag lies in a new row. -/
def RecN (N : Nat) (r : Rec) (v : Value) (w : World) : Prop := ∃ t, v = .agg #[.int .i64 r.seq, .string r.text, t] ∧ RowV N r.tag t w
theorem st_recn (N : Nat) (r : Rec) : Stable (RecN N r) := fun _ _ _ ⟨t, e, h⟩ g => ⟨t, e, st_row N _ _ _ _ h g⟩
/-- A pointer to a new, empty record. -/
def NewRecV (N : Nat) (v : Value) (w : World) : Prop := ∃ g, v = .pointer (some ⟨g, 0, none⟩) ∧ N ≤ g ∧ Blk w g 51 #[.int .i64 0, .string ⟨#[]⟩, .slice none 0 0]
theorem st_newrec (N : Nat) : Stable (NewRecV N) := fun _ _ _ ⟨g, e, hN, h⟩ hg => ⟨g, e, hN, h.below hg h.lt⟩
theorem field_tag (a : Int) (b : ByteArray) (v : Value) (w : World) : (Instr.field 51 (.agg #[.int .i64 a, .string b, v]) 2).run Try.prog w = .ok v w := by kernel_rfl
theorem row_not_blk {w : World} {N n c g : Nat} {A : Option Addr} {xs : List Value} {T : TypeId} {cs : Array Value} (h : Row w N 1 A n c xs) (hb : Blk w g T cs) (hn : cs.size < n) : ∀ ad, A = some ad → ad.block ≠ g := by
  rintro ad rfl rfl
  obtain ⟨g, o, e⟩ : ∃ g o, ad = ⟨g, o, none⟩ := by obtain ⟨g, o, e, _⟩ := h.2.2.2.2 ad rfl; exact ⟨g, o, e⟩
  subst e
  have h1 := (h.at_.2.2.1 (n - 1) (by have := h.2.1; omega)).1
  rw [hb.cell] at h1
  rw [Array.getElem?_eq_none (by omega)] at h1
  cases h1
theorem Part.drew {w : World} {R : Nat → Prop} {v : Value} {l : List UInt8} (h : Part w R v l) : Part w.drew R v l := h.keep fun _ _ => rfl
/-- Behind the append of Add. -/
theorem step5 {w w2 w4 w5 : World} {cb g : Nat} {X : Nat → Prop} {A A5 : Option Addr} {c c5 : Nat} {vk vt v : Value} {key bt : List UInt8} {L : List Rec} {r : Rec} {vs : List Value} {T T1 : TypeId} {cs cs1 cs2 cs3 : Array Value} (h : CO (w4.alloc (.cells cs T)).drew cb X A c vk vt key bt L) (h2 : vs.length = L.length) (h4 : ∀ i (h : i < L.length) (h' : i < vs.length), Part (w4.alloc (.cells cs T)).drew (RTag (fun k => X k ∧ k ≠ cb) A (w4.alloc (.cells cs T)).drew) vs[i] L[i].tag)
    (hp : Part (w4.alloc (.cells cs T)).drew (RTag (fun k => X k ∧ k ≠ cb) A (w4.alloc (.cells cs T)).drew) v r.tag) (hrow : Row w5 0 3 A5 (L.length + 1) c5 ((List.zipWith rcv L vs).flatten ++ rcv r v)) (hg : (w4.alloc (.cells cs T)).drew.grownBy w5 (A.map (·.block))) (hat : A5 = A ∨ ∃ ad, A5 = some ad ∧ (w4.alloc (.cells cs T)).drew.heap.size ≤ ad.block)
    (hA : ∀ k, A.map (·.block) = some k → k ≠ cb ∧ k < w.heap.size) (hk1 : Blk w4 g T1 cs1) (hk2 : Blk w4 cb 96 cs2) (hk3 : Blk w4 w.heap.size T1 cs3) (hs4 : w2.heap.size ≤ w4.heap.size) (hcb : cb < w2.heap.size) (hw : w.heap.size < w2.heap.size) (hg2 : w2.heap.size ≤ g) :
    CO w5 cb (fun k => X k ∨ w2.heap.size ≤ k) A5 c5 vk vt key bt (L ++ [r]) ∧ (∀ i u, cs2[i]? = some u → w5.cell? ⟨cb, i, none⟩ = some u) ∧ (∀ i u, cs1[i]? = some u → w5.cell? ⟨g, i, none⟩ = some u) ∧ Blk w5 cb 96 cs2 ∧ Blk w5 g T1 cs1 ∧ Blk w5 w.heap.size T1 cs3 ∧ w4.grownBy w5 (A.map (·.block)) := by
  have hsz : (w4.alloc (.cells cs T)).drew.heap.size = w4.heap.size + 1 := by simp
  have g0 : w4.grownBy w5 (A.map (·.block)) := grown_trans (grown_drew (grown_alloc (grown_refl w4 _) _)) hg
  have b2 : Blk w5 cb 96 cs2 := hk2.grown g0 fun e => (hA cb e.symm).1 rfl
  have b1 : Blk w5 g T1 cs1 := hk1.grown g0 fun e => by have := (hA g e.symm).2; omega
  exact ⟨h.snoc (by omega) (by omega) rfl h2 h4 hrow hg hat hp, fun i u e => (b2.cell i).trans e, fun i u e => (b1.cell i).trans e, b2, b1, hk3.grown g0 fun e => by have := (hA _ e.symm).2; omega, g0⟩
/-- What Add hands back and leaves. -/
def AddOut (cb : Nat) (X : Nat → Prop) (x : Ch) (s : ByteArray) (w : World) (e : Ending) (w' : World) : Prop :=
  ∃ A c X', e = .returned (.tuple #[.agg #[.int .i64 (x.next s).seq, .string s, .slice A (x.next s).tag.length c], .int .i64 0]) ∧ Row w' w.heap.size 1 A (x.next s).tag.length c (bv (x.next s).tag) ∧ ChainAt w' cb X' (x.add s) ∧ Grew (fun k => k = cb ∨ X k) w w' ∧
    (∀ k, X' k → (X k ∨ w.heap.size ≤ k) ∧ k < w'.heap.size ∧ ∀ ad, A = some ad → k ≠ ad.block) ∧ ∀ ad, A = some ad → ad.block ≠ cb
theorem trim_short {key : List UInt8} {bs : Int} {bt : List UInt8} {l : List Rec} (h : l.length ≤ 12) : Ch.trim key bs bt l = ⟨key, bs, bt, l⟩ := by
  cases l with
  | nil => rfl
  | cons f r =>
    have h' : r.length + 1 ≤ 12 := by simpa using h
    exact if_neg (by omega)
theorem trim_full {key : List UInt8} {bs : Int} {bt : List UInt8} {f : Rec} {l : List Rec} (h : 12 ≤ l.length) : Ch.trim key bs bt (f :: l) = ⟨key, f.seq, f.tag, l⟩ := if_pos (by omega)
theorem end_last (key : List UInt8) (bs : Int) (bt : List UInt8) (l : List Rec) (r : Rec) : (Ch.mk key bs bt (l ++ [r])).end_ = r := by simp [Ch.end_]
theorem add_short {w : World} {cb : Nat} {X : Nat → Prop} {A : Option Addr} {c : Nat} {vk vt : Value} {x : Ch} {s : ByteArray} {z : Int} {t : List UInt8} (hz : x.end_.seq = z) (ht : tagB x.key x.end_.tag (z + 1) s.data.toList = t) (hl : x.recs.length < 12) (h : CO w cb X A c vk vt x.key x.btag (x.recs ++ [⟨z + 1, s, t⟩]))
    (hb : Blk w cb 96 #[vk, .int .i64 x.bseq, .string ⟨#[]⟩, vt, .slice A (x.recs.length + 1) c, .int .i64 (z + 1)]) : ChainAt w cb X (x.add s) := by
  subst hz ht
  have e : x.add s = ⟨x.key, x.bseq, x.btag, x.recs ++ [x.next s]⟩ := trim_short (by simp; omega)
  rw [e]
  have h' : CO w cb X A c vk vt x.key x.btag (x.recs ++ [x.next s]) := h
  refine CO.chain (x := ⟨x.key, x.bseq, x.btag, x.recs ++ [x.next s]⟩) h' ?_
  rw [end_last]
  have e2 : (x.recs ++ [x.next s]).length = x.recs.length + 1 := by simp
  show Blk w cb _ #[vk, _, _, vt, .slice A (x.recs ++ [x.next s]).length c, .int .i64 (x.end_.seq + 1)]
  rw [e2]
  exact hb
theorem add_full {w : World} {cb : Nat} {X : Nat → Prop} {A : Option Addr} {c : Nat} {vk vt : Value} {x : Ch} {f : Rec} {l : List Rec} {s : ByteArray} {z : Int} {t : List UInt8} (hz : x.end_.seq = z) (ht : tagB x.key x.end_.tag (z + 1) s.data.toList = t) (hl : x.recs = f :: l) (hn : x.recs.length = 12) (h : CO w cb X A c vk vt x.key f.tag (l ++ [⟨z + 1, s, t⟩]))
    (hb : Blk w cb 96 #[vk, .int .i64 f.seq, .string ⟨#[]⟩, vt, .slice A 12 c, .int .i64 (z + 1)]) : ChainAt w cb X (x.add s) := by
  subst hz ht
  have hll : l.length = 11 := by rw [hl] at hn; simpa using hn
  have e : x.add s = ⟨x.key, f.seq, f.tag, l ++ [x.next s]⟩ := by
    show Ch.trim x.key x.bseq x.btag (x.recs ++ [x.next s]) = _
    rw [hl]
    exact trim_full (by simp; omega)
  rw [e]
  have h' : CO w cb X A c vk vt x.key f.tag (l ++ [x.next s]) := h
  refine CO.chain (x := ⟨x.key, f.seq, f.tag, l ++ [x.next s]⟩) h' ?_
  rw [end_last]
  have e2 : (l ++ [x.next s]).length = 12 := by simp [hll]
  show Blk w cb _ #[vk, _, _, vt, .slice A (l ++ [x.next s]).length c, .int .i64 (x.end_.seq + 1)]
  rw [e2]
  exact hb
theorem zip_one (L : List Rec) : ∀ (vs : List Value), (∀ v ∈ vs, ∃ A n c, v = .slice A n c) → ∀ u ∈ (List.zipWith rcv L vs).flatten, u.oneCell' = true := by
  induction L with
  | nil => intro vs _ u hu; simp at hu
  | cons r L ih =>
    intro vs h u hu
    match vs, h with
    | [], _ => simp at hu
    | v :: vs, h =>
      simp only [List.zipWith_cons_cons, List.flatten_cons, List.mem_append] at hu
      rcases hu with hu | hu
      · obtain ⟨A, n, c, rfl⟩ := h v (by simp)
        exact rcv_one r A n c u hu
      · exact ih vs (fun v hv => h v (by simp [hv])) u hu
theorem parts_slices {w : World} {R : Nat → Prop} {L : List Rec} {vs : List Value} (hl : vs.length = L.length) (h : ∀ i (h : i < L.length) (h' : i < vs.length), Part w R vs[i] L[i].tag) : ∀ v ∈ vs, ∃ A n c, v = .slice A n c := fun v hv => by
  obtain ⟨i, hi, rfl⟩ := List.getElem_of_mem hv
  exact (h i (by omega) hi).form
theorem add_done {w w6 w7 : World} {cb : Nat} {X X6 : Nat → Prop} {x : Ch} {s : ByteArray} {z : Int} {t : List UInt8} {A7 : Option Addr} {c7 : Nat} {u0 u1 u2 : Value} (hz : x.end_.seq = z) (ht : tagB x.key x.end_.tag (z + 1) s.data.toList = t) (h : ChainAt w6 cb X6 (x.add s)) (hX : ∀ k, X6 k → X k ∨ w.heap.size ≤ k) (hg : Grew (fun k => k = cb ∨ X k) w w6) (hw : w.heap.size < w6.heap.size) (hcb : cb < w.heap.size) (hXl : ∀ k, X6 k → k ≠ w.heap.size)
    (hr : Row w7 w6.heap.size 1 A7 t.length c7 (bv t)) (hb : Below w6.heap.size w6 w7) : AddOut cb X x s w (.returned (.tuple #[.agg #[.int .i64 (z + 1), .string s, .slice A7 t.length c7], .int .i64 0])) (((w7.setCell ⟨w.heap.size, 0, none⟩ u0).setCell ⟨w.heap.size, 1, none⟩ u1).setCell ⟨w.heap.size, 2, none⟩ u2) := by
  subst hz ht
  have hs7 := hb.size
  have hlt := hr.lt
  have gx : Grew (· = w.heap.size) w6 (((w7.setCell ⟨w.heap.size, 0, none⟩ u0).setCell ⟨w.heap.size, 1, none⟩ u1).setCell ⟨w.heap.size, 2, none⟩ u2) := (((Grew.of_new (S := (· = w.heap.size)) hb).set (p := ⟨w.heap.size, 0, none⟩) (.inl rfl) u0).set (p := ⟨w.heap.size, 1, none⟩) (.inl rfl) u1).set (p := ⟨w.heap.size, 2, none⟩) (.inl rfl) u2
  have hsz : (((w7.setCell ⟨w.heap.size, 0, none⟩ u0).setCell ⟨w.heap.size, 1, none⟩ u1).setCell ⟨w.heap.size, 2, none⟩ u2).heap.size = w7.heap.size := by simp
  refine ⟨A7, c7, fun k => X6 k ∧ k < w6.heap.size, rfl, ?_, h.tight.grew gx (by omega) (fun k hk _ => hXl k hk.1), ?_, fun k hk => ⟨hX k hk.1, by omega, fun ad e => by have := hlt ad e; omega⟩, fun ad e => by have := hlt ad e; omega⟩
  · have hf : ∀ i u (W : World), Row W w6.heap.size 1 A7 (x.next s).tag.length c7 (bv (x.next s).tag) → Row (W.setCell ⟨w.heap.size, i, none⟩ u) w6.heap.size 1 A7 (x.next s).tag.length c7 (bv (x.next s).tag) := fun i u W h => h.far (fun ad e => by have := (h.lt ad e).1; simp; omega) _
    exact (hf _ _ _ (hf _ _ _ (hf _ _ _ hr))).mono (by omega)
  · exact hg.next gx fun k hk e => by omega
set_option maxRecDepth 100000 in
set_option maxHeartbeats 4000000 in
theorem Add_no (cb : Nat) (X : Nat → Prop) (x : Ch) (s : ByteArray) (w : World) (h : ChainAt w cb X x) (hs : 200 < s.size ∨ x.end_.seq = 9223372036854775807) (hm : s.size ≤ 140737488351232) :
    Calls Try.prog 36 #[.pointer (some ⟨cb, 0, none⟩), .string s] w fun e w' => e = .returned (.tuple #[.agg #[.int .i64 0, .string ⟨#[]⟩, .slice none 0 0], .int .i64 2]) ∧ Below w.heap.size w w' := by
  obtain ⟨vk, vt, A, c, a1, _⟩ := h
  have hcb := a1.lt
  have c5 : w.cell? ⟨cb, 5, none⟩ = some (.int .i64 x.end_.seq) := a1.cell 5
  generalize x.end_.seq = z at c5 hs
  clear a1
  by_cases h2 : 200 < s.size
  · clear hs
    have e1 : decide (200 < (s.size : Int)) = true := by simp; omega
    go_enter Try.func36, Try.ntmps36
    go_upto_region 1 with (fail)
    refine name_world fun w1 x1 x2 x3 x4 => ?_
    obtain ⟨hb1, hg1, f0, f1, f2, z0, z1, z2⟩ := fresh_rec x1 x2 x3 x4
    clear x1 x2 x3 x4
    have HB1 := Lib.hid hb1
    clear hb1
    go_wp2_with fail
    refine bodyPost_ret (v := .tuple #[.agg #[.int .i64 0, .string ⟨#[]⟩, .slice none 0 0], .int .i64 2]) (by simp [results, Try.results36, go_sem, f0, f1, f2]) rfl ⟨rfl, ?_⟩
    exact ((HB1.out.setCell (by simp) _).setCell (by simp) _).setCell (by simp) _
  · have hz : z = 9223372036854775807 := by rcases hs with h | h; exact absurd h h2; exact h
    subst hz
    clear hs
    have e1 : decide (200 < (s.size : Int)) = false := by simp; omega
    go_enter Try.func36, Try.ntmps36
    go_upto_region 1 with (fail)
    refine name_world fun w1 x1 x2 x3 x4 => ?_
    obtain ⟨hb1, hg1, f0, f1, f2, z0, z1, z2⟩ := fresh_rec x1 x2 x3 x4
    clear x1 x2 x3 x4
    have k5 := (hb1.cell (p := ⟨cb, 5, none⟩) hcb).trans c5
    have HB1 := Lib.hid hb1
    clear hb1 c5
    go_wp2_with fail
    refine (a64_load cb 5 _ w1 k5).mono ?_
    rintro e w' ⟨rfl, rfl⟩
    go_wp2_with fail
    refine bodyPost_ret (v := .tuple #[.agg #[.int .i64 0, .string ⟨#[]⟩, .slice none 0 0], .int .i64 2]) (by simp [results, Try.results36, go_sem, f0, f1, f2]) rfl ⟨rfl, ?_⟩
    exact ((HB1.out.setCell (by simp) _).setCell (by simp) _).setCell (by simp) _
set_option maxRecDepth 100000 in
set_option maxHeartbeats 8000000 in
theorem Add_yes (cb : Nat) (X : Nat → Prop) (x : Ch) (s : ByteArray) (w : World) (h : ChainAt w cb X x) (hs : s.size ≤ 200) (hz : -9223372036854775808 ≤ x.end_.seq) (hz2 : x.end_.seq < 9223372036854775807) (hlen : x.recs.length ≤ 12) (_hk : x.key.length ≤ 140737488351232) (ht : x.end_.tag.length ≤ 140737488351232) :
    Calls Try.prog 36 #[.pointer (some ⟨cb, 0, none⟩), .string s] w (AddOut cb X x s w) := by
  obtain ⟨i1, hj, hy0, hy1, hy2⟩ := info_parts rec_info
  obtain ⟨vk, vt, A, c, a1, co⟩ := h.tight.co
  have hcb := a1.lt
  have c5 : w.cell? ⟨cb, 5, none⟩ = some (.int .i64 x.end_.seq) := a1.cell 5
  have e1 : decide (200 < (s.size : Int)) = false := by simp; omega
  have e2 : (x.end_.seq == 9223372036854775807) = false := by rw [beq_eq_false_iff_ne]; omega
  obtain ⟨z, hzz⟩ : ∃ z, x.end_.seq = z := ⟨_, rfl⟩
  rw [hzz] at c5 e2 hz hz2
  have HZ := Lib.hid hzz
  have HCO := Lib.hid co
  have HA1 := Lib.hid a1
  clear h hzz co a1
  go_enter Try.func36, Try.ntmps36
  go_upto_region 1 with (fail)
  refine name_world fun w1 x1 x2 x3 x4 => ?_
  obtain ⟨hb1, hg1, f0, f1, f2, z0, z1, z2⟩ := fresh_rec x1 x2 x3 x4
  have hrb : Blk w1 w.heap.size 51 #[.int .i64 0, .string ⟨#[]⟩, .slice none 0 0] := by unfold Blk; rw [x1]; exact Blk.new w _ _
  clear x1 x2 x3 x4
  have k5 := (hb1.cell (p := ⟨cb, 5, none⟩) hcb).trans c5
  have HRB := Lib.hid hrb
  clear hrb
  have HB1 := Lib.hid hb1
  have a1 := HA1.out.below hb1 hcb
  have y5 := a1.frozen 5
  have HA2 := Lib.hid a1
  have HC1 := Lib.hid (HCO.out.new hb1)
  clear hb1 c5 a1 HA1 HCO
  go_wp2_with fail
  refine (a64_load cb 5 z w1 k5).mono ?_
  rintro e w' ⟨rfl, rfl⟩
  go_wp2_with fail
  refine (a64_add cb 5 z (z + 1) w1 k5 y5 (by omega) (by omega) rfl).mono ?_
  rintro e w' ⟨rfl, rfl⟩
  go_wp2_with fail
  refine name_world fun w2 x1 x2 x3 x4 => ?_
  have hs2 : w2.heap.size = w1.heap.size := by rw [x1]; simp
  have g2 : Grew (· = cb) w w2 := by
    have g := ((Grew.of_new (S := (· = cb)) HB1.out).set (p := ⟨cb, 5, none⟩) (.inl rfl) (.int .i64 (z + 1)))
    exact ⟨x2.trans g.os, x3.trans g.tape, x4.trans g.output, by rw [x1]; exact g.size, fun k hk hn => by rw [x1]; exact g.block k hk hn⟩
  have b2 : Blk w2 cb 96 #[vk, .int .i64 x.bseq, .string ⟨#[]⟩, vt, .slice A x.recs.length c, .int .i64 (z + 1)] := by unfold Blk; rw [x1]; exact HA2.out.set 5 _
  have co2 : CO w2 cb (fun k => X k ∧ k < w.heap.size) A c vk vt x.key x.btag x.recs := (HC1.out.set 5 (.int .i64 (z + 1))).new ⟨x2, x3, x4, by rw [x1]; exact Nat.le_refl _, fun k hk => by rw [x1]⟩
  have g2' : w.heap.size < w2.heap.size := by rw [hs2]; exact hg1
  have r2 : Blk w2 w.heap.size 51 #[.int .i64 0, .string ⟨#[]⟩, .slice none 0 0] := by
    have : w2.heap[w.heap.size]? = w1.heap[w.heap.size]? := by rw [x1]; exact Below.heap_setCell w1 ⟨cb, 5, none⟩ _ _ (by simp; omega)
    exact this.trans HRB.out
  obtain ⟨kA, kn, kc, hvk, hkl, hkn, hkm, hkr⟩ := co2.key_reads
  subst hvk
  have k0 : w2.cell? ⟨cb, 0, none⟩ = some (.slice kA kn kc) := b2.cell 0
  have hcb2 : cb < w2.heap.size := b2.lt
  obtain ⟨t, htt⟩ : ∃ t, tagB x.key x.end_.tag (z + 1) s.data.toList = t := ⟨_, rfl⟩
  have HEND := Lib.hid (fun (w' : World) (hb : Below w2.heap.size w2 w') => end_any cb _ x (z + 1) w' ((co2.new hb).chainZ (b2.below hb hcb2)) (by omega))
  have HTAG : Hid (∀ (w' : World) (aA : Option Addr) (an ac B : Nat), Below w2.heap.size w2 w' → an ≤ ac → B ≤ w'.heap.size → Reads w' B 1 aA an (bv x.end_.tag) → Calls Try.prog 33 #[.slice kA kn kc, .slice aA an ac, .int .i64 (z + 1), .string s] w' (RowOut t w')) := Lib.hid fun w' aA an ac B hb hle hB hr => by
    rw [← htt]
    have hal : x.end_.tag.length = an := by have := hr.1; rw [length_bv] at this; omega
    exact aTag_any kA kn kc x.key aA an ac x.end_.tag (z + 1) s w'.heap.size w' ((hkr.below hb).more hb.size) (hr.more hB) (Nat.le_refl _) hkm hle (by omega) (by omega)
  have HS2 := Lib.hid hs2
  have HG2 := Lib.hid g2
  have HB2 := Lib.hid b2
  have HC2 := Lib.hid co2
  have HT := Lib.hid htt
  have HR2 := Lib.hid r2
  have HKL := Lib.hid hkl
  clear x1 x2 x3 x4 hs2 g2 b2 co2 htt hkl hkr HA2 HC1 HB1 k5 y5 f0 f1 f2 z0 z1 z2 r2 HRB
  have hg0 : Below w2.heap.size w2 w2.drew := (Below.refl _ _).drew
  obtain ⟨F, hF⟩ : ∃ F, F = nthF [eqv (.int .i64 (z + 1)), eqv (.string s), eqv (.pointer (some ⟨cb, 0, none⟩)), eqv (.pointer (some ⟨cb, 0, none⟩)), eqv (.pointer (some ⟨cb, 0, none⟩)), eqv (.slice kA kn kc), eqv (.pointer (some ⟨cb, 0, none⟩)), RecV x.end_, BytesV x.end_.tag, eqv (.int .i64 (z + 1)), eqv (.string s), RowV w2.heap.size t, RecN w2.heap.size ⟨z + 1, s, t⟩, NewRecV w2.heap.size] := ⟨_, rfl⟩
  have E0 := Lib.hid (show F 0 = eqv (.int .i64 (z + 1)) by rw [hF]; rfl)
  have E1 := Lib.hid (show F 1 = eqv (.string s) by rw [hF]; rfl)
  have E2 := Lib.hid (show F 2 = eqv (.pointer (some ⟨cb, 0, none⟩)) by rw [hF]; rfl)
  have E3 := Lib.hid (show F 3 = eqv (.pointer (some ⟨cb, 0, none⟩)) by rw [hF]; rfl)
  have E4 := Lib.hid (show F 4 = eqv (.pointer (some ⟨cb, 0, none⟩)) by rw [hF]; rfl)
  have E5 := Lib.hid (show F 5 = eqv (.slice kA kn kc) by rw [hF]; rfl)
  have E6 := Lib.hid (show F 6 = eqv (.pointer (some ⟨cb, 0, none⟩)) by rw [hF]; rfl)
  have E7 := Lib.hid (show F 7 = RecV x.end_ by rw [hF]; rfl)
  have E8 := Lib.hid (show F 8 = BytesV x.end_.tag by rw [hF]; rfl)
  have E9 := Lib.hid (show F 9 = eqv (.int .i64 (z + 1)) by rw [hF]; rfl)
  have E10 := Lib.hid (show F 10 = eqv (.string s) by rw [hF]; rfl)
  have E11 := Lib.hid (show F 11 = RowV w2.heap.size t by rw [hF]; rfl)
  have E12 := Lib.hid (show F 12 = RecN w2.heap.size ⟨z + 1, s, t⟩ by rw [hF]; rfl)
  have E13 := Lib.hid (show F 13 = NewRecV w2.heap.size by rw [hF]; rfl)
  have hst : ∀ j v w w', F j v w → Grows w w' → F j v w' := by rw [hF]; exact nth_stable (by repeat (first | exact st_nil | exact st_eqv _ | exact st_any | exact st_bytes _ | exact st_rec _ | exact st_row _ _ | exact st_recn _ _ | exact st_newrec _ | refine st_cons ?_ ?_))
  have HST0 := Lib.hid hst
  clear hF hst
  refine wp_region_facts_tail 14 F Grows (fun _ => True) (by kernel_rfl) (by kernel_rfl) (by kernel_rfl) (by decide) grows_refl grows_trans HST0.out (trivial) ?_ ?_
  · intro V; refine ⟨?_, ?_, ?_, ?_, ?_, ?_, ?_, ?_, ?_, ?_, ?_, ?_, ?_, ?_, trivial⟩
    · intro wx hg hJ hdep
      clear hdep
      clear hg
      go_wp2_with fail
      exact ⟨rfl, grows_refl _, trivial, by rw [E0.out]; rfl⟩
    · intro wx hg hJ hdep
      clear hdep
      clear hg
      go_wp2_with fail
      exact ⟨rfl, grows_refl _, trivial, by rw [E1.out]; rfl⟩
    · intro wx hg hJ hdep
      clear hdep
      clear hg
      go_wp2_with fail
      exact ⟨rfl, grows_refl _, trivial, by rw [E2.out]; rfl⟩
    · intro wx hg hJ hdep
      have v2 : V 2 = (.pointer (some ⟨cb, 0, none⟩)) := by have h := hdep 2 rfl; rw [E2.out] at h; exact h
      clear hdep
      clear hg
      go_wp2_with fail
      exact ⟨rfl, grows_refl _, trivial, by rw [E3.out]; rfl⟩
    · intro wx hg hJ hdep
      have v3 : V 3 = (.pointer (some ⟨cb, 0, none⟩)) := by have h := hdep 3 rfl; rw [E3.out] at h; exact h
      clear hdep
      clear hg
      go_wp2_with fail
      exact ⟨rfl, grows_refl _, trivial, by rw [E4.out]; rfl⟩
    · intro wx hg hJ hdep
      have v4 : V 4 = (.pointer (some ⟨cb, 0, none⟩)) := by have h := hdep 4 rfl; rw [E4.out] at h; exact h
      clear hdep
      have k1 := ((hg0.trans hg).cell (p := ⟨cb, 0, none⟩) hcb2).trans k0
      clear hg
      go_wp2_with fail
      exact ⟨rfl, grows_refl _, trivial, by rw [E5.out]; rfl⟩
    · intro wx hg hJ hdep
      clear hdep
      clear hg
      go_wp2_with fail
      exact ⟨rfl, grows_refl _, trivial, by rw [E6.out]; rfl⟩
    · intro wx hg hJ hdep
      have v6 : V 6 = (.pointer (some ⟨cb, 0, none⟩)) := by have h := hdep 6 rfl; rw [E6.out] at h; exact h
      clear hdep
      have HM := Lib.hid (HEND.out wx (hg0.trans hg))
      clear hg
      go_wp2_with fail
      refine HM.out.mono ?_
      rintro e w6 ⟨v6, he6, hp6, hb6⟩
      subst he6
      have HP6 := Lib.hid hp6
      have HG6 := Lib.hid hb6
      clear hp6 hb6 HM
      go_wp2_with fail
      exact ⟨rfl, HG6.out, trivial, by rw [E7.out]; exact ⟨v6, rfl, by obtain ⟨A, n, c, e, h1, h2, _, h4⟩ := HP6.out.reads (B := wx.heap.size) (fun k hk => hk); exact ⟨A, n, c, _, e, h1, h2, HG6.out.size, h4⟩⟩⟩
    · intro wx hg hJ hdep
      have h7 : (RecV x.end_) (V 7) wx := by have h := hdep 7 rfl; rw [E7.out] at h; exact h
      clear hdep
      obtain ⟨tv, hv, hbv⟩ := h7
      obtain ⟨tA, tn, tc, rfl⟩ := hbv.form
      have hfd := field_tag x.end_.seq x.end_.text (.slice tA tn tc) wx
      have HBV := Lib.hid hbv
      have HV := Lib.hid hv
      clear hbv hg hv
      rw [HV.out]
      go_wp2_with fail
      exact ⟨rfl, grows_refl _, trivial, by rw [E8.out]; exact HBV.out⟩
    · intro wx hg hJ hdep
      clear hdep
      clear hg
      go_wp2_with fail
      exact ⟨rfl, grows_refl _, trivial, by rw [E9.out]; rfl⟩
    · intro wx hg hJ hdep
      clear hdep
      clear hg
      go_wp2_with fail
      exact ⟨rfl, grows_refl _, trivial, by rw [E10.out]; rfl⟩
    · intro wx hg hJ hdep
      have v5 : V 5 = (.slice kA kn kc) := by have h := hdep 5 rfl; rw [E5.out] at h; exact h
      have h8 : (BytesV x.end_.tag) (V 8) wx := by have h := hdep 8 rfl; rw [E8.out] at h; exact h
      have v9 : V 9 = (.int .i64 (z + 1)) := by have h := hdep 9 rfl; rw [E9.out] at h; exact h
      have v10 : V 10 = (.string s) := by have h := hdep 10 rfl; rw [E10.out] at h; exact h
      clear hdep
      obtain ⟨aA, an, ac, aB, hv, h1, h2, h3, h4⟩ := h8
      have HSX := Lib.hid (hg0.trans hg).size
      have HM := Lib.hid (HTAG.out wx aA an ac aB (hg0.trans hg) h2 h3 h4)
      have HV := Lib.hid hv
      clear hg h1 h2 h3 h4 hv
      rw [HV.out]
      go_wp2_with fail
      refine HM.out.mono ?_
      rintro e w6 ⟨A6, c6, rfl, hv6, hb6⟩
      have hsx := HSX.out
      have HV6 := Lib.hid (hv6.mono hsx)
      have HG6 := Lib.hid hb6
      clear hv6 hb6
      go_wp2_with fail
      exact ⟨rfl, HG6.out, trivial, by rw [E11.out]; exact ⟨_, _, rfl, HV6.out⟩⟩
    · intro wx hg hJ hdep
      have v0 : V 0 = (.int .i64 (z + 1)) := by have h := hdep 0 rfl; rw [E0.out] at h; exact h
      have v1 : V 1 = (.string s) := by have h := hdep 1 rfl; rw [E1.out] at h; exact h
      have h11 : (RowV w2.heap.size t) (V 11) wx := by have h := hdep 11 rfl; rw [E11.out] at h; exact h
      clear hdep
      obtain ⟨tA, tc, hv, hrow⟩ := h11
      have H11 := Lib.hid hrow
      have HV := Lib.hid hv
      clear hg hrow hv
      rw [HV.out]
      go_wp2_with fail
      exact ⟨rfl, grows_refl _, trivial, by rw [E12.out]; exact ⟨_, rfl, _, _, rfl, H11.out⟩⟩
    · intro wx hg hJ hdep
      clear hdep
      have hsx := (hg0.trans hg).size
      clear hg
      go_wp2_with fail
      exact ⟨rfl, (Below.refl _ _).alloc (Nat.le_refl _) _, trivial, by rw [E13.out]; exact ⟨wx.heap.size, rfl, hsx, Blk.new _ _ _⟩⟩
  · intro V wx hg hJ hall
    have v0 : V 0 = (.int .i64 (z + 1)) := by have h := hall 0 (by decide); rw [E0.out] at h; exact h
    have v1 : V 1 = (.string s) := by have h := hall 1 (by decide); rw [E1.out] at h; exact h
    have v2 : V 2 = (.pointer (some ⟨cb, 0, none⟩)) := by have h := hall 2 (by decide); rw [E2.out] at h; exact h
    have v3 : V 3 = (.pointer (some ⟨cb, 0, none⟩)) := by have h := hall 3 (by decide); rw [E3.out] at h; exact h
    have v4 : V 4 = (.pointer (some ⟨cb, 0, none⟩)) := by have h := hall 4 (by decide); rw [E4.out] at h; exact h
    have v5 : V 5 = (.slice kA kn kc) := by have h := hall 5 (by decide); rw [E5.out] at h; exact h
    have v6 : V 6 = (.pointer (some ⟨cb, 0, none⟩)) := by have h := hall 6 (by decide); rw [E6.out] at h; exact h
    have h7 : (RecV x.end_) (V 7) wx := by have h := hall 7 (by decide); rw [E7.out] at h; exact h
    have h8 : (BytesV x.end_.tag) (V 8) wx := by have h := hall 8 (by decide); rw [E8.out] at h; exact h
    have v9 : V 9 = (.int .i64 (z + 1)) := by have h := hall 9 (by decide); rw [E9.out] at h; exact h
    have v10 : V 10 = (.string s) := by have h := hall 10 (by decide); rw [E10.out] at h; exact h
    have h11 : (RowV w2.heap.size t) (V 11) wx := by have h := hall 11 (by decide); rw [E11.out] at h; exact h
    have h12 : (RecN w2.heap.size ⟨z + 1, s, t⟩) (V 12) wx := by have h := hall 12 (by decide); rw [E12.out] at h; exact h
    have h13 : (NewRecV w2.heap.size) (V 13) wx := by have h := hall 13 (by decide); rw [E13.out] at h; exact h
    clear hall
    simp only [List.take_succ_cons, List.take_zero, List.drop_succ_cons, List.drop_zero, fillTo, Act.put, List.setIfInBounds_toArray, List.set_cons_succ, List.set_cons_zero, Nat.reduceAdd, Nat.zero_add, v0, v1, v2, v3, v4, v5, v6, v9, v10]
    clear v0 v1 v2 v3 v4 v5 v6 v9 v10
    obtain ⟨tv, hv12, tA, tc, rfl, hrow⟩ := h12
    obtain ⟨g, hv13, hNg, hblk⟩ := h13
    have hbx := hg0.trans hg
    have e0 : wx.cell? ⟨g, 0, none⟩ = some (.int .i64 0) := hblk.cell 0
    have e1 : wx.cell? ⟨g, 1, none⟩ = some (.string ⟨#[]⟩) := hblk.cell 1
    have e2 : wx.cell? ⟨g, 2, none⟩ = some (.slice none 0 0) := hblk.cell 2
    have q0 := hblk.frozen 0
    have q1 := hblk.frozen 1
    have q2 := hblk.frozen 2
    have HROW := Lib.hid hrow
    have HBLK := Lib.hid hblk
    have HBX := Lib.hid hbx
    rw [hv12, hv13]
    clear hg h7 h8 h11 hrow hblk hbx hv12 hv13
    go_wp2_with fail
    refine name_world fun w4 y1 y2 y3 y4 => ?_
    have ht32 : t.length = 32 := by rw [← HT.out]; rfl
    have hblk4 : Blk w4 g 51 #[.int .i64 (z + 1), .string s, .slice tA t.length tc] := by unfold Blk; rw [y1]; exact ((HBLK.out.set 0 _).set 1 _).set 2 _
    have hb4 : Below w2.heap.size w2 w4 := below_heap (((HBX.out.setCell hNg _).setCell hNg _).setCell hNg _) y1 y2 y3 y4
    have hgx : g < wx.heap.size := HBLK.out.lt
    have hne := row_not_blk HROW.out HBLK.out (by rw [ht32]; decide)
    have hrow4 : Row w4 w2.heap.size 1 tA t.length tc (bv t) := ((HROW.out.far hne _).far hne _ |>.far hne _).of_block fun ad e => by rw [y1]
    have co4 : CO w4 cb (fun k => (X k ∧ k < w.heap.size) ∨ w2.heap.size ≤ k) A c (.slice kA kn kc) vt x.key x.btag x.recs := (HC2.out.new hb4).mono fun k h => .inl h
    have b4 := HB2.out.below hb4 hcb2
    have r4 := HR2.out.below hb4 g2'
    have hcbg : cb ≠ g := by omega
    have hs4 := hb4.size
    have hp4 : Part w4 (RTag (fun k => ((X k ∧ k < w.heap.size) ∨ w2.heap.size ≤ k) ∧ k ≠ cb) A w4) (.slice tA t.length tc) t := Part.of_row hrow4 (by omega) fun ad e => ⟨⟨.inr (hrow4.lt ad e).1, by have := (hrow4.lt ad e).1; omega⟩, (hrow4.lt ad e).2, fun ad' e' => by have := (hrow4.lt ad e).1; have := (HC2.out.row.lt ad' e').2; omega⟩
    obtain ⟨vs, g1, g2, g3, g4, g5, g6⟩ := rec_ready (r := ⟨z + 1, s, t⟩) 51 co4.row (Below.refl _ _) hp4 rfl
    have co5 : CO (w4.alloc (.cells #[.int .i64 (z + 1), .string s, .slice tA t.length tc] 51)).drew cb (fun k => (X k ∧ k < w.heap.size) ∨ w2.heap.size ≤ k) A c (.slice kA kn kc) vt x.key x.btag x.recs := co4.new (((Below.refl _ _).alloc (Nat.le_refl _) _).drew)
    have hA : ∀ k, A.map (·.block) = some k → k ≠ cb ∧ k < w.heap.size := fun k e => by
      cases A with
      | none => cases e
      | some ad => simp only [Option.map_some, Option.some.injEq] at e; subst e; exact ⟨(HC2.out.own ad rfl).2, (HC2.out.own ad rfl).1.2⟩
    have hcb4 : cb < w4.heap.size := b4.lt
    have hg4 : g < w4.heap.size := hblk4.lt
    have c4 : w4.cell? ⟨cb, 4, none⟩ = some (.slice A x.recs.length c) := b4.cell 4
    have d0 : w4.cell? ⟨g, 0, none⟩ = some (.int .i64 (z + 1)) := hblk4.cell 0
    have d1 : w4.cell? ⟨g, 1, none⟩ = some (.string s) := hblk4.cell 1
    have d2 : w4.cell? ⟨g, 2, none⟩ = some (.slice tA t.length tc) := hblk4.cell 2
    have HG1' := Lib.hid g1
    have HG2' := Lib.hid g2
    have HG3' := Lib.hid g3.drew
    have HG4' := Lib.hid (fun i h h' => (g4 i h h').drew)
    have HG5' := Lib.hid g5.drew
    have HG6' := Lib.hid g6.drew
    have HCO5 := Lib.hid co5
    have HA5 := Lib.hid hA
    have HBK4 := Lib.hid hblk4
    have HB4 := Lib.hid hb4
    have HBC4 := Lib.hid b4
    have HBR4 := Lib.hid r4
    have HT32 := Lib.hid ht32
    have HR4 := Lib.hid hrow4
    clear y1 y2 y3 y4 hblk4 hb4 hne hrow4 co4 b4 hp4 g1 g2 g3 g4 g5 g6 co5 hA HROW HBLK HBX HTAG HEND e0 e1 e2 q0 q1 q2 ht32 r4 k0
    go_region_law ((refine step_append_row (by rfl) (.tmp 41) (.tmp 43) (by rfl) Try.underlying40 hj hy0 hy1 hy2 rec_cells (by decide) (by rfl) HG3'.out (by rfl) HG5'.out (rcv_one _ _ _ _) (by unfold maxLen; omega) (by omega) (Nat.zero_le _) ?_; intro A5 c5 w5 hrow5 hgr5 hat5; have HST5 := Lib.hid (step5 HCO5.out HG2'.out HG4'.out HG6'.out hrow5 hgr5 hat5 HA5.out HBK4.out HBC4.out HBR4.out hs4 hcb2 g2' (by omega)); have k0 := HST5.out.2.1 4 _ rfl; have kf := HST5.out.2.2.2.1.frozen 4; have k1 := HST5.out.2.2.1 0 _ rfl; have k2 := HST5.out.2.2.1 1 _ rfl; have k3 := HST5.out.2.2.1 2 _ rfl; clear hrow5 hgr5 hat5))
    all_goals go_upto_region 6 with (fail)
    all_goals
      refine name_world fun w6 y1 y2 y3 y4 => ?_
      obtain ⟨co5, _, _, b5, bg5, br5, gr5⟩ := HST5.out
      have hs5 := gr5.size
      have co6 := (co5.set 4 (.slice A5 (x.recs.length + 1) c5)).new (w' := w6) ⟨y2, y3, y4, by rw [y1]; exact Nat.le_refl _, fun k hk => by rw [y1]⟩
      have b6 : Blk w6 cb 96 #[.slice kA kn kc, .int .i64 x.bseq, .string ⟨#[]⟩, vt, .slice A5 (x.recs.length + 1) c5, .int .i64 (z + 1)] := by unfold Blk; rw [y1]; exact b5.set 4 _
      have bg6 : Blk w6 g 51 #[.int .i64 (z + 1), .string s, .slice tA t.length tc] := by unfold Blk; rw [y1]; exact bg5.far (by simp; omega) _
      have br6 : Blk w6 w.heap.size 51 #[.int .i64 0, .string ⟨#[]⟩, .slice none 0 0] := by unfold Blk; rw [y1]; exact br5.far (by simp; omega) _
      have gg6 : Grew (fun k => k = cb ∨ X k) w w6 := by
        have q1 := (HG2.out.mono (T := fun k => k = cb ∨ X k) fun k _ e => .inl e).next_new HB4.out
        have q2 := q1.next (Grew.of_grown (S := fun k => A.map (·.block) = some k) gr5 fun k e _ => e) fun k _ e => .inr (by
          cases A with
          | none => cases e
          | some ad => simp only [Option.map_some, Option.some.injEq] at e; subst e; exact (HC2.out.own ad rfl).1.1)
        have q3 := q2.set (p := ⟨cb, 4, none⟩) (.inl (.inl rfl)) (.slice A5 (x.recs.length + 1) c5)
        exact ⟨y2.trans q3.os, y3.trans q3.tape, y4.trans q3.output, by rw [y1]; exact q3.size, fun k hk hn => by rw [y1]; exact q3.block k hk hn⟩
      have hs6 : w6.heap.size = w5.heap.size := by rw [y1]; simp
      have hr6 : Row w6 w2.heap.size 1 tA t.length tc (bv t) := by
        have q := (HR4.out.grown gr5 fun ad e e' => by have := (HA5.out ad.block e'.symm).2; have := (HR4.out.lt ad e).1; omega).far (p := ⟨cb, 4, none⟩) (fun ad e => by have := (HR4.out.lt ad e).1; simp; omega) (.slice A5 (x.recs.length + 1) c5)
        exact q.of_block fun ad e => by rw [y1]
      have hw6 : w.heap.size < w6.heap.size := by omega
      have hgw : w2.heap.size ≤ g := hNg
      have hg6 : g < w6.heap.size := bg6.lt
      have HCO6 := Lib.hid co6
      have HB6 := Lib.hid b6
      have HBG6 := Lib.hid bg6
      have HBR6 := Lib.hid br6
      have HGG6 := Lib.hid gg6
      have HR6 := Lib.hid hr6
      clear y1 y2 y3 y4 co5 b5 bg5 br5 gr5 co6 b6 bg6 br6 gg6 hr6 hs6 HST5 HG1' HG2' HG3' HG4' HG5' HG6' HCO5 HR4 HBK4 HBC4 HBR4 k0 k1 k2 k3 kf c4 d0 d1 d2 HB4 HC2 HB2 HR2 HG2
      by_cases h12 : x.recs.length = 12
      · obtain ⟨f, fs, hfs⟩ : ∃ f fs, x.recs = f :: fs := (by
          cases h : x.recs with
          | nil => rw [h] at h12; cases h12
          | cons f fs => exact ⟨f, fs, rfl⟩)
        have hfl : (fs ++ [(⟨z + 1, s, t⟩ : Rec)]).length = 12 := by rw [hfs] at h12; simpa using h12
        have co6 := HCO6.out
        rw [hfs, List.cons_append] at co6
        obtain ⟨ga, oa, v0, vs', hA5, hga, hc5, _, p0, p1, p2, hp0, _, _⟩ := co6.first
        obtain ⟨w0A, w0n, w0c, hv0⟩ := hp0.form
        subst hA5 hv0
        have hgcb : ga ≠ cb := (co6.own _ rfl).2
        have b6 := HB6.out
        rw [h12] at b6
        have c4 : w6.cell? ⟨cb, 4, none⟩ = some (.slice (some ⟨ga, oa, none⟩) 13 c5) := b6.cell 4
        have m1 : w6.cell? ⟨cb, 1, none⟩ = some (.int .i64 x.bseq) := b6.cell 1
        have m2 : w6.cell? ⟨cb, 2, none⟩ = some (.string ⟨#[]⟩) := b6.cell 2
        have m3 : w6.cell? ⟨cb, 3, none⟩ = some vt := b6.cell 3
        have n1 := b6.frozen 1
        have n2 := b6.frozen 2
        have n3 := b6.frozen 3
        have hcb6 : cb < w6.heap.size := b6.lt
        rw [hfl] at hc5
        have HFS := Lib.hid hfs
        have HFL := Lib.hid hfl
        have H12 := Lib.hid h12
        have HC6' := Lib.hid co6
        have HB6' := Lib.hid b6
        clear hfs hfl h12 co6 b6 hp0 HCO6 HB6
        go_upto_region 9 with (fail)
        refine name_world fun w8 y1 y2 y3 y4 => ?_
        have co8 := ((((HC6'.out.set 1 (.int .i64 f.seq)).set 2 (.string ⟨#[]⟩)).set 3 (.slice w0A w0n w0c)).new ((Below.refl _ _).alloc (Nat.le_refl _) (.cells #[.int .i64 f.seq, .string f.text, .slice w0A w0n w0c] 51))).new (w' := w8) ⟨y2, y3, y4, by rw [y1]; exact Nat.le_refl _, fun k hk => by rw [y1]⟩
        have b8 : Blk w8 cb 96 #[.slice kA kn kc, .int .i64 f.seq, .string ⟨#[]⟩, .slice w0A w0n w0c, .slice (some ⟨ga, oa, none⟩) 13 c5, .int .i64 (z + 1)] := by unfold Blk; rw [y1]; exact (((HB6'.out.set 1 _).set 2 _).set 3 _).alloc _
        have bg8 : Blk w8 g 51 #[.int .i64 (z + 1), .string s, .slice tA t.length tc] := by unfold Blk; rw [y1]; exact (((HBG6.out.far (by simp; omega) _).far (by simp; omega) _).far (by simp; omega) _).alloc _
        have br8 : Blk w8 w.heap.size 51 #[.int .i64 0, .string ⟨#[]⟩, .slice none 0 0] := by unfold Blk; rw [y1]; exact (((HBR6.out.far (by simp; omega) _).far (by simp; omega) _).far (by simp; omega) _).alloc _
        have g68 : Grew (· = cb) w6 w8 := by
          have q := ((((Grew.refl (· = cb) w6).set (p := ⟨cb, 1, none⟩) (.inl rfl) (.int .i64 f.seq)).set (p := ⟨cb, 2, none⟩) (.inl rfl) (.string ⟨#[]⟩)).set (p := ⟨cb, 3, none⟩) (.inl rfl) (.slice w0A w0n w0c)).alloc (.cells #[.int .i64 f.seq, .string f.text, .slice w0A w0n w0c] 51)
          exact ⟨y2.trans q.os, y3.trans q.tape, y4.trans q.output, by rw [y1]; exact q.size, fun k hk hn => by rw [y1]; exact q.block k hk hn⟩
        have hr8 := HR6.out.grew g68 (fun ad e => by have := (HR6.out.lt ad e).1; omega)
        have gg8 := HGG6.out.next g68 (fun k _ e => .inl e)
        obtain ⟨ga2, oa2, v2, vs, hA8, hga8, hc8, hvl, _, _, p2', hp8, hrd8, h48⟩ := co8.first
        obtain ⟨rfl, rfl⟩ : ga = ga2 ∧ oa = oa2 := by simpa using hA8
        have hv2 : v2 = .slice w0A w0n w0c := Option.some.inj (p2'.symm.trans ((World.cell?_of_block (a := ⟨ga, oa + 2, none⟩) (g68.block ga hga hgcb)).trans p2))
        subst hv2
        rw [HFL.out] at hrd8
        have hsl := zip_one (fs ++ [⟨z + 1, s, t⟩]) vs (parts_slices hvl h48)
        have hs8 := g68.size
        have c48 : w8.cell? ⟨cb, 4, none⟩ = some (.slice (some ⟨ga, oa, none⟩) 13 c5) := b8.cell 4
        have f48 := b8.frozen 4
        have hc1 : ¬ c5 = 1 := by omega
        have hcb8 : cb < w8.heap.size := by omega
        have HCO8 := Lib.hid co8
        have HB8 := Lib.hid b8
        have HBG8 := Lib.hid bg8
        have HBR8 := Lib.hid br8
        have HGG8 := Lib.hid gg8
        have HR8 := Lib.hid hr8
        have HP8 := Lib.hid hp8
        have HRD8 := Lib.hid hrd8
        have H48 := Lib.hid h48
        have HSL := Lib.hid hsl
        have HVL := Lib.hid hvl
        clear y1 y2 y3 y4 co8 b8 bg8 br8 g68 hr8 gg8 hA8 p2' hp8 hrd8 h48 hsl hvl hc8 c4 m1 m2 m3 n1 n2 n3 p0 p1 p2 HC6' HB6' HBG6 HBR6 HGG6 HR6
        go_upto_region 10 with (at_builtin; refine wpList_append_row rfl (.const (.slice none 0 0)) (.tmp 72) rfl Try.underlying40 hj hy0 hy1 hy2 rec_cells (by decide) rfl (Row.nil_ w8 0 3) rfl HRD8.out HSL.out (by unfold maxLen; omega) (by omega) (Nat.zero_le _) ?_; intro A9 c9 w9 hrow9 hgr9 hat9; have b9 := HB8.out.grown hgr9 (by simp); have k4 : w9.cell? ⟨cb, 4, none⟩ = some (.slice (some ⟨ga, oa, none⟩) 13 c5) := b9.cell 4; have kf := b9.frozen 4; have HB9 := Lib.hid b9; have HROW9 := Lib.hid hrow9; have HGR9 := Lib.hid hgr9; have HAT9 := Lib.hid hat9; clear b9 hrow9 hgr9 hat9)
        refine name_world fun w10 y1 y2 y3 y4 => ?_
        have hrow9 := HROW9.out
        rw [List.nil_append, Nat.zero_add] at hrow9
        have co9 := HCO8.out.rest (N := w2.heap.size) (by omega) hcb8 HVL.out HP8.out H48.out (by rw [HFL.out]; exact hrow9) HGR9.out HAT9.out
        have hs9 : w8.heap.size ≤ w9.heap.size := HGR9.out.size
        have co10 := (co9.set 4 (.slice A9 12 c9)).new (w' := w10) ⟨y2, y3, y4, by rw [y1]; exact Nat.le_refl _, fun k hk => by rw [y1]⟩
        have b10 : Blk w10 cb 96 #[.slice kA kn kc, .int .i64 f.seq, .string ⟨#[]⟩, .slice w0A w0n w0c, .slice A9 12 c9, .int .i64 (z + 1)] := by unfold Blk; rw [y1]; exact HB9.out.set 4 _
        have bg10 : Blk w10 g 51 #[.int .i64 (z + 1), .string s, .slice tA t.length tc] := by unfold Blk; rw [y1]; exact (HBG8.out.grown HGR9.out (by simp)).far (by simp; omega) _
        have br10 : Blk w10 w.heap.size 51 #[.int .i64 0, .string ⟨#[]⟩, .slice none 0 0] := by unfold Blk; rw [y1]; exact (HBR8.out.grown HGR9.out (by simp)).far (by simp; omega) _
        have gg10 : Grew (fun k => k = cb ∨ X k) w w10 := by
          have q := (HGG8.out.next (Grew.of_grown (S := fun _ => False) HGR9.out fun k e => by cases e) (fun k _ e => e.elim)).set (p := ⟨cb, 4, none⟩) (.inl (.inl rfl)) (.slice A9 12 c9)
          exact ⟨y2.trans q.os, y3.trans q.tape, y4.trans q.output, by rw [y1]; exact q.size, fun k hk hn => by rw [y1]; exact q.block k hk hn⟩
        have hr10 : Row w10 w2.heap.size 1 tA t.length tc (bv t) := by
          have q := (HR8.out.grown HGR9.out fun ad e e' => by cases e').far (p := ⟨cb, 4, none⟩) (fun ad e => by have := (HR8.out.lt ad e).1; simp; omega) (.slice A9 12 c9)
          exact q.of_block fun ad e => by rw [y1]
        have hs10 : w10.heap.size = w9.heap.size := by rw [y1]; simp
        have hw10 : w.heap.size < w10.heap.size := by omega
        have d0 : w10.cell? ⟨g, 0, none⟩ = some (.int .i64 (z + 1)) := bg10.cell 0
        have d1 : w10.cell? ⟨g, 1, none⟩ = some (.string s) := bg10.cell 1
        have d2 : w10.cell? ⟨g, 2, none⟩ = some (.slice tA t.length tc) := bg10.cell 2
        have HCO10 := Lib.hid co10
        have HB10 := Lib.hid b10
        have HBR10 := Lib.hid br10
        have HGG10 := Lib.hid gg10
        have HR10 := Lib.hid hr10
        clear y1 y2 y3 y4 hs10 co9 co10 b10 bg10 br10 gg10 hr10 hrow9 k4 kf c48 f48
        go_wp2_with fail
        refine (copied_any ⟨z + 1, s, t⟩ (.slice tA t.length tc) (· < w10.heap.size) w10 (Part.of_row HR10.out (by have := HT32.out; omega) fun ad e => (HR10.out.lt ad e).2) (fun k hk => hk)).mono ?_
        rintro e w11 ⟨A7, c7, rfl, hr7, hb7⟩
        have br7 := HBR10.out.below hb7 hw10
        have f0 : w11.cell? ⟨w.heap.size, 0, none⟩ = some (.int .i64 0) := br7.cell 0
        have f1 : w11.cell? ⟨w.heap.size, 1, none⟩ = some (.string ⟨#[]⟩) := br7.cell 1
        have f2 : w11.cell? ⟨w.heap.size, 2, none⟩ = some (.slice none 0 0) := br7.cell 2
        have q0 := br7.frozen 0
        have q1 := br7.frozen 1
        have q2 := br7.frozen 2
        have HR7 := Lib.hid hr7
        have HB7 := Lib.hid hb7
        clear br7 hr7 hb7
        go_wp2_with fail
        refine bodyPost_ret (v := .tuple #[.agg #[.int .i64 (z + 1), .string s, .slice A7 t.length c7], .int .i64 0]) (by simp [results, Try.results36, go_sem, f0, f1, f2]) rfl ?_
        exact add_done HZ.out HT.out (add_full HZ.out HT.out HFS.out H12.out HCO10.out HB10.out) (fun k hk => by rcases hk with ((hk | hk) | hk) | hk; exact .inl hk.1; exact .inr (by omega); exact .inr (by omega); exact .inr (by omega)) HGG10.out hw10 hcb (fun k hk e => by rcases hk with ((hk | hk) | hk) | hk <;> omega) HR7.out HB7.out
      · have e3 : decide (12 < (x.recs.length : Int) + 1) = false := by simp; omega
        have c4 : w6.cell? ⟨cb, 4, none⟩ = some (.slice A5 (x.recs.length + 1) c5) := HB6.out.cell 4
        have d0 : w6.cell? ⟨g, 0, none⟩ = some (.int .i64 (z + 1)) := HBG6.out.cell 0
        have d1 : w6.cell? ⟨g, 1, none⟩ = some (.string s) := HBG6.out.cell 1
        have d2 : w6.cell? ⟨g, 2, none⟩ = some (.slice tA t.length tc) := HBG6.out.cell 2
        go_wp2_with fail
        refine (copied_any ⟨z + 1, s, t⟩ (.slice tA t.length tc) (· < w6.heap.size) w6 (Part.of_row HR6.out (by have := HT32.out; omega) fun ad e => (HR6.out.lt ad e).2) (fun k hk => hk)).mono ?_
        rintro e w7 ⟨A7, c7, rfl, hr7, hb7⟩
        have br7 := HBR6.out.below hb7 hw6
        have f0 : w7.cell? ⟨w.heap.size, 0, none⟩ = some (.int .i64 0) := br7.cell 0
        have f1 : w7.cell? ⟨w.heap.size, 1, none⟩ = some (.string ⟨#[]⟩) := br7.cell 1
        have f2 : w7.cell? ⟨w.heap.size, 2, none⟩ = some (.slice none 0 0) := br7.cell 2
        have q0 := br7.frozen 0
        have q1 := br7.frozen 1
        have q2 := br7.frozen 2
        have HR7 := Lib.hid hr7
        have HB7 := Lib.hid hb7
        clear br7 hr7 hb7
        go_wp2_with fail
        refine bodyPost_ret (v := .tuple #[.agg #[.int .i64 (z + 1), .string s, .slice A7 t.length c7], .int .i64 0]) (by simp [results, Try.results36, go_sem, f0, f1, f2]) rfl ?_
        exact add_done HZ.out HT.out (add_short HZ.out HT.out (by omega) HCO6.out HB6.out) (fun k hk => by rcases hk with (hk | hk) | hk; exact .inl hk.1; exact .inr (by omega); exact .inr (by omega)) HGG6.out hw6 hcb (fun k hk e => by rcases hk with (hk | hk) | hk <;> omega) HR7.out HB7.out
end Go.Proofs.Ytbjlmodabiadfaa
