/- Audit: a chain in memory; its small functions. -/
import Derived.Test.YtbjlmodabiadfaaHRec
import Derived.Laws.LoneSync
import Derived.StillTailTactics
namespace Go.Proofs.Ytbjlmodabiadfaa
open Go.RowKit

/-- A chain. -/
structure Ch where
  key : List UInt8
  bseq : Int
  btag : List UInt8
  recs : List Rec
def Ch.end_ (x : Ch) : Rec := match x.recs.getLast? with | none => ⟨x.bseq, ⟨#[]⟩, x.btag⟩ | some r => r
/-- A chain at block cb; what else is its own lies in blocks of X. -/
def ChainZ (w : World) (cb : Nat) (X : Nat → Prop) (x : Ch) (z : Int) : Prop :=
  ∃ vk vt A c, Blk w cb 96 #[vk, .int .i64 x.bseq, .string ⟨#[]⟩, vt, .slice A x.recs.length c, .int .i64 z] ∧ Part w (RTag (fun k => X k ∧ k ≠ cb) A w) vk x.key ∧ Part w (RTag (fun k => X k ∧ k ≠ cb) A w) vt x.btag ∧
    RowRec w 0 (fun k => X k ∧ k ≠ cb) A x.recs.length c x.recs ∧ ∀ ad, A = some ad → X ad.block ∧ ad.block ≠ cb
def ChainAt (w : World) (cb : Nat) (X : Nat → Prop) (x : Ch) : Prop := ChainZ w cb X x x.end_.seq
theorem RTag.grew {Y : Nat → Prop} {A : Option Addr} {w w' : World} (h : w.heap.size ≤ w'.heap.size) {k : Nat} (hk : RTag Y A w k) : RTag Y A w' k := ⟨hk.1, Nat.lt_of_lt_of_le hk.2.1 h, hk.2.2⟩
section
variable {w w' : World} {cb : Nat} {X X' : Nat → Prop} {x : Ch}
theorem ChainAt.lt (h : ChainAt w cb X x) : cb < w.heap.size := by obtain ⟨_, _, _, _, h, _⟩ := h; exact h.lt
theorem ChainAt.grew {S : Nat → Prop} (h : ChainAt w cb X x) (g : Grew S w w') (h1 : ¬ S cb) (h2 : ∀ k, X k → k < w.heap.size → ¬ S k) : ChainAt w' cb X x := by
  obtain ⟨vk, vt, A, c, a1, a2, a3, a4, a5⟩ := h
  have key : ∀ k, RTag (fun k => X k ∧ k ≠ cb) A w k → w'.heap[k]? = w.heap[k]? := fun k hk => g.block k hk.2.1 (h2 k hk.1.1 hk.2.1)
  exact ⟨vk, vt, A, c, a1.grew g h1, (a2.keep key).mono fun k hk => hk.grew g.size, (a3.keep key).mono fun k hk => hk.grew g.size, a4.grew g (fun ad e => h2 _ (a5 ad e).1 (a4.lt ad e).2) (fun k hk => h2 k hk.1.1 hk.2.1), a5⟩
theorem ChainAt.new (h : ChainAt w cb X x) (g : Below w.heap.size w w') : ChainAt w' cb X x := h.grew (Grew.of_new (S := fun _ => False) g) (fun h => h) fun _ _ _ h => h
theorem ChainAt.mono (h : ChainAt w cb X x) (hx : ∀ k, X k → X' k) : ChainAt w cb X' x := by
  obtain ⟨vk, vt, A, c, a1, a2, a3, a4, a5⟩ := h
  exact ⟨vk, vt, A, c, a1, a2.mono fun k hk => ⟨⟨hx k hk.1.1, hk.1.2⟩, hk.2⟩, a3.mono fun k hk => ⟨⟨hx k hk.1.1, hk.1.2⟩, hk.2⟩, a4.mono (Nat.le_refl _) fun k hk => ⟨hx k hk.1, hk.2⟩, fun ad e => ⟨hx _ (a5 ad e).1, (a5 ad e).2⟩⟩
/-- What a chain owns lies in the heap. -/
theorem ChainAt.tight (h : ChainAt w cb X x) : ChainAt w cb (fun k => X k ∧ k < w.heap.size) x := by
  obtain ⟨vk, vt, A, c, a1, a2, a3, a4, a5⟩ := h
  refine ⟨vk, vt, A, c, a1, a2.mono fun k hk => ⟨⟨⟨hk.1.1, hk.2.1⟩, hk.1.2⟩, hk.2⟩, a3.mono fun k hk => ⟨⟨⟨hk.1.1, hk.2.1⟩, hk.1.2⟩, hk.2⟩, ?_, fun ad e => ⟨⟨(a5 ad e).1, (a4.lt ad e).2⟩, (a5 ad e).2⟩⟩
  obtain ⟨vs, g1, g2, g3, g4⟩ := a4
  exact ⟨vs, g1, g2, g3, fun i hi hi' => (g4 i hi hi').mono fun k hk => ⟨⟨⟨hk.1.1, hk.2.1⟩, hk.1.2⟩, hk.2⟩⟩
end
theorem Part.form {w : World} {R : Nat → Prop} {v : Value} {l : List UInt8} (h : Part w R v l) : ∃ A n c, v = .slice A n c := by obtain ⟨A, n, c, h, _⟩ := h; exact ⟨A, n, c, h⟩
/-! ### the count -/
theorem a64_load (b o : Nat) (x : Int) (w : World) (hc : w.cell? ⟨b, o, none⟩ = some (.int .i64 x)) :
    Calls Try.prog 56 #[.pointer (some ⟨b, o, none⟩)] w fun e w' => e = .returned (.int .i64 x) ∧ w = w' := by
  have hl := run_call_load (P := Try.prog) Try.func72 (by kernel_rfl) (by kernel_rfl) (by kernel_rfl) .i64 (by kernel_rfl) hc
  go_enter Try.func56, Try.ntmps56
  go_wp2
  go_ret
  exact ⟨rfl, rfl⟩
theorem a64_add (b o : Nat) (x s : Int) (w : World) (hc : w.cell? ⟨b, o, none⟩ = some (.int .i64 x)) (hz : w.frozen? ⟨b, o, none⟩ = false) (h1 : -9223372036854775808 ≤ x + 1) (h2 : x + 1 ≤ 9223372036854775807) (hs : x + 1 = s) :
    Calls Try.prog 57 #[.pointer (some ⟨b, o, none⟩), .int .i64 1] w fun e w' => e = .returned (.int .i64 s) ∧ w.setCell ⟨b, o, none⟩ (.int .i64 s) = w' := by
  have hl := run_call_add (P := Try.prog) Try.func73 (by kernel_rfl) (by kernel_rfl) (by kernel_rfl) .i64 (by kernel_rfl) (y := 1) (s := s) hc hz (by rw [← hs]; simp [go_sem]; exact IntWalk.i64_in _ (by omega))
  clear hs
  go_enter Try.func57, Try.ntmps57
  go_wp2
  go_ret
  exact ⟨rfl, rfl⟩
theorem a64_store (b o : Nat) (v : Value) (x : Int) (w : World) (hc : w.cell? ⟨b, o, none⟩ = some v) (hz : w.frozen? ⟨b, o, none⟩ = false) :
    Calls Try.prog 60 #[.pointer (some ⟨b, o, none⟩), .int .i64 x] w fun e w' => e = .returned (.tuple #[]) ∧ w.setCell ⟨b, o, none⟩ (.int .i64 x) = w' := by
  have hl := run_call_store (P := Try.prog) Try.func74 (by kernel_rfl) (by kernel_rfl) (by kernel_rfl) (by kernel_rfl) (k := .i64) (y := x) hc hz
  go_enter Try.func60, Try.ntmps60
  go_wp2
  go_end0
  exact ⟨rfl, rfl⟩
/-! ### a record in other memory -/
/-- The call hands back a record whose tag lies in new memory. -/
def RecOut (r : Rec) (w : World) (e : Ending) (w' : World) : Prop := ∃ A c, e = .returned (.agg #[.int .i64 r.seq, .string r.text, .slice A r.tag.length c]) ∧ Row w' w.heap.size 1 A r.tag.length c (bv r.tag) ∧ Below w.heap.size w w'
set_option maxRecDepth 100000 in
set_option maxHeartbeats 2000000 in
theorem copied_any (r : Rec) (v : Value) (R : Nat → Prop) (w : World) (hp : Part w R v r.tag) (hR : ∀ k, R k → k < w.heap.size) :
    Calls Try.prog 59 #[.agg #[.int .i64 r.seq, .string r.text, v]] w (RecOut r w) := by
  obtain ⟨A, n, c, rfl, hl, hnc, hn, hr⟩ := hp.reads (B := w.heap.size) hR
  have HR := Lib.hid hr
  have HL := Lib.hid hl
  clear hr hl hp
  go_enter Try.func59, Try.ntmps59
  go_upto_region 1 with (fail)
  refine name_world fun w1 x1 x2 x3 x4 => ?_
  have hk1 : Blk w1 w.heap.size 51 #[.int .i64 r.seq, .string r.text, .slice A n c] := by unfold Blk; rw [x1]; exact (Blk.new w _ _).alloc _
  have hk2 : Blk w1 (w.heap.size + 1) 51 #[.int .i64 0, .string ⟨#[]⟩, .slice none 0 0] := by
    unfold Blk; rw [x1]
    have h := Blk.new (w.alloc (.cells #[.int .i64 r.seq, .string r.text, .slice A n c] 51)) 51 #[.int .i64 0, .string ⟨#[]⟩, .slice none 0 0]
    simpa [Blk] using h
  have hb1 : Below w.heap.size w w1 := below_heap (((Below.refl _ _).alloc (Nat.le_refl _) _).alloc (by simp) _) x1 x2 x3 x4
  have hg1 : w.heap.size + 1 < w1.heap.size := hk2.lt
  have c2 : w1.cell? ⟨w.heap.size, 2, none⟩ = some (.slice A n c) := hk1.cell 2
  have HR1 := Lib.hid (HR.out.below hb1)
  have HK1 := Lib.hid hk1
  have HK2 := Lib.hid hk2
  have HB1 := Lib.hid hb1
  clear x1 x2 x3 x4 hk1 hk2 hb1 HR
  go_wp2_with fail
  refine (bClone_any A n c w.heap.size r.tag w1 HR1.out (by omega) (by omega)).mono ?_
  rintro e w2 ⟨A2, c2', rfl, hrow, hb2⟩
  have hk1 := HK1.out.below hb2 (by omega)
  have hk2 := HK2.out.below hb2 (by omega)
  have d0 : w2.cell? ⟨w.heap.size, 0, none⟩ = some (.int .i64 r.seq) := hk1.cell 0
  have d1 : w2.cell? ⟨w.heap.size, 1, none⟩ = some (.string r.text) := hk1.cell 1
  have d2 : w2.cell? ⟨w.heap.size, 2, none⟩ = some (.slice A n c) := hk1.cell 2
  have f2 := hk1.frozen 2
  have e0 : w2.cell? ⟨w.heap.size + 1, 0, none⟩ = some (.int .i64 0) := hk2.cell 0
  have e1 : w2.cell? ⟨w.heap.size + 1, 1, none⟩ = some (.string ⟨#[]⟩) := hk2.cell 1
  have e2 : w2.cell? ⟨w.heap.size + 1, 2, none⟩ = some (.slice none 0 0) := hk2.cell 2
  have g0 := hk2.frozen 0
  have g1 := hk2.frozen 1
  have g2 := hk2.frozen 2
  have hs2 := hb2.size
  have hlt := hrow.lt
  have HROW := Lib.hid hrow
  have HB2 := Lib.hid (HB1.out.trans (hb2.mono (by omega)))
  have HLT := Lib.hid hlt
  clear hk1 hk2 hrow hb2 hlt c2
  go_wp2_with fail
  refine bodyPost_ret (v := .agg #[.int .i64 r.seq, .string r.text, .slice A2 r.tag.length c2']) (by simp [results, Try.results59, go_sem, e0, e1, e2]) rfl ?_
  refine ⟨A2, c2', rfl, ?_, ?_⟩
  · exact (((((HROW.out.far (fun ad e => by have := HLT.out ad e; simp; omega) _).far (fun ad e => by have := HLT.out ad e; simp; omega) _).far (fun ad e => by have := HLT.out ad e; simp; omega) _).far (fun ad e => by have := HLT.out ad e; simp; omega) _).mono (by omega))
  · exact (((HB2.out.setCell (by simp) _).setCell (by simp) _).setCell (by simp) _).setCell (by simp) _
theorem fresh_rec {w w1 : World} (x1 : w1.heap = (w.alloc (.cells #[.int .i64 0, .string ⟨#[]⟩, .slice none 0 0] 51)).heap) (x2 : w1.os = (w.alloc (.cells #[.int .i64 0, .string ⟨#[]⟩, .slice none 0 0] 51)).os) (x3 : w1.tape = (w.alloc (.cells #[.int .i64 0, .string ⟨#[]⟩, .slice none 0 0] 51)).tape) (x4 : w1.output = (w.alloc (.cells #[.int .i64 0, .string ⟨#[]⟩, .slice none 0 0] 51)).output) :
    Below w.heap.size w w1 ∧ w.heap.size < w1.heap.size ∧ w1.cell? ⟨w.heap.size, 0, none⟩ = some (.int .i64 0) ∧ w1.cell? ⟨w.heap.size, 1, none⟩ = some (.string ⟨#[]⟩) ∧ w1.cell? ⟨w.heap.size, 2, none⟩ = some (.slice none 0 0) ∧ w1.frozen? ⟨w.heap.size, 0, none⟩ = false ∧ w1.frozen? ⟨w.heap.size, 1, none⟩ = false ∧ w1.frozen? ⟨w.heap.size, 2, none⟩ = false := by
  have hk : Blk w1 w.heap.size 51 #[.int .i64 0, .string ⟨#[]⟩, .slice none 0 0] := by unfold Blk; rw [x1]; exact Blk.new w _ _
  exact ⟨below_heap ((Below.refl _ _).alloc (Nat.le_refl _) _) x1 x2 x3 x4, hk.lt, hk.cell 0, hk.cell 1, hk.cell 2, hk.frozen 0, hk.frozen 1, hk.frozen 2⟩
/-- The call hands back a record that lies in old memory. -/
def EndOut (r : Rec) (w : World) (e : Ending) (w' : World) : Prop := ∃ v, e = .returned (.agg #[.int .i64 r.seq, .string r.text, v]) ∧ Part w' (· < w.heap.size) v r.tag ∧ Below w.heap.size w w'
theorem end_nil {x : Ch} (h : x.recs.length = 0) : x.end_ = ⟨x.bseq, ⟨#[]⟩, x.btag⟩ := by
  have : x.recs = [] := List.eq_nil_of_length_eq_zero h
  unfold Ch.end_; rw [this]; rfl
theorem end_some {x : Ch} {m : Nat} (h : x.recs.length = m + 1) : x.end_ = x.recs[m]'(by omega) := by
  unfold Ch.end_
  have : x.recs.getLast? = some (x.recs[m]'(by omega)) := by rw [List.getLast?_eq_getElem?, show x.recs.length - 1 = m by omega]; exact List.getElem?_eq_getElem (by omega)
  rw [this]
set_option maxRecDepth 100000 in
set_option maxHeartbeats 4000000 in
theorem end_any (cb : Nat) (X : Nat → Prop) (x : Ch) (z : Int) (w : World) (h : ChainZ w cb X x z) (hlen : x.recs.length ≤ 1000000) :
    Calls Try.prog 58 #[.pointer (some ⟨cb, 0, none⟩)] w (EndOut x.end_ w) := by
  obtain ⟨vk, vt, A, c, a1, a2, a3, a4, a5⟩ := h
  have hcb := a1.lt
  by_cases h0 : x.recs.length = 0
  · have he := end_nil h0
    rw [h0] at a1
    obtain ⟨tA, tn, tc, rfl⟩ := a3.form
    have HA3 := Lib.hid a3
    have HA1 := Lib.hid a1
    have HE := Lib.hid he
    clear a2 a3 a4 a5 he
    have c1 : w.cell? ⟨cb, 1, none⟩ = some (.int .i64 x.bseq) := a1.cell 1
    have c2 : w.cell? ⟨cb, 2, none⟩ = some (.string ⟨#[]⟩) := a1.cell 2
    have c3 : w.cell? ⟨cb, 3, none⟩ = some (.slice tA tn tc) := a1.cell 3
    have c4 : w.cell? ⟨cb, 4, none⟩ = some (.slice A 0 c) := a1.cell 4
    clear a1 h0
    go_enter Try.func58, Try.ntmps58
    go_upto_region 1 with (fail)
    refine name_world fun w1 x1 x2 x3 x4 => ?_
    obtain ⟨hb1, hg1, f0, f1, f2, z0, z1, z2⟩ := fresh_rec x1 x2 x3 x4
    clear x1 x2 x3 x4
    have k1 := (hb1.cell (p := ⟨cb, 1, none⟩) hcb).trans c1
    have k2 := (hb1.cell (p := ⟨cb, 2, none⟩) hcb).trans c2
    have k3 := (hb1.cell (p := ⟨cb, 3, none⟩) hcb).trans c3
    have k4 := (hb1.cell (p := ⟨cb, 4, none⟩) hcb).trans c4
    have HB1 := Lib.hid hb1
    clear hb1 c1 c2 c3 c4
    go_wp2_with fail
    refine bodyPost_ret (v := .agg #[.int .i64 x.bseq, .string ⟨#[]⟩, .slice tA tn tc]) (by simp [results, Try.results58, go_sem, f0, f1, f2]) rfl ?_
    refine ⟨.slice tA tn tc, by rw [HE.out], ?_, ?_⟩
    · rw [HE.out]
      have hb : Below w.heap.size w (((w1.setCell ⟨w.heap.size, 0, none⟩ (.int .i64 x.bseq)).setCell ⟨w.heap.size, 1, none⟩ (.string ⟨#[]⟩)).setCell ⟨w.heap.size, 2, none⟩ (.slice tA tn tc)) := ((HB1.out.setCell (by simp) _).setCell (by simp) _).setCell (by simp) _
      exact (HA3.out.mono fun k hk => hk.2.1).keep fun k hk => hb.block k hk
    · exact ((HB1.out.setCell (by simp) _).setCell (by simp) _).setCell (by simp) _
  · obtain ⟨m, hm⟩ : ∃ m, x.recs.length = m + 1 := ⟨x.recs.length - 1, by omega⟩
    have he := end_some hm
    have hrc := a4.recs
    obtain ⟨b, o, hA, hR, hrc⟩ := hrc (by omega)
    obtain ⟨r0, r1, v, r2, hp⟩ := hrc m (by omega)
    rw [← he] at r0 r1 hp
    rw [hm] at a1
    have hbl : b < w.heap.size := by
      rcases hR with h | ⟨ad, e, rfl⟩
      · exact h.2
      · exact (a4.lt ad e).2
    have hp' : Part w (· < w.heap.size) v x.end_.tag := hp.mono fun k hk => by
      rcases hk with h | ⟨ad, e, rfl⟩
      · exact h.2
      · exact (a4.lt ad e).2
    obtain ⟨tA, tn, tc, rfl⟩ := hp'.form
    have HP := Lib.hid hp'
    clear a2 a3 a4 a5 he hrc hp hp' hR h0
    have c4 : w.cell? ⟨cb, 4, none⟩ = some (.slice A (m + 1) c) := a1.cell 4
    subst hA
    have s1 : IntKind.i64.wrap (m : Int) = (m : Int) := IntWalk.i64_in _ (by omega)
    have s2 : ((m : Int) + 1 == 0) = false := by rw [beq_eq_false_iff_ne]; omega
    have s3 : (m : Int) < (m : Int) + 1 := by omega
    have s4 : (0 : Int) ≤ (m : Int) := by omega
    generalize x.end_ = r at r0 r1 HP
    clear a1
    go_enter Try.func58, Try.ntmps58
    go_upto_region 1 with (fail)
    refine name_world fun w1 x1 x2 x3 x4 => ?_
    obtain ⟨hb1, hg1, f0, f1, f2, z0, z1, z2⟩ := fresh_rec x1 x2 x3 x4
    clear x1 x2 x3 x4
    have k4 := (hb1.cell (p := ⟨cb, 4, none⟩) hcb).trans c4
    have t0 := (hb1.cell (p := ⟨b, o + m * 3, none⟩) hbl).trans r0
    have t1 := (hb1.cell (p := ⟨b, o + m * 3 + 1, none⟩) hbl).trans r1
    have t2 := (hb1.cell (p := ⟨b, o + m * 3 + 2, none⟩) hbl).trans r2
    have HB1 := Lib.hid hb1
    clear hb1 c4 r0 r1 r2
    go_wp2_with fail
    have cw : ∀ d o u a, ({ heap := w1.heap, tape := w1.tape, drawn := d, os := o, output := u } : World).cell? a = w1.cell? a := fun _ _ _ _ => rfl
    go_still_tail 12, (by kernel_rfl)
    repeat still_step
    change wpList _ _ _ _ _ w1.drew
    clear cw
    go_wp2_with fail
    refine bodyPost_ret (v := .agg #[.int .i64 r.seq, .string r.text, .slice tA tn tc]) (by simp [results, Try.results58, go_sem, f0, f1, f2]) rfl ?_
    have hb : Below w.heap.size w (((w1.drew.setCell ⟨w.heap.size, 0, none⟩ (.int .i64 r.seq)).setCell ⟨w.heap.size, 1, none⟩ (.string r.text)).setCell ⟨w.heap.size, 2, none⟩ (.slice tA tn tc)) := ((HB1.out.drew.setCell (by simp) _).setCell (by simp) _).setCell (by simp) _
    exact ⟨.slice tA tn tc, rfl, HP.out.keep fun k hk => hb.block k hk, hb⟩
end Go.Proofs.Ytbjlmodabiadfaa
