/- Audit: a new chain; what it tells. -/
import Derived.Test.YtbjlmodabiadfaaHChain
import Derived.Deep.QuietTactic
import Derived.BigQuiet
namespace Go.Proofs.Ytbjlmodabiadfaa
open Go.RowKit

/-- A new chain, in new blocks. -/
def ChOut (x : Ch) (w : World) (e : Ending) (w' : World) : Prop := ∃ cb, e = .returned (.pointer (some ⟨cb, 0, none⟩)) ∧ w.heap.size ≤ cb ∧ ChainAt w' cb (w.heap.size ≤ ·) x ∧ Below w.heap.size w w'
theorem part_nil (w : World) (R : Nat → Prop) : Part w R (.slice none 0 0) [] := ⟨none, 0, 0, rfl, rfl, Nat.le_refl _, Nat.zero_le _, fun h => absurd h (by omega)⟩
set_option maxRecDepth 100000 in
set_option maxHeartbeats 2000000 in
theorem aNew_any (A : Option Addr) (n c B : Nat) (key : List UInt8) (w : World) (hr : Reads w B 1 A n (bv key)) (hB : B ≤ w.heap.size) (hn : n ≤ 140737488351232) :
    Calls Try.prog 35 #[.slice A n c] w (ChOut ⟨key, 0, [], []⟩ w) := by
  have hkl : key.length = n := by have := hr.1; rw [length_bv] at this; omega
  have HC := Lib.hid (bClone_any A n c B key w hr hB (by omega))
  have HKL := Lib.hid hkl
  clear hr hkl
  go_enter Try.func35, Try.ntmps35
  go_wp2_with fail
  refine HC.out.mono ?_
  rintro e w1 ⟨A1, c1, rfl, hrow, hb⟩
  have hs := hb.size
  have HROW := Lib.hid hrow
  have HB := Lib.hid hb
  clear hrow hb HC
  go_wp2_with fail
  go_ret
  refine ⟨w1.heap.size, rfl, hs, ?_, HB.out.alloc hs _⟩
  refine ⟨.slice A1 key.length c1, .slice none 0 0, none, 0, Blk.new w1 _ _, ?_, part_nil _ _, RowRec.nil_ _ _ _, fun ad e => by cases e⟩
  refine (Part.of_row (HROW.out.alloc _) (by have := HKL.out; omega) fun ad e => ?_ : Part _ (RTag (fun k => w.heap.size ≤ k ∧ k ≠ w1.heap.size) none _) _ _)
  have := HROW.out.lt ad e
  exact ⟨⟨this.1, by omega⟩, by simp; omega, fun ad' e' => by cases e'⟩
/-- A number and a tag in new memory. -/
def HeadOut (s : Int) (t : List UInt8) (w : World) (e : Ending) (w' : World) : Prop := ∃ A c, e = .returned (.tuple #[.int .i64 s, .slice A t.length c]) ∧ Row w' w.heap.size 1 A t.length c (bv t) ∧ Below w.heap.size w w'
set_option maxRecDepth 100000 in
set_option maxHeartbeats 4000000 in
theorem Base_any (cb : Nat) (X : Nat → Prop) (x : Ch) (w : World) (h : ChainAt w cb X x) :
    Calls Try.prog 37 #[.pointer (some ⟨cb, 0, none⟩)] w (HeadOut x.bseq x.btag w) := by
  obtain ⟨vk, vt, A, c, a1, a2, a3, a4, a5⟩ := h
  have hcb := a1.lt
  obtain ⟨tA, tn, tc, rfl⟩ := a3.form
  have HC := Lib.hid (copied_any ⟨x.bseq, ⟨#[]⟩, x.btag⟩ _ _ w a3 (fun k hk => hk.2.1))
  have c1 : w.cell? ⟨cb, 1, none⟩ = some (.int .i64 x.bseq) := a1.cell 1
  have c2 : w.cell? ⟨cb, 2, none⟩ = some (.string ⟨#[]⟩) := a1.cell 2
  have c3 : w.cell? ⟨cb, 3, none⟩ = some (.slice tA tn tc) := a1.cell 3
  clear a1 a2 a3 a4 a5
  go_enter Try.func37, Try.ntmps37
  go_wp2_with fail
  refine HC.out.mono ?_
  rintro e w1 ⟨A1, n1, rfl, hrow, hb⟩
  have HROW := Lib.hid hrow
  have HB := Lib.hid hb
  have hs := hb.size
  clear hrow hb HC
  go_wp2_with fail
  go_quiet (fail)
  go_wp2_with fail
  go_ret2
  exact ⟨A1, n1, rfl, (HROW.out.alloc _).drewN _, below_drewN (HB.out.alloc hs _) _⟩
set_option maxRecDepth 100000 in
set_option maxHeartbeats 4000000 in
theorem Head_any (cb : Nat) (X : Nat → Prop) (x : Ch) (w : World) (h : ChainAt w cb X x) (hlen : x.recs.length ≤ 1000000) :
    Calls Try.prog 39 #[.pointer (some ⟨cb, 0, none⟩)] w (HeadOut x.end_.seq x.end_.tag w) := by
  have HE := Lib.hid (end_any cb X x _ w h hlen)
  generalize x.end_ = r at HE
  clear h
  go_enter Try.func39, Try.ntmps39
  go_wp2_with fail
  refine HE.out.mono ?_
  rintro e w1 ⟨v, rfl, hp, hb⟩
  have hs := hb.size
  have HC := Lib.hid (copied_any r v _ w1 hp (fun k hk => by omega))
  have HB := Lib.hid hb
  clear hp hb HE
  go_wp2_with fail
  refine HC.out.mono ?_
  rintro e w2 ⟨A1, n1, rfl, hrow, hb⟩
  have hs2 := hb.size
  have HROW := Lib.hid (hrow.mono hs)
  have HB2 := Lib.hid (HB.out.trans (hb.mono hs))
  clear hrow hb HC HB
  go_wp2_with fail
  go_quiet (fail)
  go_wp2_with fail
  go_ret2
  exact ⟨A1, n1, rfl, (HROW.out.alloc _).drewN _, below_drewN (HB2.out.alloc (by omega) _) _⟩
end Go.Proofs.Ytbjlmodabiadfaa
