/- THE WALK of the laws' own helper Owned. -/
import Derived.Test.YtnhcabcpdlgdaaaDoorLent
import Derived.Outline
namespace Go.Proofs.YtnhcabcpdlgdaaaDoor
open Go.RowKit

abbrev Sl := Option Addr × Nat × Nat
def Sl.val (x : Sl) : Value := .slice x.1 x.2.1 x.2.2
/-- The blocks of some rows that have room. -/
def blocksOf (R : List Sl) (k : Nat) : Prop := ∃ x ∈ R, ∃ a : Addr, x.1 = some a ∧ 0 < x.2.2 ∧ k = a.block
/-- The first k cells of a row hold v. -/
def Full (w : World) (x : Sl) (v : Int) (k : Nat) : Prop := ∀ a, x.1 = some a → ∀ j, j < k → w.cell? ⟨a.block, a.off + j, none⟩ = some (.int .u8 v)
/-- Rows that their owner may write over. -/
structure OwnedRows (w : World) (bo : Nat) (R : List Sl) : Prop where
  cell : ∀ i x, R[i]? = some x → w.cell? ⟨bo, i, none⟩ = some x.val
  row : ∀ x ∈ R, ∃ base xs, Row w base 1 x.1 x.2.1 x.2.2 xs
  apart : ∀ (i j : Nat) x y a b, R[i]? = some x → R[j]? = some y → i ≠ j → x.1 = some a → y.1 = some b → 0 < x.2.2 → 0 < y.2.2 → a.block ≠ b.block
  outer : ¬ blocksOf R bo

theorem Full.other {w : World} {x : Sl} {v : Int} {k : Nat} (h : Full w x v k) {p : Addr} (hp : ∀ a, x.1 = some a → 0 < k → a.block ≠ p.block) (u : Value) : Full (w.setCell p u) x v k := fun a ha j hj => by
  rw [World.cell?_setCell_other w p _ u (fun e => hp a ha (by omega) (by rw [e]))]
  exact h a ha j hj
theorem Full.next {w : World} {A : Option Addr} {n c g o : Nat} {v : Int} {k : Nat} (hA : A = some ⟨g, o, none⟩) (h : Full w (A, n, c) v k) (hs : (w.cell? ⟨g, o + k, none⟩).isSome = true) : Full (w.setCell ⟨g, o + k, none⟩ (.int .u8 v)) (A, n, c) v (k + 1) := fun a ha j hj => by
  have ha' : A = some a := ha
  rw [hA] at ha'
  simp only [Option.some.injEq] at ha'
  subst ha'
  obtain ⟨z, hz⟩ := Option.isSome_iff_exists.1 hs
  by_cases e : j = k
  · subst e; exact World.cell?_setCell_same w _ _ hz
  · rw [World.cell?_setCell_other w _ _ _ (by simp only [ne_eq, Addr.mk.injEq, and_true, true_and]; omega)]
    exact h _ hA j (by omega)

set_option maxRecDepth 100000 in
set_option maxHeartbeats 4000000 in
theorem Owned_any (bo co : Nat) (R : List Sl) (w : World) (h : OwnedRows w bo R) (hn : R.length ≤ 200) :
    Calls Tryd.prog 38 #[.slice (some ⟨bo, 0, none⟩) R.length co] w fun e w' => e = .returned (.bool true) ∧ Only (blocksOf R) w w' := by
  go_enter Tryd.func38, Tryd.ntmps38
  go_wp2_with fail
  go_loopw [3] (fun i wr => ∃ k : Nat, k ≤ R.length ∧ i = .int .i64 k ∧ Only (blocksOf R) w wr ∧ ∀ j x, j < k → R[j]? = some x → Full wr x (j + 1) x.2.2) (fun i _ => R.length - (intOf i).toNat)
  case atStart => exact ⟨0, by omega, rfl, Only.refl _ _, fun j x hj => by omega⟩
  case round =>
    obtain ⟨i, hi, rfl, hon, hfull⟩ := hrel
    obtain ⟨wo, rfl⟩ : ∃ wo : World, wo = wr := ⟨_, rfl⟩
    by_cases hlt : i < R.length
    · obtain ⟨A, n, c, hx⟩ : ∃ A n c, R[i]? = some (A, n, c) := ⟨_, _, _, List.getElem?_eq_getElem hlt⟩
      have hcell : wo.cell? ⟨bo, i, none⟩ = some (.slice A n c) := (hon.cell h.outer).trans (h.cell i _ hx)
      obtain ⟨base, xs, hrow⟩ := h.row _ (List.mem_of_getElem? hx)
      have hnc := hrow.2.1
      have hcm := hrow.2.2.1
      unfold maxLen at hcm
      have HX := Lib.hid hx
      have HF := Lib.hid hfull
      clear hx hfull
      go_wp2_with fail
      go_quiet (fail)
      go_wp2_with fail
      rename_i nq _
      go_loopw [5] (fun kk w2 => ∃ k : Nat, k ≤ c ∧ kk = .int .i64 k ∧ Only (blocksOf R) w w2 ∧ (∀ j x, j < i → R[j]? = some x → Full w2 x (j + 1) x.2.2) ∧ Full w2 (A, n, c) (i + 1) k) (fun kk _ => c - (intOf kk).toNat)
      case atStart => exact ⟨0, by omega, rfl, hon.drewN _, fun j x hj hx => HF.out j x hj hx, fun a _ j hj => by omega⟩
      case round =>
        obtain ⟨k, hk, rfl, hon2, hprev, hfull2⟩ := hrel
        have HP := Lib.hid hprev
        have HF2 := Lib.hid hfull2
        clear hprev hfull2
        by_cases hlk : k < c
        · obtain ⟨g, o, hA⟩ : ∃ g o, A = some ⟨g, o, none⟩ := by
            cases hA : A with
            | none => have := hrow.2.2.2.1 hA; omega
            | some ad => obtain ⟨g, o, rfl, _⟩ := hrow.2.2.2.2 _ hA; exact ⟨g, o, rfl⟩
          have hrow' := hrow
          simp only [hA] at hrow'
          have hthere := (hrow'.at_.2.2.1 k (by omega)).1
          have hfz := (hrow'.at_.2.2.1 k (by omega)).2
          rw [← hon2.there] at hthere
          rw [← hon2.frozen] at hfz
          obtain ⟨u0, hc0⟩ := Option.isSome_iff_exists.1 hthere
          have hin : blocksOf R g := ⟨_, List.mem_of_getElem? HX.out, _, hA, by show 0 < c; omega, rfl⟩
          have HS := Lib.hid (hon2.setCell (p := ⟨g, o + k, none⟩) hin hthere (.int .u8 ((i : Int) + 1)))
          have HN := Lib.hid (HF2.out.next hA hthere)
          have HO := Lib.hid (show ∀ j x, j < i → R[j]? = some x → Full (wr.setCell ⟨g, o + k, none⟩ (.int .u8 ((i : Int) + 1))) x (j + 1) x.2.2 from fun j x hj hx =>
            (HP.out j x hj hx).other (p := ⟨g, o + k, none⟩) (fun a ha hpos => h.apart j i x (A, n, c) a ⟨g, o, none⟩ hx HX.out (by omega) ha hA hpos (by show 0 < c; omega)) _)
          have HA := Lib.hid hA
          subst hA
          clear hthere hin
          go_wp2_with fail
          go_roundw
          case rel => exact ⟨k + 1, by omega, by go_num, HS.out, HO.out, HN.out⟩
          case measure => simp [intOf]; omega
        · obtain rfl : k = c := by omega
          go_wp2_with fail
          go_roundw
          case rel =>
            refine ⟨i + 1, by omega, by go_num, hon2, fun j x hj hx => ?_⟩
            rcases Nat.lt_or_ge j i with h' | h'
            · exact HP.out j x h' hx
            · obtain rfl : j = i := by omega
              have e := hx.symm.trans HX.out
              simp only [Option.some.injEq] at e
              subst e
              exact HF2.out
          case measure => simp [intOf]; omega
    · obtain rfl : i = R.length := by omega
      have HF := Lib.hid hfull
      clear hfull
      go_wp2_with fail
      go_loopw [6] (fun i wr => ∃ k m : Nat, k ≤ R.length ∧ i = .int .i64 k ∧ wr = wo.drewN m) (fun i _ => R.length - (intOf i).toNat)
      case atStart => exact ⟨0, 0, by omega, rfl, rfl⟩
      case round =>
        obtain ⟨i, m, hi, rfl, rfl⟩ := hrel
        by_cases hlt : i < R.length
        · obtain ⟨A, n, c, hx⟩ : ∃ A n c, R[i]? = some (A, n, c) := ⟨_, _, _, List.getElem?_eq_getElem hlt⟩
          have hcell : wo.cell? ⟨bo, i, none⟩ = some (.slice A n c) := (hon.cell h.outer).trans (h.cell i _ hx)
          obtain ⟨base, xs, hrow⟩ := h.row _ (List.mem_of_getElem? hx)
          have hnc := hrow.2.1
          have hcm := hrow.2.2.1
          unfold maxLen at hcm
          have HX := Lib.hid hx
          clear hx
          go_wp2_with fail
          go_quiet (fail)
          go_wp2_with fail
          rename_i nq _
          go_loopw [8] (fun kk wr => ∃ k m : Nat, k ≤ c ∧ kk = .int .i64 k ∧ wr = wo.drewN m) (fun kk _ => c - (intOf kk).toNat)
          case atStart => exact ⟨0, m + nq, by omega, rfl, by simp⟩
          case round =>
            obtain ⟨k, m2, hk, rfl, rfl⟩ := hrel
            by_cases hlk : k < c
            · obtain ⟨g, o, hA⟩ : ∃ g o, A = some ⟨g, o, none⟩ := by
                cases hA : A with
                | none => have := hrow.2.2.2.1 hA; omega
                | some ad => obtain ⟨g, o, rfl, _⟩ := hrow.2.2.2.2 _ hA; exact ⟨g, o, rfl⟩
              have hc0 := HF.out i (A, n, c) hlt HX.out ⟨g, o, none⟩ hA k hlk
              subst hA
              have he : ((i : Int) + 1 != (i : Int) + 1) = false := by simp
              clear hrow
              go_wp2_with fail
              go_roundw
              case rel => exact ⟨k + 1, m2, by omega, by go_num, rfl⟩
              case measure => simp [intOf]; omega
            · obtain rfl : k = c := by omega
              go_wp2_with fail
              go_roundw
              case rel => exact ⟨i + 1, m2, by omega, by go_num, rfl⟩
              case measure => simp [intOf]; omega
        · go_wp2_with fail
          go_ret
          exact ⟨rfl, hon.drewN _⟩
end Go.Proofs.YtnhcabcpdlgdaaaDoor
