/- Audit: few enough; two rows the same; the reference's Verify. -/
import Derived.Test.YtbjlmodabiadfaaHAud2
namespace Go.Proofs.Ytbjlmodabiadfaa
open Go.RowKit

/-- Few enough, or not. -/
def FewOut (n n2 ln : Nat) (L : List Rec) (w : World) (e : Ending) (w' : World) : Prop := ∃ b : Bool, e = .returned (.bool b) ∧ w' = w ∧ (b = true → n ≤ 256 ∧ n2 ≤ 256 ∧ ln ≤ 20 ∧ ∀ r ∈ L, r.text.size ≤ 1000 ∧ r.tag.length ≤ 256)
def FewRel (L : List Rec) (w1 : World) (s : Value) (wr : World) : Prop := ∃ j : Nat, j ≤ L.length ∧ s = .int .i64 j ∧ (∀ t (h : t < L.length), t < j → L[t].text.size ≤ 1000 ∧ L[t].tag.length ≤ 256) ∧ wr = w1
set_option maxRecDepth 100000 in
set_option maxHeartbeats 4000000 in
theorem few_any (A : Option Addr) (n c : Nat) (A2 : Option Addr) (n2 c2 : Nat) (LA : Option Addr) (ln lc : Nat) (L : List Rec) (R : Nat → Prop) (w : World) (hl : L.length = ln) (hL : Recs w R LA L) :
    Calls Try.prog 28 #[.slice A n c, .slice A2 n2 c2, .slice LA ln lc] w (FewOut n n2 ln L w) := by
  have HL := Lib.hid hL
  have HLN := Lib.hid hl
  clear hL hl
  by_cases hin : n ≤ 256 ∧ n2 ≤ 256 ∧ ln ≤ 20
  · obtain ⟨g1, g2, g3⟩ := hin
    go_enter Try.func28, Try.ntmps28
    go_wp2_with fail
    go_loopw [7] (fun s wr => FewRel L w s wr) (fun s _ => ln - (intOf s).toNat)
    case atStart => exact ⟨0, Nat.zero_le _, rfl, fun t h ht => by omega, rfl⟩
    case round =>
      obtain ⟨j, hj, rfl, hsm, rfl⟩ := hrel
      have hjn : j ≤ ln := by have := HLN.out; omega
      clear hj
      by_cases hlt : j < ln
      · have hjl : j < L.length := by have := HLN.out; omega
        obtain ⟨pb, po, hPA, hpR, hpc⟩ := HL.out (by omega)
        obtain ⟨_, c1, v2, c2', hp2⟩ := hpc j hjl
        obtain ⟨tA, tn, tc, rfl, htl, _, _, _⟩ := hp2
        generalize hLj : L[j] = r at c1 htl
        have HLJ := Lib.hid hLj
        have HSM := Lib.hid hsm
        have HTL := Lib.hid htl
        clear hpc hLj hsm htl
        subst hPA
        by_cases h1 : r.text.size ≤ 1000
        · by_cases h2 : tn ≤ 256
          · go_wp2_with fail
            go_roundw
            case rel =>
              refine ⟨j + 1, by omega, by go_num, fun t h ht => ?_, rfl⟩
              by_cases e : t = j
              · subst e; rw [HLJ.out]; exact ⟨h1, by rw [HTL.out]; exact h2⟩
              · exact HSM.out t h (by omega)
            case measure => simp [intOf]; omega
          · have hd : decide (256 < (tn : Int)) = true := by simp; omega
            go_wp2_with fail
            go_ret
            exact ⟨false, rfl, rfl, fun h => by cases h⟩
        · have hd : decide (1000 < (r.text.size : Int)) = true := by simp; omega
          go_wp2_with fail
          all_goals (go_ret; exact ⟨false, rfl, rfl, fun h => by cases h⟩)
      · obtain rfl : j = ln := by omega
        have HSM := Lib.hid hsm
        clear hsm
        go_wp2_with fail
        go_ret
        exact ⟨true, rfl, rfl, fun _ => ⟨g1, g2, g3, fun r hr => by
          obtain ⟨t, ht, rfl⟩ := List.getElem_of_mem hr
          exact HSM.out t ht (by have := HLN.out; omega)⟩⟩
  · have HO := Lib.hid hin
    clear hin
    go_enter Try.func28, Try.ntmps28
    go_wp2_with fail
    all_goals first
      | (go_ret; exact ⟨false, rfl, rfl, fun h => by cases h⟩)
      | (exfalso; have := HO.out; omega)

/-- The first j records of both are the same. -/
def RSameRel (w : World) (n : Nat) (s5 : Value) (wr : World) : Prop := ∃ j q : Nat, j ≤ n ∧ s5 = .int .i64 j ∧ wr = w.drewN q
set_option maxRecDepth 100000 in
set_option maxHeartbeats 4000000 in
theorem rSame_yes (A : Option Addr) (c : Nat) (A2 : Option Addr) (c2 : Nat) (L : List Rec) (R R2 : Nat → Prop) (w : World) (h1 : Recs w R A L) (h2 : Recs w R2 A2 L) (hR : ∀ k, R k → k < w.heap.size) (hR2 : ∀ k, R2 k → k < w.heap.size) (hlen : L.length ≤ 1000000) :
    Calls Try.prog 31 #[.slice A L.length c, .slice A2 L.length c2] w fun e w' => e = .returned (.bool true) ∧ ∃ q, w' = w.drewN q := by
  have H1 := Lib.hid h1
  have H2 := Lib.hid h2
  have HR := Lib.hid hR
  have HR2 := Lib.hid hR2
  clear h1 h2 hR hR2
  go_enter Try.func31, Try.ntmps31
  go_wp2_with fail
  go_loopw [5] (fun s wr => RSameRel w L.length s wr) (fun s _ => L.length - (intOf s).toNat)
  case atStart => exact ⟨0, 0, Nat.zero_le _, rfl, rfl⟩
  case round =>
    obtain ⟨j, q, hj, rfl, rfl⟩ := hrel
    by_cases hlt : j < L.length
    · obtain ⟨b1, o1, hA1, _, hc1⟩ := H1.out (by omega)
      obtain ⟨b2, o2, hA2, _, hc2⟩ := H2.out (by omega)
      obtain ⟨x0, x1, v, x2, hp1⟩ := hc1 j hlt
      obtain ⟨y0, y1, u, y2, hp2⟩ := hc2 j hlt
      obtain ⟨tA, tn, tc, rfl, _, _, _, hr1⟩ := hp1.reads (B := w.heap.size) HR.out
      obtain ⟨uA, un, uc, rfl, _, _, _, hr2⟩ := hp2.reads (B := w.heap.size) HR2.out
      have hv1 := fun m => run_conv_bytes (P := Try.prog) Try.underlying22 Try.underlying5 Try.underlying9 (cap := tc) (hr1.drewN m)
      have hv2 := fun m => run_conv_bytes (P := Try.prog) Try.underlying22 Try.underlying5 Try.underlying9 (cap := uc) (hr2.drewN m)
      generalize L[j] = r at x0 x1 y0 y1 hv1 hv2
      obtain ⟨seq, text, tag⟩ := r
      simp only at x0 x1 y0 y1 hv1 hv2
      have hj0 : (0 : Int) ≤ (j : Int) := by omega
      have hjl : (j : Int) < L.length := by omega
      clear hc1 hc2 hp1 hp2 hr1 hr2
      subst hA1 hA2
      have e1 : (seq != seq) = false := by simp
      go_wp2_with fail
      go_quiet (fail)
      go_wp2_with fail
      go_roundw
      case rel => exact ⟨j + 1, _, by omega, by go_num, rfl⟩
      case measure => simp [intOf]; omega
    · obtain rfl : j = L.length := by omega
      go_wp2_with fail
      go_ret
      exact ⟨rfl, _, rfl⟩
end Go.Proofs.Ytbjlmodabiadfaa
