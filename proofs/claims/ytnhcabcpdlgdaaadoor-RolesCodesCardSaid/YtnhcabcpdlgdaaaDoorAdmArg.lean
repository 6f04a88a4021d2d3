/- GENERAL: a law's arguments, read: what a role asks. -/
import Derived.Test.YtnhcabcpdlgdaaaDoorAdmP
import Derived.ProofKit
import Derived.SizedLaws
import Derived.ChangeSlices
import Derived.OpenShut
namespace Go.Proofs.YtnhcabcpdlgdaaaDoor
open Go.RowKit Go.ChangeShapes Go.WideShapes Go.ChangeAt

theorem fits_wf {n : Int} (h : (Lit.int .i64 n).wf = true) : fits n := by
  simp [Lit.wf, IntKind.min, IntKind.max, IntKind.bits, IntKind.signed] at h
  unfold fits; omega
theorem adm_arg {H : Type} {enc : TypeId × Value → H} {P : Program} {W : World} {rr : Reach} {b0 : Nat} {t : TypeId} {f0 f1 f2 f3 f4 f5 g0 g1 g2 g3 : Field} {v : Value} {d : DataW H} {p : List MemPlace} {ts : List TypeId} {ds : List (DataW H)} {base : Nat} {spare : Nat → Bool} {held : Bool}
    (ht : P.underlying t = some (.struct #[f0, f1, f2, f3, f4, f5])) (hr : P.underlying f5.type = some (.struct #[g0, g1, g2, g3]))
    (hi : ∀ f ∈ [f0, f1, f2, f3, g0, g1, g2, g3], P.underlying f.type = some (.int .i64) ∧ P.cellsOf f.type = 1) (hs : P.underlying f4.type = some .string) (hs1 : P.cellsOf f4.type = 1) (hC : P.cellsOf t = 9) (hCr : P.cellsOf f5.type = 4)
    (ho : [f0.offset, f1.offset, f2.offset, f3.offset, f4.offset, f5.offset] = [0, 1, 2, 3, 4, 5]) (hog : [g0.offset, g1.offset, g2.offset, g3.offset] = [0, 1, 2, 3])
    (hv : Value.okWide P W rr b0 t v) (h : DataW.Trod enc P W base spare held t v d p) (hsz : (DataW.weightsEach P ts ds).all (· ≤ reachBytes) = true) {j : Nat} (hts : ts[j]? = some t) (hds : ds[j]? = some d) :
    ∃ a : Adm, v = a.val ∧ a.Wf := by
  obtain ⟨cs, rfl, hcs⟩ := okWide_struct ht hv
  obtain ⟨l⟩ := cs
  simp only [List.cons.injEq, and_true] at ho hog
  obtain ⟨o0, o1, o2, o3, o4, o5⟩ := ho
  obtain ⟨q0, q1, q2, q3⟩ := hog
  match l, hcs.trans hC with
  | [c0, c1, c2, c3, c4, c5, c6, c7, c8], _ =>
    obtain ⟨fuel, hf⟩ := h
    obtain ⟨xs, n, _, hx, _, hlen, hg⟩ := DataW.trod_struct ht hf
    match xs, hlen with
    | [y0, y1, y2, y3, y4, y5], _ =>
      have e0 := hg 0 f0 rfl
      have e1 := hg 1 f1 rfl
      have e2 := hg 2 f2 rfl
      have e3 := hg 3 f3 rfl
      have e4 := hg 4 f4 rfl
      have e5 := hg 5 f5 rfl
      rw [o0, (hi f0 (by simp)).2] at e0
      rw [o1, (hi f1 (by simp)).2] at e1
      rw [o2, (hi f2 (by simp)).2] at e2
      rw [o3, (hi f3 (by simp)).2] at e3
      rw [o4, hs1] at e4
      rw [o5, hCr] at e5
      simp only [Value.cells, List.drop_zero, List.drop_succ_cons, List.take_succ_cons, List.take_zero, List.getElem?_cons_zero, List.getElem?_cons_succ] at e0 e1 e2 e3 e4 e5
      obtain ⟨z0, a0, _, w0⟩ := DataW.trod_int (hi f0 (by simp)).1 e0
      obtain ⟨z1, a1, _, w1⟩ := DataW.trod_int (hi f1 (by simp)).1 e1
      obtain ⟨z2, a2, _, w2⟩ := DataW.trod_int (hi f2 (by simp)).1 e2
      obtain ⟨z3, a3, _, w3⟩ := DataW.trod_int (hi f3 (by simp)).1 e3
      obtain ⟨s, a4, hy4, w4⟩ := DataW.trod_string hs e4
      obtain ⟨xs5, n5, _, hx5, _, hlen5, hg5⟩ := DataW.trod_struct hr e5
      match xs5, hlen5 with
      | [u0, u1, u2, u3], _ =>
        have k0 := hg5 0 g0 rfl
        have k1 := hg5 1 g1 rfl
        have k2 := hg5 2 g2 rfl
        have k3 := hg5 3 g3 rfl
        rw [q0, (hi g0 (by simp)).2] at k0
        rw [q1, (hi g1 (by simp)).2] at k1
        rw [q2, (hi g2 (by simp)).2] at k2
        rw [q3, (hi g3 (by simp)).2] at k3
        simp only [List.drop_zero, List.drop_succ_cons, List.take_succ_cons, List.take_zero, List.getElem?_cons_zero, List.getElem?_cons_succ] at k0 k1 k2 k3
        obtain ⟨z5, a5, _, w5⟩ := DataW.trod_int (hi g0 (by simp)).1 k0
        obtain ⟨z6, a6, _, w6⟩ := DataW.trod_int (hi g1 (by simp)).1 k1
        obtain ⟨z7, a7, _, w7⟩ := DataW.trod_int (hi g2 (by simp)).1 k2
        obtain ⟨z8, a8, _, w8⟩ := DataW.trod_int (hi g3 (by simp)).1 k3
        simp only [List.cons.injEq, and_true] at a0 a1 a2 a3 a4 a5 a6 a7 a8
        subst a0 a1 a2 a3 a4 a5 a6 a7 a8
        simp only [Prod.mk.injEq] at hx
        have hsr : s.size ≤ 140737488351232 := by
          have hw : s.data.toList.length ∈ d.weights P t := by
            rw [hx.1, hy4]
            simp [DataW.weights, ht, DataW.weightsEach]
          have hz := List.all_eq_true.1 hsz _ (DataW.weights_mem_each hts hds _ hw)
          have h2 : s.data.toList.length ≤ reachBytes := by simpa using hz
          have h3 : s.data.toList.length = s.size := rfl
          unfold reachBytes at h2
          omega
        exact ⟨⟨z0, z1, z2, z3, s, z5, z6, z7, z8⟩, rfl, ⟨fits_wf w0, fits_wf w1, fits_wf w2, fits_wf w3, fits_wf w5, fits_wf w6, fits_wf w7, fits_wf w8, hsr⟩⟩
end Go.Proofs.YtnhcabcpdlgdaaaDoor
