/- bytes.Join of two parts or more, by the shelf's contract, in the words of parts and rows. -/
import Derived.Test.YtiijjpjkfiookaaDoorClone
import Derived.Test.YtiijjpjkfiookaaDoorShelf
namespace Go.Proofs.YtiijjpjkfiookaaDoor
open Go.RowKit

theorem holds_part {w : World} {R : Nat → Prop} {v : Value} {l : List UInt8} (h : Part w R v l) : Lib.HoldsBytes w v l := by
  obtain ⟨A, n, c, rfl, hl, -, -, hc⟩ := h
  subst hl
  refine ⟨A, c, rfl, fun e => ?_, fun a ha i x hi => ?_⟩
  · by_cases h0 : 0 < l.length
    · obtain ⟨b, o, e2, _⟩ := hc h0; rw [e] at e2; cases e2
    · exact List.eq_nil_of_length_eq_zero (by omega)
  · have hil := (List.getElem?_eq_some_iff.1 hi).1
    obtain ⟨b, o, e2, _, hcell⟩ := hc (by omega)
    rw [ha] at e2
    cases e2
    rw [add_plain]
    refine hcell i _ ?_
    rw [bv_at l i hil]
    rw [(List.getElem?_eq_some_iff.1 hi).2]
theorem fresh_row {B : Nat} {w' : World} {v : Value} {l : List UInt8} (h : Lib.FreshBytes B w' v l) (h0 : 0 < l.length) : ∃ A c, v = .slice A l.length c ∧ Row w' B 1 A l.length c (bv l) := by
  obtain ⟨g, cap, zs, rfl, hB, hlc, hcm, hz, h256, hb, hc, hf⟩ := h
  refine ⟨_, cap, rfl, by rw [length_bv]; omega, hlc, hcm, (fun e => by cases e), fun ad e => ?_⟩
  cases e
  refine ⟨g, 0, rfl, hB, ?_, fun j hj => ?_, fun j u hu => ?_⟩
  · have h1 := hc 0 (by omega)
    unfold World.cell? at h1
    by_cases hg : g < w'.heap.size
    · exact hg
    · simp [Array.getElem?_eq_none (show w'.heap.size ≤ g by omega)] at h1
  · rw [Nat.zero_add]
    exact ⟨by rw [hc j (by omega)]; rfl, hf j (by omega)⟩
  · have hjl : j < l.length := by have := (List.getElem?_eq_some_iff.1 hu).1; rwa [length_bv] at this
    rw [bv_at l j hjl] at hu
    rw [Nat.zero_add, hc j (by omega), ← hu]
    congr 2
    have hx := h256 (zs.getD j 0) (by
      rw [List.getD_eq_getElem?_getD, List.getElem?_eq_getElem (by omega)]
      exact List.getElem_mem _)
    have e : l[j] = UInt8.ofNat (zs.getD j 0).toNat := by
      have e2 : l[j]? = some (UInt8.ofNat (zs.getD j 0).toNat) := by
        rw [← hb]
        simp [Lib.bytesOf, hjl, List.getElem?_eq_getElem (show j < zs.length by omega)]
      rw [List.getElem?_eq_getElem hjl] at e2
      exact Option.some.inj e2
    rw [e, UInt8.toNat_ofNat']
    omega
theorem Join_any (L : List (List UInt8)) (A : Option Addr) (c : Nat) (R : Nat → Prop) (w : World) (hp : Parts w R A L) (h2 : 2 ≤ L.length) (hc : L.length ≤ c) (hlen : L.length ≤ 100) (h0 : 0 < L.flatten.length) (hsum : L.flatten.length ≤ 100000) :
    Calls Tryd.prog 55 #[.slice A L.length c, .slice none 0 0] w (RowOut L.flatten w) := by
  obtain ⟨b, o, rfl, -, hcell⟩ := hp (by omega)
  have hlens : Lib.lens L = L.flatten.length := by unfold Lib.lens; rw [List.length_flatten]
  have hj : Lib.join L [] = L.flatten := by
    match L, h2 with
    | x :: r, _ => rw [Lib.join_cons]; simp [Lib.joinTail]
  have hP : Lib.PartsAt w ⟨b, o, none⟩ ((List.range L.length).map fun i => (w.cell? ⟨b, o + i, none⟩).getD undef) L := by
    refine ⟨by simp, fun i v hv => ?_, fun i v l hv hl => ?_⟩
    · have hi : i < L.length := by have := (List.getElem?_eq_some_iff.1 hv).1; simpa using this
      obtain ⟨v', h1, _⟩ := hcell i hi
      rw [add_plain, h1]
      simp [hi, h1] at hv
      rw [hv]
    · have hi : i < L.length := by have := (List.getElem?_eq_some_iff.1 hv).1; simpa using this
      obtain ⟨v', h1, hpart⟩ := hcell i hi
      simp [hi, h1] at hv
      rw [← hv]
      rw [List.getElem?_eq_getElem hi] at hl
      rw [← Option.some.inj hl]
      exact holds_part hpart
  refine (Tryd.bytes_Join_many b o L.length c _ L (.slice none 0 0) [] w rfl h2 hP hc ⟨none, 0, rfl, fun _ => rfl, fun a e => by cases e⟩ (by omega) (by rw [hlens, List.length_nil, Nat.zero_mul]; omega)).mono ?_
  rintro e w' ⟨v', rfl, hf, hb⟩
  rw [hj] at hf
  obtain ⟨A, c2, rfl, hr⟩ := fresh_row hf h0
  exact ⟨A, c2, rfl, hr, hb⟩
end Go.Proofs.YtiijjpjkfiookaaDoor
