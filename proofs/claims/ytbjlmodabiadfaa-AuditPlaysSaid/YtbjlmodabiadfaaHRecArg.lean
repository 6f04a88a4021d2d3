/- GENERAL: a law's arguments, read: rows of records. -/
import Derived.Test.YtbjlmodabiadfaaHArgs2
import Derived.Test.YtbjlmodabiadfaaHAud2
import Derived.Deep.Strs
import Derived.Deep.Fields
namespace Go.Proofs.Ytbjlmodabiadfaa
open Go.RowKit Go.ChangeShapes Go.WideShapes Go.ChangeAt Go.Deep

instance : Inhabited Rec := ⟨⟨0, ByteArray.empty, []⟩⟩
theorem recs_arg {H : Type} {enc : TypeId × Value → H} {P : Program} {W : World} {t r e : TypeId} {f0 f1 f2 : Field} {A : Option Addr} {n c : Nat} {d : DataW H} {p : List MemPlace} {ts : List TypeId} {ds : List (DataW H)}
    (ht : P.underlying t = some (.slice r)) (hr : P.underlying r = some (.struct #[f0, f1, f2])) (h0 : P.underlying f0.type = some (.int .i64)) (h1 : P.underlying f1.type = some .string) (h2 : P.underlying f2.type = some (.slice e)) (he : P.underlying e = some (.int .u8))
    (hone : oneCellFields P #[f0, f1, f2] = true) (hC : P.cellsOf r = 3) (hcl : P.cellsOf e = 1) (hbyr : P.bytesOf r = 48) (hby : P.bytesOf e = 1)
    (h : DataW.Trod enc P W 0 (fun _ => true) true t (.slice A n c) d p) (hsz : (DataW.weightsEach P ts ds).all (· ≤ reachBytes) = true) {j : Nat} (hts : ts[j]? = some t) (hds : ds[j]? = some d) :
    ∃ L : List Rec, L.length = n ∧ Recs W (· < W.heap.size) A L ∧ n ≤ c ∧ c ≤ 2932031007317 ∧ ∀ r ∈ L, -9223372036854775808 ≤ r.seq ∧ r.seq ≤ 9223372036854775807 ∧ r.text.size ≤ 140737488351232 := by
  obtain ⟨fuel, hf⟩ := h
  rcases open_slice ht hf with ⟨hcs, hx⟩ | ⟨a, len, cap, m, n', D, Pl, hcs, _, hl, hm, hmm, hx, hel⟩
  · simp [Value.cells] at hcs
    obtain ⟨rfl, rfl, rfl⟩ := hcs
    exact ⟨[], rfl, fun h => absurd h (by simp), Nat.le_refl _, Nat.zero_le _, fun s hs => by cases hs⟩
  · simp [Value.cells] at hcs
    obtain ⟨rfl, rfl, rfl⟩ := hcs
    simp only [if_true] at hmm
    have hmm' := hmm.symm
    subst hmm'
    simp only [Prod.mk.injEq] at hx
    obtain ⟨rfl, _⟩ := hx
    have hs := sized_slice hsz hts hds ht
    rw [hbyr] at hs
    have hcc : c ≤ 2932031007317 := by
      simp only [List.length_map, List.length_range, reachBytes] at hs
      omega
    have each : ∀ i, i < n → ∃ x : Rec, (W.cell? (a.add (i * 3)) = some (.int .i64 x.seq) ∧ W.cell? ((a.add (i * 3)).add 1) = some (.string x.text) ∧ ∃ v, W.cell? ((a.add (i * 3)).add 2) = some v ∧ Part W (· < W.heap.size) v x.tag) ∧
        -9223372036854775808 ≤ x.seq ∧ x.seq ≤ 9223372036854775807 ∧ x.text.size ≤ 140737488351232 := fun i hi => by
      obtain ⟨cs', hc, htr⟩ := hel i (by omega)
      rw [hC] at hc
      obtain ⟨y0, y1, y2, k, hy, hlen, g0, g1, g2⟩ := trod_struct3 hr htr
      obtain ⟨o0, k0⟩ := hone_of hone 0 f0 rfl
      obtain ⟨o1, k1⟩ := hone_of hone 1 f1 rfl
      obtain ⟨o2, k2⟩ := hone_of hone 2 f2 rfl
      obtain ⟨_, hcl3, hat⟩ := World.cells?_some hc
      match cs', hcl3 with
      | [v0, v1, v2], _ =>
        rw [o0, k0] at g0
        rw [o1, k1] at g1
        rw [o2, k2] at g2
        obtain ⟨z, hz0, hz1, hz2⟩ := DataW.trod_int h0 g0
        obtain ⟨s, hs0, hs1, hs2⟩ := DataW.trod_string h1 g1
        simp only [List.drop_zero, List.take_succ_cons, List.take_zero, List.cons.injEq, and_true, List.drop_succ_cons] at hz0 hs0
        subst hz0 hs0
        simp only [Prod.mk.injEq] at hy
        have hmem : ∀ x, x ∈ (D i).weights P r → x ≤ reachBytes := fun x hx => by
          have hw : x ∈ DataW.weights P t (DataW.slice ((List.range n).map D) ((List.range (c - n)).map fun j => D (n + j))) := by
            simp only [DataW.weights, ht]
            exact List.mem_cons_of_mem _ (List.mem_append_left _ (mem_weightsAll (List.mem_map.2 ⟨i, List.mem_range.2 hi, rfl⟩) hx))
          have := List.all_eq_true.1 hsz _ (DataW.weights_mem_each hts hds _ hw)
          simpa using this
        rw [hy.1] at hmem
        have hW : ∀ x, x ∈ DataW.weightsEach P [f0.type, f1.type, f2.type] [y0.1, y1.1, y2.1] → x ≤ reachBytes := fun x hx => hmem x (by simpa [DataW.weights, hr] using hx)
        obtain ⟨l, hl'⟩ := bytes_trod (v := v2) h2 he hcl hby (by simpa using g2) fun x hx => hW x (by simp [DataW.weightsEach, hx])
        have hsr : s.size ≤ 140737488351232 := by
          have := hW s.data.toList.length (by rw [hs1]; simp [DataW.weightsEach, DataW.weights])
          have h3 : s.data.toList.length = s.size := rfl
          unfold reachBytes at this
          omega
        have hb : -9223372036854775808 ≤ z ∧ z ≤ 9223372036854775807 := by
          have := hz2
          simp [Lit.wf, IntKind.min, IntKind.max, IntKind.bits, IntKind.signed] at this
          omega
        exact ⟨⟨z, s, l⟩, ⟨by simpa [Go.Deep.add_add] using hat 0 (by omega), by simpa [Go.Deep.add_add] using hat 1 (by omega), v2, by simpa [Go.Deep.add_add] using hat 2 (by omega), hl'⟩, hb.1, hb.2, hsr⟩
    obtain ⟨l, hl'⟩ := choose_lt (α := Rec) (p := fun i (x : Rec) => (W.cell? (a.add (i * 3)) = some (.int .i64 x.seq) ∧ W.cell? ((a.add (i * 3)).add 1) = some (.string x.text) ∧ ∃ v, W.cell? ((a.add (i * 3)).add 2) = some v ∧ Part W (· < W.heap.size) v x.tag) ∧
        -9223372036854775808 ≤ x.seq ∧ x.seq ≤ 9223372036854775807 ∧ x.text.size ≤ 140737488351232) each
    refine ⟨(List.range n).map l, by simp, fun hn => ?_, hl, hcc, fun x hx => ?_⟩
    · have hn' : 0 < n := by simpa using hn
      obtain ⟨⟨hc0, _⟩, _⟩ := hl' 0 (by omega)
      obtain ⟨b, o, rfl⟩ := plain_of_cell (by have := hc0; rwa [show a.add (0 * 3) = a by simp [Addr.add]] at this)
      refine ⟨b, o, rfl, lt_of_cell (a := ⟨b, o + 0 * 3, none⟩) (by rw [← add_plain]; exact hc0), fun i hi => ?_⟩
      have hi' : i < n := by simpa using hi
      obtain ⟨⟨q0, q1, v, q2, q3⟩, _⟩ := hl' i hi'
      rw [add_plain] at q0 q1 q2
      rw [add_plain] at q1 q2
      simp only [List.getElem_map, List.getElem_range]
      exact ⟨q0, q1, v, q2, q3⟩
    · obtain ⟨i, hi, rfl⟩ := List.mem_map.1 hx
      exact (hl' i (List.mem_range.1 hi)).2
end Go.Proofs.Ytbjlmodabiadfaa
