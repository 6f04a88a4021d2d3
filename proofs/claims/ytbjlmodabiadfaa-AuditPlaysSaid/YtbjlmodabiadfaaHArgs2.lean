/- GENERAL: a law's arguments, read: rows of strings, rows of bytes. -/
import Derived.Test.YtbjlmodabiadfaaHArgs
import Derived.Test.YtbjlmodabiadfaaGMem
import Derived.SliceStrings
import Derived.Deep.Slices
namespace Go.Proofs.Ytbjlmodabiadfaa
open Go.RowKit Go.ChangeShapes Go.WideShapes Go.ChangeAt Go.Deep

theorem lt_of_cell {w : World} {a : Addr} {v : Value} (h : w.cell? a = some v) : a.block < w.heap.size := by
  rcases Nat.lt_or_ge a.block w.heap.size with h' | h'
  · exact h'
  · simp only [World.cell?] at h
    rw [Array.getElem?_eq_none h'] at h
    simp at h
theorem plain_of_cell {w : World} {a : Addr} {v : Value} (h : w.cell? a = some v) : ∃ b o, a = ⟨b, o, none⟩ := by
  obtain ⟨b, o, s⟩ := a
  have hs : s = none := by simpa using World.cell?_spot h
  exact ⟨b, o, by rw [hs]⟩

theorem strings_arg {H : Type} {enc : TypeId × Value → H} {P : Program} {W : World} {t e : TypeId} {A : Option Addr} {n c : Nat} {d : DataW H} {p : List MemPlace} {ts : List TypeId} {ds : List (DataW H)}
    (ht : P.underlying t = some (.slice e)) (he : P.underlying e = some .string) (hcl : P.cellsOf e = 1) (hby : P.bytesOf e = 16)
    (h : DataW.Trod enc P W 0 (fun _ => true) true t (.slice A n c) d p) (hsz : (DataW.weightsEach P ts ds).all (· ≤ reachBytes) = true) {j : Nat} (hts : ts[j]? = some t) (hds : ds[j]? = some d) :
    ∃ L : List ByteArray, L.length = n ∧ Strs W (· < W.heap.size) A L ∧ n ≤ c ∧ c ≤ 8796093022144 ∧ ∀ s ∈ L, s.size ≤ 140737488351232 := by
  obtain ⟨fuel, hf⟩ := h
  rcases open_strings ht he hcl hf with ⟨hcs, hx⟩ | ⟨a, len, cap, ss, hcs, _, hl, hm, hz, hx, hcell, hwz⟩
  · simp [Value.cells] at hcs
    obtain ⟨rfl, rfl, rfl⟩ := hcs
    exact ⟨[], rfl, fun h => absurd h (by simp), Nat.le_refl _, Nat.zero_le _, fun s hs => by cases hs⟩
  · simp [Value.cells] at hcs
    obtain ⟨rfl, rfl, rfl⟩ := hcs
    simp only [Prod.mk.injEq] at hx
    obtain ⟨rfl, _⟩ := hx
    have hs := sized_slice hsz hts hds ht
    rw [hby] at hs
    have hzl : ss.length = c := by simpa using hz
    have hcc : c ≤ 8796093022144 := by
      simp only [strs, List.length_map, List.length_take, List.length_drop, reachBytes] at hs
      omega
    refine ⟨ss.take n, by simp; omega, fun hn => ?_, hl, hcc, fun s hs' => ?_⟩
    · have hn' : 0 < n := by simp at hn; omega
      have hc0 := hcell 0 (by omega)
      obtain ⟨b, o, rfl⟩ := plain_of_cell (by have := hc0; rwa [show a.add 0 = a by simp [Addr.add]] at this)
      refine ⟨b, o, rfl, lt_of_cell (a := ⟨b, o + 0, none⟩) (by rw [← add_plain]; exact hc0), fun i hi => ?_⟩
      have hi' : i < ss.length := by simp at hi; omega
      have := hcell i hi'
      rw [add_plain] at this
      rw [this]
      simp [List.getElem_take, List.getD_eq_getElem?_getD, hi']
    · have hmem : DataW.lit (.string s.data.toList) ∈ strs (H := H) (ss.take n) := List.mem_map.2 ⟨s, hs', rfl⟩
      have hw : s.data.toList.length ∈ DataW.weights P t (DataW.slice (strs (H := H) (ss.take n)) (strs (ss.drop n))) := by
        simp only [DataW.weights, ht]
        refine List.mem_cons_of_mem _ (List.mem_append_left _ ?_)
        generalize strs (H := H) (ss.take n) = l at hmem
        induction l with
        | nil => cases hmem
        | cons x r ih =>
          simp only [DataW.weightsAll, List.mem_append]
          rcases List.mem_cons.1 hmem with rfl | hr
          · left; simp [DataW.weights]
          · exact .inr (ih hr)
      have := List.all_eq_true.1 hsz _ (DataW.weights_mem_each hts hds _ hw)
      have h2 : s.data.toList.length ≤ reachBytes := by simpa using this
      have h3 : s.data.toList.length = s.size := rfl
      unfold reachBytes at h2
      omega

theorem mem_weightsAll {H : Type} {P : Program} {e : TypeId} {d : DataW H} {x : Nat} : ∀ {l : List (DataW H)}, d ∈ l → x ∈ d.weights P e → x ∈ DataW.weightsAll P e l
  | [], h, _ => by cases h
  | y :: r, h, hx => by
    simp only [DataW.weightsAll, List.mem_append]
    rcases List.mem_cons.1 h with rfl | hr
    · exact .inl hx
    · exact .inr (mem_weightsAll hr hx)

/-- One slice of bytes, as it was handed in. -/
theorem bytes_trod {H : Type} {enc : TypeId × Value → H} {P : Program} {W : World} {t e : TypeId} {v : Value} {d : DataW H} {p : List MemPlace} {fuel : Nat}
    (ht : P.underlying t = some (.slice e)) (he : P.underlying e = some (.int .u8)) (hcl : P.cellsOf e = 1) (hby : P.bytesOf e = 1)
    (h : DataW.trod enc P W 0 (fun _ => true) true fuel t [v] = some (d, p)) (hw : ∀ x ∈ d.weights P t, x ≤ reachBytes) : ∃ l, Part W (· < W.heap.size) v l := by
  rcases open_ints ht he hcl h with ⟨hcs, hx⟩ | ⟨a, len, cap, zs, hcs, _, hl, hm, hz, hx, hcell, hwz⟩
  · simp only [List.cons.injEq, and_true] at hcs
    subst hcs
    exact ⟨[], none, 0, 0, rfl, rfl, Nat.le_refl _, Nat.zero_le _, fun h => absurd h (by omega)⟩
  · simp only [List.cons.injEq, and_true] at hcs
    subst hcs
    simp only [Prod.mk.injEq] at hx
    obtain ⟨rfl, _⟩ := hx
    have hzl : zs.length = cap := by simpa using hz
    have hs := hw ((((lits .u8 (zs.take len)) : List (DataW H)).length + ((lits .u8 (zs.drop len)) : List (DataW H)).length) * P.bytesOf e) (by simp [DataW.weights, ht])
    rw [hby] at hs
    simp only [lits, List.length_map, List.length_take, List.length_drop, reachBytes, Nat.mul_one] at hs
    refine ⟨(zs.take len).map fun z => UInt8.ofNat z.toNat, some a, len, cap, rfl, by simp; omega, hl, by omega, fun hn => ?_⟩
    have hc0 := hcell 0 (by omega)
    obtain ⟨b, o, rfl⟩ := plain_of_cell (by have := hc0; rwa [show a.add 0 = a by simp [Addr.add]] at this)
    refine ⟨b, o, rfl, lt_of_cell (a := ⟨b, o + 0, none⟩) (by rw [← add_plain]; exact hc0), fun i u hu => ?_⟩
    obtain ⟨hi, hv⟩ := List.getElem?_eq_some_iff.1 hu
    simp only [bv, List.length_map, List.length_take] at hi
    have hc := hcell i (by omega)
    rw [add_plain] at hc
    rw [hc, ← hv]
    have hwf := hwz (zs[i]'(by omega)) (List.getElem_mem _)
    have hb : 0 ≤ zs[i]'(by omega) ∧ zs[i]'(by omega) ≤ 255 := bounds_u8 hwf
    simp only [bv, List.getElem_map, List.getElem_take, UInt8.toNat_ofNat', List.getD_eq_getElem?_getD, List.getElem?_eq_getElem (show i < zs.length by omega), Option.getD_some]
    congr 2
    omega

theorem rows_arg {H : Type} {enc : TypeId × Value → H} {P : Program} {W : World} {t r e : TypeId} {A : Option Addr} {n c : Nat} {d : DataW H} {p : List MemPlace} {ts : List TypeId} {ds : List (DataW H)}
    (ht : P.underlying t = some (.slice r)) (hr : P.underlying r = some (.slice e)) (he : P.underlying e = some (.int .u8)) (hclr : P.cellsOf r = 1) (hcl : P.cellsOf e = 1) (hbyr : P.bytesOf r = 24) (hby : P.bytesOf e = 1)
    (h : DataW.Trod enc P W 0 (fun _ => true) true t (.slice A n c) d p) (hsz : (DataW.weightsEach P ts ds).all (· ≤ reachBytes) = true) {j : Nat} (hts : ts[j]? = some t) (hds : ds[j]? = some d) :
    ∃ L : List (List UInt8), L.length = n ∧ Parts W (· < W.heap.size) A L ∧ n ≤ c ∧ c ≤ 5864062014634 ∧ ∀ l ∈ L, l.length ≤ 140737488351232 := by
  obtain ⟨fuel, hf⟩ := h
  rcases open_slice1 ht hclr hf with ⟨hcs, hx⟩ | ⟨a, len, cap, m, n', V, D, Pl, hcs, _, hl, hm, hmm, hx, hel⟩
  · simp [Value.cells] at hcs
    obtain ⟨rfl, rfl, rfl⟩ := hcs
    exact ⟨[], rfl, fun h => absurd h (by simp), Nat.le_refl _, Nat.zero_le _, fun s hs => by cases hs⟩
  · simp [Value.cells] at hcs
    obtain ⟨rfl, rfl, rfl⟩ := hcs
    simp only [if_true] at hmm
    have hmm' := hmm.symm
    subst hmm'
    simp only [Prod.mk.injEq] at hx
    obtain ⟨rfl, _⟩ := hx
    have hs := sized_slice hsz hts hds ht
    rw [hbyr] at hs
    have hcc : c ≤ 5864062014634 := by
      simp only [List.length_map, List.length_range, reachBytes] at hs
      omega
    have each : ∀ i, i < n → ∃ l, Part W (· < W.heap.size) (V i) l := fun i hi => by
      refine bytes_trod hr he hcl hby (hel i (by omega)).2 fun x hx => ?_
      have hw : x ∈ DataW.weights P t (DataW.slice ((List.range n).map D) ((List.range (c - n)).map fun j => D (n + j))) := by
        simp only [DataW.weights, ht]
        exact List.mem_cons_of_mem _ (List.mem_append_left _ (mem_weightsAll (List.mem_map.2 ⟨i, List.mem_range.2 hi, rfl⟩) hx))
      have := List.all_eq_true.1 hsz _ (DataW.weights_mem_each hts hds _ hw)
      simpa using this
    obtain ⟨l, hl'⟩ := choose_lt (α := List UInt8) (p := fun i l => Part W (· < W.heap.size) (V i) l) each
    refine ⟨(List.range n).map l, by simp, fun hn => ?_, hl, hcc, fun x hx => ?_⟩
    · have hn' : 0 < n := by simpa using hn
      have hc0 := (hel 0 (by omega)).1
      obtain ⟨b, o, rfl⟩ := plain_of_cell (by have := hc0; rwa [show a.add 0 = a by simp [Addr.add]] at this)
      refine ⟨b, o, rfl, lt_of_cell (a := ⟨b, o + 0, none⟩) (by rw [← add_plain]; exact hc0), fun i hi => ?_⟩
      have hi' : i < n := by simpa using hi
      have := (hel i (by omega)).1
      rw [add_plain] at this
      exact ⟨V i, this, by simpa using hl' i hi'⟩
    · obtain ⟨i, hi, rfl⟩ := List.mem_map.1 hx
      obtain ⟨_, _, _, _, h1, _, h3, _⟩ := hl' i (List.mem_range.1 hi)
      omega
end Go.Proofs.Ytbjlmodabiadfaa
