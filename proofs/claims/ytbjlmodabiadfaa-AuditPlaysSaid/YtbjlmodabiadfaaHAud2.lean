/- Audit: rows of records; how many are right (the program). -/
import Derived.Test.YtbjlmodabiadfaaHAud1
import Derived.Test.YtbjlmodabiadfaaHShaBlock1
import Derived.Test.YtbjlmodabiadfaaHMacV
import Derived.Deep.QuietTactic
import Derived.Deep.RegionHeld3
import Derived.Deep.DrawnRows
import Derived.BigQuiet
namespace Go.Proofs.Ytbjlmodabiadfaa
open Go.RowKit

attribute [local go_sem ↓] Go.wp_at_zero Go.wp_at_succ
/-- A record in three cells. -/
def RecAt (w : World) (R : Nat → Prop) (b o : Nat) (r : Rec) : Prop :=
  w.cell? ⟨b, o, none⟩ = some (.int .i64 r.seq) ∧ w.cell? ⟨b, o + 1, none⟩ = some (.string r.text) ∧ ∃ v, w.cell? ⟨b, o + 2, none⟩ = some v ∧ Part w R v r.tag
/-- So many records in a row. -/
def Recs (w : World) (R : Nat → Prop) (A : Option Addr) (L : List Rec) : Prop :=
  0 < L.length → ∃ b o, A = some ⟨b, o, none⟩ ∧ R b ∧ ∀ i (h : i < L.length), RecAt w R b (o + i * 3) L[i]
section
variable {w w' : World} {R R' : Nat → Prop} {A : Option Addr} {L : List Rec}
theorem RecAt.keep {b o : Nat} {r : Rec} (h : RecAt w R b o r) (hb : w'.heap[b]? = w.heap[b]?) (hk : ∀ k, R k → w'.heap[k]? = w.heap[k]?) : RecAt w' R b o r := by
  obtain ⟨h1, h2, v, h3, h4⟩ := h
  exact ⟨(World.cell?_of_block (a := ⟨b, o, none⟩) hb).trans h1, (World.cell?_of_block (a := ⟨b, o + 1, none⟩) hb).trans h2, v, (World.cell?_of_block (a := ⟨b, o + 2, none⟩) hb).trans h3, h4.keep hk⟩
theorem RecAt.mono {b o : Nat} {r : Rec} (h : RecAt w R b o r) (hk : ∀ k, R k → R' k) : RecAt w R' b o r := by
  obtain ⟨h1, h2, v, h3, h4⟩ := h
  exact ⟨h1, h2, v, h3, h4.mono hk⟩
theorem Recs.keep (h : Recs w R A L) (hk : ∀ k, R k → w'.heap[k]? = w.heap[k]?) : Recs w' R A L := fun hn => by
  obtain ⟨b, o, e, hR, hc⟩ := h hn
  exact ⟨b, o, e, hR, fun i hi => (hc i hi).keep (hk b hR) hk⟩
theorem Recs.mono (h : Recs w R A L) (hk : ∀ k, R k → R' k) : Recs w R' A L := fun hn => by
  obtain ⟨b, o, e, hR, hc⟩ := h hn
  exact ⟨b, o, e, hk b hR, fun i hi => (hc i hi).mono hk⟩
end
/-- A record that may follow. -/
def verOk (key : List UInt8) (base : Int) (ahead : List UInt8) (r : Rec) : Prop := base ≠ 9223372036854775807 ∧ r.seq = base + 1 ∧ r.tag = tagB key ahead (base + 1) r.text.data.toList
/-- mac.Same of a read row and a value. -/
theorem same_v (A : Option Addr) (n c B : Nat) (a t : List UInt8) (v : Value) (w : World) (h1 : Reads w B 1 A n (bv a)) (h2 : BytesV t v w) (hm : n ≤ 9223372036854775807) :
    Calls Try.prog 23 #[.slice A n c, v] w fun e w' => e = .returned (.bool (a == t)) ∧ ∃ q, w' = w.drewN q := by
  obtain ⟨A2, n2, c2, B2, rfl, _, _, _, hr⟩ := h2
  exact Same_any A A2 n n2 c c2 B B2 a t w h1 hr hm
theorem RowOut.out_v {l : List UInt8} {w w' : World} {e : Ending} (h : RowOut l w e w') : ∃ v, e = .returned v ∧ BytesV l v w' ∧ Below w.heap.size w w' := by
  obtain ⟨A, c, rfl, hr, hb⟩ := h
  exact ⟨_, rfl, .of_row hr, hb⟩
open Classical in
/-- How many records are right. -/
noncomputable def ver (key : List UInt8) : Int → List UInt8 → List Rec → Nat
  | _, _, [] => 0
  | base, ahead, r :: l => if verOk key base ahead r then ver key r.seq r.tag l + 1 else 0
theorem ver_yes {key ahead : List UInt8} {base : Int} {r : Rec} {l : List Rec} (h : verOk key base ahead r) : ver key base ahead (r :: l) = ver key r.seq r.tag l + 1 := by
  rw [ver, if_pos h]
theorem ver_no {key ahead : List UInt8} {base : Int} {r : Rec} {l : List Rec} (h : ¬ verOk key base ahead r) : ver key base ahead (r :: l) = 0 := by
  rw [ver, if_neg h]
theorem ver_cases {key ahead : List UInt8} {base : Int} {text : ByteArray} {tag t : List UInt8} {l : List Rec} (hx : base ≠ 9223372036854775807) (ht : tagB key ahead (base + 1) text.data.toList = t) :
    (tag = t → ver key base ahead (⟨base + 1, text, tag⟩ :: l) = ver key (base + 1) tag l + 1) ∧ (tag ≠ t → ver key base ahead (⟨base + 1, text, tag⟩ :: l) = 0) :=
  ⟨fun h => ver_yes (r := ⟨base + 1, text, tag⟩) ⟨hx, rfl, h.trans ht.symm⟩, fun h => ver_no (r := ⟨base + 1, text, tag⟩) fun h' => h (h'.2.2.trans ht)⟩
theorem ver_nil (key ahead : List UInt8) (base : Int) : ver key base ahead [] = 0 := rfl
theorem ver_le (key : List UInt8) : ∀ (l : List Rec) (base : Int) (ahead : List UInt8), ver key base ahead l ≤ l.length
  | [], _, _ => Nat.le_refl _
  | r :: l, base, ahead => by
    by_cases h : verOk key base ahead r
    · rw [ver_yes h]; simpa using ver_le key l r.seq r.tag
    · rw [ver_no h]; exact Nat.zero_le _
/-- What both answer. -/
def verV (k n : Nat) : Value := .tuple #[.int .i64 k, .int .i64 (if k = n then 0 else 22)]
/-- Records short enough. -/
def RecsOk (L : List Rec) : Prop := ∀ r ∈ L, -9223372036854775808 ≤ r.seq ∧ r.seq ≤ 9223372036854775807 ∧ r.text.size ≤ 1000 ∧ r.tag.length ≤ 256
/-- i records are right. -/
def VerRel (w : World) (key : List UInt8) (k : Nat) (L : List Rec) (s1 s2 s14 : Value) (wr : World) : Prop :=
  ∃ (i : Nat) (base : Int) (ahead : List UInt8), i ≤ L.length ∧ s14 = .int .i64 i ∧ s1 = .int .i64 base ∧ -9223372036854775808 ≤ base ∧ base ≤ 9223372036854775807 ∧ ahead.length ≤ 256 ∧ Part wr (· < w.heap.size) s2 ahead ∧ k = i + ver key base ahead (L.drop i) ∧ Below w.heap.size w wr
set_option maxRecDepth 100000 in
set_option maxHeartbeats 4000000 in
theorem Verify_any (A : Option Addr) (n c : Nat) (key : List UInt8) (base : Int) (v : Value) (ahead : List UInt8) (LA : Option Addr) (lc : Nat) (L : List Rec) (w : World) (hr : Reads w w.heap.size 1 A n (bv key)) (hn : n ≤ 140737488351232) (hb1 : -9223372036854775808 ≤ base) (hb2 : base ≤ 9223372036854775807)
    (hv : Part w (· < w.heap.size) v ahead) (hal : ahead.length ≤ 256) (hL : Recs w (· < w.heap.size) LA L) (hLn : L.length ≤ 1000000) (hok : RecsOk L) :
    Calls Try.prog 30 #[.slice A n c, .int .i64 base, v, .slice LA L.length lc] w fun e w' => e = .returned (verV (ver key base ahead L) L.length) ∧ Below w.heap.size w w' := by
  obtain ⟨k, hk⟩ : ∃ k, ver key base ahead L = k := ⟨_, rfl⟩
  have HR := Lib.hid hr
  have HV := Lib.hid hv
  have HL := Lib.hid hL
  have HOK := Lib.hid hok
  have HK := Lib.hid hk
  rw [hk]
  clear hr hv hL hok hk
  go_enter Try.func30, Try.ntmps30
  go_wp2_with fail
  go_loopw [1, 2, 14] (fun s1 s2 s14 wr => VerRel w key k L s1 s2 s14 wr) (fun _ _ i _ => L.length - (intOf i).toNat)
  case atStart => exact ⟨0, base, ahead, Nat.zero_le _, rfl, rfl, hb1, hb2, hal, HV.out, by rw [List.drop_zero, HK.out, Nat.zero_add], Below.refl _ _⟩
  case round =>
    clear HV HK hb1 hb2 hal
    obtain ⟨i, base, ahead, hi, rfl, rfl, hb1, hb2, hal, hpart, hki, hbel⟩ := hrel
    have hsz := hbel.size
    by_cases hlt : i < L.length
    · obtain ⟨lb, lo, hLA, hlR, hlc⟩ := (HL.out.keep fun k hk => hbel.block k hk) (by omega)
      obtain ⟨c0, c1, v2, c2, hp2⟩ := hlc i hlt
      have hrok := HOK.out L[i] (List.getElem_mem hlt)
      have hdrop : L.drop i = L[i] :: L.drop (i + 1) := List.drop_eq_getElem_cons hlt
      rw [hdrop] at hki
      generalize L[i] = r at c0 c1 hp2 hrok hki
      obtain ⟨q1, q2, q3, q4⟩ := hrok
      obtain ⟨tA, tn, tc, rfl, htl, htnc, htn, htr⟩ := hp2.reads (B := w.heap.size) (fun k hk => hk)
      have HKI := Lib.hid hki
      have HP2 := Lib.hid hp2
      have HPART := Lib.hid hpart
      have HBEL := Lib.hid hbel
      obtain ⟨aA, an, ac, rfl, hal2, hanc, han, har⟩ := hpart.reads (B := w.heap.size) (fun k hk => hk)
      have HAR := Lib.hid har
      have HTR := Lib.hid htr
      clear hlc hdrop hki hp2 hpart hbel har htr
      subst hLA
      go_upto_region 1 with fail
      have hlb : lb < wr.heap.size := by omega
      refine name_world fun w5 x1 x2 x3 x4 => ?_
      have dc : ∀ j, w5.cell? ⟨wr.heap.size, j, none⟩ = (#[.int .i64 r.seq, .string r.text, .slice tA tn tc] : Array Value)[j]? := fun j => (World.cell?_of_block (a := ⟨wr.heap.size, j, none⟩) (by rw [x1])).trans (cell?_new wr _ _ j)
      have d0 : w5.cell? ⟨wr.heap.size, 0, none⟩ = some (.int .i64 r.seq) := dc 0
      have d1 : w5.cell? ⟨wr.heap.size, 1, none⟩ = some (.string r.text) := dc 1
      have d2 : w5.cell? ⟨wr.heap.size, 2, none⟩ = some (.slice tA tn tc) := dc 2
      have hb5 : Below wr.heap.size wr w5 := below_heap ((Below.refl _ _).alloc (Nat.le_refl _) _) x1 x2 x3 x4
      have hg5 : wr.heap.size < w5.heap.size := by rw [x1]; simp
      have HB5 := Lib.hid hb5
      have HBW := Lib.hid (HBEL.out.trans (hb5.mono hsz))
      clear dc x1 x2 x3 x4 c0 c1 c2 hb5
      by_cases hx : base = 9223372036854775807
      · have e1 : (base == 9223372036854775807) = true := by rw [hx]; rfl
        have hki : k = i := by have := HKI.out; rw [ver_no (fun h => h.1 hx)] at this; omega
        go_wp2_with fail
        go_quiet (fail)
        go_wp2_with fail
        go_ret2
        exact ⟨by rw [hki]; unfold verV; rw [if_neg (by omega)]; rfl, below_drewN HBW.out _⟩
      · have e1 : (base == 9223372036854775807) = false := by rw [beq_eq_false_iff_ne]; exact hx
        have e2 : IntKind.i64.wrap (base + 1) = base + 1 := IntWalk.i64_in _ (by omega)
        by_cases hy : r.seq = base + 1
        · obtain ⟨seq, text, tag⟩ := r
          simp only at hy q1 q2 q3 q4 d0 d1 HKI HP2 HTR htl
          subst hy
          have e3 : (base + 1 != base + 1) = false := by simp
          obtain ⟨t, ht⟩ : ∃ t, tagB key ahead (base + 1) text.data.toList = t := ⟨_, rfl⟩
          have ht32 : t.length = 32 := by rw [← ht]; rfl
          have HTAG : Hid (∀ w', Below w5.heap.size w5 w' → Calls Try.prog 33 #[.slice A n c, .slice aA an ac, .int .i64 (base + 1), .string text] w' (RowOut t w')) := Lib.hid fun w' hb => by
            rw [← ht]
            have h1 := HBW.out.trans (hb.mono (by omega))
            exact aTag_any A n c key aA an ac ahead (base + 1) text w.heap.size w' (HR.out.below h1) ((HAR.out.below (HB5.out.mono hsz)).below (hb.mono (by omega))) h1.size hn hanc (by omega) (by omega)
          have HTRX : Hid (∀ w', Below w5.heap.size w5 w' → Reads w' w.heap.size 1 tA tn (bv tag)) := Lib.hid fun w' hb => (HTR.out.below (HB5.out.mono hsz)).below (hb.mono (by omega))
          have hyes := ver_cases (l := L.drop (i + 1)) (tag := tag) hx ht
          have HYES := Lib.hid hyes
          clear hyes ht HAR HTR
          obtain ⟨bl, hbl⟩ : ∃ bl, (tag == t) = bl := ⟨_, rfl⟩
          have HBLT := Lib.hid hbl
          clear hbl
          have hg0 : Below w5.heap.size w5 w5.drew := (Below.refl _ _).drew
          go_wp2_with fail
          obtain ⟨F, hF⟩ : ∃ F, F = nthF [eqv (.int .i64 base), eqv (.bool false), eqv (.bool false), eqv (.pointer (some ⟨wr.heap.size, 0, none⟩)), eqv (.int .i64 (base + 1)), eqv (.int .i64 base), eqv (.int .i64 (base + 1)), eqv (.bool false), eqv (.bool false), eqv (.bool false), eqv (.pointer (some ⟨wr.heap.size, 2, none⟩)), eqv (.slice tA tn tc), eqv (.slice A n c), eqv (.slice aA an ac), eqv (.pointer (some ⟨wr.heap.size, 0, none⟩)), eqv (.int .i64 (base + 1)), eqv (.pointer (some ⟨wr.heap.size, 1, none⟩)), eqv (.string text), BytesV t, eqv (.bool bl), eqv (.bool (!bl)), eqv (.bool (!bl))] := ⟨_, rfl⟩
          have E0 := Lib.hid (show F 0 = eqv (.int .i64 base) by rw [hF]; rfl)
          have E1 := Lib.hid (show F 1 = eqv (.bool false) by rw [hF]; rfl)
          have E2 := Lib.hid (show F 2 = eqv (.bool false) by rw [hF]; rfl)
          have E3 := Lib.hid (show F 3 = eqv (.pointer (some ⟨wr.heap.size, 0, none⟩)) by rw [hF]; rfl)
          have E4 := Lib.hid (show F 4 = eqv (.int .i64 (base + 1)) by rw [hF]; rfl)
          have E5 := Lib.hid (show F 5 = eqv (.int .i64 base) by rw [hF]; rfl)
          have E6 := Lib.hid (show F 6 = eqv (.int .i64 (base + 1)) by rw [hF]; rfl)
          have E7 := Lib.hid (show F 7 = eqv (.bool false) by rw [hF]; rfl)
          have E8 := Lib.hid (show F 8 = eqv (.bool false) by rw [hF]; rfl)
          have E9 := Lib.hid (show F 9 = eqv (.bool false) by rw [hF]; rfl)
          have E10 := Lib.hid (show F 10 = eqv (.pointer (some ⟨wr.heap.size, 2, none⟩)) by rw [hF]; rfl)
          have E11 := Lib.hid (show F 11 = eqv (.slice tA tn tc) by rw [hF]; rfl)
          have E12 := Lib.hid (show F 12 = eqv (.slice A n c) by rw [hF]; rfl)
          have E13 := Lib.hid (show F 13 = eqv (.slice aA an ac) by rw [hF]; rfl)
          have E14 := Lib.hid (show F 14 = eqv (.pointer (some ⟨wr.heap.size, 0, none⟩)) by rw [hF]; rfl)
          have E15 := Lib.hid (show F 15 = eqv (.int .i64 (base + 1)) by rw [hF]; rfl)
          have E16 := Lib.hid (show F 16 = eqv (.pointer (some ⟨wr.heap.size, 1, none⟩)) by rw [hF]; rfl)
          have E17 := Lib.hid (show F 17 = eqv (.string text) by rw [hF]; rfl)
          have E18 := Lib.hid (show F 18 = BytesV t by rw [hF]; rfl)
          have E19 := Lib.hid (show F 19 = eqv (.bool bl) by rw [hF]; rfl)
          have E20 := Lib.hid (show F 20 = eqv (.bool (!bl)) by rw [hF]; rfl)
          have E21 := Lib.hid (show F 21 = eqv (.bool (!bl)) by rw [hF]; rfl)
          have hst : ∀ j v w w', F j v w → Grows w w' → F j v w' := by rw [hF]; exact nth_stable (by repeat (first | exact st_nil | exact st_eqv _ | exact st_any | exact st_bytes _ | exact st_list _ | exact st_strs _ | refine st_cons ?_ ?_))
          have HST0 := Lib.hid hst
          clear hF hst
          refine wp_region_facts F Grows (fun _ => True) (by kernel_rfl) (by kernel_rfl) grows_refl grows_trans HST0.out (trivial) ?_ ?_
          · intro V; refine ⟨?_, ?_, ?_, ?_, ?_, ?_, ?_, ?_, ?_, ?_, ?_, ?_, ?_, ?_, ?_, ?_, ?_, ?_, ?_, ?_, ?_, ?_, trivial⟩
            · intro wx hg hJ hdep
              clear hdep
              clear hg
              go_wp2_with fail
              exact ⟨rfl, grows_refl _, trivial, by rw [E0.out]; rfl⟩
            · intro wx hg hJ hdep
              have v0 : V 0 = (.int .i64 base) := by have h := hdep 0 rfl; rw [E0.out] at h; exact h
              clear hdep
              clear hg
              go_wp2_with fail
              exact ⟨rfl, grows_refl _, trivial, by rw [E1.out]; rfl⟩
            · intro wx hg hJ hdep
              have v1 : V 1 = (.bool false) := by have h := hdep 1 rfl; rw [E1.out] at h; exact h
              clear hdep
              clear hg
              go_wp2_with fail
              exact ⟨rfl, grows_refl _, trivial, by rw [E2.out]; rfl⟩
            · intro wx hg hJ hdep
              have v2 : V 2 = (.bool false) := by have h := hdep 2 rfl; rw [E2.out] at h; exact h
              clear hdep
              clear hg
              go_wp2_with fail
              exact ⟨rfl, grows_refl _, trivial, by rw [E3.out]; rfl⟩
            · intro wx hg hJ hdep
              have v3 : V 3 = (.pointer (some ⟨wr.heap.size, 0, none⟩)) := by have h := hdep 3 rfl; rw [E3.out] at h; exact h
              have v2 : V 2 = (.bool false) := by have h := hdep 2 rfl; rw [E2.out] at h; exact h
              clear hdep
              have k0 := ((hg0.trans hg).cell (p := ⟨wr.heap.size, 0, none⟩) hg5).trans d0
              clear hg
              go_wp2_with fail
              exact ⟨rfl, grows_refl _, trivial, by rw [E4.out]; rfl⟩
            · intro wx hg hJ hdep
              have v2 : V 2 = (.bool false) := by have h := hdep 2 rfl; rw [E2.out] at h; exact h
              clear hdep
              clear hg
              go_wp2_with fail
              exact ⟨rfl, grows_refl _, trivial, by rw [E5.out]; rfl⟩
            · intro wx hg hJ hdep
              have v5 : V 5 = (.int .i64 base) := by have h := hdep 5 rfl; rw [E5.out] at h; exact h
              have v2 : V 2 = (.bool false) := by have h := hdep 2 rfl; rw [E2.out] at h; exact h
              clear hdep
              clear hg
              go_wp2_with fail
              exact ⟨rfl, grows_refl _, trivial, by rw [E6.out]; rfl⟩
            · intro wx hg hJ hdep
              have v4 : V 4 = (.int .i64 (base + 1)) := by have h := hdep 4 rfl; rw [E4.out] at h; exact h
              have v6 : V 6 = (.int .i64 (base + 1)) := by have h := hdep 6 rfl; rw [E6.out] at h; exact h
              have v2 : V 2 = (.bool false) := by have h := hdep 2 rfl; rw [E2.out] at h; exact h
              clear hdep
              clear hg
              go_wp2_with fail
              exact ⟨rfl, grows_refl _, trivial, by rw [E7.out]; rfl⟩
            · intro wx hg hJ hdep
              have v2 : V 2 = (.bool false) := by have h := hdep 2 rfl; rw [E2.out] at h; exact h
              have v7 : V 7 = (.bool false) := by have h := hdep 7 rfl; rw [E7.out] at h; exact h
              clear hdep
              clear hg
              go_wp2_with fail
              exact ⟨rfl, grows_refl _, trivial, by rw [E8.out]; rfl⟩
            · intro wx hg hJ hdep
              have v8 : V 8 = (.bool false) := by have h := hdep 8 rfl; rw [E8.out] at h; exact h
              clear hdep
              clear hg
              go_wp2_with fail
              exact ⟨rfl, grows_refl _, trivial, by rw [E9.out]; rfl⟩
            · intro wx hg hJ hdep
              have v9 : V 9 = (.bool false) := by have h := hdep 9 rfl; rw [E9.out] at h; exact h
              clear hdep
              clear hg
              go_wp2_with fail
              exact ⟨rfl, grows_refl _, trivial, by rw [E10.out]; rfl⟩
            · intro wx hg hJ hdep
              have v10 : V 10 = (.pointer (some ⟨wr.heap.size, 2, none⟩)) := by have h := hdep 10 rfl; rw [E10.out] at h; exact h
              have v9 : V 9 = (.bool false) := by have h := hdep 9 rfl; rw [E9.out] at h; exact h
              clear hdep
              have k0 := ((hg0.trans hg).cell (p := ⟨wr.heap.size, 2, none⟩) hg5).trans d2
              clear hg
              go_wp2_with fail
              exact ⟨rfl, grows_refl _, trivial, by rw [E11.out]; rfl⟩
            · intro wx hg hJ hdep
              have v9 : V 9 = (.bool false) := by have h := hdep 9 rfl; rw [E9.out] at h; exact h
              clear hdep
              clear hg
              go_wp2_with fail
              exact ⟨rfl, grows_refl _, trivial, by rw [E12.out]; rfl⟩
            · intro wx hg hJ hdep
              have v9 : V 9 = (.bool false) := by have h := hdep 9 rfl; rw [E9.out] at h; exact h
              clear hdep
              clear hg
              go_wp2_with fail
              exact ⟨rfl, grows_refl _, trivial, by rw [E13.out]; rfl⟩
            · intro wx hg hJ hdep
              have v9 : V 9 = (.bool false) := by have h := hdep 9 rfl; rw [E9.out] at h; exact h
              clear hdep
              clear hg
              go_wp2_with fail
              exact ⟨rfl, grows_refl _, trivial, by rw [E14.out]; rfl⟩
            · intro wx hg hJ hdep
              have v14 : V 14 = (.pointer (some ⟨wr.heap.size, 0, none⟩)) := by have h := hdep 14 rfl; rw [E14.out] at h; exact h
              have v9 : V 9 = (.bool false) := by have h := hdep 9 rfl; rw [E9.out] at h; exact h
              clear hdep
              have k0 := ((hg0.trans hg).cell (p := ⟨wr.heap.size, 0, none⟩) hg5).trans d0
              clear hg
              go_wp2_with fail
              exact ⟨rfl, grows_refl _, trivial, by rw [E15.out]; rfl⟩
            · intro wx hg hJ hdep
              have v9 : V 9 = (.bool false) := by have h := hdep 9 rfl; rw [E9.out] at h; exact h
              clear hdep
              clear hg
              go_wp2_with fail
              exact ⟨rfl, grows_refl _, trivial, by rw [E16.out]; rfl⟩
            · intro wx hg hJ hdep
              have v16 : V 16 = (.pointer (some ⟨wr.heap.size, 1, none⟩)) := by have h := hdep 16 rfl; rw [E16.out] at h; exact h
              have v9 : V 9 = (.bool false) := by have h := hdep 9 rfl; rw [E9.out] at h; exact h
              clear hdep
              have k0 := ((hg0.trans hg).cell (p := ⟨wr.heap.size, 1, none⟩) hg5).trans d1
              clear hg
              go_wp2_with fail
              exact ⟨rfl, grows_refl _, trivial, by rw [E17.out]; rfl⟩
            · intro wx hg hJ hdep
              have v12 : V 12 = (.slice A n c) := by have h := hdep 12 rfl; rw [E12.out] at h; exact h
              have v13 : V 13 = (.slice aA an ac) := by have h := hdep 13 rfl; rw [E13.out] at h; exact h
              have v15 : V 15 = (.int .i64 (base + 1)) := by have h := hdep 15 rfl; rw [E15.out] at h; exact h
              have v17 : V 17 = (.string text) := by have h := hdep 17 rfl; rw [E17.out] at h; exact h
              have v9 : V 9 = (.bool false) := by have h := hdep 9 rfl; rw [E9.out] at h; exact h
              clear hdep
              have HM := Lib.hid (HTAG.out wx (hg0.trans hg))
              clear hg
              go_wp2_with fail
              refine HM.out.mono ?_
              intro e w6 ho6
              obtain ⟨v6, he6, hv6, hb6⟩ := RowOut.out_v ho6
              subst he6
              have HV6 := Lib.hid hv6
              have HG6 := Lib.hid hb6
              clear hv6 hb6 ho6
              go_wp2_with fail
              exact ⟨rfl, HG6.out, trivial, by rw [E18.out]; exact HV6.out⟩
            · intro wx hg hJ hdep
              have v11 : V 11 = (.slice tA tn tc) := by have h := hdep 11 rfl; rw [E11.out] at h; exact h
              have h18 : (BytesV t) (V 18) wx := by have h := hdep 18 rfl; rw [E18.out] at h; exact h
              have v9 : V 9 = (.bool false) := by have h := hdep 9 rfl; rw [E9.out] at h; exact h
              clear hdep
              have hx2 := HTRX.out wx (hg0.trans hg)
              have HM := Lib.hid (same_v tA tn tc w.heap.size tag t _ wx hx2 h18 (by omega))
              clear hg h18 hx2
              go_wp2_with fail
              refine HM.out.mono ?_
              rw [HBLT.out]
              rintro e w7 ⟨rfl, q7, rfl⟩
              go_wp2_with fail
              exact ⟨rfl, grows_drewN (grows_refl _) _, trivial, by rw [E19.out]; rfl⟩
            · intro wx hg hJ hdep
              have v19 : V 19 = (.bool bl) := by have h := hdep 19 rfl; rw [E19.out] at h; exact h
              have v9 : V 9 = (.bool false) := by have h := hdep 9 rfl; rw [E9.out] at h; exact h
              clear hdep
              clear hg
              go_wp2_with fail
              exact ⟨rfl, grows_refl _, trivial, by rw [E20.out]; rfl⟩
            · intro wx hg hJ hdep
              have v9 : V 9 = (.bool false) := by have h := hdep 9 rfl; rw [E9.out] at h; exact h
              have v20 : V 20 = (.bool (!bl)) := by have h := hdep 20 rfl; rw [E20.out] at h; exact h
              clear hdep
              clear hg
              go_wp2_with fail
              exact ⟨rfl, grows_refl _, trivial, by rw [E21.out]; rfl⟩
          · intro V wx hg hJ hall
            have v0 : V 0 = (.int .i64 base) := by have h := hall 0 (by decide); rw [E0.out] at h; exact h
            have v1 : V 1 = (.bool false) := by have h := hall 1 (by decide); rw [E1.out] at h; exact h
            have v2 : V 2 = (.bool false) := by have h := hall 2 (by decide); rw [E2.out] at h; exact h
            have v3 : V 3 = (.pointer (some ⟨wr.heap.size, 0, none⟩)) := by have h := hall 3 (by decide); rw [E3.out] at h; exact h
            have v4 : V 4 = (.int .i64 (base + 1)) := by have h := hall 4 (by decide); rw [E4.out] at h; exact h
            have v5 : V 5 = (.int .i64 base) := by have h := hall 5 (by decide); rw [E5.out] at h; exact h
            have v6 : V 6 = (.int .i64 (base + 1)) := by have h := hall 6 (by decide); rw [E6.out] at h; exact h
            have v7 : V 7 = (.bool false) := by have h := hall 7 (by decide); rw [E7.out] at h; exact h
            have v8 : V 8 = (.bool false) := by have h := hall 8 (by decide); rw [E8.out] at h; exact h
            have v9 : V 9 = (.bool false) := by have h := hall 9 (by decide); rw [E9.out] at h; exact h
            have v10 : V 10 = (.pointer (some ⟨wr.heap.size, 2, none⟩)) := by have h := hall 10 (by decide); rw [E10.out] at h; exact h
            have v11 : V 11 = (.slice tA tn tc) := by have h := hall 11 (by decide); rw [E11.out] at h; exact h
            have v12 : V 12 = (.slice A n c) := by have h := hall 12 (by decide); rw [E12.out] at h; exact h
            have v13 : V 13 = (.slice aA an ac) := by have h := hall 13 (by decide); rw [E13.out] at h; exact h
            have v14 : V 14 = (.pointer (some ⟨wr.heap.size, 0, none⟩)) := by have h := hall 14 (by decide); rw [E14.out] at h; exact h
            have v15 : V 15 = (.int .i64 (base + 1)) := by have h := hall 15 (by decide); rw [E15.out] at h; exact h
            have v16 : V 16 = (.pointer (some ⟨wr.heap.size, 1, none⟩)) := by have h := hall 16 (by decide); rw [E16.out] at h; exact h
            have v17 : V 17 = (.string text) := by have h := hall 17 (by decide); rw [E17.out] at h; exact h
            have h18 : (BytesV t) (V 18) wx := by have h := hall 18 (by decide); rw [E18.out] at h; exact h
            have v19 : V 19 = (.bool bl) := by have h := hall 19 (by decide); rw [E19.out] at h; exact h
            have v20 : V 20 = (.bool (!bl)) := by have h := hall 20 (by decide); rw [E20.out] at h; exact h
            have v21 : V 21 = (.bool (!bl)) := by have h := hall 21 (by decide); rw [E21.out] at h; exact h
            clear hall
            simp only [fillTo, Act.put, List.setIfInBounds_toArray, List.set_cons_succ, List.set_cons_zero, Nat.reduceAdd, Nat.zero_add, v0, v1, v2, v3, v4, v5, v6, v7, v8, v9, v10, v11, v12, v13, v14, v15, v16, v17, v19, v20, v21]
            clear v0 v1 v2 v3 v4 v5 v6 v7 v8 v9 v10 v11 v12 v13 v14 v15 v16 v17 v19 v20 v21
            have HBX := Lib.hid (HBW.out.trans ((hg0.trans hg).mono (by omega)))
            have k0 := ((hg0.trans hg).cell (p := ⟨wr.heap.size, 0, none⟩) hg5).trans d0
            have k2 := ((hg0.trans hg).cell (p := ⟨wr.heap.size, 2, none⟩) hg5).trans d2
            have HTX := Lib.hid (HTRX.out wx (hg0.trans hg))
            clear hg h18 hg0 HTAG HTRX HBW d0 d1 d2
            cases bl
            · have hne : tag ≠ t := by have := HBLT.out; simpa using this
              have hki : k = i := by have h := HKI.out; rw [HYES.out.2 hne] at h; exact h
              go_wp2_with fail
              go_ret2
              exact ⟨by rw [hki]; unfold verV; rw [if_neg (by omega)]; rfl, HBX.out⟩
            · have he : tag = t := by have := HBLT.out; simpa using this
              have hki := HKI.out
              rw [HYES.out.1 he] at hki
              have HKI2 := Lib.hid hki
              clear hki
              go_wp2_with fail
              go_quiet (fail)
              go_wp2_with fail
              go_roundw
              case rel =>
                exact ⟨i + 1, base + 1, tag, by omega, by go_num, rfl, by omega, by omega, q4, Part.of_reads HTX.out htnc htn (fun k hk => hk), by have := HKI2.out; omega, below_drewN HBX.out _⟩
              case measure => simp [intOf]; omega
        · have e3 : (r.seq != base + 1) = true := by simp; exact hy
          have hki : k = i := by have := HKI.out; rw [ver_no (fun h => hy h.2.1)] at this; omega
          go_wp2_with fail
          go_quiet (fail)
          go_wp2_with fail
          go_ret2
          exact ⟨by rw [hki]; unfold verV; rw [if_neg (by omega)]; rfl, below_drewN HBW.out _⟩
    · obtain rfl : i = L.length := by omega
      have hki' : k = L.length := by rw [List.drop_length, ver_nil] at hki; omega
      have HBEL := Lib.hid hbel
      clear hpart hbel hki
      go_wp2_with fail
      go_ret2
      exact ⟨by rw [hki']; unfold verV; rw [if_pos rfl]; rfl, HBEL.out⟩
end Go.Proofs.Ytbjlmodabiadfaa
