/- The chain of the reference in memory; both chains beside one another. The chain of the reference: THE WALKS of New and Head. The chain of the reference: THE WALK of Add. The chain of the reference: THE WALK of Restore. -/
import Derived.Test.YtbjlmodabiadfaaHAns
import Derived.Test.YtbjlmodabiadfaaHRest
import Derived.Test.YtbjlmodabiadfaaHSpoil
import Derived.Test.YtbjlmodabiadfaaGMem
import Derived.Deep.RegionHeld3
import Derived.Test.YtbjlmodabiadfaaHAud4
import Derived.Test.YtbjlmodabiadfaaHAud5
namespace Go.Proofs.Ytbjlmodabiadfaa
open Go.RowKit

/-- A chain of the reference at block xb; what else is its own lies in blocks of Z. -/
def RChainAt (w : World) (xb : Nat) (Z : Nat → Prop) (x : Ch) : Prop :=
  ∃ vk vt A c, Blk w xb 103 #[vk, .int .i64 x.bseq, vt, .slice A x.recs.length c] ∧ CO w xb Z A c vk vt x.key x.btag x.recs
section
variable {w w' : World} {xb : Nat} {Z Z' : Nat → Prop} {x : Ch}
theorem RChainAt.lt (h : RChainAt w xb Z x) : xb < w.heap.size := by obtain ⟨_, _, _, _, h, _⟩ := h; exact h.lt
theorem RChainAt.grew {S : Nat → Prop} (h : RChainAt w xb Z x) (g : Grew S w w') (h1 : ¬ S xb) (h2 : ∀ k, Z k → k < w.heap.size → ¬ S k) : RChainAt w' xb Z x := by
  obtain ⟨vk, vt, A, c, a1, a2⟩ := h
  exact ⟨vk, vt, A, c, a1.grew g h1, a2.grew g fun k hk _ hl => h2 k hk hl⟩
theorem RChainAt.new (h : RChainAt w xb Z x) (g : Below w.heap.size w w') : RChainAt w' xb Z x := h.grew (Grew.of_new (S := fun _ => False) g) (fun h => h) fun _ _ _ h => h
theorem RChainAt.mono (h : RChainAt w xb Z x) (hx : ∀ k, Z k → Z' k) : RChainAt w xb Z' x := by
  obtain ⟨vk, vt, A, c, a1, a2⟩ := h
  exact ⟨vk, vt, A, c, a1, a2.mono hx⟩
/-- What a chain owns lies in the heap. -/
theorem RChainAt.tight (h : RChainAt w xb Z x) : RChainAt w xb (fun k => Z k ∧ k < w.heap.size) x := by
  obtain ⟨vk, vt, A, c, a1, a2⟩ := h
  exact ⟨vk, vt, A, c, a1, a2.pk.mono fun k hk => ⟨⟨⟨hk.1.1, hk.2.1⟩, hk.1.2⟩, hk.2⟩, a2.pt.mono fun k hk => ⟨⟨⟨hk.1.1, hk.2.1⟩, hk.1.2⟩, hk.2⟩, by
      obtain ⟨vs, g1, g2, g3, g4⟩ := a2.row
      exact ⟨vs, g1, g2, g3, fun i hi hi' => (g4 i hi hi').mono fun k hk => ⟨⟨⟨hk.1.1, hk.2.1⟩, hk.1.2⟩, hk.2⟩⟩, fun ad e => ⟨⟨(a2.own ad e).1, (a2.row.lt ad e).2⟩, (a2.own ad e).2⟩⟩
end
/-- Both chains: the program's at cb holds x (its blocks: X), the reference's at xb holds y (its blocks: Z); neither has a block of the other. -/
def AW (w : World) (cb xb : Nat) (X Z : Nat → Prop) (x y : Ch) (wr : World) : Prop :=
  ChainAt wr cb X x ∧ RChainAt wr xb Z y ∧ (∀ k, X k → w.heap.size ≤ k ∧ k < wr.heap.size ∧ ¬ Z k ∧ k ≠ xb) ∧ (∀ k, Z k → w.heap.size ≤ k ∧ k < wr.heap.size ∧ k ≠ cb) ∧ w.heap.size ≤ cb ∧ w.heap.size ≤ xb ∧ cb ≠ xb ∧ Below w.heap.size w wr
section
variable {w wr w' : World} {cb xb : Nat} {X Z X' Z' : Nat → Prop} {x y x' y' : Ch}
theorem AW.new (h : AW w cb xb X Z x y wr) (hb : Below wr.heap.size wr w') : AW w cb xb X Z x y w' := by
  obtain ⟨h1, h2, h3, h4, h5, h6, h7, h8⟩ := h
  have hs := hb.size
  exact ⟨h1.new hb, h2.new hb, fun k hk => by have := h3 k hk; exact ⟨this.1, by omega, this.2.2⟩, fun k hk => by have := h4 k hk; exact ⟨this.1, by omega, this.2.2⟩, h5, h6, h7, h8.trans (hb.mono h8.size)⟩
/-- The program's chain has turned. -/
theorem AW.prog (h : AW w cb xb X Z x y wr) (hc : ChainAt w' cb X' x') (hg : Grew (fun k => k = cb ∨ X k) wr w') (hX : ∀ k, X' k → (X k ∨ wr.heap.size ≤ k) ∧ k < w'.heap.size) : AW w cb xb X' Z x' y w' := by
  obtain ⟨h1, h2, h3, h4, h5, h6, h7, h8⟩ := h
  have hs := hg.size
  have hs8 := h8.size
  have hxl := h2.lt
  refine ⟨hc, h2.grew hg (fun hx => ?_) (fun k hk _ hx => ?_), fun k hk => ?_, fun k hk => by have := h4 k hk; exact ⟨this.1, by omega, this.2.2⟩, h5, h6, h7, h8.trans (hg.below hs8 fun k _ hx => ?_)⟩
  · rcases hx with hx | hx
    · exact h7 hx.symm
    · exact (h3 _ hx).2.2.2 rfl
  · rcases hx with hx | hx
    · exact (h4 k hk).2.2 hx
    · exact (h3 k hx).2.2.1 hk
  · obtain ⟨hx | hx, hl⟩ := hX k hk
    · have := h3 k hx; exact ⟨this.1, hl, this.2.2⟩
    · exact ⟨by omega, hl, fun hz => by have := (h4 k hz).2.1; omega, by omega⟩
  · rcases hx with rfl | hx
    · exact h5
    · exact (h3 k hx).1
/-- The reference's chain has turned. -/
theorem AW.ref (h : AW w cb xb X Z x y wr) (hc : RChainAt w' xb Z' y') (hg : Grew (fun k => k = xb ∨ Z k) wr w') (hZ : ∀ k, Z' k → (Z k ∨ wr.heap.size ≤ k) ∧ k < w'.heap.size) : AW w cb xb X Z' x y' w' := by
  obtain ⟨h1, h2, h3, h4, h5, h6, h7, h8⟩ := h
  have hs := hg.size
  have hs8 := h8.size
  have hcl := h1.lt
  refine ⟨h1.grew hg (fun hx => ?_) (fun k hk _ hx => ?_), hc, fun k hk => ?_, fun k hk => ?_, h5, h6, h7, h8.trans (hg.below hs8 fun k _ hx => ?_)⟩
  · rcases hx with hx | hx
    · exact h7 hx
    · exact (h4 _ hx).2.2 rfl
  · rcases hx with hx | hx
    · exact (h3 k hk).2.2.2 hx
    · exact (h3 k hk).2.2.1 hx
  · have h9 := h3 k hk
    refine ⟨h9.1, by omega, fun hz => ?_, h9.2.2.2⟩
    obtain ⟨hx | hx, _⟩ := hZ k hz
    · exact h9.2.2.1 hx
    · omega
  · obtain ⟨hx | hx, hl⟩ := hZ k hk
    · have := h4 k hx; exact ⟨this.1, hl, this.2.2⟩
    · exact ⟨by omega, hl, by omega⟩
  · rcases hx with rfl | hx
    · exact h6
    · exact (h4 k hx).1
/-- Other blocks have turned. -/
theorem AW.far {S : Nat → Prop} (h : AW w cb xb X Z x y wr) (hg : Grew S wr w') (hS : ∀ k, S k → k < wr.heap.size → w.heap.size ≤ k ∧ k ≠ cb ∧ k ≠ xb ∧ ¬ X k ∧ ¬ Z k) : AW w cb xb X Z x y w' := by
  obtain ⟨h1, h2, h3, h4, h5, h6, h7, h8⟩ := h
  have hs := hg.size
  have hs8 := h8.size
  have hcl := h1.lt
  have hxl := h2.lt
  exact ⟨h1.grew hg (fun hx => (hS _ hx hcl).2.1 rfl) fun k hk hl hx => (hS k hx hl).2.2.2.1 hk, h2.grew hg (fun hx => (hS _ hx hxl).2.2.1 rfl) fun k hk hl hx => (hS k hx hl).2.2.2.2 hk,
    fun k hk => by have := h3 k hk; exact ⟨this.1, by omega, this.2.2⟩, fun k hk => by have := h4 k hk; exact ⟨this.1, by omega, this.2.2⟩, h5, h6, h7, h8.trans (hg.below hs8 fun k hl hx => (hS k hx hl).1)⟩
end
/-- Two chains just made. -/
theorem AW.mk {w wr : World} {cb xb N : Nat} {X Z : Nat → Prop} {x y : Ch} (h1 : ChainAt wr cb X x) (h2 : RChainAt wr xb Z y) (hX : ∀ k, X k → w.heap.size ≤ k ∧ k < N) (hZ : ∀ k, Z k → N ≤ k) (hc : w.heap.size ≤ cb ∧ cb < N) (hx : N ≤ xb) (hN : N ≤ wr.heap.size) (hb : Below w.heap.size w wr) : AW w cb xb X (fun k => Z k ∧ k < wr.heap.size) x y wr := by
  refine ⟨h1, h2.tight, fun k hk => ?_, fun k hk => ?_, hc.1, by omega, by omega, hb⟩
  · have := hX k hk
    exact ⟨this.1, by omega, fun hz => by have := hZ k hz.1; omega, by omega⟩
  · have := hZ k hk.1
    exact ⟨by omega, hk.2, by omega⟩
/-- Records that may be restored make a chain that is right. -/
theorem ver_top (key : List UInt8) : ∀ (l : List Rec) (b : Int) (t : List UInt8), b ≤ 9223372036854775807 → ver key b t l = l.length → b + l.length ≤ 9223372036854775807
  | [], b, t, hb, _ => by simpa using hb
  | r :: l, b, t, hb, h => by
    by_cases hok : verOk key b t r
    · rw [ver_yes hok] at h
      have h0 := hok.1
      have h1 := hok.2.1
      have := ver_top key l r.seq r.tag (by omega) (by simpa using h)
      simp only [List.length_cons]
      omega
    · rw [ver_no hok] at h
      simp at h
theorem RestOk.good {key : List UInt8} {base : Int} {ahead : List UInt8} {L : List Rec} (h : RestOk key base ahead L) (hb : base ≤ 9223372036854775807) : Good key ⟨key, base, ahead, L⟩ := by
  obtain ⟨h1, h2, h3, h4, h5⟩ := h
  refine ⟨rfl, h3, h5, fun r hr => ⟨h4 r hr, ?_⟩, ?_, h2, h1, ver_top key L base ahead hb h5⟩
  · obtain ⟨k, hk, rfl⟩ := List.getElem_of_mem hr
    rw [(ver_turned h5 hk).1.2.2]
    exact length_tagB _ _ _ _
  · show ahead.length ≤ 32
    rcases h2 with h | h <;> omega
end Go.Proofs.Ytbjlmodabiadfaa
namespace Go.Proofs.Ytbjlmodabiadfaa
open Go.RowKit

/-- A new chain of the reference, in new blocks. -/
def RChOut (x : Ch) (w : World) (e : Ending) (w' : World) : Prop := ∃ xb, e = .returned (.pointer (some ⟨xb, 0, none⟩)) ∧ w.heap.size ≤ xb ∧ RChainAt w' xb (w.heap.size ≤ ·) x ∧ Below w.heap.size w w'
set_option maxRecDepth 100000 in
set_option maxHeartbeats 4000000 in
theorem rNew19_any (A : Option Addr) (n c B : Nat) (key : List UInt8) (w : World) (hr : Reads w B 1 A n (bv key)) (hB : B ≤ w.heap.size) (hn : n ≤ 140737488351232) :
    Calls Try.prog 43 #[.slice A n c] w (RChOut ⟨key, 0, [], []⟩ w) := by
  have hkl : key.length = n := by have := hr.1; rw [length_bv] at this; omega
  obtain ⟨i0, hi, hz0, hz1, hz2⟩ := info_parts byte_info
  have HR := Lib.hid hr
  have HKL := Lib.hid hkl
  clear hr hkl
  go_enter Try.func43, Try.ntmps43
  go_wp2_with (at_builtin; refine wpList_append_row rfl (.tmp 3) (.tmp 4) rfl Try.underlying22 hi hz0 hz1 hz2 rfl (by decide) rfl (Row.lit w #[] 5 (n := 0) (base := w.heap.size) (size := 1) rfl (Nat.le_refl _) (by unfold maxLen; omega)) rfl (HR.out.alloc hB _) (bv_one _) (by unfold maxLen; omega) (by omega) (by simp) ?_; intro A7 c7 w7 hrow7 hgr7 hat7; have HB7 := Lib.hid (show Below w.heap.size w w7 from ((Below.refl _ _).alloc (Nat.le_refl _) _).grown hgr7 (by simp) (fun k hk => by simp at hk; omega)); have HR7 := Lib.hid (show Row w7 w.heap.size 1 A7 n c7 (bv key) from by simpa using hrow7); clear hrow7 hgr7 hat7)
  have hs7 := HB7.out.size
  go_ret
  refine ⟨w7.heap.size, rfl, hs7, ⟨.slice A7 n c7, .slice none 0 0, none, 0, Blk.new w7 _ _, ?_, part_nil _ _, RowRec.nil_ _ _ _, fun ad e => by cases e⟩, HB7.out.alloc hs7 _⟩
  refine (Part.of_row (HR7.out.alloc _) (by omega) fun ad e => ?_ : Part _ (RTag (fun k => w.heap.size ≤ k ∧ k ≠ w7.heap.size) none _) _ _)
  have := HR7.out.lt ad e
  exact ⟨⟨this.1, by omega⟩, by simp; omega, fun ad' e' => by cases e'⟩
/-- A number and bytes are told, out of memory that was there. -/
def RHeadOut (n : Int) (l : List UInt8) (w : World) (e : Ending) (w' : World) : Prop :=
  ∃ v, e = .returned (.tuple #[.int .i64 n, v]) ∧ Part w (· < w.heap.size) v l ∧ Below w.heap.size w w'
set_option maxRecDepth 100000 in
set_option maxHeartbeats 4000000 in
theorem rHead_any (xb : Nat) (Z : Nat → Prop) (y : Ch) (w : World) (h : RChainAt w xb Z y) (hlen : y.recs.length ≤ 1000000) :
    Calls Try.prog 61 #[.pointer (some ⟨xb, 0, none⟩)] w (RHeadOut y.end_.seq y.end_.tag w) := by
  obtain ⟨vk, vt, A, c, a1, co⟩ := h
  have hxb := a1.lt
  by_cases h0 : y.recs.length = 0
  · have he := end_nil h0
    rw [h0] at a1
    obtain ⟨tA, tn, tc, rfl⟩ := co.pt.form
    have HP := Lib.hid (show Part w (· < w.heap.size) (.slice tA tn tc) y.end_.tag by rw [he]; exact co.pt.mono fun k hk => hk.2.1)
    have HS := Lib.hid (show y.end_.seq = y.bseq by rw [he])
    clear co he
    have c1 : w.cell? ⟨xb, 1, none⟩ = some (.int .i64 y.bseq) := a1.cell 1
    have c2 : w.cell? ⟨xb, 2, none⟩ = some (.slice tA tn tc) := a1.cell 2
    have c3 : w.cell? ⟨xb, 3, none⟩ = some (.slice A 0 c) := a1.cell 3
    clear a1 h0
    go_enter Try.func61, Try.ntmps61
    go_wp2_with fail
    go_quiet (fail)
    go_wp2_with fail
    go_ret2
    unfold RHeadOut
    rw [HS.out]
    exact ⟨_, rfl, HP.out, below_drewN (Below.refl _ _) _⟩
  · obtain ⟨m, hm⟩ : ∃ m, y.recs.length = m + 1 := ⟨y.recs.length - 1, by omega⟩
    have he := end_some hm
    obtain ⟨b, o, hA, hR, hrc⟩ := co.row.recs (by omega)
    obtain ⟨r0, r1, v, r2, hp⟩ := hrc m (by omega)
    rw [← he] at r0 r1 hp
    rw [hm] at a1
    have hbl : b < w.heap.size := by
      rcases hR with h | ⟨ad, e, rfl⟩
      · exact h.2
      · exact (co.row.lt ad e).2
    have hp' : Part w (· < w.heap.size) v y.end_.tag := hp.mono fun k hk => by
      rcases hk with h | ⟨ad, e, rfl⟩
      · exact h.2
      · exact (co.row.lt ad e).2
    subst hA
    obtain ⟨tA, tn, tc, rfl⟩ := hp'.form
    have HP := Lib.hid hp'
    have c3 : w.cell? ⟨xb, 3, none⟩ = some (.slice (some ⟨b, o, none⟩) (m + 1) c) := a1.cell 3
    obtain ⟨es, hes⟩ : ∃ es, es = y.end_.seq := ⟨_, rfl⟩
    obtain ⟨et, het⟩ : ∃ et, et = y.end_.text := ⟨_, rfl⟩
    rw [← hes] at r0 ⊢
    rw [← het] at r1
    clear co he a1 h0 hrc hp hp' hR hes het
    have s1 : IntKind.i64.wrap (m : Int) = (m : Int) := IntWalk.i64_in _ (by omega)
    have s2 : ((m : Int) + 1 == 0) = false := by rw [beq_eq_false_iff_ne]; omega
    have s3 : (m : Int) < (m : Int) + 1 := by omega
    have s4 : (0 : Int) ≤ (m : Int) := by omega
    go_enter Try.func61, Try.ntmps61
    go_wp2_with fail
    have hg0 : Below w.heap.size w w.drew := (Below.refl _ _).drew
    obtain ⟨F, hF⟩ : ∃ F, F = nthF [eqv (.pointer (some ⟨xb, 0, none⟩)), eqv (.pointer (some ⟨xb, 0, none⟩)), eqv (.pointer (some ⟨xb, 3, none⟩)), eqv (.slice (some ⟨b, o, none⟩) (m + 1) c), eqv (.pointer (some ⟨xb, 0, none⟩)), eqv (.pointer (some ⟨xb, 0, none⟩)), eqv (.pointer (some ⟨xb, 3, none⟩)), eqv (.slice (some ⟨b, o, none⟩) (m + 1) c), eqv (.int .i64 ((m : Int) + 1)), eqv (.int .i64 (m : Int)), eqv (.pointer (some ⟨b, o + m * 3, none⟩)), eqv (.agg #[.int .i64 es, .string et, .slice tA tn tc]), NewRecV w.heap.size] := ⟨_, rfl⟩
    have E0 := Lib.hid (show F 0 = eqv (.pointer (some ⟨xb, 0, none⟩)) by rw [hF]; rfl)
    have E1 := Lib.hid (show F 1 = eqv (.pointer (some ⟨xb, 0, none⟩)) by rw [hF]; rfl)
    have E2 := Lib.hid (show F 2 = eqv (.pointer (some ⟨xb, 3, none⟩)) by rw [hF]; rfl)
    have E3 := Lib.hid (show F 3 = eqv (.slice (some ⟨b, o, none⟩) (m + 1) c) by rw [hF]; rfl)
    have E4 := Lib.hid (show F 4 = eqv (.pointer (some ⟨xb, 0, none⟩)) by rw [hF]; rfl)
    have E5 := Lib.hid (show F 5 = eqv (.pointer (some ⟨xb, 0, none⟩)) by rw [hF]; rfl)
    have E6 := Lib.hid (show F 6 = eqv (.pointer (some ⟨xb, 3, none⟩)) by rw [hF]; rfl)
    have E7 := Lib.hid (show F 7 = eqv (.slice (some ⟨b, o, none⟩) (m + 1) c) by rw [hF]; rfl)
    have E8 := Lib.hid (show F 8 = eqv (.int .i64 ((m : Int) + 1)) by rw [hF]; rfl)
    have E9 := Lib.hid (show F 9 = eqv (.int .i64 (m : Int)) by rw [hF]; rfl)
    have E10 := Lib.hid (show F 10 = eqv (.pointer (some ⟨b, o + m * 3, none⟩)) by rw [hF]; rfl)
    have E11 := Lib.hid (show F 11 = eqv (.agg #[.int .i64 es, .string et, .slice tA tn tc]) by rw [hF]; rfl)
    have E12 := Lib.hid (show F 12 = NewRecV w.heap.size by rw [hF]; rfl)
    have hst : ∀ j v w w', F j v w → Grows w w' → F j v w' := by rw [hF]; exact nth_stable (by repeat (first | exact st_nil | exact st_eqv _ | exact st_newrec _ | refine st_cons ?_ ?_))
    have HST0 := Lib.hid hst
    clear hF hst
    refine wp_region_facts_tail 13 F Grows (fun _ => True) (by kernel_rfl) (by kernel_rfl) (by kernel_rfl) (by decide) grows_refl grows_trans HST0.out (trivial) ?_ ?_
    · intro V; refine ⟨?_, ?_, ?_, ?_, ?_, ?_, ?_, ?_, ?_, ?_, ?_, ?_, ?_, trivial⟩
      · intro wx hg hJ hdep
        clear hdep
        clear hg
        go_wp2_with fail
        exact ⟨rfl, grows_refl _, trivial, by rw [E0.out]; rfl⟩
      · intro wx hg hJ hdep
        have v0 : V 0 = (.pointer (some ⟨xb, 0, none⟩)) := by have h := hdep 0 rfl; rw [E0.out] at h; exact h
        clear hdep
        clear hg
        go_wp2_with fail
        exact ⟨rfl, grows_refl _, trivial, by rw [E1.out]; rfl⟩
      · intro wx hg hJ hdep
        have v1 : V 1 = (.pointer (some ⟨xb, 0, none⟩)) := by have h := hdep 1 rfl; rw [E1.out] at h; exact h
        clear hdep
        clear hg
        go_wp2_with fail
        exact ⟨rfl, grows_refl _, trivial, by rw [E2.out]; rfl⟩
      · intro wx hg hJ hdep
        have v2 : V 2 = (.pointer (some ⟨xb, 3, none⟩)) := by have h := hdep 2 rfl; rw [E2.out] at h; exact h
        clear hdep
        have k3 := ((hg0.trans hg).cell (p := ⟨xb, 3, none⟩) hxb).trans c3
        clear hg
        go_wp2_with fail
        exact ⟨rfl, grows_refl _, trivial, by rw [E3.out]; rfl⟩
      · intro wx hg hJ hdep
        clear hdep
        clear hg
        go_wp2_with fail
        exact ⟨rfl, grows_refl _, trivial, by rw [E4.out]; rfl⟩
      · intro wx hg hJ hdep
        have v4 : V 4 = (.pointer (some ⟨xb, 0, none⟩)) := by have h := hdep 4 rfl; rw [E4.out] at h; exact h
        clear hdep
        clear hg
        go_wp2_with fail
        exact ⟨rfl, grows_refl _, trivial, by rw [E5.out]; rfl⟩
      · intro wx hg hJ hdep
        have v5 : V 5 = (.pointer (some ⟨xb, 0, none⟩)) := by have h := hdep 5 rfl; rw [E5.out] at h; exact h
        clear hdep
        clear hg
        go_wp2_with fail
        exact ⟨rfl, grows_refl _, trivial, by rw [E6.out]; rfl⟩
      · intro wx hg hJ hdep
        have v6 : V 6 = (.pointer (some ⟨xb, 3, none⟩)) := by have h := hdep 6 rfl; rw [E6.out] at h; exact h
        clear hdep
        have k3 := ((hg0.trans hg).cell (p := ⟨xb, 3, none⟩) hxb).trans c3
        clear hg
        go_wp2_with fail
        exact ⟨rfl, grows_refl _, trivial, by rw [E7.out]; rfl⟩
      · intro wx hg hJ hdep
        have v7 : V 7 = (.slice (some ⟨b, o, none⟩) (m + 1) c) := by have h := hdep 7 rfl; rw [E7.out] at h; exact h
        clear hdep
        clear hg
        go_wp2_with fail
        exact ⟨rfl, grows_refl _, trivial, by rw [E8.out]; rfl⟩
      · intro wx hg hJ hdep
        have v8 : V 8 = (.int .i64 ((m : Int) + 1)) := by have h := hdep 8 rfl; rw [E8.out] at h; exact h
        clear hdep
        clear hg
        go_wp2_with fail
        exact ⟨rfl, grows_refl _, trivial, by rw [E9.out]; rfl⟩
      · intro wx hg hJ hdep
        have v3 : V 3 = (.slice (some ⟨b, o, none⟩) (m + 1) c) := by have h := hdep 3 rfl; rw [E3.out] at h; exact h
        have v9 : V 9 = (.int .i64 (m : Int)) := by have h := hdep 9 rfl; rw [E9.out] at h; exact h
        clear hdep
        clear hg
        go_wp2_with fail
        exact ⟨rfl, grows_refl _, trivial, by rw [E10.out]; rfl⟩
      · intro wx hg hJ hdep
        have v10 : V 10 = (.pointer (some ⟨b, o + m * 3, none⟩)) := by have h := hdep 10 rfl; rw [E10.out] at h; exact h
        clear hdep
        have t0 := ((hg0.trans hg).cell (p := ⟨b, o + m * 3, none⟩) hbl).trans r0
        have t1 := ((hg0.trans hg).cell (p := ⟨b, o + m * 3 + 1, none⟩) hbl).trans r1
        have t2 := ((hg0.trans hg).cell (p := ⟨b, o + m * 3 + 2, none⟩) hbl).trans r2
        clear hg
        go_wp2_with fail
        exact ⟨rfl, grows_refl _, trivial, by rw [E11.out]; rfl⟩
      · intro wx hg hJ hdep
        clear hdep
        have hsx := (hg0.trans hg).size
        clear hg
        go_wp2_with fail
        exact ⟨rfl, (Below.refl _ _).alloc (Nat.le_refl _) _, trivial, by rw [E12.out]; exact ⟨wx.heap.size, rfl, hsx, Blk.new _ _ _⟩⟩
    · intro V wx hg hJ hall
      have v0 : V 0 = (.pointer (some ⟨xb, 0, none⟩)) := by have h := hall 0 (by decide); rw [E0.out] at h; exact h
      have v1 : V 1 = (.pointer (some ⟨xb, 0, none⟩)) := by have h := hall 1 (by decide); rw [E1.out] at h; exact h
      have v2 : V 2 = (.pointer (some ⟨xb, 3, none⟩)) := by have h := hall 2 (by decide); rw [E2.out] at h; exact h
      have v3 : V 3 = (.slice (some ⟨b, o, none⟩) (m + 1) c) := by have h := hall 3 (by decide); rw [E3.out] at h; exact h
      have v4 : V 4 = (.pointer (some ⟨xb, 0, none⟩)) := by have h := hall 4 (by decide); rw [E4.out] at h; exact h
      have v5 : V 5 = (.pointer (some ⟨xb, 0, none⟩)) := by have h := hall 5 (by decide); rw [E5.out] at h; exact h
      have v6 : V 6 = (.pointer (some ⟨xb, 3, none⟩)) := by have h := hall 6 (by decide); rw [E6.out] at h; exact h
      have v7 : V 7 = (.slice (some ⟨b, o, none⟩) (m + 1) c) := by have h := hall 7 (by decide); rw [E7.out] at h; exact h
      have v8 : V 8 = (.int .i64 ((m : Int) + 1)) := by have h := hall 8 (by decide); rw [E8.out] at h; exact h
      have v9 : V 9 = (.int .i64 (m : Int)) := by have h := hall 9 (by decide); rw [E9.out] at h; exact h
      have v10 : V 10 = (.pointer (some ⟨b, o + m * 3, none⟩)) := by have h := hall 10 (by decide); rw [E10.out] at h; exact h
      have v11 : V 11 = (.agg #[.int .i64 es, .string et, .slice tA tn tc]) := by have h := hall 11 (by decide); rw [E11.out] at h; exact h
      have h12 : (NewRecV w.heap.size) (V 12) wx := by have h := hall 12 (by decide); rw [E12.out] at h; exact h
      clear hall
      simp only [List.take_succ_cons, List.take_zero, List.drop_succ_cons, List.drop_zero, fillTo, Act.put, List.setIfInBounds_toArray, List.set_cons_succ, List.set_cons_zero, Nat.reduceAdd, Nat.zero_add, v0, v1, v2, v3, v4, v5, v6, v7, v8, v9, v10, v11]
      clear v0 v1 v2 v3 v4 v5 v6 v7 v8 v9 v10 v11
      obtain ⟨g, hv12, hNg, hblk⟩ := h12
      have hbx := hg0.trans hg
      have e0 : wx.cell? ⟨g, 0, none⟩ = some (.int .i64 0) := hblk.cell 0
      have e1 : wx.cell? ⟨g, 1, none⟩ = some (.string ⟨#[]⟩) := hblk.cell 1
      have e2 : wx.cell? ⟨g, 2, none⟩ = some (.slice none 0 0) := hblk.cell 2
      have q0 := hblk.frozen 0
      have q1 := hblk.frozen 1
      have q2 := hblk.frozen 2
      have HBLK := Lib.hid hblk
      have HBX := Lib.hid hbx
      rw [hv12]
      clear hg hblk hbx hv12
      go_wp2_with fail
      refine name_world fun w4 y1 y2 y3 y4 => ?_
      have hblk4 : Blk w4 g 51 #[.int .i64 es, .string et, .slice tA tn tc] := by unfold Blk; rw [y1]; exact ((HBLK.out.set 0 _).set 1 _).set 2 _
      have hb4 : Below w.heap.size w w4 := below_heap (((HBX.out.setCell hNg _).setCell hNg _).setCell hNg _) y1 y2 y3 y4
      have d0 : w4.cell? ⟨g, 0, none⟩ = some (.int .i64 es) := hblk4.cell 0
      have d2 : w4.cell? ⟨g, 2, none⟩ = some (.slice tA tn tc) := hblk4.cell 2
      have HB4 := Lib.hid hb4
      clear y1 y2 y3 y4 hb4 hblk4 e0 e1 e2 q0 q1 q2
      go_quiet (fail)
      go_wp2_with fail
      go_ret2
      exact ⟨_, rfl, HP.out, below_drewN HB4.out _⟩
end Go.Proofs.Ytbjlmodabiadfaa
namespace Go.Proofs.Ytbjlmodabiadfaa
open Go.RowKit

attribute [local go_sem ↓] Go.wp_at_zero Go.wp_at_succ
theorem grown_lit {w w' : World} {o : Obj} (h : (w.alloc o).grownBy w' (some w.heap.size)) : w.grownBy w' none :=
  ⟨h.os, h.tape, h.output, Nat.le_trans (by simp) h.size, fun k hk _ => (h.block k (by simp; omega) (by simp; omega)).trans (Below.heap_alloc w o k hk)⟩
/-- What the reference's Add hands back and leaves. -/
def RAddOut (xb : Nat) (Z : Nat → Prop) (x : Ch) (s : ByteArray) (w : World) (e : Ending) (w' : World) : Prop :=
  ∃ v Z', e = .returned (.tuple #[.agg #[.int .i64 (x.next s).seq, .string s, v], .int .i64 0]) ∧ Part w' (· < w'.heap.size) v (x.next s).tag ∧ RChainAt w' xb Z' (x.add s) ∧ Grew (fun k => k = xb ∨ Z k) w w' ∧ ∀ k, Z' k → (Z k ∨ w.heap.size ≤ k) ∧ k < w'.heap.size
/-- Behind the append of Add. -/
theorem step5r {w w2 w4 w5 : World} {cb g : Nat} {X : Nat → Prop} {A A5 : Option Addr} {c c5 : Nat} {vk vt v : Value} {key bt : List UInt8} {L : List Rec} {r : Rec} {vs : List Value} {T T1 : TypeId} {cs cs1 cs2 cs3 : Array Value} (h : CO (w4.alloc (.cells cs T)).drew cb X A c vk vt key bt L) (h2 : vs.length = L.length) (h4 : ∀ i (h : i < L.length) (h' : i < vs.length), Part (w4.alloc (.cells cs T)).drew (RTag (fun k => X k ∧ k ≠ cb) A (w4.alloc (.cells cs T)).drew) vs[i] L[i].tag)
    (hp : Part (w4.alloc (.cells cs T)).drew (RTag (fun k => X k ∧ k ≠ cb) A (w4.alloc (.cells cs T)).drew) v r.tag) (hrow : Row w5 0 3 A5 (L.length + 1) c5 ((List.zipWith rcv L vs).flatten ++ rcv r v)) (hg : (w4.alloc (.cells cs T)).drew.grownBy w5 (A.map (·.block))) (hat : A5 = A ∨ ∃ ad, A5 = some ad ∧ (w4.alloc (.cells cs T)).drew.heap.size ≤ ad.block)
    (hA : ∀ k, A.map (·.block) = some k → k ≠ cb ∧ k < w.heap.size) (hk1 : Blk w4 g T1 cs1) (hk2 : Blk w4 cb 103 cs2) (hk3 : Blk w4 w.heap.size T1 cs3) (hs4 : w2.heap.size ≤ w4.heap.size) (hcb : cb < w2.heap.size) (hw : w.heap.size < w2.heap.size) (hg2 : w2.heap.size ≤ g) :
    CO w5 cb (fun k => X k ∨ w2.heap.size ≤ k) A5 c5 vk vt key bt (L ++ [r]) ∧ (∀ i u, cs2[i]? = some u → w5.cell? ⟨cb, i, none⟩ = some u) ∧ (∀ i u, cs1[i]? = some u → w5.cell? ⟨g, i, none⟩ = some u) ∧ Blk w5 cb 103 cs2 ∧ Blk w5 g T1 cs1 ∧ Blk w5 w.heap.size T1 cs3 ∧ w4.grownBy w5 (A.map (·.block)) := by
  have hsz : (w4.alloc (.cells cs T)).drew.heap.size = w4.heap.size + 1 := by simp
  have g0 : w4.grownBy w5 (A.map (·.block)) := grown_trans (grown_drew (grown_alloc (grown_refl w4 _) _)) hg
  have b2 : Blk w5 cb 103 cs2 := hk2.grown g0 fun e => (hA cb e.symm).1 rfl
  have b1 : Blk w5 g T1 cs1 := hk1.grown g0 fun e => by have := (hA g e.symm).2; omega
  exact ⟨h.snoc (by omega) (by omega) rfl h2 h4 hrow hg hat hp, fun i u e => (b2.cell i).trans e, fun i u e => (b1.cell i).trans e, b2, b1, hk3.grown g0 fun e => by have := (hA _ e.symm).2; omega, g0⟩
theorem radd_short {w : World} {cb : Nat} {X : Nat → Prop} {A : Option Addr} {c : Nat} {vk vt : Value} {x : Ch} {s : ByteArray} {z : Int} {t : List UInt8} (hz : x.end_.seq = z) (ht : tagB x.key x.end_.tag (z + 1) s.data.toList = t) (hl : x.recs.length < 12) (h : CO w cb X A c vk vt x.key x.btag (x.recs ++ [⟨z + 1, s, t⟩]))
    (hb : Blk w cb 103 #[vk, .int .i64 x.bseq, vt, .slice A (x.recs.length + 1) c]) : RChainAt w cb X (x.add s) := by
  subst hz ht
  have e : x.add s = ⟨x.key, x.bseq, x.btag, x.recs ++ [x.next s]⟩ := trim_short (by simp; omega)
  rw [e]
  refine ⟨vk, vt, A, c, ?_, h⟩
  have e2 : (x.recs ++ [x.next s]).length = x.recs.length + 1 := by simp
  show Blk w cb _ #[vk, _, vt, .slice A (x.recs ++ [x.next s]).length c]
  rw [e2]
  exact hb
theorem radd_full {w : World} {cb : Nat} {X : Nat → Prop} {A : Option Addr} {c : Nat} {vk vt : Value} {x : Ch} {f : Rec} {l : List Rec} {s : ByteArray} {z : Int} {t : List UInt8} (hz : x.end_.seq = z) (ht : tagB x.key x.end_.tag (z + 1) s.data.toList = t) (hl : x.recs = f :: l) (hn : x.recs.length = 12) (h : CO w cb X A c vk vt x.key f.tag (l ++ [⟨z + 1, s, t⟩]))
    (hb : Blk w cb 103 #[vk, .int .i64 f.seq, vt, .slice A 12 c]) : RChainAt w cb X (x.add s) := by
  subst hz ht
  have hll : l.length = 11 := by rw [hl] at hn; simpa using hn
  have e : x.add s = ⟨x.key, f.seq, f.tag, l ++ [x.next s]⟩ := by
    show Ch.trim x.key x.bseq x.btag (x.recs ++ [x.next s]) = _
    rw [hl]
    exact trim_full (by simp; omega)
  rw [e]
  refine ⟨vk, vt, A, c, ?_, h⟩
  have e2 : (l ++ [x.next s]).length = 12 := by simp [hll]
  show Blk w cb _ #[vk, _, vt, .slice A (l ++ [x.next s]).length c]
  rw [e2]
  exact hb
theorem radd_done {w w6 : World} {xb N : Nat} {Z Z6 : Nat → Prop} {x : Ch} {s : ByteArray} {z : Int} {t : List UInt8} {A7 : Option Addr} {c7 : Nat} {u0 u1 u2 : Value} (hz : x.end_.seq = z) (ht : tagB x.key x.end_.tag (z + 1) s.data.toList = t) (h : RChainAt w6 xb Z6 (x.add s)) (hZ : ∀ k, Z6 k → Z k ∨ w.heap.size ≤ k) (hg : Grew (fun k => k = xb ∨ Z k) w w6) (_hw : w.heap.size < w6.heap.size) (hxb : xb < w.heap.size) (hZl : ∀ k, Z6 k → k ≠ w.heap.size)
    (hr : Row w6 N 1 A7 t.length c7 (bv t)) (hN : w.heap.size < N) : RAddOut xb Z x s w (.returned (.tuple #[.agg #[.int .i64 (z + 1), .string s, .slice A7 t.length c7], .int .i64 0])) (((w6.setCell ⟨w.heap.size, 0, none⟩ u0).setCell ⟨w.heap.size, 1, none⟩ u1).setCell ⟨w.heap.size, 2, none⟩ u2) := by
  subst hz ht
  have gx : Grew (· = w.heap.size) w6 (((w6.setCell ⟨w.heap.size, 0, none⟩ u0).setCell ⟨w.heap.size, 1, none⟩ u1).setCell ⟨w.heap.size, 2, none⟩ u2) := (((Grew.refl (· = w.heap.size) w6).set (p := ⟨w.heap.size, 0, none⟩) (.inl rfl) u0).set (p := ⟨w.heap.size, 1, none⟩) (.inl rfl) u1).set (p := ⟨w.heap.size, 2, none⟩) (.inl rfl) u2
  have hr2 := hr.grew gx (fun ad e => by have := (hr.lt ad e).1; omega)
  refine ⟨_, fun k => Z6 k ∧ k < w6.heap.size, rfl, ?_, h.tight.grew gx (by omega) (fun k hk _ => hZl k hk.1), hg.next gx fun k hk e => by omega, fun k hk => ⟨hZ k hk.1, Nat.lt_of_lt_of_le hk.2 gx.size⟩⟩
  exact Part.of_row hr2 (Nat.le_trans (Nat.le_of_eq (length_tagB _ _ _ _)) (by decide)) fun ad e => (hr2.lt ad e).2
set_option maxRecDepth 100000 in
set_option maxHeartbeats 4000000 in
theorem rAdd_no (xb : Nat) (Z : Nat → Prop) (x : Ch) (s : ByteArray) (w : World) (h : RChainAt w xb Z x) (hs : 200 < s.size ∨ x.end_.seq = 9223372036854775807) (hlen : x.recs.length ≤ 1000000) (hm : s.size ≤ 140737488351232) :
    Calls Try.prog 44 #[.pointer (some ⟨xb, 0, none⟩), .string s] w fun e w' => e = .returned (.tuple #[.agg #[.int .i64 0, .string ⟨#[]⟩, .slice none 0 0], .int .i64 2]) ∧ Below w.heap.size w w' := by
  have HHD := Lib.hid (fun (w' : World) (hb : Below w.heap.size w w') => rHead_any xb Z x w' (h.new hb) hlen)
  generalize x.end_.seq = z at HHD hs
  clear h
  go_enter Try.func44, Try.ntmps44
  go_upto_region 1 with (fail)
  refine name_world fun w1 x1 x2 x3 x4 => ?_
  obtain ⟨hb1, hg1, _⟩ := fresh_rec x1 x2 x3 x4
  have hrb : Blk w1 w.heap.size 51 #[.int .i64 0, .string ⟨#[]⟩, .slice none 0 0] := by unfold Blk; rw [x1]; exact Blk.new w _ _
  have HM := Lib.hid (HHD.out w1 hb1)
  have HB1 := Lib.hid hb1
  have HRB := Lib.hid hrb
  clear x1 x2 x3 x4 hb1 hrb HHD
  go_wp2_with fail
  refine HM.out.mono ?_
  rintro e w2 ⟨v, rfl, hp, hb2⟩
  have hrb := HRB.out.below hb2 hg1
  have f0 : w2.cell? ⟨w.heap.size, 0, none⟩ = some (.int .i64 0) := hrb.cell 0
  have f1 : w2.cell? ⟨w.heap.size, 1, none⟩ = some (.string ⟨#[]⟩) := hrb.cell 1
  have f2 : w2.cell? ⟨w.heap.size, 2, none⟩ = some (.slice none 0 0) := hrb.cell 2
  have q0 := hrb.frozen 0
  have q1 := hrb.frozen 1
  have q2 := hrb.frozen 2
  have HB2 := Lib.hid (HB1.out.trans (hb2.mono (by omega)))
  clear hp hb2 hrb HM
  by_cases h2 : 200 < s.size
  · have e1 : decide (200 < (s.size : Int)) = true := by simp; omega
    clear hs
    go_wp2_with fail
    refine bodyPost_ret (v := .tuple #[.agg #[.int .i64 0, .string ⟨#[]⟩, .slice none 0 0], .int .i64 2]) (by simp [results, Try.results44, go_sem, f0, f1, f2]) rfl ⟨rfl, ?_⟩
    exact ((HB2.out.setCell (by simp) _).setCell (by simp) _).setCell (by simp) _
  · have hz : z = 9223372036854775807 := by rcases hs with h | h; exact absurd h h2; exact h
    subst hz
    have e1 : decide (200 < (s.size : Int)) = false := by simp; omega
    clear hs
    go_wp2_with fail
    refine bodyPost_ret (v := .tuple #[.agg #[.int .i64 0, .string ⟨#[]⟩, .slice none 0 0], .int .i64 2]) (by simp [results, Try.results44, go_sem, f0, f1, f2]) rfl ⟨rfl, ?_⟩
    exact ((HB2.out.setCell (by simp) _).setCell (by simp) _).setCell (by simp) _
set_option maxRecDepth 100000 in
set_option maxHeartbeats 8000000 in
theorem rAdd_yes (xb : Nat) (Z : Nat → Prop) (x : Ch) (s : ByteArray) (w : World) (h : RChainAt w xb Z x) (hs : s.size ≤ 200) (hz : -9223372036854775808 ≤ x.end_.seq) (hz2 : x.end_.seq < 9223372036854775807) (hlen : x.recs.length ≤ 12) (hkey : x.key.length ≤ 70368744177664) (ht : x.end_.tag.length ≤ 1000000) :
    Calls Try.prog 44 #[.pointer (some ⟨xb, 0, none⟩), .string s] w (RAddOut xb Z x s w) := by
  obtain ⟨i1, hj, hy0, hy1, hy2⟩ := info_parts rec_info
  obtain ⟨z, hzz⟩ : ∃ z, x.end_.seq = z := ⟨_, rfl⟩
  have HHD := Lib.hid (fun (w' : World) (hb : Below w.heap.size w w') => show Calls Try.prog 61 #[.pointer (some ⟨xb, 0, none⟩)] w' (RHeadOut z x.end_.tag w') from by rw [← hzz]; exact rHead_any xb Z x w' (h.new hb) (by omega))
  obtain ⟨vk, vt, A, c, a1, co⟩ := h.tight
  have hxb := a1.lt
  have e1 : decide (200 < (s.size : Int)) = false := by simp; omega
  have e2 : (z == 9223372036854775807) = false := by rw [beq_eq_false_iff_ne]; omega
  rw [hzz] at hz hz2
  have HZ := Lib.hid hzz
  have HCO := Lib.hid co
  have HA1 := Lib.hid a1
  clear h hzz co a1
  go_enter Try.func44, Try.ntmps44
  go_upto_region 1 with (fail)
  refine name_world fun w1 x1 x2 x3 x4 => ?_
  obtain ⟨hb1, hg1, _⟩ := fresh_rec x1 x2 x3 x4
  have hrb : Blk w1 w.heap.size 51 #[.int .i64 0, .string ⟨#[]⟩, .slice none 0 0] := by unfold Blk; rw [x1]; exact Blk.new w _ _
  have HM := Lib.hid (HHD.out w1 hb1)
  have HB1 := Lib.hid hb1
  have HRB := Lib.hid hrb
  clear x1 x2 x3 x4 hb1 hrb HHD
  go_wp2_with fail
  refine HM.out.mono ?_
  rintro e w2 ⟨v, rfl, hp, hb2⟩
  have hs12 := hb2.size
  obtain ⟨tA0, tn0, tc0, rfl⟩ := hp.form
  obtain ⟨htl, htnc, htn, htr⟩ := (hp.keep (w' := w2) fun k hk => hb2.block k hk).its (B := w1.heap.size) fun k hk => hk
  have hbw : Below w.heap.size w w2 := HB1.out.trans (hb2.mono (by omega))
  have b2 := HA1.out.below hbw hxb
  have co2 := HCO.out.new hbw
  have r2 := HRB.out.below hb2 hg1
  have g2' : w.heap.size < w2.heap.size := by omega
  obtain ⟨kA, kn, kc, hvk, hkl, hkn, hkm, hkr⟩ := co2.key_reads
  subst hvk
  have k0 : w2.cell? ⟨xb, 0, none⟩ = some (.slice kA kn kc) := b2.cell 0
  have hxb2 : xb < w2.heap.size := b2.lt
  obtain ⟨t, htt⟩ : ∃ t, tagB x.key x.end_.tag (z + 1) s.data.toList = t := ⟨_, rfl⟩
  have HTAG := Lib.hid (show Calls Try.prog 34 #[.slice kA kn kc, .slice tA0 tn0 tc0, .int .i64 (z + 1), .string s] w2 (RowOut t w2) from by
    rw [← htt]
    exact rTag_any kA kn kc x.key tA0 tn0 tc0 x.end_.tag (z + 1) s w2.heap.size w2 hkr (htr.more hs12) (Nat.le_refl _) (by omega) (by omega) (by omega))
  have HB2 := Lib.hid b2
  have HC2 := Lib.hid co2
  have HT := Lib.hid htt
  have HR2 := Lib.hid r2
  have HBW := Lib.hid hbw
  clear hp hb2 htl htr hbw b2 co2 r2 htt hkl hkr HA1 HCO HB1 HRB HM
  go_wp2_with fail
  refine HTAG.out.mono ?_
  rintro e w3 ⟨tA, tc, rfl, hrow, hb3⟩
  have hs3 := hb3.size
  have HROW := Lib.hid hrow
  have HB3 := Lib.hid hb3
  clear hrow hb3 HTAG k0
  go_upto_region 5 with (fail)
  refine name_world fun w4 y1 y2 y3 y4 => ?_
  obtain ⟨g, hgg⟩ : ∃ g, g = w3.heap.size := ⟨_, rfl⟩
  rw [← hgg]
  have ht32 : t.length = 32 := by rw [← HT.out]; rfl
  have hblk4 : Blk w4 g 51 #[.int .i64 (z + 1), .string s, .slice tA t.length tc] := by unfold Blk; rw [y1, hgg]; exact Blk.new w3 _ _
  have hb34 : Below w3.heap.size w3 w4 := below_heap ((Below.refl _ _).alloc (Nat.le_refl _) _) y1 y2 y3 y4
  have hb4 : Below w2.heap.size w2 w4 := HB3.out.trans (hb34.mono hs3)
  have hNg : w2.heap.size ≤ g := by omega
  have hrow4 : Row w4 w2.heap.size 1 tA t.length tc (bv t) := HROW.out.below hb34 (Nat.le_refl _)
  have co4 : CO w4 xb (fun k => (Z k ∧ k < w.heap.size) ∨ w2.heap.size ≤ k) A c (.slice kA kn kc) vt x.key x.btag x.recs := (HC2.out.new hb4).mono fun k h => .inl h
  have b4 := HB2.out.below hb4 hxb2
  have r4 := HR2.out.below hb4 g2'
  have hxg : xb ≠ g := by omega
  have hs4 := hb4.size
  have hp4 : Part w4 (RTag (fun k => ((Z k ∧ k < w.heap.size) ∨ w2.heap.size ≤ k) ∧ k ≠ xb) A w4) (.slice tA t.length tc) t := Part.of_row hrow4 (by omega) fun ad e => ⟨⟨.inr (hrow4.lt ad e).1, by have := (hrow4.lt ad e).1; omega⟩, (hrow4.lt ad e).2, fun ad' e' => by have := (hrow4.lt ad e).1; have := (HC2.out.row.lt ad' e').2; omega⟩
  obtain ⟨vs, g1, g2, g3, g4, g5, g6⟩ := rec_ready (r := ⟨z + 1, s, t⟩) 51 co4.row (Below.refl _ _) hp4 rfl
  have co5 : CO (w4.alloc (.cells #[.int .i64 (z + 1), .string s, .slice tA t.length tc] 51)).drew xb (fun k => (Z k ∧ k < w.heap.size) ∨ w2.heap.size ≤ k) A c (.slice kA kn kc) vt x.key x.btag x.recs := co4.new (((Below.refl _ _).alloc (Nat.le_refl _) _).drew)
  have hA : ∀ k, A.map (·.block) = some k → k ≠ xb ∧ k < w.heap.size := fun k e => by
    cases A with
    | none => cases e
    | some ad => simp only [Option.map_some, Option.some.injEq] at e; subst e; exact ⟨(HC2.out.own ad rfl).2, (HC2.out.own ad rfl).1.2⟩
  have hxb4 : xb < w4.heap.size := b4.lt
  have hg4 : g < w4.heap.size := hblk4.lt
  have c4 : w4.cell? ⟨xb, 3, none⟩ = some (.slice A x.recs.length c) := b4.cell 3
  have d0 : w4.cell? ⟨g, 0, none⟩ = some (.int .i64 (z + 1)) := hblk4.cell 0
  have d1 : w4.cell? ⟨g, 1, none⟩ = some (.string s) := hblk4.cell 1
  have d2 : w4.cell? ⟨g, 2, none⟩ = some (.slice tA t.length tc) := hblk4.cell 2
  have HG1' := Lib.hid g1
  have HG2' := Lib.hid g2
  have HG3' := Lib.hid g3.drew
  have HG4' := Lib.hid (fun i h h' => (g4 i h h').drew)
  have HG5' := Lib.hid g5.drew
  have HG6' := Lib.hid g6.drew
  have HCO5 := Lib.hid co5
  have HA5 := Lib.hid hA
  have HBK4 := Lib.hid hblk4
  have HB4 := Lib.hid hb4
  have HBC4 := Lib.hid b4
  have HBR4 := Lib.hid r4
  have HT32 := Lib.hid ht32
  have HR4 := Lib.hid hrow4
  clear y1 y2 y3 y4 hgg hblk4 hb34 hb4 hrow4 co4 b4 hp4 g1 g2 g3 g4 g5 g6 co5 hA HROW ht32 r4
  go_region_law ((refine step_append_row (by rfl) (.tmp 39) (.tmp 41) (by rfl) Try.underlying40 hj hy0 hy1 hy2 rec_cells (by decide) (by rfl) HG3'.out (by rfl) HG5'.out (rcv_one _ _ _ _) (by unfold maxLen; omega) (by omega) (Nat.zero_le _) ?_; intro A5 c5 w5 hrow5 hgr5 hat5; have HST5 := Lib.hid (step5r HCO5.out HG2'.out HG4'.out HG6'.out hrow5 hgr5 hat5 HA5.out HBK4.out HBC4.out HBR4.out hs4 hxb2 g2' (by omega)); have k0 := HST5.out.2.1 3 _ rfl; have kf := HST5.out.2.2.2.1.frozen 3; have k1 := HST5.out.2.2.1 0 _ rfl; have k2 := HST5.out.2.2.1 1 _ rfl; have k3 := HST5.out.2.2.1 2 _ rfl; clear hrow5 hgr5 hat5))
  all_goals go_upto_region 6 with (fail)
  all_goals
    refine name_world fun w6 y1 y2 y3 y4 => ?_
    obtain ⟨co5, _, _, b5, bg5, br5, gr5⟩ := HST5.out
    have hs5 := gr5.size
    have co6 := (co5.set 3 (.slice A5 (x.recs.length + 1) c5)).new (w' := w6) ⟨y2, y3, y4, by rw [y1]; exact Nat.le_refl _, fun k hk => by rw [y1]⟩
    have b6 : Blk w6 xb 103 #[.slice kA kn kc, .int .i64 x.bseq, vt, .slice A5 (x.recs.length + 1) c5] := by unfold Blk; rw [y1]; exact b5.set 3 _
    have bg6 : Blk w6 g 51 #[.int .i64 (z + 1), .string s, .slice tA t.length tc] := by unfold Blk; rw [y1]; exact bg5.far (by simp; omega) _
    have br6 : Blk w6 w.heap.size 51 #[.int .i64 0, .string ⟨#[]⟩, .slice none 0 0] := by unfold Blk; rw [y1]; exact br5.far (by simp; omega) _
    have gg6 : Grew (fun k => k = xb ∨ Z k) w w6 := by
      have q1 := (Grew.of_new (S := fun k => k = xb ∨ Z k) HBW.out).next_new HB4.out
      have q2 := q1.next (Grew.of_grown (S := fun k => A.map (·.block) = some k) gr5 fun k e _ => e) fun k _ e => .inr (by
        cases A with
        | none => cases e
        | some ad => simp only [Option.map_some, Option.some.injEq] at e; subst e; exact (HC2.out.own ad rfl).1.1)
      have q3 := q2.set (p := ⟨xb, 3, none⟩) (.inl (.inl rfl)) (.slice A5 (x.recs.length + 1) c5)
      exact ⟨y2.trans q3.os, y3.trans q3.tape, y4.trans q3.output, by rw [y1]; exact q3.size, fun k hk hn => by rw [y1]; exact q3.block k hk hn⟩
    have hs6 : w6.heap.size = w5.heap.size := by rw [y1]; simp
    have hr6 : Row w6 w2.heap.size 1 tA t.length tc (bv t) := by
      have q := (HR4.out.grown gr5 fun ad e e' => by have := (HA5.out ad.block e'.symm).2; have := (HR4.out.lt ad e).1; omega).far (p := ⟨xb, 3, none⟩) (fun ad e => by have := (HR4.out.lt ad e).1; simp; omega) (.slice A5 (x.recs.length + 1) c5)
      exact q.of_block fun ad e => by rw [y1]
    have hw6 : w.heap.size < w6.heap.size := by omega
    have hg6 : g < w6.heap.size := bg6.lt
    have HCO6 := Lib.hid co6
    have HB6 := Lib.hid b6
    have HBG6 := Lib.hid bg6
    have HBR6 := Lib.hid br6
    have HGG6 := Lib.hid gg6
    have HR6 := Lib.hid hr6
    clear y1 y2 y3 y4 co5 b5 bg5 br5 gr5 co6 b6 bg6 br6 gg6 hr6 hs6 HST5 HG1' HG2' HG3' HG4' HG5' HG6' HCO5 HR4 HBK4 HBC4 HBR4 k0 k1 k2 k3 kf c4 d0 d1 d2 HB4 HC2 HB2 HR2 HBW
    by_cases h12 : x.recs.length = 12
    · obtain ⟨f, fs, hfs⟩ : ∃ f fs, x.recs = f :: fs := (by
        cases h : x.recs with
        | nil => rw [h] at h12; cases h12
        | cons f fs => exact ⟨f, fs, rfl⟩)
      have hfl : (fs ++ [(⟨z + 1, s, t⟩ : Rec)]).length = 12 := by rw [hfs] at h12; simpa using h12
      have co6 := HCO6.out
      rw [hfs, List.cons_append] at co6
      obtain ⟨ga, oa, v0, vs', hA5, hga, hc5, _, p0, p1, p2, hp0, _, _⟩ := co6.first
      obtain ⟨w0A, w0n, w0c, hv0⟩ := hp0.form
      subst hA5 hv0
      have hgxb : ga ≠ xb := (co6.own _ rfl).2
      have b6 := HB6.out
      rw [h12] at b6
      have c4 : w6.cell? ⟨xb, 3, none⟩ = some (.slice (some ⟨ga, oa, none⟩) 13 c5) := b6.cell 3
      have m1 : w6.cell? ⟨xb, 1, none⟩ = some (.int .i64 x.bseq) := b6.cell 1
      have m2 : w6.cell? ⟨xb, 2, none⟩ = some vt := b6.cell 2
      have n1 := b6.frozen 1
      have n2 := b6.frozen 2
      have hxb6 : xb < w6.heap.size := b6.lt
      rw [hfl] at hc5
      have HFS := Lib.hid hfs
      have HFL := Lib.hid hfl
      have H12 := Lib.hid h12
      have HC6' := Lib.hid co6
      have HB6' := Lib.hid b6
      clear hfs hfl h12 co6 b6 hp0 HCO6 HB6
      go_upto_region 9 with (fail)
      refine name_world fun w8 y1 y2 y3 y4 => ?_
      have co8 := ((HC6'.out.set 1 (.int .i64 f.seq)).set 2 (.slice w0A w0n w0c)).new (w' := w8) ⟨y2, y3, y4, by rw [y1]; exact Nat.le_refl _, fun k hk => by rw [y1]⟩
      have b8 : Blk w8 xb 103 #[.slice kA kn kc, .int .i64 f.seq, .slice w0A w0n w0c, .slice (some ⟨ga, oa, none⟩) 13 c5] := by unfold Blk; rw [y1]; exact (HB6'.out.set 1 _).set 2 _
      have bg8 : Blk w8 g 51 #[.int .i64 (z + 1), .string s, .slice tA t.length tc] := by unfold Blk; rw [y1]; exact (HBG6.out.far (by simp; omega) _).far (by simp; omega) _
      have br8 : Blk w8 w.heap.size 51 #[.int .i64 0, .string ⟨#[]⟩, .slice none 0 0] := by unfold Blk; rw [y1]; exact (HBR6.out.far (by simp; omega) _).far (by simp; omega) _
      have g68 : Grew (· = xb) w6 w8 := by
        have q := ((Grew.refl (· = xb) w6).set (p := ⟨xb, 1, none⟩) (.inl rfl) (.int .i64 f.seq)).set (p := ⟨xb, 2, none⟩) (.inl rfl) (.slice w0A w0n w0c)
        exact ⟨y2.trans q.os, y3.trans q.tape, y4.trans q.output, by rw [y1]; exact q.size, fun k hk hn => by rw [y1]; exact q.block k hk hn⟩
      have hr8 := HR6.out.grew g68 (fun ad e => by have := (HR6.out.lt ad e).1; omega)
      have gg8 := HGG6.out.next g68 (fun k _ e => .inl e)
      obtain ⟨ga2, oa2, v2, vs, hA8, hga8, hc8, hvl, _, _, p2', hp8, hrd8, h48⟩ := co8.first
      obtain ⟨rfl, rfl⟩ : ga = ga2 ∧ oa = oa2 := by simpa using hA8
      have hv2 : v2 = .slice w0A w0n w0c := Option.some.inj (p2'.symm.trans ((World.cell?_of_block (a := ⟨ga, oa + 2, none⟩) (g68.block ga hga hgxb)).trans p2))
      subst hv2
      rw [HFL.out] at hrd8
      have hsl := zip_one (fs ++ [⟨z + 1, s, t⟩]) vs (parts_slices hvl h48)
      have hs8 := g68.size
      have c48 : w8.cell? ⟨xb, 3, none⟩ = some (.slice (some ⟨ga, oa, none⟩) 13 c5) := b8.cell 3
      have hc1 : ¬ c5 = 1 := by omega
      have hxb8 : xb < w8.heap.size := by omega
      have hg8 : g < w8.heap.size := by omega
      have HCO8 := Lib.hid co8
      have HB8 := Lib.hid b8
      have HBG8 := Lib.hid bg8
      have HBR8 := Lib.hid br8
      have HGG8 := Lib.hid gg8
      have HR8 := Lib.hid hr8
      have HP8 := Lib.hid hp8
      have HRD8 := Lib.hid (hrd8.alloc (Nat.le_refl _) (.cells #[] 51))
      have H48 := Lib.hid h48
      have HSL := Lib.hid hsl
      have HVL := Lib.hid hvl
      clear y1 y2 y3 y4 co8 b8 bg8 br8 g68 hr8 gg8 hA8 p2' hp8 hrd8 h48 hsl hvl hc8 c4 m1 m2 n1 n2 p0 p1 p2 HC6' HB6' HBG6 HBR6 HGG6 HR6
      go_upto_region 10 with (at_builtin; refine wpList_append_row rfl (.tmp 72) (.tmp 77) rfl Try.underlying40 hj hy0 hy1 hy2 rec_cells (by decide) rfl (Row.lit w8 #[] 51 (n := 0) (base := w8.heap.size) (size := 3) rfl (Nat.le_refl _) (by unfold maxLen; omega)) rfl HRD8.out HSL.out (by unfold maxLen; omega) (by omega) (by simp) ?_; intro A9 c9 w9 hrow9 hgr9 hat9; have hgr9' := grown_lit hgr9; have b9 := HB8.out.grown hgr9' (by simp); have k3 : w9.cell? ⟨xb, 3, none⟩ = some (.slice (some ⟨ga, oa, none⟩) 13 c5) := b9.cell 3; have kf := b9.frozen 3; have HB9 := Lib.hid b9; have HROW9 := Lib.hid hrow9; have HGR9 := Lib.hid hgr9'; have HAT9 := Lib.hid hat9; clear b9 hrow9 hgr9 hgr9' hat9)
      refine name_world fun w10 y1 y2 y3 y4 => ?_
      have hrow9 := HROW9.out
      rw [List.nil_append, Nat.zero_add] at hrow9
      have co9 := HCO8.out.rest (N := w2.heap.size) (by omega) hxb8 HVL.out HP8.out H48.out (by rw [HFL.out]; exact hrow9.mono (Nat.zero_le _)) HGR9.out (by
        rcases HAT9.out with h | ⟨ad, h, hl⟩
        · exact .inr ⟨_, h, Nat.le_refl _⟩
        · exact .inr ⟨ad, h, by simp at hl; omega⟩)
      have hs9 : w8.heap.size ≤ w9.heap.size := HGR9.out.size
      have co10 := (co9.set 3 (.slice A9 12 c9)).new (w' := w10) ⟨y2, y3, y4, by rw [y1]; exact Nat.le_refl _, fun k hk => by rw [y1]⟩
      have b10 : Blk w10 xb 103 #[.slice kA kn kc, .int .i64 f.seq, .slice w0A w0n w0c, .slice A9 12 c9] := by unfold Blk; rw [y1]; exact HB9.out.set 3 _
      have bg10 : Blk w10 g 51 #[.int .i64 (z + 1), .string s, .slice tA t.length tc] := by unfold Blk; rw [y1]; exact (HBG8.out.grown HGR9.out (by simp)).far (by simp; omega) _
      have br10 : Blk w10 w.heap.size 51 #[.int .i64 0, .string ⟨#[]⟩, .slice none 0 0] := by unfold Blk; rw [y1]; exact (HBR8.out.grown HGR9.out (by simp)).far (by simp; omega) _
      have gg10 : Grew (fun k => k = xb ∨ Z k) w w10 := by
        have q := (HGG8.out.next (Grew.of_grown (S := fun _ => False) HGR9.out fun k e => by cases e) (fun k _ e => e.elim)).set (p := ⟨xb, 3, none⟩) (.inl (.inl rfl)) (.slice A9 12 c9)
        exact ⟨y2.trans q.os, y3.trans q.tape, y4.trans q.output, by rw [y1]; exact q.size, fun k hk hn => by rw [y1]; exact q.block k hk hn⟩
      have hr10 : Row w10 w2.heap.size 1 tA t.length tc (bv t) := by
        have q := (HR8.out.grown HGR9.out fun ad e e' => by cases e').far (p := ⟨xb, 3, none⟩) (fun ad e => by have := (HR8.out.lt ad e).1; simp; omega) (.slice A9 12 c9)
        exact q.of_block fun ad e => by rw [y1]
      have hs10 : w10.heap.size = w9.heap.size := by rw [y1]; simp
      have hw10 : w.heap.size < w10.heap.size := by omega
      have d0 : w10.cell? ⟨g, 0, none⟩ = some (.int .i64 (z + 1)) := bg10.cell 0
      have d1 : w10.cell? ⟨g, 1, none⟩ = some (.string s) := bg10.cell 1
      have d2 : w10.cell? ⟨g, 2, none⟩ = some (.slice tA t.length tc) := bg10.cell 2
      have f0 : w10.cell? ⟨w.heap.size, 0, none⟩ = some (.int .i64 0) := br10.cell 0
      have f1 : w10.cell? ⟨w.heap.size, 1, none⟩ = some (.string ⟨#[]⟩) := br10.cell 1
      have f2 : w10.cell? ⟨w.heap.size, 2, none⟩ = some (.slice none 0 0) := br10.cell 2
      have q0 := br10.frozen 0
      have q1 := br10.frozen 1
      have q2 := br10.frozen 2
      have HCO10 := Lib.hid co10
      have HB10 := Lib.hid b10
      have HGG10 := Lib.hid gg10
      have HR10 := Lib.hid hr10
      clear y1 y2 y3 y4 hs10 co9 co10 b10 bg10 br10 gg10 hr10 hrow9 k3 kf c48
      go_wp2_with fail
      refine bodyPost_ret (v := .tuple #[.agg #[.int .i64 (z + 1), .string s, .slice tA t.length tc], .int .i64 0]) (by simp [results, Try.results44, go_sem, f0, f1, f2]) rfl ?_
      exact radd_done HZ.out HT.out (radd_full HZ.out HT.out HFS.out H12.out HCO10.out HB10.out) (fun k hk => by rcases hk with ((hk | hk) | hk) | hk; exact .inl hk.1; exact .inr (by omega); exact .inr (by omega); exact .inr (by omega)) HGG10.out hw10 hxb (fun k hk e => by rcases hk with ((hk | hk) | hk) | hk <;> omega) HR10.out (by omega)
    · have e3 : decide (12 < (x.recs.length : Int) + 1) = false := by simp; omega
      have c4 : w6.cell? ⟨xb, 3, none⟩ = some (.slice A5 (x.recs.length + 1) c5) := HB6.out.cell 3
      have d0 : w6.cell? ⟨g, 0, none⟩ = some (.int .i64 (z + 1)) := HBG6.out.cell 0
      have d1 : w6.cell? ⟨g, 1, none⟩ = some (.string s) := HBG6.out.cell 1
      have d2 : w6.cell? ⟨g, 2, none⟩ = some (.slice tA t.length tc) := HBG6.out.cell 2
      have f0 : w6.cell? ⟨w.heap.size, 0, none⟩ = some (.int .i64 0) := HBR6.out.cell 0
      have f1 : w6.cell? ⟨w.heap.size, 1, none⟩ = some (.string ⟨#[]⟩) := HBR6.out.cell 1
      have f2 : w6.cell? ⟨w.heap.size, 2, none⟩ = some (.slice none 0 0) := HBR6.out.cell 2
      have q0 := HBR6.out.frozen 0
      have q1 := HBR6.out.frozen 1
      have q2 := HBR6.out.frozen 2
      go_wp2_with fail
      refine bodyPost_ret (v := .tuple #[.agg #[.int .i64 (z + 1), .string s, .slice tA t.length tc], .int .i64 0]) (by simp [results, Try.results44, go_sem, f0, f1, f2]) rfl ?_
      exact radd_done HZ.out HT.out (radd_short HZ.out HT.out (by omega) HCO6.out HB6.out) (fun k hk => by rcases hk with (hk | hk) | hk; exact .inl hk.1; exact .inr (by omega); exact .inr (by omega)) HGG6.out hw6 hxb (fun k hk e => by rcases hk with (hk | hk) | hk <;> omega) HR6.out (by omega)
/-- What the reference answers that is asked to add a text. -/
def RAnsOut (xb : Nat) (Z : Nat → Prop) (x : Ch) (s : ByteArray) (w : World) (e : Ending) (w' : World) : Prop :=
  ∃ v Z', e = .returned (.tuple #[.agg #[.int .i64 (x.ans s).seq, .string (x.ans s).text, v], .int .i64 (x.err s)]) ∧ Part w' (· < w'.heap.size) v (x.ans s).tag ∧ RChainAt w' xb Z' (x.put s) ∧ Grew (fun k => k = xb ∨ Z k) w w' ∧ ∀ k, Z' k → (Z k ∨ w.heap.size ≤ k) ∧ k < w'.heap.size
theorem rAns_any (xb : Nat) (Z : Nat → Prop) (key : List UInt8) (x : Ch) (s : ByteArray) (w : World) (h : RChainAt w xb Z x) (hg : Good key x) (hk : key.length ≤ 70368744177664) (hs : s.size ≤ 140737488351232) :
    Calls Try.prog 44 #[.pointer (some ⟨xb, 0, none⟩), .string s] w (RAnsOut xb Z x s w) := by
  have he := hg.end_seq
  have hb := hg.b0
  have ht := hg.top
  by_cases hc : s.size ≤ 200 ∧ x.end_.seq < 9223372036854775807
  · refine (rAdd_yes xb Z x s w h hc.1 (by omega) hc.2 hg.len (by rw [hg.key_]; exact hk) (Nat.le_trans hg.end_tag (by decide))).mono ?_
    rintro e w' ⟨v, Z', rfl, h1, h2, h3, h4⟩
    have e1 : x.ans s = x.next s := if_pos hc
    have e2 : x.err s = 0 := if_pos hc
    have e3 : x.put s = x.add s := if_pos hc
    unfold RAnsOut
    rw [e1, e2, e3]
    exact ⟨v, Z', rfl, h1, h2, h3, h4⟩
  · refine (rAdd_no xb Z x s w h (by omega) (Nat.le_trans hg.len (by decide)) hs).mono ?_
    rintro e w' ⟨rfl, hb⟩
    have e1 : x.ans s = ⟨0, ⟨#[]⟩, []⟩ := if_neg hc
    have e2 : x.err s = 2 := if_neg hc
    have e3 : x.put s = x := if_neg hc
    unfold RAnsOut
    rw [e1, e2, e3]
    exact ⟨_, fun k => Z k ∧ k < w.heap.size, rfl, part_nil _ _, h.tight.new hb, Grew.of_new hb, fun k hk => ⟨.inl hk.1, Nat.lt_of_lt_of_le hk.2 hb.size⟩⟩
end Go.Proofs.Ytbjlmodabiadfaa
namespace Go.Proofs.Ytbjlmodabiadfaa
open Go.RowKit

/-- What the reference's Restore hands back. -/
def RRestOut (key : List UInt8) (base : Int) (ahead : List UInt8) (L : List Rec) (w : World) (e : Ending) (w' : World) : Prop :=
  (RestOk key base ahead L ∧ ∃ xb, e = .returned (.tuple #[.pointer (some ⟨xb, 0, none⟩), .int .i64 0]) ∧ w.heap.size ≤ xb ∧ RChainAt w' xb (w.heap.size ≤ ·) ⟨key, base, ahead, L⟩ ∧ Below w.heap.size w w') ∨
  (¬ RestOk key base ahead L ∧ RestNo w e w')
def RRestRel (L : List Rec) (w1 : World) (s : Value) (wr : World) : Prop := ∃ i : Nat, i ≤ L.length ∧ s = .int .i64 i ∧ (∀ t (h : t < L.length), t < i → L[t].text.size ≤ 200) ∧ wr = w1
theorem rrest_done {w w3 w4 w7 : World} {xb N : Nat} {key ahead : List UInt8} {base : Int} {L : List Rec} {vk vt vt4 : Value} {A0 A7 : Option Addr} {c0 c7 : Nat} (hN : w.heap.size ≤ N) (hNx : N ≤ xb) (co : CO w3 xb (N ≤ ·) A0 c0 vk vt key [] []) (hg : Grew (· = xb) w3 w4) (hx : xb < w3.heap.size)
    (hb : Blk w4 xb 103 #[vk, .int .i64 base, vt4, .slice A0 0 c0]) {tA : Option Addr} {tn tc : Nat} (hvt : vt4 = .slice tA tn tc) (hr : Row w4 w3.heap.size 1 tA tn tc (bv ahead)) (hal : tn ≤ 256)
    (hrow : RowRec w7 w4.heap.size (w4.heap.size ≤ ·) A7 L.length c7 L) (hb7 : Below w4.heap.size w4 w7) : RChainAt (w7.setCell ⟨xb, 3, none⟩ (.slice A7 L.length c7)) xb (w.heap.size ≤ ·) ⟨key, base, ahead, L⟩ := by
  have hs4 := hg.size
  have hs7 := hb7.size
  have hx4 := hb.lt
  have g7 : Grew (· = xb) w7 (w7.setCell ⟨xb, 3, none⟩ (.slice A7 L.length c7)) := (Grew.refl (· = xb) w7).set (p := ⟨xb, 3, none⟩) (.inl rfl) _
  have hlt := hrow.lt
  refine ⟨vk, vt4, A7, c7, (hb.below hb7 hx4).set 3 _, ?_, ?_, ?_, fun ad e => by have := hlt ad e; exact ⟨by omega, by omega⟩⟩
  · have p4 := (co.grew hg fun k _ hk _ e => hk e).pk
    have p7 := (p4.keep fun k hk => hb7.block k hk.2.1)
    exact (p7.keep fun k hk => g7.block k (by have := hk.2.1; omega) hk.1.2).mono fun k hk => ⟨⟨Nat.le_trans hN hk.1.1, hk.1.2⟩, by have := hk.2.1; have := g7.size; omega, fun ad e => by have := hk.2.1; have := hlt ad e; omega⟩
  · subst hvt
    have r7 := (hr.below hb7 (Nat.le_refl _)).grew g7 (fun ad e => by have := (hr.lt ad e).1; omega)
    exact Part.of_row r7 (by omega) fun ad e => ⟨⟨by have := (r7.lt ad e).1; omega, by have := (r7.lt ad e).1; omega⟩, (r7.lt ad e).2, fun ad' e' => by have := (hr.lt ad e).2; have := hlt ad' e'; omega⟩
  · exact (hrow.grew g7 (fun ad e => by have := hlt ad e; omega) (fun k hk => by have := hk.1; omega)).mono (Nat.zero_le _) fun k hk => ⟨by omega, by omega⟩
set_option maxRecDepth 100000 in
set_option maxHeartbeats 8000000 in
theorem rRestore_any (A : Option Addr) (n c : Nat) (key : List UInt8) (base : Int) (aA : Option Addr) (an ac : Nat) (ahead : List UInt8) (LA : Option Addr) (lc : Nat) (L : List Rec) (w : World) (hr : Reads w w.heap.size 1 A n (bv key)) (hn : n ≤ 70368744177664) (hb1 : -9223372036854775808 ≤ base) (hb2 : base ≤ 9223372036854775807)
    (hv : Part w (· < w.heap.size) (.slice aA an ac) ahead) (hal : ahead.length ≤ 256) (hL : Recs w (· < w.heap.size) LA L) (hLn : L.length ≤ 1000000) (hok : RecsOk L) :
    Calls Try.prog 42 #[.slice A n c, .int .i64 base, .slice aA an ac, .slice LA L.length lc] w (RRestOut key base ahead L w) := by
  obtain ⟨i0, hi, hz0, hz1, hz2⟩ := info_parts byte_info
  obtain ⟨hal2, hanc, han, har⟩ := hv.its fun k hk => hk
  have HM := Lib.hid (rVerify_any A n c key base (.slice aA an ac) ahead LA lc L w hr hn hb1 hb2 hv hal hL hLn hok)
  have HAL := Lib.hid hal2
  have HR := Lib.hid hr
  have HAR := Lib.hid har
  have HL := Lib.hid hL
  clear hr hv hL hok hal2 har
  by_cases hneg : base < 0
  · have e1 : decide (base < 0) = true := by simp; omega
    go_enter Try.func42, Try.ntmps42
    go_wp2_with fail
    go_ret2
    exact .inr ⟨fun h => by have := h.1; omega, rfl, Below.refl _ _⟩
  · have e1 : decide (base < 0) = false := by simp; omega
    by_cases hbad : ¬ (an = 0 ∨ an = 32)
    · have e2 : ((an : Int) != 0) = true := by simp; omega
      have e3 : ((an : Int) != 32) = true := by simp; omega
      go_enter Try.func42, Try.ntmps42
      go_wp2_with fail
      go_ret2
      exact .inr ⟨fun h => hbad (by have := h.2.1; have := HAL.out; omega), rfl, Below.refl _ _⟩
    · have hgood : an = 0 ∨ an = 32 := Classical.not_not.1 hbad
      by_cases h12 : 12 < L.length
      · have e4 : decide (12 < (L.length : Int)) = true := by simp; omega
        rcases hgood with rfl | rfl
        all_goals
          go_enter Try.func42, Try.ntmps42
          go_wp2_with fail
          go_ret2
          exact .inr ⟨fun h => by have := h.2.2.1; omega, rfl, Below.refl _ _⟩
      · have e4 : decide (12 < (L.length : Int)) = false := by simp; omega
        obtain ⟨er, her⟩ : ∃ er : Int, er = if ver key base ahead L = L.length then 0 else 22 := ⟨_, rfl⟩
        obtain ⟨kv, hkv⟩ : ∃ kv : Nat, kv = ver key base ahead L := ⟨_, rfl⟩
        have hvv : verV (ver key base ahead L) L.length = .tuple #[.int .i64 kv, .int .i64 er] := by unfold verV; rw [her, hkv]
        rw [hvv] at HM
        have HER := Lib.hid her
        clear hvv her hkv
        have hss : ((an : Int) != 0) = false ∧ True ∨ ((an : Int) != 0) = true ∧ ((an : Int) != 32) = false := by
          rcases hgood with h | h
          · exact .inl ⟨by simp; omega, trivial⟩
          · exact .inr ⟨by simp; omega, by simp; omega⟩
        have HAN := Lib.hid hgood
        clear hgood hbad
        rcases hss with ⟨e2, e3⟩ | ⟨e2, e3⟩
        all_goals
          go_enter Try.func42, Try.ntmps42
          go_wp2_with fail
          refine HM.out.mono ?_
          rintro e w1 ⟨rfl, hb1'⟩
          have hs1 := hb1'.size
          have HB1 := Lib.hid hb1'
          have HL1 := Lib.hid (HL.out.keep fun k hk => hb1'.block k hk)
          clear hb1' HM
          go_wp2_with fail
          go_loopw [12] (fun s wr => RRestRel L w1 s wr) (fun s _ => L.length - (intOf s).toNat)
          case atStart => exact ⟨0, Nat.zero_le _, rfl, fun t h ht => by omega, rfl⟩
          case round =>
            obtain ⟨i, hi', rfl, hsm, rfl⟩ := hrel
            have HSM := Lib.hid hsm
            clear hsm
            by_cases hlt : i < L.length
            · obtain ⟨lb, lo, hLA, hlR, hlc⟩ := HL1.out (by omega)
              obtain ⟨_, c1, _⟩ := hlc i hlt
              obtain ⟨r, hLi⟩ : ∃ r, L[i] = r := ⟨_, rfl⟩
              rw [hLi] at c1
              have HLI := Lib.hid hLi
              clear hlc hLi
              subst hLA
              have hj0 : (0 : Int) ≤ (i : Int) := by omega
              have hjl : (i : Int) < L.length := by omega
              by_cases h200 : r.text.size ≤ 200
              · have e5 : decide (200 < (r.text.size : Int)) = false := by simp; omega
                go_wp2_with fail
                go_roundw
                case rel =>
                  refine ⟨i + 1, by omega, by go_num, fun t h ht => ?_, rfl⟩
                  by_cases e : t = i
                  · subst e; rw [HLI.out]; exact h200
                  · exact HSM.out t h (by omega)
                case measure => simp [intOf]; omega
              · have e5 : decide (200 < (r.text.size : Int)) = true := by simp; omega
                go_wp2_with fail
                go_ret2
                exact .inr ⟨fun h => h200 (by have := h.2.2.2.1 L[i] (List.getElem_mem hlt); rw [HLI.out] at this; exact this), rfl, HB1.out⟩
            · obtain rfl : i = L.length := by omega
              by_cases he : er = 0
              · have e6 : (er != 0) = false := by simp [he]
                have hN := Lib.hid (rNew19_any A n c w.heap.size key wr (HR.out.below HB1.out) hs1 (by omega))
                have HRO := Lib.hid (show RestOk key base ahead L from ⟨by omega, by have := HAL.out; have := HAN.out; omega, by omega, fun r hr => by
                  obtain ⟨t, ht, rfl⟩ := List.getElem_of_mem hr
                  exact HSM.out t ht ht, by
                  have := HER.out
                  by_cases hv : ver key base ahead L = L.length
                  · exact hv
                  · rw [if_neg hv] at this; omega⟩)
                clear he
                go_wp2_with fail
                refine hN.out.mono ?_
                rintro e w3 ⟨xb, rfl, hxw, hch, hb3⟩
                obtain ⟨vk, vt, A0, c0, blk, co⟩ := hch
                have hx3 := blk.lt
                have hs3 := hb3.size
                have HB3 := Lib.hid (HB1.out.trans (hb3.mono hs1))
                have m1 : w3.cell? ⟨xb, 1, none⟩ = some (.int .i64 0) := blk.cell 1
                have n1 := blk.frozen 1
                have HBL := Lib.hid blk
                have HCO := Lib.hid co
                have HA3 := Lib.hid (HAR.out.below (HB3.out))
                clear blk co hb3 hN
                go_upto_region 13 with (fail)
                refine name_world fun w4 y1 y2 y3 y4 => ?_
                have g34 : Grew (· = xb) w3 w4 := by
                  have q := (Grew.refl (· = xb) w3).set (p := ⟨xb, 1, none⟩) (.inl rfl) (.int .i64 base)
                  exact ⟨y2.trans q.os, y3.trans q.tape, y4.trans q.output, by rw [y1]; exact q.size, fun k hk hn => by rw [y1]; exact q.block k hk hn⟩
                have blk4 : Blk w4 xb 103 #[vk, .int .i64 base, vt, .slice A0 0 c0] := by unfold Blk; rw [y1]; exact HBL.out.set 1 _
                have hs4 : w4.heap.size = w3.heap.size := by rw [y1]; simp
                have HA4 := Lib.hid (show Reads w4 w.heap.size 1 aA _ (bv ahead) from HA3.out.grew (by omega) g34 fun k hk e => by omega)
                have HBL4 := Lib.hid blk4
                have G34 := Lib.hid g34
                have hs4' : w3.heap.size ≤ w4.heap.size := by omega
                have hx4 : xb < w4.heap.size := by omega
                have HS4 := Lib.hid hs4
                clear y1 y2 y3 y4 g34 blk4 hs4 m1 n1 HBL HA3
                go_upto_region 14 with (at_builtin; refine wpList_append_row rfl (.tmp 61) (.tmp 62) rfl Try.underlying22 hi hz0 hz1 hz2 rfl (by decide) rfl (Row.lit w4 #[] 5 (n := 0) (base := w4.heap.size) (size := 1) rfl (Nat.le_refl _) (by unfold maxLen; omega)) rfl (HA4.out.alloc (by omega) _) (bv_one _) (by unfold maxLen; omega) (by omega) (by simp) ?_; intro A7 c7 w7 hrow7 hgr7 hat7; have HG7 := Lib.hid (show Below w4.heap.size w4 w7 from ((Below.refl _ _).alloc (Nat.le_refl _) _).grown hgr7 (by simp) (fun k hk => by simp at hk; omega)); have HR7 := Lib.hid (show Row w7 w4.heap.size 1 A7 _ c7 (bv ahead) from by simpa using hrow7); have hblk7 := HBL4.out.below HG7.out hx4; have f7 := hblk7.frozen 2; have k2 : w7.cell? ⟨xb, 2, none⟩ = some vt := hblk7.cell 2; have HBL7 := Lib.hid hblk7; clear hrow7 hgr7 hat7 hblk7)
                refine name_world fun w8 y1 y2 y3 y4 => ?_
                have hs47 := HG7.out.size
                have g38 : Grew (· = xb) w3 w8 := by
                  have q := (G34.out.trans (Grew.of_new HG7.out)).set (p := ⟨xb, 2, none⟩) (.inl rfl) (.slice A7 an c7)
                  exact ⟨y2.trans q.os, y3.trans q.tape, y4.trans q.output, by rw [y1]; exact q.size, fun k hk hn => by rw [y1]; exact q.block k hk hn⟩
                have blk8 : Blk w8 xb 103 #[vk, .int .i64 base, .slice A7 an c7, .slice A0 0 c0] := by unfold Blk; rw [y1]; exact HBL7.out.set 2 _
                have r8 : Row w8 w3.heap.size 1 A7 an c7 (bv ahead) := by
                  have q := ((HR7.out.mono hs4').far (p := ⟨xb, 2, none⟩) (fun ad e => by have := (HR7.out.lt ad e).1; simp; omega) (.slice A7 an c7))
                  exact q.of_block fun ad e => by rw [y1]
                have hb8 : Below w.heap.size w w8 := HB3.out.trans (g38.below (B := w.heap.size) (by omega) fun k _ e => by omega)
                have hs8 : w8.heap.size = w7.heap.size := by rw [y1]; simp
                have hx8 : xb < w8.heap.size := by omega
                have HC := Lib.hid (rCopied_any LA lc L (· < w.heap.size) w8 (HL.out.keep fun k hk => hb8.block k hk) (fun k hk => by omega) hLn)
                have G38 := Lib.hid g38
                have BLK8 := Lib.hid blk8
                have R8 := Lib.hid r8
                have HB8 := Lib.hid hb8
                have hsw8 : w.heap.size ≤ w8.heap.size := hb8.size
                clear y1 y2 y3 y4 g38 blk8 r8 hb8 hs8 HG7 HR7 f7 k2 HBL7 HA4 HBL4 G34 HS4
                go_wp2_with fail
                refine HC.out.mono ?_
                rintro e w9 ⟨A9, c9, rfl, hrow9, hb9⟩
                have blk9 := BLK8.out.below hb9 hx8
                have m3 : w9.cell? ⟨xb, 3, none⟩ = some (.slice A0 0 c0) := blk9.cell 3
                have n3 := blk9.frozen 3
                have HR9 := Lib.hid hrow9
                have HB9 := Lib.hid hb9
                clear blk9 hrow9 hb9 HC
                go_wp2_with fail
                go_ret2
                exact .inl ⟨HRO.out, xb, rfl, by omega, rrest_done hs1 hxw HCO.out G38.out hx3 BLK8.out rfl R8.out (by have := HAN.out; omega) HR9.out HB9.out, (HB8.out.trans (HB9.out.mono hsw8)).setCell (by simp; omega) _⟩
              · have e6 : (er != 0) = true := by simp [he]
                go_wp2_with fail
                go_ret2
                exact .inr ⟨fun h => he (by have := HER.out; rw [if_pos h.2.2.2.2] at this; exact this), rfl, HB1.out⟩
end Go.Proofs.Ytbjlmodabiadfaa
