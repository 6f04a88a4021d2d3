/- Audit: THE WALK of the law's helper spoil: their owner writes over records that lie apart. -/
import Derived.Test.YtbjlmodabiadfaaHChain6
import Derived.Test.YtbjlmodabiadfaaGMem
namespace Go.Proofs.Ytbjlmodabiadfaa
open Go.RowKit

/-- Records that lie apart, in blocks of S alone. -/
def RowRecS (w : World) (S : Nat → Prop) (A : Option Addr) (n c : Nat) (L : List Rec) : Prop :=
  ∃ vs : List Value, L.length = n ∧ vs.length = n ∧ Row w 0 3 A n c (List.zipWith rcv L vs).flatten ∧ (∀ i (h : i < L.length) (h' : i < vs.length), TagRow w 0 A vs[i] L[i].tag ∧ ∀ ad m d, vs[i] = .slice (some ad) m d → S ad.block) ∧ vs.Pairwise ApartV ∧ ∀ ad, A = some ad → S ad.block
theorem RowRecP.inS {w : World} {base n c : Nat} {A : Option Addr} {L : List Rec} (h : RowRecP w base A n c L) : RowRecS w (fun k => base ≤ k ∧ k < w.heap.size) A n c L := by
  obtain ⟨vs, h1, h2, h3, h4, h5⟩ := h
  refine ⟨vs, h1, h2, h3.mono (Nat.zero_le _), fun i hi hi' => ?_, h5, fun ad e => h3.lt ad e⟩
  obtain ⟨tA, tc, e, hr, ha, hl⟩ := h4 i hi hi'
  refine ⟨⟨tA, tc, e, hr.mono (Nat.zero_le _), ha, hl⟩, fun ad m d e2 => ?_⟩
  rw [e2] at e
  injection e with e3 _ _
  exact hr.lt ad e3.symm
theorem RowRecS.grew {w w' : World} {S T : Nat → Prop} {n c : Nat} {A : Option Addr} {L : List Rec} (h : RowRecS w S A n c L) (g : Grew T w w') (hs : ∀ k, S k → ¬ T k) : RowRecS w' S A n c L := by
  obtain ⟨vs, h1, h2, h3, h4, h5, h6⟩ := h
  refine ⟨vs, h1, h2, h3.grew g fun ad e => hs _ (h6 ad e), fun i hi hi' => ?_, h5, h6⟩
  obtain ⟨⟨tA, tc, e, hr, ha, hl⟩, hk⟩ := h4 i hi hi'
  exact ⟨⟨tA, tc, e, hr.grew g fun ad e2 => hs _ (hk ad _ _ (by rw [e, e2])), ha, hl⟩, hk⟩
theorem RowRecS.new {w w' : World} {S : Nat → Prop} {n c : Nat} {A : Option Addr} {L : List Rec} (h : RowRecS w S A n c L) (g : Below w.heap.size w w') : RowRecS w' S A n c L := h.grew (Grew.of_new (S := fun _ => False) g) fun _ _ h => h
/-- So many records are spoiled: the rest's tags stand where they stood; of the old blocks only those of S have turned. -/
def SpRel (w0 : World) (S : Nat → Prop) (A : Option Addr) (n c : Nat) (L : List Rec) (vs : List Value) (s2 : Value) (wr : World) : Prop :=
  ∃ i, i ≤ n ∧ s2 = .int .i64 i ∧ Grew S w0 wr ∧ (∃ ys, Row wr 0 3 A n c ys) ∧
    ∀ j (h : j < L.length) (h' : j < vs.length), i ≤ j → TagRow wr 0 A vs[j] L[j].tag ∧ ∀ g o, A = some ⟨g, o, none⟩ → wr.cell? ⟨g, o + (j * 3 + 2), none⟩ = some vs[j]
theorem RowRecS.start {w : World} {S : Nat → Prop} {n c : Nat} {A : Option Addr} {L : List Rec} (h : RowRecS w S A n c L) : ∃ vs : List Value, L.length = n ∧ vs.length = n ∧ vs.Pairwise ApartV ∧ SpRel w S A n c L vs (.int .i64 0) w ∧ (∀ ad, A = some ad → S ad.block) ∧ ∀ i (h : i < vs.length) ad m d, vs[i] = .slice (some ad) m d → S ad.block := by
  obtain ⟨vs, h1, h2, h3, h4, h5, h6⟩ := h
  refine ⟨vs, h1, h2, h5, ⟨0, Nat.zero_le _, rfl, Grew.refl _ _, ⟨_, h3⟩, fun j hj hj' _ => ⟨(h4 j hj hj').1, fun g o e => ?_⟩⟩, h6, fun i hi => (h4 i (by omega) hi).2⟩
  subst e
  obtain ⟨_, _, _, hc⟩ := h3.at_
  exact hc _ _ (zip_at L vs (by omega) j hj hj').2.2
/-- Three cells of a record, written over. -/
def over3 (w : World) (g o : Nat) (a b v : Value) : World := ((w.setCell ⟨g, o, none⟩ a).setCell ⟨g, o + 1, none⟩ b).setCell ⟨g, o + 2, none⟩ v
theorem sp_next {w0 wr w2 : World} {S : Nat → Prop} {n c i g o : Nat} {L : List Rec} {vs : List Value} {T : TypeId} {cs : Array Value} {tA : Option Addr} {tn tc : Nat} (hSA : S g) (hSt : ∀ ad, tA = some ad → S ad.block) (h1 : L.length = n) (h2 : vs.length = n) (h5 : vs.Pairwise ApartV) (hi : i < n) (hv : vs[i]'(by omega) = .slice tA tn tc)
    (h : SpRel w0 S (some ⟨g, o, none⟩) n c L vs (.int .i64 i) wr) (ho : Only (blocksOf [((tA, tn, tc) : Sl)]) (wr.alloc (.cells cs T)) w2) (a b v : Value) :
    SpRel w0 S (some ⟨g, o, none⟩) n c L vs (.int .i64 ((i + 1 : Nat) : Int)) (over3 w2 g (o + i * 3) a b v) := by
  obtain ⟨i', hi', e, hbel, ⟨ys, hrow⟩, hrest⟩ := h
  obtain rfl : i' = i := by simp at e; omega
  obtain ⟨hg1, hg2, hg3, hg4⟩ := hrow.at_
  have hnc := hrow.2.1
  obtain ⟨⟨tA', tc', ev, htr, hta, _⟩, _⟩ := hrest i' (by omega) (by omega) (Nat.le_refl _)
  rw [hv] at ev
  simp only [Value.slice.injEq] at ev
  obtain ⟨rfl, _, rfl⟩ := ev
  have hS : ∀ k, blocksOf [((tA, tn, tc) : Sl)] k → ∃ ad, tA = some ad ∧ k = ad.block := fun k hk => by
    obtain ⟨x, hx, ad, e, _, hk2⟩ := hk
    simp at hx
    subst hx
    exact ⟨ad, e, hk2⟩
  have hSb : ∀ k, blocksOf [((tA, tn, tc) : Sl)] k → S k := fun k hk => by
    obtain ⟨ad, e, rfl⟩ := hS k hk
    exact hSt ad e
  have hSg : ¬ blocksOf [((tA, tn, tc) : Sl)] g := fun hk => by
    obtain ⟨ad, e, hk2⟩ := hS g hk
    exact hta ad e _ rfl hk2.symm
  have hs0 := hbel.size
  have hs2 : w2.heap.size = wr.heap.size + 1 := by have := ho.size; simpa using this
  have hrow2 : Row w2 0 3 (some ⟨g, o, none⟩) n c ys := (hrow.alloc _).only ho fun ad e => by cases e; exact hSg
  have hb2 : Grew S w0 w2 := (hbel.alloc _).trans ((Grew.of_only ho).mono fun k _ hk => hSb k hk)
  have r3 := ((hrow2.set (j := i' * 3) (by omega) a).set (j := i' * 3 + 1) (by omega) b).set (j := i' * 3 + 2) (by omega) v
  refine ⟨i' + 1, by omega, rfl, ((hb2.set (p := ⟨g, _, none⟩) (.inl hSA) _).set (p := ⟨g, _, none⟩) (.inl hSA) _).set (p := ⟨g, _, none⟩) (.inl hSA) _, ⟨_, by unfold over3; rw [Nat.add_assoc, Nat.add_assoc]; exact r3⟩, fun j hj hj' hij => ?_⟩
  obtain ⟨⟨uA, uc, eu, hur, hua, hul⟩, hcell⟩ := hrest j hj hj' (by omega)
  have hap : ApartV (vs[i']'(by omega)) vs[j] := List.pairwise_iff_getElem.1 h5 i' j (by omega) hj' (by omega)
  have hur2 : Row w2 0 1 uA L[j].tag.length uc (bv L[j].tag) := (hur.alloc _).only ho fun ad e hk => by
    obtain ⟨ad', e', hk2⟩ := hS _ hk
    exact hap ad' _ _ ad _ _ (by rw [hv, e']) (by rw [eu, e]) hk2.symm
  have hug : ∀ ad, uA = some ad → ad.block ≠ g := fun ad e => hua ad e _ rfl
  refine ⟨⟨uA, uc, eu, ((hur2.far (p := ⟨g, _, none⟩) hug _).far (p := ⟨g, _, none⟩) hug _).far (p := ⟨g, _, none⟩) hug _, hua, hul⟩, fun g' o' e => ?_⟩
  cases e
  have h7 := hcell g o rfl
  unfold over3
  rw [World.cell?_setCell_other _ _ _ _ (by simp <;> omega), World.cell?_setCell_other _ _ _ _ (by simp <;> omega), World.cell?_setCell_other _ _ _ _ (by simp <;> omega),
    World.cell?_of_block (w := wr.alloc (.cells cs T)) (a := ⟨g, o + (j * 3 + 2), none⟩) (ho.block g hSg), World.cell?_alloc_lt _ _ _ hg2]
  exact h7
set_option maxRecDepth 100000 in
set_option maxHeartbeats 4000000 in
theorem spoil_any (A : Option Addr) (n c : Nat) (S : Nat → Prop) (L : List Rec) (w : World) (h : RowRecS w S A n c L) (hn : n ≤ 1000000) :
    Calls Try.prog 41 #[.slice A n c] w fun e w' => e = .returned (.tuple #[]) ∧ Grew S w w' := by
  obtain ⟨vs, h1, h2, h5, hst, hsA, hsT⟩ := h.start
  have HSA := Lib.hid hsA
  have HSTG := Lib.hid hsT
  have HST := Lib.hid hst
  have HAP := Lib.hid h5
  have H1 := Lib.hid h1
  have H2 := Lib.hid h2
  clear h h1 h2 h5 hst hsA hsT
  go_enter Try.func41, Try.ntmps41
  go_wp2_with fail
  go_loopw [2] (fun s2 wr => SpRel w S A n c L vs s2 wr) (fun i _ => n - (intOf i).toNat)
  case atStart => exact HST.out
  case round =>
    clear HST
    have HREL := Lib.hid hrel
    obtain ⟨i, hi, rfl, hbel, ⟨ys, hrow⟩, hrest⟩ := hrel
    by_cases hlt : i < n
    · have q1 := H1.out
      have q2 := H2.out
      obtain ⟨⟨tA, tc, ev, htr, hta, htl⟩, hcell⟩ := hrest i (by omega) (by omega) (Nat.le_refl _)
      obtain ⟨g, o, rfl⟩ : ∃ g o, A = some ⟨g, o, none⟩ := by
        cases A with
        | none => have := hrow.2.2.2.1 rfl; have := hrow.2.1; omega
        | some ad => obtain ⟨g, o, e, _⟩ := hrow.2.2.2.2 ad rfl; exact ⟨g, o, by rw [e]⟩
      have c2 := hcell g o rfl
      obtain ⟨hg1, hg2, hg3, _⟩ := hrow.at_
      have hnc := hrow.2.1
      rw [ev] at c2
      obtain ⟨m, hm⟩ : ∃ m, m = (L[i]'(by omega)).tag.length := ⟨_, rfl⟩
      rw [← hm] at c2 ev htr htl
      have hlit : OwnedRows (wr.alloc (.cells ([((tA, m, tc) : Sl)].map Sl.val).toArray 22)) wr.heap.size [(tA, m, tc)] :=
        owned_lit (by intro x hx; simp at hx; rcases hx with rfl; exact ⟨_, _, htr⟩) (by simp)
      have HOW := Lib.hid (Owned_any _ 1 _ _ hlit (by simp))
      have HEV := Lib.hid ev
      have HTA := Lib.hid hta
      have HG3 := Lib.hid hg3
      have hi0 : (0 : Int) ≤ (i : Int) := by omega
      have hil : (i : Int) < (n : Int) := by omega
      have d2 : wr.cell? ⟨g, o + i * 3 + 2, none⟩ = some (.slice tA m tc) := by rw [Nat.add_assoc]; exact c2
      clear hlit hcell c2 ev hta htr hm hrest hrow hbel hg3 htl
      go_wp2_with fail
      refine HOW.out.mono ?_
      rintro e w2 ⟨rfl, ho⟩
      have HO := Lib.hid ho
      have HN := Lib.hid (fun a b v => sp_next (HSA.out _ rfl) (fun ad e => HSTG.out i (by omega) ad m tc (by rw [HEV.out, e])) q1 q2 HAP.out hlt HEV.out HREL.out ho a b v)
      have hSg : ¬ blocksOf [((tA, m, tc) : Sl)] g := fun hk => by
        obtain ⟨x, hx, ad, e, _, hk2⟩ := hk
        simp at hx
        subst hx
        exact HTA.out ad e _ rfl hk2.symm
      have hw2 : w2.heap[g]? = (wr.alloc (.cells ([((tA, m, tc) : Sl)].map Sl.val).toArray 22)).heap[g]? := ho.block g hSg
      have hcl : ∀ j, j < c * 3 → (w2.cell? ⟨g, o + j, none⟩).isSome = true ∧ w2.frozen? ⟨g, o + j, none⟩ = false := fun j hj => by
        rw [World.cell?_of_block (a := ⟨g, o + j, none⟩) hw2, World.frozen?_of_block (a := ⟨g, o + j, none⟩) hw2, World.cell?_alloc_lt _ _ _ hg2, World.frozen?_of_block (a := ⟨g, o + j, none⟩) (Below.heap_alloc _ _ _ hg2)]
        exact HG3.out j hj
      obtain ⟨z0, hz0⟩ := Option.isSome_iff_exists.1 (hcl (i * 3) (by omega)).1
      obtain ⟨z1, hz1⟩ := Option.isSome_iff_exists.1 (hcl (i * 3 + 1) (by omega)).1
      obtain ⟨z2, hz2⟩ := Option.isSome_iff_exists.1 (hcl (i * 3 + 2) (by omega)).1
      have f0 := (hcl (i * 3) (by omega)).2
      have f1 := (hcl (i * 3 + 1) (by omega)).2
      have f2 := (hcl (i * 3 + 2) (by omega)).2
      rw [← Nat.add_assoc] at hz1 hz2 f1 f2
      clear ho hcl hw2 hSg hg1 hg2 HOW d2
      go_wp2_with fail
      go_roundw
      case rel => exact HN.out _ _ _
      case measure => simp [intOf]; omega
    · have HB := Lib.hid hbel
      clear hrest hrow hbel
      go_wp2_with fail
      go_end0
      exact ⟨rfl, HB.out⟩
end Go.Proofs.Ytbjlmodabiadfaa
