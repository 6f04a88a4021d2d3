/- PLAIN: tokens of card numbers under versions of a key, and the way back. A vault in memory; THE WALKS of vault: Version, Rotate, New. THE WALKS of vault: a version's key, made once. THE WALKS of vault: a version's Once, its key; New. THE WALKS of vault: cipher, Token. THE WALKS of vault: Back, Renew. A vault of the law's own: the contracts since a world; THE WALK of the small case of the laws of vault. -/
import Derived.Test.YtogpnlfbdhddmaaGreatDoorGFfx
import Derived.Test.YtogpnlfbdhddmaaGreatDoorGPlain
import Derived.Test.YtogpnlfbdhddmaaGreatDoorGKeys
import Derived.Laws.LoneSync
import Derived.Test.YtogpnlfbdhddmaaGreatDoorGMem
import Derived.Conc.MuLone
import Derived.Test.YtogpnlfbdhddmaaGreatDoorGAes
import Derived.Test.YtogpnlfbdhddmaaGreatDoorGPan
namespace Go.Proofs.YtogpnlfbdhddmaaGreatDoor

/-- A version's key. -/
def vKey (m : List UInt8) (t v : Nat) : List UInt8 := keyB m t 1 v
theorem length_vKey (m : List UInt8) (t v : Nat) : (vKey m t v).length = 32 := length_keyB m t 1 v
/-- What stands beside the middle. -/
def twkP (l : List UInt8) : List UInt8 := binP l ++ lastP l
/-- With the middle hidden; the way back. -/
def hidS (k l : List UInt8) : List UInt8 := binP l ++ encT k (twkP l) (midP l) ++ lastP l
def shoS (k l : List UInt8) : List UInt8 := binP l ++ decT k (twkP l) (midP l) ++ lastP l
theorem twk_len {l : List UInt8} (h : shapedB l = true) : (twkP l).length = 10 := by
  obtain ⟨h1, _, h3, _, _⟩ := parts_len h
  unfold twkP; rw [List.length_append, h1, h3]
theorem mid_dig {l : List UInt8} (h : shapedB l = true) : (midP l).all isDig = true := by
  have h1 := lookE_dig (shapedB_iff.1 h).1
  rw [← parts_all h, List.all_append, List.all_append] at h1
  simp only [Bool.and_eq_true] at h1
  exact h1.1.2
theorem nm_mid {l : List UInt8} (h : shapedB l = true) : nmE (midP l) = 0 := by
  obtain ⟨_, h2, _, h4, h5⟩ := parts_len h
  exact nmE_ok (by omega) (mid_dig h)
theorem enc_all {k tw l : List UInt8} (h : nmE l = 0) : (encT k tw l).all isDig = true ∧ (decT k tw l).all isDig = true :=
  ⟨(nmE_zero (dec_encT k tw h).2.1).2.2, (nmE_zero (enc_decT k tw h).2.1).2.2⟩
/-- A hidden text: shaped, of the same parts beside. -/
theorem hid_parts {l : List UInt8} (h : shapedB l = true) (k : List UInt8) :
    shapedB (hidS k l) = true ∧ binP (hidS k l) = binP l ∧ midP (hidS k l) = encT k (twkP l) (midP l) ∧ lastP (hidS k l) = lastP l ∧ (hidS k l).length = l.length :=
  shaped_mid h (enc_all (nm_mid h)).1 (dec_encT k (twkP l) (nm_mid h)).2.2
theorem sho_parts {l : List UInt8} (h : shapedB l = true) (k : List UInt8) :
    shapedB (shoS k l) = true ∧ binP (shoS k l) = binP l ∧ midP (shoS k l) = decT k (twkP l) (midP l) ∧ lastP (shoS k l) = lastP l ∧ (shoS k l).length = l.length :=
  shaped_mid h (enc_all (nm_mid h)).2 (enc_decT k (twkP l) (nm_mid h)).2.2
theorem sho_hid {l : List UInt8} (h : shapedB l = true) (k : List UInt8) : shoS k (hidS k l) = l := by
  obtain ⟨_, h2, h3, h4, _⟩ := hid_parts h k
  have ht : twkP (hidS k l) = twkP l := by unfold twkP; rw [h2, h4]
  show binP (hidS k l) ++ decT k (twkP (hidS k l)) (midP (hidS k l)) ++ lastP (hidS k l) = l
  rw [ht, h2, h3, h4, (dec_encT k (twkP l) (nm_mid h)).1]
  exact parts_all h
theorem hid_sho {l : List UInt8} (h : shapedB l = true) (k : List UInt8) : hidS k (shoS k l) = l := by
  obtain ⟨_, h2, h3, h4, _⟩ := sho_parts h k
  have ht : twkP (shoS k l) = twkP l := by unfold twkP; rw [h2, h4]
  show binP (shoS k l) ++ encT k (twkP (shoS k l)) (midP (shoS k l)) ++ lastP (shoS k l) = l
  rw [ht, h2, h3, h4, (enc_decT k (twkP l) (nm_mid h)).1]
  exact parts_all h
theorem mask_hid {l : List UInt8} (h : shapedB l = true) (k : List UInt8) : maskS (hidS k l) = maskS l :=
  maskOf_mid h (enc_all (nm_mid h)).1 (dec_encT k (twkP l) (nm_mid h)).2.2
theorem mask_sho {l : List UInt8} (h : shapedB l = true) (k : List UInt8) : maskS (shoS k l) = maskS l :=
  maskOf_mid h (enc_all (nm_mid h)).2 (enc_decT k (twkP l) (nm_mid h)).2.2
theorem pan_shaped {l : List UInt8} (h : panB l = true) : shapedB l = true := by
  unfold panB at h; simp only [Bool.and_eq_true] at h; exact h.1
/-! ### a token, and back -/
def vtE (l : List UInt8) : Int := if panB l = true then 0 else 10
def vtS (m : List UInt8) (t v : Nat) (l : List UInt8) : List UInt8 := if panB l = true then tokS (hidS (vKey m t v) l) v else []
theorem vtE_yes {l : List UInt8} (h : panB l = true) : vtE l = 0 := if_pos h
theorem vtE_no {l : List UInt8} (h : panB l = false) : vtE l = 10 := by unfold vtE; rw [if_neg (by rw [h]; decide)]
theorem vtS_yes {m : List UInt8} {t v : Nat} {l : List UInt8} (h : panB l = true) : vtS m t v l = tokS (hidS (vKey m t v) l) v := if_pos h
theorem vtS_no {m : List UInt8} {t v : Nat} {l : List UInt8} (h : panB l = false) : vtS m t v l = [] := by unfold vtS; rw [if_neg (by rw [h]; decide)]
def vbE (m : List UInt8) (t now : Nat) (l : List UInt8) : Int :=
  if splitOk l = true then (if (now : Int) < splV l then 12 else if panB (shoS (vKey m t (splV l).toNat) (splS l)) = true then 0 else 11) else 11
def vbS (m : List UInt8) (t now : Nat) (l : List UInt8) : List UInt8 := if vbE m t now l = 0 then shoS (vKey m t (splV l).toNat) (splS l) else []
section
variable {m : List UInt8} {t now v : Nat} {l : List UInt8}
theorem vbE_split (h : splitOk l = false) : vbE m t now l = 11 := by unfold vbE; rw [if_neg (by rw [h]; decide)]
theorem vbE_ver (h : splitOk l = true) (h2 : (now : Int) < splV l) : vbE m t now l = 12 := by unfold vbE; rw [if_pos h, if_pos h2]
theorem vbE_pan (h : splitOk l = true) (h2 : ¬ (now : Int) < splV l) (h3 : panB (shoS (vKey m t (splV l).toNat) (splS l)) = false) : vbE m t now l = 11 := by unfold vbE; rw [if_pos h, if_neg h2, if_neg (by rw [h3]; decide)]
theorem vbE_ok (h : splitOk l = true) (h2 : ¬ (now : Int) < splV l) (h3 : panB (shoS (vKey m t (splV l).toNat) (splS l)) = true) : vbE m t now l = 0 := by unfold vbE; rw [if_pos h, if_neg h2, if_pos h3]
theorem vbE_zero (h : vbE m t now l = 0) : splitOk l = true ∧ ¬ (now : Int) < splV l ∧ panB (shoS (vKey m t (splV l).toNat) (splS l)) = true := by
  unfold vbE at h
  by_cases h1 : splitOk l = true
  · rw [if_pos h1] at h
    by_cases h2 : (now : Int) < splV l
    · rw [if_pos h2] at h; omega
    · rw [if_neg h2] at h
      by_cases h3 : panB (shoS (vKey m t (splV l).toNat) (splS l)) = true
      · exact ⟨h1, h2, h3⟩
      · rw [if_neg h3] at h; omega
  · rw [if_neg h1] at h; omega
theorem vbS_no (h : ¬ vbE m t now l = 0) : vbS m t now l = [] := if_neg h
theorem vbS_ok (h : vbE m t now l = 0) : vbS m t now l = shoS (vKey m t (splV l).toNat) (splS l) := if_pos h
/-- A token is split into the hidden text and its version. -/
theorem tok_parts (h : panB l = true) (h1 : 1 ≤ v) (h2 : v ≤ 255) : tokE (hidS (vKey m t v) l) v = 0 ∧ splitOk (vtS m t v l) = true ∧ splS (vtS m t v l) = hidS (vKey m t v) l ∧ splV (vtS m t v l) = v := by
  have hs := (hid_parts (pan_shaped h) (vKey m t v)).1
  have he := tokE_ok (v := (v : Int)) hs (by omega)
  obtain ⟨a, b, c⟩ := tok_split he
  rw [vtS_yes h]
  obtain ⟨_, d, e⟩ := spl_yes a
  exact ⟨he, a, by rw [d, b], by rw [e, c]⟩
/-- A token leads back. -/
theorem tok_back (h : panB l = true) (h1 : 1 ≤ v) (h2 : v ≤ 255) (h3 : v ≤ now) : vbE m t now (vtS m t v l) = 0 ∧ vbS m t now (vtS m t v l) = l := by
  obtain ⟨_, a, b, c⟩ := tok_parts (m := m) (t := t) h h1 h2
  have hs : shoS (vKey m t (splV (vtS m t v l)).toNat) (splS (vtS m t v l)) = l := by
    rw [b, c, Int.toNat_natCast]; exact sho_hid (pan_shaped h) _
  have he : vbE m t now (vtS m t v l) = 0 := vbE_ok a (by rw [c]; omega) (by rw [hs]; exact h)
  exact ⟨he, by rw [vbS_ok he, hs]⟩
/-- What a token led back to: of this version it is made again just so; it shows what its mask shows. -/
theorem back_tok (h : vbE m t now l = 0) : panB (vbS m t now l) = true ∧ 1 ≤ splV l ∧ splV l ≤ now ∧ (splV l = now → vtS m t now (vbS m t now l) = l) ∧ maskS (vbS m t now l) = (maskS l).take (vbS m t now l).length ∧ (vbS m t now l).length ≤ (maskS l).length := by
  obtain ⟨a, b, c⟩ := vbE_zero h
  obtain ⟨s1, s2, s3⟩ := spl_yes a
  obtain ⟨g1, g2, g3, g4⟩ := split_shaped a
  have hsh : shapedB (splS l) = true := by rw [s2]; exact g1
  rw [vbS_ok h]
  have hlen := (sho_parts hsh (vKey m t (splV l).toNat)).2.2.2.2
  have hmk : maskS l = maskOf (splS l) ++ 46 :: dec (splV l).toNat := by rw [mask_split a, s2, s3]
  have hmo := len_maskOf hsh
  refine ⟨c, by rw [s3]; exact g2, by omega, fun e => ?_, ?_, ?_⟩
  · rw [vtS_yes c]
    have e2 : (splV l).toNat = now := by omega
    rw [e2, hid_sho hsh, ← e]
    exact (split_tok a).2
  · rw [mask_sho hsh, mask_shaped hsh, hlen, hmk, List.take_append_of_le_length (by omega), List.take_of_length_le (by omega)]
  · rw [hmk, hlen]; simp only [List.length_append]; omega
/-- Unlike card numbers have unlike tokens. -/
theorem tok_inj {l2 : List UInt8} (h : panB l = true) (hh : panB l2 = true) (h1 : 1 ≤ v) (h2 : v ≤ 255) (e : vtS m t v l = vtS m t v l2) : l = l2 := by
  have a := (tok_back (m := m) (t := t) h h1 h2 (Nat.le_refl _)).2
  have b := (tok_back (m := m) (t := t) hh h1 h2 (Nat.le_refl _)).2
  rw [e, b] at a; exact a.symm
/-- How long a token is. -/
theorem tok_len (h : panB l = true) (h1 : 1 ≤ v) (h2 : v ≤ 255) : (vtS m t v l).length ≤ 30 := by
  have he := (tok_parts (m := m) (t := t) h h1 h2).1
  rw [vtS_yes h, tokS_ok he]
  have := (hid_parts (pan_shaped h) (vKey m t v)).2.2.2.2
  have h19 := (shapedB_iff.1 (pan_shaped h)).2.2
  have hd := dec_len (n := ((v : Int)).toNat) (by omega)
  simp only [List.length_append, List.length_cons]; omega
theorem back_len : (vbS m t now l).length ≤ 19 := by
  by_cases h : vbE m t now l = 0
  · exact (shapedB_iff.1 (pan_shaped (back_tok h).1)).2.2
  · rw [vbS_no h]; decide
end
/-- A token's card number's token now. -/
def vnE (m : List UInt8) (t now : Nat) (l : List UInt8) : Int := vbE m t now l
def vnS (m : List UInt8) (t now : Nat) (l : List UInt8) : List UInt8 := if vbE m t now l = 0 then vtS m t now (vbS m t now l) else []
theorem vnS_ok {m : List UInt8} {t now : Nat} {l : List UInt8} (h : vbE m t now l = 0) : vnS m t now l = vtS m t now (vbS m t now l) := if_pos h
theorem vnS_no {m : List UInt8} {t now : Nat} {l : List UInt8} (h : ¬ vbE m t now l = 0) : vnS m t now l = [] := if_neg h
/-! ### two digits of a middle exchanged -/
def exch (l : List UInt8) (x y : Nat) : List UInt8 := (l.set x (l.getD y 0)).set y (l.getD x 0)
theorem exch_split (A B C : List UInt8) (a b : UInt8) : exch (A ++ a :: (B ++ b :: C)) A.length (A.length + 1 + B.length) = A ++ b :: (B ++ a :: C) := by
  have h1 : (A ++ a :: (B ++ b :: C)).getD (A.length + 1 + B.length) 0 = b := by
    rw [List.getD_eq_getElem?_getD, List.getElem?_append_right (by omega), show A.length + 1 + B.length - A.length = B.length + 1 by omega, List.getElem?_cons_succ, List.getElem?_append_right (Nat.le_refl _)]
    simp
  have h2 : (A ++ a :: (B ++ b :: C)).getD A.length 0 = a := by
    rw [List.getD_eq_getElem?_getD, List.getElem?_append_right (Nat.le_refl _)]; simp
  unfold exch
  rw [h1, h2, List.set_append_right _ _ (Nat.le_refl _), Nat.sub_self, List.set_cons_zero, List.set_append_right _ _ (by omega), show A.length + 1 + B.length - A.length = B.length + 1 by omega, List.set_cons_succ, List.set_append_right _ _ (Nat.le_refl _), Nat.sub_self, List.set_cons_zero]
theorem cut_two (l : List UInt8) {x y : Nat} (h : x < y) (hy : y < l.length) : ∃ A B C a b, l = A ++ a :: (B ++ b :: C) ∧ A.length = x ∧ A.length + 1 + B.length = y := by
  refine ⟨l.take x, (l.drop (x + 1)).take (y - x - 1), l.drop (y + 1), l[x], l[y], ?_, by simp; omega, by simp; omega⟩
  have h1 := List.drop_eq_getElem_cons (l := l) (i := x) (by omega)
  have h2 := List.drop_eq_getElem_cons (l := l) (i := y) hy
  have h3 : l.drop (x + 1) = (l.drop (x + 1)).take (y - x - 1) ++ l.drop y := by
    have := (List.take_append_drop (y - x - 1) (l.drop (x + 1))).symm
    rwa [List.drop_drop, show x + 1 + (y - x - 1) = y by omega] at this
  rw [← h2, ← h3, ← h1, List.take_append_drop]
theorem exch_self (l : List UInt8) {x : Nat} (h : x < l.length) : exch l x x = l := by
  have hg : l.getD x 0 = l[x] := by rw [List.getD_eq_getElem?_getD, List.getElem?_eq_getElem h]; rfl
  unfold exch; rw [hg, List.set_getElem_self, List.set_getElem_self]
theorem length_exch (l : List UInt8) (x y : Nat) : (exch l x y).length = l.length := by unfold exch; simp
/-- Two digits at places of one kind exchanged: the sum stays. -/
theorem exch_law (l : List UInt8) {x k : Nat} (hy : x + 2 * k < l.length) : ∀ A C : List UInt8, wsum (A ++ exch l x (x + 2 * k) ++ C) 0 = wsum (A ++ l ++ C) 0 ∧ ((exch l x (x + 2 * k)).all isDig = l.all isDig) := by
  intro P C
  by_cases hk : k = 0
  · subst hk
    rw [show x + 2 * 0 = x by omega, exch_self l (by omega)]
    exact ⟨rfl, rfl⟩
  · obtain ⟨A, B, D, a, b, rfl, hA, hB⟩ := cut_two l (x := x) (y := x + 2 * k) (by omega) hy
    have he := exch_split A B D a b
    rw [hA, show x + 1 + B.length = x + 2 * k by omega] at he
    rw [he]
    have hlen : (B ++ b :: D).length = B.length + D.length + 1 := by simp; omega
    have hlen2 : (B ++ a :: D).length = B.length + D.length + 1 := by simp; omega
    have key : ∀ n, wsum (A ++ b :: (B ++ a :: D)) n = wsum (A ++ a :: (B ++ b :: D)) n := by
      intro n
      rw [wsum_mid3, wsum_mid3, wsum_mid3, wsum_mid3, hlen, hlen2]
      have hpar : (B.length + D.length + 1 + n) % 2 = (D.length + n) % 2 := by omega
      rw [hpar]
      omega
    refine ⟨?_, ?_⟩
    · have three : ∀ M : List UInt8, wsum (P ++ M ++ C) 0 = wsum P (M.length + (C.length + 0)) + wsum M (C.length + 0) + wsum C 0 := fun M => by rw [wsum_append, wsum_append]
      rw [three, three, key]
      simp only [List.length_append, List.length_cons]
    · simp only [List.all_append, List.all_cons]
      cases isDig a <;> cases isDig b <;> simp
/-- A card number with two digits of its middle exchanged. -/
theorem pan_exch {l : List UInt8} {x k : Nat} (h : panB l = true) (hy : x + 2 * k < (midP l).length) : panB (binP l ++ exch (midP l) x (x + 2 * k) ++ lastP l) = true := by
  have hs := pan_shaped h
  obtain ⟨h1, h2⟩ := exch_law (midP l) hy (binP l) (lastP l)
  have hp := shaped_mid hs (m := exch (midP l) x (x + 2 * k)) (by rw [h2]; exact mid_dig hs) (length_exch _ _ _)
  have hv : validB l = true := by unfold panB at h; simp only [Bool.and_eq_true] at h; exact h.2
  obtain ⟨_, _, v3⟩ := validB_iff.1 hv
  unfold panB
  rw [hp.1, Bool.true_and]
  have hl := (shapedB_iff.1 hp.1)
  refine validB_iff.2 ⟨fun e => by rw [e] at hl; simp at hl, hl.1, ?_⟩
  rw [h1, parts_all hs]; exact v3
end Go.Proofs.YtogpnlfbdhddmaaGreatDoor
namespace Go.Proofs.YtogpnlfbdhddmaaGreatDoor
open Go.RowKit

/-! ### the version's number -/
theorem v64_load (b o : Nat) (x : Int) (w : World) (hc : w.cell? ⟨b, o, none⟩ = some (.int .i64 x)) :
    Calls Tryz.prog 32 #[.pointer (some ⟨b, o, none⟩)] w fun e w' => e = .returned (.int .i64 x) ∧ w = w' := by
  have hl := run_call_load (P := Tryz.prog) Tryz.func58 (by kernel_rfl) (by kernel_rfl) (by kernel_rfl) .i64 (by kernel_rfl) hc
  go_enter Tryz.func32, Tryz.ntmps32
  go_wp2
  go_ret
  exact ⟨rfl, rfl⟩
theorem v64_store (b o : Nat) (v : Value) (x : Int) (w : World) (hc : w.cell? ⟨b, o, none⟩ = some v) (hz : w.frozen? ⟨b, o, none⟩ = false) :
    Calls Tryz.prog 30 #[.pointer (some ⟨b, o, none⟩), .int .i64 x] w fun e w' => e = .returned (.tuple #[]) ∧ w.setCell ⟨b, o, none⟩ (.int .i64 x) = w' := by
  have hl := run_call_store (P := Tryz.prog) Tryz.func56 (by kernel_rfl) (by kernel_rfl) (by kernel_rfl) (by kernel_rfl) (k := .i64) (y := x) hc hz
  go_enter Tryz.func30, Tryz.ntmps30
  go_wp2
  go_end0
  exact ⟨rfl, rfl⟩
theorem v64_cas (b o : Nat) (x y : Int) (w : World) (hc : w.cell? ⟨b, o, none⟩ = some (.int .i64 x)) (hz : w.frozen? ⟨b, o, none⟩ = false) :
    Calls Tryz.prog 31 #[.pointer (some ⟨b, o, none⟩), .int .i64 x, .int .i64 y] w fun e w' => e = .returned (.bool true) ∧ w.setCell ⟨b, o, none⟩ (.int .i64 y) = w' := by
  have hl := run_call_cas_hit (P := Tryz.prog) Tryz.func57 (by kernel_rfl) (by kernel_rfl) (by kernel_rfl) .i64 (by kernel_rfl) (y := y) hc hz
  go_enter Tryz.func31, Tryz.ntmps31
  go_wp2
  go_ret
  exact ⟨rfl, rfl⟩

/-! ### a vault in memory -/
/-- A version's place in a vault: its key is made, or not yet. -/
def VerAt (w : World) (vb rb : Nat) (X : Nat → Prop) (m : List UInt8) (t : Nat) (cs : Array Value) (v : Nat) : Prop :=
  cs[4 * v + 4]? = some (.int .i32 0) ∧ ((cs[4 * v + 3]? = some (.int .u32 0) ∧ ∃ u, cs[4 * v + 6]? = some u) ∨
    (cs[4 * v + 3]? = some (.int .u32 1) ∧ ∃ A c, cs[4 * v + 6]? = some (.slice A 32 c) ∧ Row w 0 1 A 32 c (bv (vKey m t v)) ∧ ∀ ad, A = some ad → X ad.block ∧ ad.block ≠ vb ∧ ad.block ≠ rb))
/-- The vault at block vb of the master key m and the tenant t, at the version now; what it owns lies in blocks of X. -/
def VauAt (w : World) (vb : Nat) (X : Nat → Prop) (m : List UInt8) (t now : Nat) : Prop :=
  ∃ (cs : Array Value) (rb : Nat), Blk w vb 81 cs ∧ cs[0]? = some (.pointer (some ⟨rb, 0, none⟩)) ∧ cs[1]? = some (.int .i64 t) ∧ cs[2]? = some (.int .i64 now) ∧ X rb ∧ rb ≠ vb ∧ RingAt w rb (fun k => X k ∧ k ≠ vb) m ∧ ∀ v, v < 256 → VerAt w vb rb X m t cs v
section
variable {w w' : World} {vb rb t now v : Nat} {X X' : Nat → Prop} {m : List UInt8} {cs : Array Value}
theorem VauAt.lt (h : VauAt w vb X m t now) : vb < w.heap.size := by obtain ⟨_, _, h, _⟩ := h; exact h.lt
theorem VerAt.grew {S : Nat → Prop} (h : VerAt w vb rb X m t cs v) (hg : Grew S w w') (h2 : ∀ k, X k → k ≠ vb → k ≠ rb → ¬ S k) : VerAt w' vb rb X m t cs v := by
  obtain ⟨h1, h3 | ⟨h3, A, c, h4, h5, h6⟩⟩ := h
  · exact ⟨h1, .inl h3⟩
  · exact ⟨h1, .inr ⟨h3, A, c, h4, h5.grew hg fun ad e => h2 _ (h6 ad e).1 (h6 ad e).2.1 (h6 ad e).2.2, h6⟩⟩
theorem VerAt.mono (h : VerAt w vb rb X m t cs v) (hx : ∀ k, k < w.heap.size → X k → X' k) : VerAt w vb rb X' m t cs v := by
  obtain ⟨h1, h3 | ⟨h3, A, c, h4, h5, h6⟩⟩ := h
  · exact ⟨h1, .inl h3⟩
  · exact ⟨h1, .inr ⟨h3, A, c, h4, h5, fun ad e => ⟨hx _ (h5.lt ad e).2 (h6 ad e).1, (h6 ad e).2⟩⟩⟩
theorem VauAt.grew {S : Nat → Prop} (h : VauAt w vb X m t now) (hg : Grew S w w') (h1 : ¬ S vb) (h2 : ∀ k, X k → ¬ S k) : VauAt w' vb X m t now := by
  obtain ⟨cs, rb, a1, a2, a3, a4, a5, a6, a7, a8⟩ := h
  exact ⟨cs, rb, a1.grew hg h1, a2, a3, a4, a5, a6, a7.grew hg (h2 _ a5) fun k hk => h2 k hk.1, fun v hv => (a8 v hv).grew hg fun k hk _ _ => h2 k hk⟩
theorem VauAt.mono (h : VauAt w vb X m t now) (hx : ∀ k, k < w.heap.size → X k → X' k) : VauAt w vb X' m t now := by
  obtain ⟨cs, rb, a1, a2, a3, a4, a5, a6, a7, a8⟩ := h
  exact ⟨cs, rb, a1, a2, a3, a4, hx _ a7.lt a5, a6, a7.mono fun k hk hh => ⟨hx k hk hh.1, hh.2⟩, fun v hv => (a8 v hv).mono hx⟩
theorem VauAt.within (h : VauAt w vb X m t now) : VauAt w vb (fun k => X k ∧ k < w.heap.size) m t now := h.mono fun _ hk hh => ⟨hh, hk⟩
theorem VauAt.below {B : Nat} (h : VauAt w vb X m t now) (hb : Below B w w') (hB : w.heap.size ≤ B) : VauAt w' vb X m t now :=
  (h.within.grew (S := fun k => B ≤ k) (Grew.of_below hb fun _ _ h => h) (by have := h.lt; omega) fun k hk => by have := hk.2; omega).mono fun _ _ hh => hh.1
theorem VauAt.new (h : VauAt w vb X m t now) (hb : Below w.heap.size w w') : VauAt w' vb X m t now := h.below hb (Nat.le_refl _)
end
/-- A vault behind work: only blocks of its own have turned. -/
def VauOut (vb : Nat) (X : Nat → Prop) (m : List UInt8) (t now : Nat) (w w' : World) : Prop :=
  ∃ X2 : Nat → Prop, (∀ k, X2 k → (X k ∧ k < w.heap.size) ∨ w.heap.size ≤ k) ∧ VauAt w' vb X2 m t now ∧ Grew (fun k => k = vb ∨ X k) w w'
/-- The vault since the world w0: nothing older is its own. -/
def VauSin (w0 : World) (vb : Nat) (m : List UInt8) (t now : Nat) (w : World) : Prop :=
  VauAt w vb (fun k => w0.heap.size ≤ k) m t now ∧ w0.heap.size ≤ vb ∧ Below w0.heap.size w0 w
theorem VauOut.sin {w0 w w' : World} {vb t now' : Nat} {m : List UInt8} {X : Nat → Prop} (h : VauOut vb X m t now' w w') (hx : ∀ k, X k → w0.heap.size ≤ k) (hv : w0.heap.size ≤ vb) (hb : Below w0.heap.size w0 w) : VauSin w0 vb m t now' w' := by
  obtain ⟨X2, h1, h2, h3⟩ := h
  have hs := hb.size
  exact ⟨h2.mono fun k _ hk => by
    rcases h1 k hk with h | h
    · exact hx k h.1
    · omega, hv, hb.trans (h3.below (B := w0.heap.size) hs fun k _ hk => by
    rcases hk with rfl | hk
    · exact hv
    · exact hx k hk)⟩
/-! ### New -/
theorem vau_zero : Tryz.zeroCells81 = (Value.pointer none :: .int .i64 0 :: .int .i64 0 :: (List.replicate 256 [Value.int .u32 0, Value.int .i32 0, Value.int .u32 0, Value.slice none 0 0]).flatten).toArray := by kernel_rfl
def vOk (m : List UInt8) (t v : Int) : Bool := decide (16 ≤ m.length ∧ m.length ≤ 64 ∧ keyOk t 1 v = true)
theorem vOk_iff {m : List UInt8} {t v : Int} : vOk m t v = true ↔ 16 ≤ m.length ∧ m.length ≤ 64 ∧ keyOk t 1 v = true := by unfold vOk; simp
theorem vOk_no {m : List UInt8} {t v : Int} (h : ¬ (16 ≤ m.length ∧ m.length ≤ 64 ∧ keyOk t 1 v = true)) : vOk m t v = false := decide_eq_false h
/-- A new vault, in new blocks, or none. -/
def NewVau (m : List UInt8) (t v : Int) (w : World) (e : Ending) (w' : World) : Prop :=
  Below w.heap.size w w' ∧ ((vOk m t v = false ∧ e = .returned (.tuple #[.pointer none, .int .i64 1])) ∨
    (vOk m t v = true ∧ ∃ vb, e = .returned (.tuple #[.pointer (some ⟨vb, 0, none⟩), .int .i64 0]) ∧ w.heap.size ≤ vb ∧ VauAt w' vb (fun k => w.heap.size ≤ k) m t.toNat v.toNat))
/-! ### Version, Rotate -/
theorem Version_any (vb : Nat) (X : Nat → Prop) (m : List UInt8) (t now : Nat) (w : World) (h : VauAt w vb X m t now) :
    Calls Tryz.prog 11 #[.pointer (some ⟨vb, 0, none⟩)] w fun e w' => e = .returned (.int .i64 now) ∧ w = w' := by
  obtain ⟨cs, rb, a1, a2, a3, a4, _⟩ := h
  have HL := Lib.hid (v64_load vb 2 now w ((a1.cell 2).trans a4))
  clear a1 a2 a3 a4
  go_enter Tryz.func11, Tryz.ntmps11
  go_wp2_with fail
  refine HL.out.mono ?_
  rintro e w' ⟨rfl, rfl⟩
  go_wp2_with fail
  go_ret
  exact ⟨rfl, rfl⟩
theorem VauAt.set {w : World} {vb t now : Nat} {X : Nat → Prop} {m : List UInt8} (h : VauAt w vb X m t now) (now' : Nat) : VauAt (w.setCell ⟨vb, 2, none⟩ (.int .i64 now')) vb X m t now' := by
  obtain ⟨cs, rb, a1, a2, a3, a4, a5, a6, a7, a8⟩ := h
  have hg : Grew (· = vb) w (w.setCell ⟨vb, 2, none⟩ (.int .i64 now')) := (Grew.refl (· = vb) w).set (p := ⟨vb, 2, none⟩) (.inl rfl) _
  have hz : 2 < cs.size := size_of_at a4
  refine ⟨cs.setIfInBounds 2 (.int .i64 now'), rb, a1.set 2 _, ?_, ?_, ?_, a5, a6, a7.grew hg a6 fun k hk => hk.2, fun v hv => ?_⟩
  · rw [Array.getElem?_setIfInBounds, if_neg (by omega)]; exact a2
  · rw [Array.getElem?_setIfInBounds, if_neg (by omega)]; exact a3
  · rw [Array.getElem?_setIfInBounds, if_pos rfl, if_pos hz]
  · have h8 := (a8 v hv).grew hg fun k _ h1 _ => h1
    unfold VerAt at h8 ⊢
    rw [Array.getElem?_setIfInBounds, if_neg (by omega), Array.getElem?_setIfInBounds, if_neg (by omega), Array.getElem?_setIfInBounds, if_neg (by omega)]
    exact h8
/-- What Rotate answers. -/
def rotR (now : Nat) : Ending := if now < 255 then .returned (.tuple #[.int .i64 (now + 1 : Nat), .int .i64 0]) else .returned (.tuple #[.int .i64 0, .int .i64 14])
def rotV (now : Nat) : Nat := if now < 255 then now + 1 else now
theorem Rotate_yes (vb : Nat) (X : Nat → Prop) (m : List UInt8) (t now : Nat) (w : World) (h : VauAt w vb X m t now) (hn : now < 255) :
    Calls Tryz.prog 10 #[.pointer (some ⟨vb, 0, none⟩)] w fun e w' => e = .returned (.tuple #[.int .i64 (now + 1 : Nat), .int .i64 0]) ∧ VauAt w' vb X m t (now + 1) ∧ Grew (· = vb) w w' := by
  have HV := Lib.hid (Version_any vb X m t now w h)
  have HS := Lib.hid (h.set (now + 1))
  obtain ⟨cs, rb, a1, a2, a3, a4, _⟩ := h
  have HC := Lib.hid (v64_cas vb 2 now (now + 1 : Nat) w ((a1.cell 2).trans a4) (a1.frozen 2))
  clear a1 a2 a3 a4
  have t1 : decide ((255 : Int) ≤ (now : Int)) = false := decide_eq_false (by omega)
  have t2 : (now : Int) < 255 := by omega
  go_enter Tryz.func10, Tryz.ntmps10
  go_wp2_with fail
  refine HV.out.mono ?_
  rintro e w' ⟨rfl, rfl⟩
  go_wp2_with fail
  refine HC.out.mono ?_
  rintro e w' ⟨rfl, rfl⟩
  go_wp2_with fail
  go_ret2
  exact ⟨rfl, HS.out, (Grew.refl (· = vb) w).set (p := ⟨vb, 2, none⟩) (.inl rfl) _⟩
theorem Rotate_no (vb : Nat) (X : Nat → Prop) (m : List UInt8) (t now : Nat) (w : World) (h : VauAt w vb X m t now) (hn : now = 255) :
    Calls Tryz.prog 10 #[.pointer (some ⟨vb, 0, none⟩)] w fun e w' => e = .returned (.tuple #[.int .i64 0, .int .i64 14]) ∧ w = w' := by
  subst hn
  have HV := Lib.hid (Version_any vb X m t 255 w h)
  clear h
  go_enter Tryz.func10, Tryz.ntmps10
  go_wp2_with fail
  refine HV.out.mono ?_
  rintro e w' ⟨rfl, rfl⟩
  go_wp2_with fail
  go_ret2
  exact ⟨rfl, rfl⟩
end Go.Proofs.YtogpnlfbdhddmaaGreatDoor
namespace Go.Proofs.YtogpnlfbdhddmaaGreatDoor
open Go.RowKit

theorem ver_enter (args : Array Value) (w : World) : (callFunc 90 args).run Tryz.prog w = .ok (.enter 90 args) w :=
  Go.MuLone.run_callFunc_enter Tryz.func90 (by kernel_rfl) rfl args w
theorem blk_not_tab {w : World} {g : Nat} {t : TypeId} {cs : Array Value} {a : Option Addr} (h : Blk w g t cs) (h0 : cs[0]? = some (.pointer a)) (ht : Tab w) : g ≠ 1 := by
  intro e
  subst e
  unfold Tab Lib.TabIs World.var? at ht
  rw [tab_named] at ht
  simp only [Option.bind_some] at ht
  unfold Blk at h
  rw [h] at ht
  injection ht with ht
  rw [ht] at h0
  simp [Lib.pow10Tab] at h0
/-! ### the closure: the ring and the vault turn -/
/-- The version's key lies in its place. -/
def VCell (vb n B : Nat) (kk : List UInt8) (w : World) : Prop := ∃ A c, w.cell? ⟨vb, 4 * n + 6, none⟩ = some (.slice A 32 c) ∧ Row w B 1 A 32 c (bv kk)
/-- Only the vault and its ring turn; a key that lies there stays. -/
def GV (vb rb n B : Nat) (kk : List UInt8) (w w' : World) : Prop := Grew (fun k => k = vb ∨ k = rb) w w' ∧ (VCell vb n B kk w → VCell vb n B kk w')
/-- What holds while the closure runs. -/
def VJ (vb rb n B g4 g5 g12 : Nat) (X : Nat → Prop) (m : List UInt8) (cs : Array Value) (w : World) : Prop :=
  ∃ (X2 : Nat → Prop) (u : Value), (∀ k, X2 k → X k ∨ B ≤ k) ∧ RingAt w rb X2 m ∧ Tab w ∧ Blk w vb 81 (cs.setIfInBounds (4 * n + 6) u) ∧ B ≤ w.heap.size ∧
    w.cell? ⟨g4, 0, none⟩ = some (.pointer (some ⟨vb, 0, none⟩)) ∧ w.cell? ⟨g5, 0, none⟩ = some (.int .i64 n) ∧ w.cell? ⟨g12, 0, none⟩ = some (.pointer (some ⟨vb, 4 * n + 3, none⟩))
/-- A new row with the key, alone or with no error. -/
def VRow (B : Nat) (kk : List UInt8) (v : Value) (w : World) : Prop := ∃ A c, v = .slice A 32 c ∧ Row w B 1 A 32 c (bv kk)
def VTup (B : Nat) (kk : List UInt8) (v : Value) (w : World) : Prop := ∃ A c, v = .tuple #[.slice A 32 c, .int .i64 0] ∧ Row w B 1 A 32 c (bv kk)
section
variable {vb rb n B g4 g5 g12 : Nat} {X : Nat → Prop} {kk m : List UInt8} {cs : Array Value} {w w' : World}
theorem gv_refl (w : World) : GV vb rb n B kk w w := ⟨Grew.refl _ _, fun h => h⟩
theorem gv_trans (x y z : World) (h : GV vb rb n B kk x y) (k : GV vb rb n B kk y z) : GV vb rb n B kk x z := ⟨h.1.trans k.1, fun c => k.2 (h.2 c)⟩
theorem VJ.drew (h : VJ vb rb n B g4 g5 g12 X m cs w) : VJ vb rb n B g4 g5 g12 X m cs w.drew := by
  obtain ⟨X2, u, a1, a2, a3, a4, a5, a6, a7, a8⟩ := h
  exact ⟨X2, u, a1, a2.new (Below.refl _ _).drew, a3.below (Below.refl _ _).drew, a4.drew, a5, a6, a7, a8⟩
def StV (G : World → World → Prop) (f : Value → World → Prop) : Prop := ∀ v w w', f v w → G w w' → f v w'
theorem sv_nil {G : World → World → Prop} : ∀ f ∈ ([] : List (Value → World → Prop)), StV G f := fun _ h => by cases h
theorem sv_cons {G : World → World → Prop} {f : Value → World → Prop} {Fs : List (Value → World → Prop)} (h : StV G f) (k : ∀ g ∈ Fs, StV G g) : ∀ g ∈ f :: Fs, StV G g := fun g hg => by
  rcases List.mem_cons.1 hg with rfl | hg
  · exact h
  · exact k g hg
theorem nth_sv {G : World → World → Prop} {Fs : List (Value → World → Prop)} (h : ∀ f ∈ Fs, StV G f) : ∀ j v w w', nthF Fs j v w → G w w' → nthF Fs j v w' := fun j v w w' hf hg => by
  unfold nthF at *
  rw [List.getD_eq_getElem?_getD] at *
  cases e : Fs[j]? with
  | none => trivial
  | some f =>
    rw [e] at hf
    exact h f (List.mem_of_getElem? e) v w w' hf hg
theorem sv_eqv {G : World → World → Prop} (c : Value) : StV G (eqv c) := fun _ _ _ h _ => h
theorem sv_any {G : World → World → Prop} : StV G anyv := fun _ _ _ h _ => h
theorem sv_row (h1 : vb < B) (h2 : rb < B) : StV (GV vb rb n B kk) (VRow B kk) := fun v w w' ⟨A, c, e, hr⟩ hg =>
  ⟨A, c, e, hr.grew hg.1 fun ad e h => by have := (hr.lt ad e).1; rcases h with h | h <;> omega⟩
theorem sv_tup (h1 : vb < B) (h2 : rb < B) : StV (GV vb rb n B kk) (VTup B kk) := fun v w w' ⟨A, c, e, hr⟩ hg =>
  ⟨A, c, e, hr.grew hg.1 fun ad e h => by have := (hr.lt ad e).1; rcases h with h | h <;> omega⟩
theorem sv_cell : StV (GV vb rb n B kk) (fun _ w => VCell vb n B kk w) := fun _ _ _ h hg => hg.2 h
end
/-- Behind the closure. -/
def VerOut (vb rb t n : Nat) (X : Nat → Prop) (cs : Array Value) (m : List UInt8) (w : World) (e : Ending) (w' : World) : Prop :=
  e = .returned (.tuple #[]) ∧ ∃ A c X2, (∀ k, X2 k → X k ∨ w.heap.size ≤ k) ∧ Row w' w.heap.size 1 A 32 c (bv (vKey m t n)) ∧ Blk w' vb 81 (cs.setIfInBounds (4 * n + 6) (.slice A 32 c)) ∧ RingAt w' rb X2 m ∧ Tab w' ∧ Grew (fun k => k = vb ∨ k = rb) w w'
set_option maxRecDepth 100000 in
set_option maxHeartbeats 8000000 in
theorem ver_any (vb rb t n g4 g5 g12 : Nat) (X : Nat → Prop) (cs : Array Value) (m : List UInt8) (w : World) (hm : m.length ≤ 64) (hk : keyOk t 1 n = true)
    (hb : Blk w vb 81 cs) (h0 : cs[0]? = some (.pointer (some ⟨rb, 0, none⟩))) (h1 : cs[1]? = some (.int .i64 t)) (hv : ∃ u, cs[4 * n + 6]? = some u) (hr : RingAt w rb X m) (ht : Tab w) (hne : rb ≠ vb) (hxv : ¬ X vb)
    (c4 : w.cell? ⟨g4, 0, none⟩ = some (.pointer (some ⟨vb, 0, none⟩))) (c5 : w.cell? ⟨g5, 0, none⟩ = some (.int .i64 n)) (c12 : w.cell? ⟨g12, 0, none⟩ = some (.pointer (some ⟨vb, 4 * n + 3, none⟩)))
    (l4 : g4 < w.heap.size) (l5 : g5 < w.heap.size) (l12 : g12 < w.heap.size) (n4 : g4 ≠ vb ∧ g4 ≠ rb) (n5 : g5 ≠ vb ∧ g5 ≠ rb) (n12 : g12 ≠ vb ∧ g12 ≠ rb) :
    Calls Tryz.prog 90 #[.pointer (some ⟨g4, 0, none⟩), .pointer (some ⟨g5, 0, none⟩), .pointer (some ⟨g12, 0, none⟩)] w (VerOut vb rb t n X cs m w) := by
  obtain ⟨u0, hu0⟩ := hv
  have hlv := hb.lt
  have hlr := hr.lt
  have hsz : 4 * n + 6 < cs.size := size_of_at hu0
  have hself : cs.setIfInBounds (4 * n + 6) u0 = cs := by
    apply Array.ext_getElem?
    intro i
    rw [Array.getElem?_setIfInBounds]
    by_cases hi : 4 * n + 6 = i
    · subst hi; rw [if_pos rfl, if_pos hsz, hu0]
    · rw [if_neg hi]
  have HJ := Lib.hid (show VJ vb rb n w.heap.size g4 g5 g12 X m cs w from ⟨X, u0, fun k h => .inl h, hr, ht, by rw [hself]; exact hb, Nat.le_refl _, c4, c5, c12⟩)
  have HC0 := Lib.hid (fun u : Value => show (cs.setIfInBounds (4 * n + 6) u)[0]? = some (.pointer (some ⟨rb, 0, none⟩)) by rw [Array.getElem?_setIfInBounds, if_neg (by omega)]; exact h0)
  have HC1 := Lib.hid (fun u : Value => show (cs.setIfInBounds (4 * n + 6) u)[1]? = some (.int .i64 t) by rw [Array.getElem?_setIfInBounds, if_neg (by omega)]; exact h1)
  have HC6 := Lib.hid (fun u : Value => show (cs.setIfInBounds (4 * n + 6) u)[4 * n + 6]? = some u by rw [Array.getElem?_setIfInBounds, if_pos rfl, if_pos hsz])
  have HSS := Lib.hid (fun u v : Value => show (cs.setIfInBounds (4 * n + 6) u).setIfInBounds (4 * n + 6) v = cs.setIfInBounds (4 * n + 6) v by
    apply Array.ext_getElem?
    intro i
    simp only [Array.getElem?_setIfInBounds, Array.size_setIfInBounds]
    by_cases hi : 4 * n + 6 = i
    · subst hi; rw [if_pos rfl, if_pos rfl]
    · rw [if_neg hi, if_neg hi, if_neg hi])
  have HK := Lib.hid hk
  have HXV := Lib.hid hxv
  obtain ⟨kk, hkk⟩ : ∃ kk, kk = keyB m t 1 n := ⟨_, rfl⟩
  have HKK := Lib.hid hkk
  obtain ⟨B, hB⟩ : ∃ B, B = w.heap.size := ⟨_, rfl⟩
  have HB := Lib.hid hB
  rw [← hB] at HJ hlv hlr l4 l5 l12
  clear hk hb h0 h1 hr ht c4 c5 c12 hu0 hsz hself hkk hB hxv
  go_enter Tryz.func90, Tryz.ntmps90
  go_wp2_with fail
  obtain ⟨F, hF⟩ : ∃ F, F = nthF [eqv (.pointer (some ⟨vb, 4 * n + 3, none⟩)), eqv (.pointer (some ⟨vb, 0, none⟩)), eqv (.pointer (some ⟨vb, 0, none⟩)), eqv (.pointer (some ⟨vb, 0, none⟩)), eqv (.pointer (some ⟨rb, 0, none⟩)), eqv (.pointer (some ⟨vb, 0, none⟩)), eqv (.pointer (some ⟨vb, 0, none⟩)), eqv (.pointer (some ⟨vb, 1, none⟩)), eqv (.int .i64 t), eqv (.int .i64 n), VTup B kk, VTup B kk, VRow B kk, anyv, eqv (.pointer (some ⟨vb, 4 * n + 3, none⟩)), eqv (.pointer (some ⟨vb, 4 * n + 3 + 3, none⟩)), (fun _ w => VCell vb n B kk w)] := ⟨_, rfl⟩
  have E0 := Lib.hid (show F 0 = eqv (.pointer (some ⟨vb, 4 * n + 3, none⟩)) by rw [hF]; rfl)
  have E1 := Lib.hid (show F 1 = eqv (.pointer (some ⟨vb, 0, none⟩)) by rw [hF]; rfl)
  have E2 := Lib.hid (show F 2 = eqv (.pointer (some ⟨vb, 0, none⟩)) by rw [hF]; rfl)
  have E3 := Lib.hid (show F 3 = eqv (.pointer (some ⟨vb, 0, none⟩)) by rw [hF]; rfl)
  have E4 := Lib.hid (show F 4 = eqv (.pointer (some ⟨rb, 0, none⟩)) by rw [hF]; rfl)
  have E5 := Lib.hid (show F 5 = eqv (.pointer (some ⟨vb, 0, none⟩)) by rw [hF]; rfl)
  have E6 := Lib.hid (show F 6 = eqv (.pointer (some ⟨vb, 0, none⟩)) by rw [hF]; rfl)
  have E7 := Lib.hid (show F 7 = eqv (.pointer (some ⟨vb, 1, none⟩)) by rw [hF]; rfl)
  have E8 := Lib.hid (show F 8 = eqv (.int .i64 t) by rw [hF]; rfl)
  have E9 := Lib.hid (show F 9 = eqv (.int .i64 n) by rw [hF]; rfl)
  have E10 := Lib.hid (show F 10 = VTup B kk by rw [hF]; rfl)
  have E11 := Lib.hid (show F 11 = VTup B kk by rw [hF]; rfl)
  have E12 := Lib.hid (show F 12 = VRow B kk by rw [hF]; rfl)
  have E13 := Lib.hid (show F 13 = anyv by rw [hF]; rfl)
  have E14 := Lib.hid (show F 14 = eqv (.pointer (some ⟨vb, 4 * n + 3, none⟩)) by rw [hF]; rfl)
  have E15 := Lib.hid (show F 15 = eqv (.pointer (some ⟨vb, 4 * n + 3 + 3, none⟩)) by rw [hF]; rfl)
  have E16 := Lib.hid (show F 16 = (fun _ w => VCell vb n B kk w) by rw [hF]; rfl)
  have hst : ∀ j v w w', F j v w → GV vb rb n B kk w w' → F j v w' := by rw [hF]; exact nth_sv (by repeat (first | exact sv_nil | exact sv_eqv _ | exact sv_any | exact sv_row hlv hlr | exact sv_tup hlv hlr | exact sv_cell | refine sv_cons ?_ ?_))
  have HST0 := Lib.hid hst
  clear hF hst
  refine wp_region_facts F (GV vb rb n B kk) (VJ vb rb n B g4 g5 g12 X m cs) (by kernel_rfl) (by kernel_rfl) gv_refl gv_trans HST0.out (HJ.out.drew) ?_ ?_
  · intro V; refine ⟨?_, ?_, ?_, ?_, ?_, ?_, ?_, ?_, ?_, ?_, ?_, ?_, ?_, ?_, ?_, ?_, ?_, trivial⟩
    · intro wx hg hJ hdep
      clear hdep
      have HJX := Lib.hid hJ
      obtain ⟨X2, u, -, -, -, -, -, -, -, k1⟩ := hJ
      clear hg
      go_wp2_with fail
      exact ⟨rfl, gv_refl _, HJX.out, by rw [E0.out]; rfl⟩
    · intro wx hg hJ hdep
      clear hdep
      have HJX := Lib.hid hJ
      obtain ⟨X2, u, -, -, -, -, -, k1, -, -⟩ := hJ
      clear hg
      go_wp2_with fail
      exact ⟨rfl, gv_refl _, HJX.out, by rw [E1.out]; rfl⟩
    · intro wx hg hJ hdep
      have v1 : V 1 = (.pointer (some ⟨vb, 0, none⟩)) := by have h := hdep 1 rfl; rw [E1.out] at h; exact h
      clear hdep
      clear hg
      go_wp2_with fail
      exact ⟨rfl, gv_refl _, hJ, by rw [E2.out]; rfl⟩
    · intro wx hg hJ hdep
      have v2 : V 2 = (.pointer (some ⟨vb, 0, none⟩)) := by have h := hdep 2 rfl; rw [E2.out] at h; exact h
      clear hdep
      clear hg
      go_wp2_with fail
      exact ⟨rfl, gv_refl _, hJ, by rw [E3.out]; rfl⟩
    · intro wx hg hJ hdep
      have v3 : V 3 = (.pointer (some ⟨vb, 0, none⟩)) := by have h := hdep 3 rfl; rw [E3.out] at h; exact h
      clear hdep
      have HJX := Lib.hid hJ
      obtain ⟨X2, u, -, -, -, hbk, -, -, -, -⟩ := hJ
      have k1 := (hbk.cell 0).trans (HC0.out u)
      clear hg hbk
      go_wp2_with fail
      exact ⟨rfl, gv_refl _, HJX.out, by rw [E4.out]; rfl⟩
    · intro wx hg hJ hdep
      clear hdep
      have HJX := Lib.hid hJ
      obtain ⟨X2, u, -, -, -, -, -, k1, -, -⟩ := hJ
      clear hg
      go_wp2_with fail
      exact ⟨rfl, gv_refl _, HJX.out, by rw [E5.out]; rfl⟩
    · intro wx hg hJ hdep
      have v5 : V 5 = (.pointer (some ⟨vb, 0, none⟩)) := by have h := hdep 5 rfl; rw [E5.out] at h; exact h
      clear hdep
      clear hg
      go_wp2_with fail
      exact ⟨rfl, gv_refl _, hJ, by rw [E6.out]; rfl⟩
    · intro wx hg hJ hdep
      have v6 : V 6 = (.pointer (some ⟨vb, 0, none⟩)) := by have h := hdep 6 rfl; rw [E6.out] at h; exact h
      clear hdep
      clear hg
      go_wp2_with fail
      exact ⟨rfl, gv_refl _, hJ, by rw [E7.out]; rfl⟩
    · intro wx hg hJ hdep
      have v7 : V 7 = (.pointer (some ⟨vb, 1, none⟩)) := by have h := hdep 7 rfl; rw [E7.out] at h; exact h
      clear hdep
      have HJX := Lib.hid hJ
      obtain ⟨X2, u, -, -, -, hbk, -, -, -, -⟩ := hJ
      have k1 := (hbk.cell 1).trans (HC1.out u)
      clear hg hbk
      go_wp2_with fail
      exact ⟨rfl, gv_refl _, HJX.out, by rw [E8.out]; rfl⟩
    · intro wx hg hJ hdep
      clear hdep
      have HJX := Lib.hid hJ
      obtain ⟨X2, u, -, -, -, -, -, -, k1, -⟩ := hJ
      clear hg
      go_wp2_with fail
      exact ⟨rfl, gv_refl _, HJX.out, by rw [E9.out]; rfl⟩
    · intro wx hg hJ hdep
      have v4 : V 4 = (.pointer (some ⟨rb, 0, none⟩)) := by have h := hdep 4 rfl; rw [E4.out] at h; exact h
      have v8 : V 8 = (.int .i64 t) := by have h := hdep 8 rfl; rw [E8.out] at h; exact h
      have v9 : V 9 = (.int .i64 n) := by have h := hdep 9 rfl; rw [E9.out] at h; exact h
      clear hdep
      obtain ⟨X2, u, hx2, hring, htab, hbk, hBs, b4, b5, b12⟩ := hJ
      have HX2 := Lib.hid hx2
      have HKY := Lib.hid (Key_yes rb X2 m t 1 n wx hring hm HK.out htab)
      have HTAB := Lib.hid htab
      have HBK := Lib.hid hbk
      have HRNT := Lib.hid (ring_not_tab hring htab)
      have H4 := Lib.hid b4
      have H5 := Lib.hid b5
      have H12 := Lib.hid b12
      clear hg hx2 hring htab hbk b4 b5 b12
      go_wp2_with fail
      refine HKY.out.mono ?_
      rintro e w2 ⟨X3, hx3, hring3, hg3, ⟨h0, _⟩ | ⟨_, A, c, rfl, hrow, _⟩⟩
      · rw [HK.out] at h0; cases h0
      rw [Int.toNat_natCast, Int.toNat_natCast, ← HKK.out] at hrow
      have HG3 := Lib.hid hg3
      have HROW := Lib.hid (hrow.mono hBs)
      have HX3 := Lib.hid hx3
      have HR3 := Lib.hid hring3
      clear hg3 hrow hx3 hring3
      go_wp2_with fail
      have hs3 := HG3.out.size
      refine ⟨rfl, ⟨HG3.out.mono fun k _ h => .inr h, fun ⟨A', c', q1, q2⟩ => ⟨A', c', (HG3.out.cell (a := ⟨vb, 4 * n + 6, none⟩) (Nat.lt_of_lt_of_le hlv hBs) (fun h => hne h.symm)).trans q1, q2.grew HG3.out fun ad e h => ?_⟩⟩, ?_, by rw [E10.out]; exact ⟨A, c, rfl, HROW.out⟩⟩
      · have := (q2.lt ad e).1; omega
      · refine ⟨X3, u, fun k hk => ?_, HR3.out, HTAB.out.grew HG3.out (fun e => HRNT.out e.symm), HBK.out.grew HG3.out (fun h => hne h.symm), Nat.le_trans hBs hs3, (HG3.out.cell (a := ⟨g4, 0, none⟩) (Nat.lt_of_lt_of_le l4 hBs) n4.2).trans H4.out, (HG3.out.cell (a := ⟨g5, 0, none⟩) (Nat.lt_of_lt_of_le l5 hBs) n5.2).trans H5.out, (HG3.out.cell (a := ⟨g12, 0, none⟩) (Nat.lt_of_lt_of_le l12 hBs) n12.2).trans H12.out⟩
        rcases HX3.out k hk with h | h
        · exact HX2.out k h
        · exact .inr (Nat.le_trans hBs h)
    · intro wx hg hJ hdep
      have h10 : (VTup B kk) (V 10) wx := by have h := hdep 10 rfl; rw [E10.out] at h; exact h
      clear hdep
      have H10 := Lib.hid h10
      have HJX := Lib.hid hJ
      clear hg h10 hJ
      go_wp2_with fail
      exact ⟨rfl, gv_refl _, HJX.out, by rw [E11.out]; exact H10.out⟩
    · intro wx hg hJ hdep
      have h11 : (VTup B kk) (V 11) wx := by have h := hdep 11 rfl; rw [E11.out] at h; exact h
      clear hdep
      obtain ⟨A, c, hv, hrow⟩ := h11
      have HROW := Lib.hid hrow
      have HJX := Lib.hid hJ
      rw [hv]
      clear hg hrow hJ hv
      go_wp2_with fail
      exact ⟨rfl, gv_refl _, HJX.out, by rw [E12.out]; exact ⟨A, c, rfl, HROW.out⟩⟩
    · intro wx hg hJ hdep
      have h11 : (VTup B kk) (V 11) wx := by have h := hdep 11 rfl; rw [E11.out] at h; exact h
      clear hdep
      obtain ⟨A, c, hv, hrow⟩ := h11
      have HJX := Lib.hid hJ
      rw [hv]
      clear hg hrow hJ hv
      go_wp2_with fail
      exact ⟨rfl, gv_refl _, HJX.out, by rw [E13.out]; trivial⟩
    · intro wx hg hJ hdep
      have v0 : V 0 = (.pointer (some ⟨vb, 4 * n + 3, none⟩)) := by have h := hdep 0 rfl; rw [E0.out] at h; exact h
      clear hdep
      clear hg
      go_wp2_with fail
      exact ⟨rfl, gv_refl _, hJ, by rw [E14.out]; rfl⟩
    · intro wx hg hJ hdep
      have v14 : V 14 = (.pointer (some ⟨vb, 4 * n + 3, none⟩)) := by have h := hdep 14 rfl; rw [E14.out] at h; exact h
      clear hdep
      clear hg
      go_wp2_with fail
      exact ⟨rfl, gv_refl _, hJ, by rw [E15.out]; rfl⟩
    · intro wx hg hJ hdep
      have v15 : V 15 = (.pointer (some ⟨vb, 4 * n + 3 + 3, none⟩)) := by have h := hdep 15 rfl; rw [E15.out] at h; exact h
      have h12 : (VRow B kk) (V 12) wx := by have h := hdep 12 rfl; rw [E12.out] at h; exact h
      clear hdep
      obtain ⟨A, c, hv, hrow⟩ := h12
      obtain ⟨X2, u, hx2, hring, htab, hbk, hBs, b4, b5, b12⟩ := hJ
      have k1 := (hbk.cell (4 * n + 6)).trans (HC6.out u)
      have f1 := hbk.frozen (4 * n + 6)
      have HROW := Lib.hid hrow
      have HX2 := Lib.hid hx2
      have HR2 := Lib.hid hring
      have HTAB := Lib.hid htab
      have HBK := Lib.hid hbk
      have HVT := Lib.hid (blk_not_tab hbk (HC0.out u) htab)
      have H4 := Lib.hid b4
      have H5 := Lib.hid b5
      have H12 := Lib.hid b12
      rw [hv]
      clear hg hrow hx2 hring htab hbk b4 b5 b12 hv
      go_wp2_with fail
      have hgs : Grew (· = vb) wx (wx.setCell ⟨vb, 4 * n + 6, none⟩ (.slice A 32 c)) := (Grew.refl (· = vb) _).set (p := ⟨vb, 4 * n + 6, none⟩) (.inl rfl) _
      have hvc : VCell vb n B kk (wx.setCell ⟨vb, 4 * n + 6, none⟩ (.slice A 32 c)) := ⟨A, c, World.cell?_setCell_same wx _ _ k1, HROW.out.grew hgs fun ad e h => by have := (HROW.out.lt ad e).1; have h2 : ad.block = vb := h; omega⟩
      refine ⟨rfl, ⟨hgs.mono fun k _ h => .inl h, fun _ => hvc⟩, ⟨X2, .slice A 32 c, HX2.out, HR2.out.grew hgs hne (fun k hk h => ?_), HTAB.out.grew hgs (fun e => HVT.out e.symm), ?_, Nat.le_trans hBs hgs.size, (hgs.cell (a := ⟨g4, 0, none⟩) (Nat.lt_of_lt_of_le l4 hBs) n4.1).trans H4.out, (hgs.cell (a := ⟨g5, 0, none⟩) (Nat.lt_of_lt_of_le l5 hBs) n5.1).trans H5.out, (hgs.cell (a := ⟨g12, 0, none⟩) (Nat.lt_of_lt_of_le l12 hBs) n12.1).trans H12.out⟩, by rw [E16.out]; exact hvc⟩
      · have h2 : k = vb := h
        subst h2
        rcases HX2.out k hk with h | h
        · exact HXV.out h
        · omega
      · have h := HBK.out.set (4 * n + 6) (.slice A 32 c)
        rw [HSS.out] at h
        exact h
  · intro V wx hg hJ hall
    have v0 : V 0 = (.pointer (some ⟨vb, 4 * n + 3, none⟩)) := by have h := hall 0 (by decide); rw [E0.out] at h; exact h
    have v1 : V 1 = (.pointer (some ⟨vb, 0, none⟩)) := by have h := hall 1 (by decide); rw [E1.out] at h; exact h
    have v2 : V 2 = (.pointer (some ⟨vb, 0, none⟩)) := by have h := hall 2 (by decide); rw [E2.out] at h; exact h
    have v3 : V 3 = (.pointer (some ⟨vb, 0, none⟩)) := by have h := hall 3 (by decide); rw [E3.out] at h; exact h
    have v4 : V 4 = (.pointer (some ⟨rb, 0, none⟩)) := by have h := hall 4 (by decide); rw [E4.out] at h; exact h
    have v5 : V 5 = (.pointer (some ⟨vb, 0, none⟩)) := by have h := hall 5 (by decide); rw [E5.out] at h; exact h
    have v6 : V 6 = (.pointer (some ⟨vb, 0, none⟩)) := by have h := hall 6 (by decide); rw [E6.out] at h; exact h
    have v7 : V 7 = (.pointer (some ⟨vb, 1, none⟩)) := by have h := hall 7 (by decide); rw [E7.out] at h; exact h
    have v8 : V 8 = (.int .i64 t) := by have h := hall 8 (by decide); rw [E8.out] at h; exact h
    have v9 : V 9 = (.int .i64 n) := by have h := hall 9 (by decide); rw [E9.out] at h; exact h
    have h10 : (VTup B kk) (V 10) wx := by have h := hall 10 (by decide); rw [E10.out] at h; exact h
    have h11 : (VTup B kk) (V 11) wx := by have h := hall 11 (by decide); rw [E11.out] at h; exact h
    have h12 : (VRow B kk) (V 12) wx := by have h := hall 12 (by decide); rw [E12.out] at h; exact h
    have v14 : V 14 = (.pointer (some ⟨vb, 4 * n + 3, none⟩)) := by have h := hall 14 (by decide); rw [E14.out] at h; exact h
    have v15 : V 15 = (.pointer (some ⟨vb, 4 * n + 3 + 3, none⟩)) := by have h := hall 15 (by decide); rw [E15.out] at h; exact h
    have h16 : ((fun _ w => VCell vb n B kk w)) (V 16) wx := by have h := hall 16 (by decide); rw [E16.out] at h; exact h
    clear hall
    simp only [fillTo, Act.put, List.setIfInBounds_toArray, List.set_cons_succ, List.set_cons_zero, Nat.reduceAdd, Nat.zero_add, v0, v1, v2, v3, v4, v5, v6, v7, v8, v9, v14, v15]
    clear v0 v1 v2 v3 v4 v5 v6 v7 v8 v9 v14 v15
    have HVC := Lib.hid h16
    have HJX := Lib.hid hJ
    have HGX := Lib.hid hg.1
    clear hg hJ h10 h11 h12 h16
    go_wp2_with fail
    go_end0
    obtain ⟨X2, u, hx2, hring, htab, hbk, hBs, _, _, _⟩ := HJX.out
    obtain ⟨A, c, hc, hrow⟩ := HVC.out
    have hu : u = .slice A 32 c := by
      have := (hbk.cell (4 * n + 6)).trans (HC6.out u)
      rw [hc] at this
      injection this with this
      exact this.symm
    rw [hu] at hbk
    rw [HKK.out, HB.out] at hrow
    exact ⟨rfl, A, c, X2, fun k hk => by rw [← HB.out]; exact hx2 k hk, hrow, hbk, hring, htab, ((Grew.refl (fun k => k = vb ∨ k = rb) w).drew).trans HGX.out⟩
end Go.Proofs.YtogpnlfbdhddmaaGreatDoor
namespace Go.Proofs.YtogpnlfbdhddmaaGreatDoor
open Go.RowKit

theorem vset4 {cs : Array Value} {n j : Nat} {a b c d : Value} (h : 4 * n + 6 < cs.size) :
    ((((cs.setIfInBounds (4 * n + 4) a).setIfInBounds (4 * n + 6) b).setIfInBounds (4 * n + 3) c).setIfInBounds (4 * n + 4) d)[j]? =
      if j = 4 * n + 4 then some d else if j = 4 * n + 3 then some c else if j = 4 * n + 6 then some b else cs[j]? := by
  simp only [Array.getElem?_setIfInBounds, Array.size_setIfInBounds]
  by_cases h1 : j = 4 * n + 4
  · subst h1; rw [if_pos rfl, if_pos (by omega), if_pos rfl]
  rw [if_neg (fun e => h1 e.symm), if_neg h1]
  by_cases h2 : j = 4 * n + 3
  · subst h2; rw [if_pos rfl, if_pos (by omega), if_pos rfl]
  rw [if_neg (fun e => h2 e.symm), if_neg h2]
  by_cases h3 : j = 4 * n + 6
  · subst h3; rw [if_pos rfl, if_pos (by omega), if_pos rfl]
  rw [if_neg (fun e => h3 e.symm), if_neg h3, if_neg (fun e => h1 e.symm)]
theorem vset2 {cs : Array Value} {n j : Nat} {a b : Value} (h : 4 * n + 6 < cs.size) :
    ((cs.setIfInBounds (4 * n + 4) a).setIfInBounds (4 * n + 6) b)[j]? = if j = 4 * n + 6 then some b else if j = 4 * n + 4 then some a else cs[j]? := by
  simp only [Array.getElem?_setIfInBounds, Array.size_setIfInBounds]
  by_cases h3 : j = 4 * n + 6
  · subst h3; rw [if_pos rfl, if_pos (by omega), if_pos rfl]
  rw [if_neg (fun e => h3 e.symm), if_neg h3]
  by_cases h1 : j = 4 * n + 4
  · subst h1; rw [if_pos rfl, if_pos (by omega), if_pos rfl]
  rw [if_neg (fun e => h1 e.symm), if_neg h1]
/-- Behind a version's Once. -/
def VerDone (vb n t now : Nat) (X : Nat → Prop) (m : List UInt8) (w : World) (e : Ending) (w' : World) : Prop :=
  e = .returned (.tuple #[]) ∧ VauAt w' vb (OwnX X w w') m t now ∧ Tab w' ∧ (∃ A c, w'.cell? ⟨vb, 4 * n + 6, none⟩ = some (.slice A 32 c) ∧ Row w' 0 1 A 32 c (bv (vKey m t n))) ∧ Grew (fun k => k = vb ∨ X k) w w'
/-- What the closure leaves, for the Once. -/
def VerPhi (vb rb n t : Nat) (X : Nat → Prop) (m : List UInt8) (cs : Array Value) (w w2 : World) : Prop :=
  ∃ (A2 : Option Addr) (c2 : Nat) (X2 : Nat → Prop), (∀ k, X2 k → ((X k ∧ k < w.heap.size) ∧ k ≠ vb) ∨ w.heap.size ≤ k) ∧ Row w2 w.heap.size 1 A2 32 c2 (bv (vKey m t n)) ∧
    Blk w2 vb 81 ((cs.setIfInBounds (4 * n + 4) (.int .i32 1)).setIfInBounds (4 * n + 6) (.slice A2 32 c2)) ∧ RingAt w2 rb X2 m ∧ Tab w2 ∧ Grew (fun k => k = vb ∨ k = rb) w w2
theorem cell_far {w : World} {g vb o : Nat} {u v : Value} (h : w.cell? ⟨g, 0, none⟩ = some v) (hn : g ≠ vb) : (w.setCell ⟨vb, o, none⟩ u).cell? ⟨g, 0, none⟩ = some v := by
  rw [World.cell?_setCell_other _ _ _ _ (by simp only [ne_eq, Addr.mk.injEq]; omega)]; exact h
set_option maxHeartbeats 4000000 in
theorem once_ver (vb n t now g4 g5 g12 : Nat) (X : Nat → Prop) (m : List UInt8) (w : World) (hm : m.length ≤ 64) (hk : keyOk t 1 n = true) (h : VauAt w vb X m t now) (ht : Tab w)
    (c4 : w.cell? ⟨g4, 0, none⟩ = some (.pointer (some ⟨vb, 0, none⟩))) (c5 : w.cell? ⟨g5, 0, none⟩ = some (.int .i64 n)) (c12 : w.cell? ⟨g12, 0, none⟩ = some (.pointer (some ⟨vb, 4 * n + 3, none⟩)))
    (l4 : g4 < w.heap.size) (l5 : g5 < w.heap.size) (l12 : g12 < w.heap.size) (n4 : g4 ≠ vb ∧ ¬ X g4) (n5 : g5 ≠ vb ∧ ¬ X g5) (n12 : g12 ≠ vb ∧ ¬ X g12) :
    Calls Tryz.prog 53 #[.pointer (some ⟨vb, 4 * n + 3, none⟩), .func (.func 90) #[] #[.pointer (some ⟨g4, 0, none⟩), .pointer (some ⟨g5, 0, none⟩), .pointer (some ⟨g12, 0, none⟩)]] w (VerDone vb n t now X m w) := by
  obtain ⟨cs, rb, a1, a2, a3, a4, a5, a6, a7, a8⟩ := h.within
  have hn : n < 256 := by have := (keyOk_iff.1 hk).2.2.2.2.2; omega
  have hlv := a1.lt
  have hvt := blk_not_tab a1 a2 ht
  obtain ⟨hs, hd⟩ := a8 n hn
  rcases hd with ⟨hd0, v, hv⟩ | ⟨hd1, A1, c1, hv1, hr1, ha1⟩
  · have hsz := size_of_at hv
    have hg1 : Grew (· = vb) w (w.setCell ⟨vb, 4 * n + 4, none⟩ (.int .i32 1)) := (Grew.refl (· = vb) w).set (p := ⟨vb, 4 * n + 4, none⟩) (.inl rfl) _
    have hF := ver_any vb rb t n g4 g5 g12 (fun k => (X k ∧ k < w.heap.size) ∧ k ≠ vb) (cs.setIfInBounds (4 * n + 4) (.int .i32 1)) m (w.setCell ⟨vb, 4 * n + 4, none⟩ (.int .i32 1)) hm hk (a1.set (4 * n + 4) _)
      (by rw [Array.getElem?_setIfInBounds, if_neg (by omega)]; exact a2) (by rw [Array.getElem?_setIfInBounds, if_neg (by omega)]; exact a3) ⟨v, by rw [Array.getElem?_setIfInBounds, if_neg (by omega)]; exact hv⟩
      (a7.grew hg1 a6 fun k hk => hk.2) (ht.grew hg1 fun e => hvt e.symm) a6 (fun h => h.2 rfl) (cell_far c4 n4.1) (cell_far c5 n5.1) (cell_far c12 n12.1) (by simpa using l4) (by simpa using l5) (by simpa using l12)
      ⟨n4.1, fun e => n4.2 (e ▸ a5.1)⟩ ⟨n5.1, fun e => n5.2 (e ▸ a5.1)⟩ ⟨n12.1, fun e => n12.2 (e ▸ a5.1)⟩
    have hD := Once.Do_first vb (4 * n + 3) 90 #[] #[.pointer (some ⟨g4, 0, none⟩), .pointer (some ⟨g5, 0, none⟩), .pointer (some ⟨g12, 0, none⟩)]
      (VerPhi vb rb n t X m cs w) w ((a1.cell _).trans hd0) ((a1.cell _).trans hs) (a1.frozen _) (fun w => ver_enter _ w)
      (hF.mono fun e w2 ⟨he, A2, c2, X2, e1, e2, e3, e4, e5, e6⟩ => ⟨he, ⟨A2, c2, X2, fun k hk => by simpa using e1 k hk, by simpa using e2, e3, e4, e5, (hg1.mono fun k _ h => .inl h).trans e6⟩,
        (e3.cell _).trans (by rw [vset2 hsz, if_neg (by omega), if_neg (by omega)]; exact hd0),
        (e3.cell _).trans (by rw [vset2 hsz, if_neg (by omega), if_pos (by omega)]), e3.frozen _, e3.frozen _⟩)
    refine hD.mono fun e w' ⟨he, w2, ⟨A2, c2, X2, e1, e2, e3, e4, e5, e6⟩, _, _, hw'⟩ => ?_
    have hb' : Blk w' vb 81 ((((cs.setIfInBounds (4 * n + 4) (.int .i32 1)).setIfInBounds (4 * n + 6) (.slice A2 32 c2)).setIfInBounds (4 * n + 3) (.int .u32 1)).setIfInBounds (4 * n + 4) (.int .i32 0)) := by rw [hw']; exact (e3.drew.set (4 * n + 3) (.int .u32 1)).set (4 * n + 4) (.int .i32 0)
    have hg2 : Grew (· = vb) w2 w' := by rw [hw']; exact ((Grew.refl (· = vb) w2).drew.set (p := ⟨vb, 4 * n + 3, none⟩) (.inl rfl) _).set (p := ⟨vb, 4 * n + 4, none⟩) (.inl rfl) _
    have hg' : Grew (fun k => k = vb ∨ X k) w w' := (e6.trans (hg2.mono fun k _ h => .inl h)).mono fun k _ h => by
      rcases h with h | h
      · exact .inl h
      · exact .inr (h ▸ a5.1)
    have hgr : Grew (fun k => k = vb ∨ k = rb) w w' := e6.trans (hg2.mono fun k _ h => .inl h)
    have hr' : Row w' w.heap.size 1 A2 32 c2 (bv (vKey m t n)) := e2.grew hg2 fun ad e h => by have := (e2.lt ad e).1; have h2 : ad.block = vb := h; omega
    have hlr := a7.lt
    have hrow0 := hr'.mono (Nat.zero_le _)
    refine ⟨he, ⟨_, rb, hb', ?_, ?_, ?_, .inl a5, a6, (e4.grew hg2 a6 fun k hk h => ?_).mono fun k hk1 hk2 => ?_, fun v' hv' => ?_⟩, e5.grew hg2 fun e => hvt e.symm, ⟨A2, c2, (hb'.cell _).trans (by rw [vset4 hsz, if_neg (by omega), if_neg (by omega), if_pos rfl]), hrow0⟩, hg'⟩
    · rw [vset4 hsz, if_neg (by omega), if_neg (by omega), if_neg (by omega)]; exact a2
    · rw [vset4 hsz, if_neg (by omega), if_neg (by omega), if_neg (by omega)]; exact a3
    · rw [vset4 hsz, if_neg (by omega), if_neg (by omega), if_neg (by omega)]; exact a4
    · have h2 : k = vb := h
      subst h2
      rcases e1 k hk with h3 | h3
      · exact h3.2 rfl
      · omega
    · have hs2 := hg2.size
      rcases e1 k hk2 with h3 | h3
      · exact ⟨.inl h3.1, h3.2⟩
      · exact ⟨.inr ⟨h3, by omega⟩, by omega⟩
    · by_cases htt : v' = n
      · subst htt
        refine ⟨by rw [vset4 hsz, if_pos rfl], .inr ⟨by rw [vset4 hsz, if_neg (by omega), if_pos rfl], A2, c2, by rw [vset4 hsz, if_neg (by omega), if_neg (by omega), if_pos rfl], hrow0, fun ad e => ⟨.inr (hr'.lt ad e), ?_⟩⟩⟩
        have := (hr'.lt ad e).1
        exact ⟨by omega, by omega⟩
      · obtain ⟨q1, q2⟩ := a8 v' hv'
        refine ⟨by rw [vset4 hsz, if_neg (by omega), if_neg (by omega), if_neg (by omega)]; exact q1, ?_⟩
        rw [vset4 hsz, if_neg (by omega), if_neg (by omega), if_neg (by omega), vset4 hsz, if_neg (by omega), if_neg (by omega), if_neg (by omega)]
        rcases q2 with q2 | ⟨q2, A3, c3, q3, q4, q5⟩
        · exact .inl q2
        · exact .inr ⟨q2, A3, c3, q3, q4.grew hgr (fun ad e h => by
            rcases h with h | h
            · exact (q5 ad e).2.1 h
            · exact (q5 ad e).2.2 h), fun ad e => ⟨.inl (q5 ad e).1, (q5 ad e).2⟩⟩
  · refine (Once.Do_done vb (4 * n + 3) _ w ((a1.cell _).trans hd1)).mono fun e w' ⟨he, hw⟩ => ⟨he, ?_, ?_, ?_, ?_⟩
    · rw [← hw]; exact h.mono fun k hk hx => .inl ⟨hx, hk⟩
    · rw [← hw]; exact ht
    · rw [← hw]; exact ⟨A1, c1, (a1.cell _).trans hv1, hr1⟩
    · rw [← hw]; exact Grew.refl _ _
/-- What key answers. -/
def VKeyOut (vb n t now : Nat) (X : Nat → Prop) (m : List UInt8) (w : World) (e : Ending) (w' : World) : Prop :=
  ∃ A c X2, e = .returned (.slice A 32 c) ∧ Row w' 0 1 A 32 c (bv (vKey m t n)) ∧ (∀ k, X2 k → (X k ∧ k < w.heap.size) ∨ w.heap.size ≤ k) ∧ VauAt w' vb X2 m t now ∧ Tab w' ∧ Grew (fun k => k = vb ∨ X k) w w'
set_option maxRecDepth 100000 in
set_option maxHeartbeats 4000000 in
theorem vkey_any (vb n t now : Nat) (X : Nat → Prop) (m : List UInt8) (w : World) (hm : m.length ≤ 64) (hk : keyOk t 1 n = true) (h : VauAt w vb X m t now) (ht : Tab w) :
    Calls Tryz.prog 60 #[.pointer (some ⟨vb, 0, none⟩), .int .i64 n] w (VKeyOut vb n t now X m w) := by
  have hmf : ∀ (fn : Fn) (first cap : Array Value) (w : World), (Instr.makeFunc fn first cap).run Tryz.prog w = .ok (.func fn first cap) w := fun _ _ _ _ => rfl
  have hn : (n : Int) < 256 := by have := (keyOk_iff.1 hk).2.2.2.2.2; omega
  have hlv := h.lt
  have HX := Lib.hid h.within
  have HT := Lib.hid ht
  have HK := Lib.hid hk
  clear hk h ht
  go_enter Tryz.func60, Tryz.ntmps60
  go_upto_region 1 with (fail)
  refine name_world fun w1 x1 x2 x3 x4 => ?_
  have hk1 : Blk w1 w.heap.size 23 #[.pointer (some ⟨vb, 0, none⟩)] := by unfold Blk; rw [x1]; exact (Blk.new w _ _).alloc _
  have hk2 : Blk w1 (w.heap.size + 1) 3 #[.int .i64 n] := by
    unfold Blk; rw [x1]
    have h := Blk.new (w.alloc (.cells #[.pointer (some ⟨vb, 0, none⟩)] 23)) 3 #[.int .i64 n]
    simpa [Blk] using h
  have HB1 := Lib.hid (show Below w.heap.size w w1 from below_heap (((Below.refl _ _).alloc (Nat.le_refl _) _).alloc (by simp) _) x1 x2 x3 x4)
  have hs1 : w.heap.size + 1 < w1.heap.size := hk2.lt
  have c4 : w1.cell? ⟨w.heap.size, 0, none⟩ = some (.pointer (some ⟨vb, 0, none⟩)) := hk1.cell 0
  have c5 : w1.cell? ⟨w.heap.size + 1, 0, none⟩ = some (.int .i64 n) := hk2.cell 0
  have l4 : w.heap.size < w1.heap.size := by omega
  clear x1 x2 x3 x4 hk1 hk2
  go_region
  have e12 := cell?_new w1 #[Value.pointer (some ⟨vb, 3 + n * 4, none⟩)] 142 0
  have d12 : (w1.alloc (Obj.cells #[Value.pointer (some ⟨vb, 3 + n * 4, none⟩)] 142)).drew.cell? ⟨w1.heap.size, 0, none⟩ = some (Value.pointer (some ⟨vb, 4 * n + 3, none⟩)) := by
    rw [show 4 * n + 3 = 3 + n * 4 by omega]; exact e12
  have d4 : (w1.alloc (Obj.cells #[Value.pointer (some ⟨vb, 3 + n * 4, none⟩)] 142)).drew.cell? ⟨w.heap.size, 0, none⟩ = some (Value.pointer (some ⟨vb, 0, none⟩)) := by
    refine Eq.trans ?_ c4; exact World.cell?_alloc_lt _ _ _ (by show w.heap.size < w1.heap.size; omega)
  have d5 : (w1.alloc (Obj.cells #[Value.pointer (some ⟨vb, 3 + n * 4, none⟩)] 142)).drew.cell? ⟨w.heap.size + 1, 0, none⟩ = some (Value.int .i64 n) := by
    refine Eq.trans ?_ c5; exact World.cell?_alloc_lt _ _ _ hs1
  have s3 : w1.heap.size < (w1.alloc (Obj.cells #[Value.pointer (some ⟨vb, 3 + n * 4, none⟩)] 142)).drew.heap.size := by simp
  have HB3 := Lib.hid (show Below w.heap.size w (w1.alloc (Obj.cells #[Value.pointer (some ⟨vb, 3 + n * 4, none⟩)] 142)).drew from (HB1.out.alloc (by omega) _).drew)
  generalize (w1.alloc (Obj.cells #[Value.pointer (some ⟨vb, 3 + n * 4, none⟩)] 142)).drew = w3 at d12 d4 d5 s3 HB3 ⊢
  clear e12 c4 c5
  go_wp2_with fail
  refine (once_ver vb n t now w.heap.size (w.heap.size + 1) w1.heap.size (fun k => X k ∧ k < w.heap.size) m w3 hm HK.out (HX.out.new HB3.out) (HT.out.below HB3.out) d4 d5 d12 (by omega) (by omega) s3 ⟨by omega, fun h => by omega⟩ ⟨by omega, fun h => by omega⟩ ⟨by omega, fun h => by omega⟩).mono ?_
  rintro e w4 ⟨rfl, hv4, ht4, ⟨A, c, hc4, hrow4⟩, hg4⟩
  have hs4 := hg4.size
  have f12 : w4.cell? ⟨w1.heap.size, 0, none⟩ = some (Value.pointer (some ⟨vb, 4 * n + 3, none⟩)) := (hg4.cell (a := ⟨w1.heap.size, 0, none⟩) s3 (by
    show ¬ (w1.heap.size = vb ∨ X w1.heap.size ∧ w1.heap.size < w.heap.size)
    rintro (h | h) <;> omega)).trans d12
  have HV4 := Lib.hid hv4
  have HT4 := Lib.hid ht4
  have HROW := Lib.hid hrow4
  have HG4 := Lib.hid hg4
  clear d12 d4 d5 hv4 ht4 hrow4 hg4
  go_wp2_with fail
  go_ret
  have hs3 := HB3.out.size
  exact ⟨A, c, _, rfl, HROW.out, fun k hk => by
    rcases hk with h | h
    · exact .inl h.1
    · exact .inr (by omega), HV4.out, HT4.out, (Grew.of_new (S := fun k => k = vb ∨ X k) HB3.out).next HG4.out fun k _ h => by
    rcases h with h | h
    · exact .inl h
    · exact .inr h.1⟩
/-! ### New -/
theorem vau_zero_at (x y z : Value) (v k : Nat) (hv : v < 256) (hk : k < 4) : (((Tryz.zeroCells81.setIfInBounds 0 x).setIfInBounds 1 y).setIfInBounds 2 z)[4 * v + 3 + k]? = [Value.int .u32 0, Value.int .i32 0, Value.int .u32 0, Value.slice none 0 0][k]? := by
  rw [Array.getElem?_setIfInBounds, if_neg (by omega), Array.getElem?_setIfInBounds, if_neg (by omega), Array.getElem?_setIfInBounds, if_neg (by omega), vau_zero, List.getElem?_toArray]
  rw [show 4 * v + 3 + k = (4 * v + k) + 1 + 1 + 1 by omega, List.getElem?_cons_succ, List.getElem?_cons_succ, List.getElem?_cons_succ]
  exact rep4 _ _ _ _ 256 v k hv hk
theorem vau_size : Tryz.zeroCells81.size = 1027 := by kernel_rfl
set_option maxRecDepth 100000 in
set_option maxHeartbeats 4000000 in
theorem New_vau (m : List UInt8) (A : Option Addr) (n c B : Nat) (t v : Int) (w : World) (hr : Reads w B 1 A n (bv m)) (hB : B ≤ w.heap.size) (ht : Tab w) :
    Calls Tryz.prog 9 #[.slice A n c, .int .i64 t, .int .i64 v] w (NewVau m t v w) := by
  have hn : m.length = n := by have := hr.1; rw [length_bv] at this; omega
  by_cases hlen : n < 16 ∨ 64 < n
  · have HN := Lib.hid (New_no A n c w hlen)
    have HO := Lib.hid (vOk_no (m := m) (t := t) (v := v) (fun h => by omega))
    clear hr hlen hn
    go_enter Tryz.func9, Tryz.ntmps9
    go_wp2_with fail
    refine HN.out.mono ?_
    rintro e w1 ⟨rfl, rfl⟩
    go_wp2_with fail
    go_ret2
    exact ⟨Below.refl _ _, .inl ⟨HO.out, rfl⟩⟩
  · have HN := Lib.hid (New_ring m A n c B w hr hB (by omega) (by omega))
    have HL := Lib.hid hn
    have h16 : 16 ≤ n := by omega
    have h64 : n ≤ 64 := by omega
    have HT := Lib.hid ht
    clear hr hlen hn ht
    cases hk : keyOk t 1 v with
    | false =>
      have HK := Lib.hid hk
      have HO := Lib.hid (vOk_no (m := m) (t := t) (v := v) (fun h => by rw [hk] at h; exact absurd h.2.2 (by decide)))
      clear hk
      go_enter Tryz.func9, Tryz.ntmps9
      go_wp2_with fail
      refine HN.out.mono ?_
      rintro e w1 ⟨rb, rfl, hrb, hring, hb1⟩
      have HB1 := Lib.hid hb1
      have HKN := Lib.hid (Key_no rb _ m t 1 v w1 hring HK.out)
      clear hring hb1
      go_wp2_with fail
      refine HKN.out.mono ?_
      rintro e w2 ⟨X2, hx2, hring2, hg2, ⟨_, rfl⟩ | ⟨h0, _⟩⟩
      · have HG2 := Lib.hid hg2
        clear hx2 hring2 hg2
        go_wp2_with fail
        go_ret2
        have hs := HB1.out.size
        exact ⟨HB1.out.trans (HG2.out.below hs fun k _ h => by have h2 : k = rb := h; omega), .inl ⟨HO.out, rfl⟩⟩
      · rw [HK.out] at h0; cases h0
    | true =>
      obtain ⟨k1, k2, _, _, k5, k6⟩ := keyOk_iff.1 hk
      obtain ⟨t, rfl⟩ := Int.eq_ofNat_of_zero_le (show 0 ≤ t by omega)
      obtain ⟨v, rfl⟩ := Int.eq_ofNat_of_zero_le (show 0 ≤ v by omega)
      have HK := Lib.hid hk
      have HO := Lib.hid (vOk_iff (m := m).2 ⟨by rw [HL.out]; exact h16, by rw [HL.out]; exact h64, hk⟩)
      clear hk k1 k2
      go_enter Tryz.func9, Tryz.ntmps9
      go_wp2_with fail
      refine HN.out.mono ?_
      rintro e w1 ⟨rb, rfl, hrb, hring, hb1⟩
      have HB1 := Lib.hid hb1
      have HKY := Lib.hid (Key_yes rb _ m t 1 v w1 hring (by rw [HL.out]; exact h64) HK.out (HT.out.below hb1))
      clear hring hb1
      go_wp2_with fail
      refine HKY.out.mono ?_
      rintro e w2 ⟨X2, hx2, hring2, hg2, ⟨h0, _⟩ | ⟨_, A2, c2, rfl, _, _⟩⟩
      · rw [HK.out] at h0; cases h0
      have hs2 := hg2.size
      have hs1 := HB1.out.size
      have hl2 := hring2.lt
      have HX2 := Lib.hid hx2
      have HR2 := Lib.hid hring2
      have HB2 := Lib.hid (HB1.out.trans (hg2.below (B := w.heap.size) hs1 fun k _ h => by have h2 : k = rb := h; omega))
      clear hx2 hring2 hg2
      obtain ⟨cs, hcs⟩ : ∃ cs, cs = (Tryz.zeroCells81.setIfInBounds 0 (.pointer (some ⟨rb, 0, none⟩))).setIfInBounds 1 (.int .i64 t) := ⟨_, rfl⟩
      have HCS := Lib.hid hcs
      have hc2 : cs[2]? = some (.int .i64 0) := by
        rw [hcs, Array.getElem?_setIfInBounds, if_neg (by omega), Array.getElem?_setIfInBounds, if_neg (by omega), vau_zero]; rfl
      have hbn := Blk.new w2 81 cs
      have HST := Lib.hid (v64_store w2.heap.size 2 (.int .i64 0) v (w2.alloc (.cells cs 81)) ((hbn.cell 2).trans hc2) (hbn.frozen 2))
      have HBN := Lib.hid hbn
      clear hbn hc2 hcs
      go_wp2_with fail
      try rw [← HCS.out]
      refine HST.out.mono ?_
      rintro e w3 ⟨rfl, rfl⟩
      go_wp2_with fail
      go_ret2
      refine ⟨HB2.out.alloc (by omega) _, .inr ⟨HO.out, w2.heap.size, rfl, by omega, cs.setIfInBounds 2 (.int .i64 v), rb, Blk.new _ _ _, ?_, ?_, ?_, by omega, by omega, ?_, fun u hu => ⟨?_, .inl ⟨?_, ?_⟩⟩⟩⟩
      · rw [HCS.out, Array.getElem?_setIfInBounds, if_neg (by omega), Array.getElem?_setIfInBounds, if_neg (by omega), Array.getElem?_setIfInBounds, if_pos rfl, if_pos (by rw [vau_size]; decide)]
      · rw [HCS.out, Array.getElem?_setIfInBounds, if_neg (by omega), Array.getElem?_setIfInBounds, if_pos rfl, if_pos (by rw [Array.size_setIfInBounds, vau_size]; decide)]; rfl
      · rw [HCS.out, Array.getElem?_setIfInBounds, if_pos rfl, if_pos (by simp only [Array.size_setIfInBounds, vau_size]; decide)]; rfl
      · refine (HR2.out.within.below (B := w2.heap.size) ((Below.refl w2.heap.size w2).alloc (Nat.le_refl _) _) (Nat.le_refl _)).mono fun k _ hk => ⟨?_, by have := hk.2; omega⟩
        rcases HX2.out k hk.1 with h | h
        · exact h
        · show w.heap.size ≤ k
          omega
      · rw [HCS.out]; exact vau_zero_at _ _ _ u 1 hu (by omega)
      · rw [HCS.out]; exact vau_zero_at _ _ _ u 0 hu (by omega)
      · rw [HCS.out]; exact ⟨_, vau_zero_at _ _ _ u 3 hu (by omega)⟩
end Go.Proofs.YtogpnlfbdhddmaaGreatDoor
namespace Go.Proofs.YtogpnlfbdhddmaaGreatDoor
open Go.RowKit

/-- A tenant's and a version's number may be; the master key, too. -/
def VOk (m : List UInt8) (t now : Nat) : Prop := m.length ≤ 64 ∧ 1 ≤ t ∧ t ≤ 64 ∧ 1 ≤ now ∧ now ≤ 255
theorem VOk.key {m : List UInt8} {t now v : Nat} (h : VOk m t now) (h1 : 1 ≤ v) (h2 : v ≤ now) : keyOk t 1 v = true := by
  obtain ⟨_, a, b, c, d⟩ := h
  exact keyOk_iff.2 ⟨by omega, by omega, by omega, by omega, by omega, by omega⟩
/-- A vault behind work, and the library's table. -/
def VauPost (vb : Nat) (X : Nat → Prop) (m : List UInt8) (t now : Nat) (w w' : World) : Prop := VauOut vb X m t now w w' ∧ Tab w'
section
variable {vb t now : Nat} {X : Nat → Prop} {m : List UInt8} {w w1 w2 : World}
theorem VauPost.below (h : VauAt w vb X m t now) (ht : Tab w) (hb : Below w.heap.size w w1) : VauPost vb X m t now w w1 :=
  ⟨⟨fun k => X k ∧ k < w.heap.size, fun _ hk => .inl hk, h.within.new hb, Grew.of_new hb⟩, ht.below hb⟩
theorem VauPost.next (h : VauPost vb X m t now w w1) : ∃ X2 : Nat → Prop, VauAt w1 vb X2 m t now ∧ Tab w1 ∧ ∀ w2, VauPost vb X2 m t now w1 w2 → VauPost vb X m t now w w2 := by
  obtain ⟨⟨X2, h1, h2, h3⟩, h4⟩ := h
  refine ⟨X2, h2, h4, fun w2 ⟨⟨X3, k1, k2, k3⟩, k4⟩ => ⟨⟨X3, fun k hk => ?_, k2, h3.next k3 fun k hk hx => ?_⟩, k4⟩⟩
  · have hs := h3.size
    rcases k1 k hk with h4 | h4
    · rcases h1 k h4.1 with h5 | h5
      · exact .inl h5
      · exact .inr h5
    · exact .inr (by omega)
  · rcases hx with hx | hx
    · exact .inl hx
    · rcases h1 k hx with h5 | h5
      · exact .inr h5.1
      · omega
theorem VauPost.more (h : VauPost vb X m t now w w1) (hb : Below w1.heap.size w1 w2) : VauPost vb X m t now w w2 := by
  obtain ⟨X2, h1, h2, h3⟩ := h.next
  exact h3 w2 (VauPost.below h1 h2 hb)
theorem VauPost.after (hb : Below w.heap.size w w1) (h : VauPost vb (fun k => X k ∧ k < w.heap.size) m t now w1 w2) : VauPost vb X m t now w w2 := by
  obtain ⟨⟨X3, k1, k2, k3⟩, k4⟩ := h
  have hs := hb.size
  refine ⟨⟨X3, fun k hk => ?_, k2, (Grew.of_new (S := fun k => k = vb ∨ X k) hb).next k3 fun k _ h => ?_⟩, k4⟩
  · rcases k1 k hk with h | h
    · exact .inl h.1
    · exact .inr (by omega)
  · rcases h with h | h
    · exact .inl h
    · exact .inr h.1
end
/-! ### cipher -/
/-- What cipher answers: a cipher in blocks of its own. -/
def VCipOut (vb n t now : Nat) (X : Nat → Prop) (m tw : List UInt8) (w : World) (e : Ending) (w' : World) : Prop :=
  ∃ cb N X2, e = .returned (.pointer (some ⟨cb, 0, none⟩)) ∧ w.heap.size ≤ N ∧ N ≤ cb ∧ CipAt w' cb (fun k => N ≤ k) (vKey m t n) tw ∧ (∀ k, X2 k → (X k ∧ k < w.heap.size) ∨ w.heap.size ≤ k) ∧ (∀ k, X2 k → k < N) ∧ vb < N ∧ VauAt w' vb X2 m t now ∧ Tab w' ∧ Grew (fun k => k = vb ∨ X k) w w'
set_option maxRecDepth 100000 in
set_option maxHeartbeats 4000000 in
theorem vcipher_any (vb n t now : Nat) (X : Nat → Prop) (m : List UInt8) (a b : ByteArray) (w : World) (hm : m.length ≤ 64) (hk : keyOk t 1 n = true) (h : VauAt w vb X m t now) (ht : Tab w) (hab : a.size + b.size ≤ 16) :
    Calls Tryz.prog 33 #[.pointer (some ⟨vb, 0, none⟩), .int .i64 n, .string a, .string b] w (VCipOut vb n t now X m (a.data.toList ++ b.data.toList) w) := by
  have HKY := Lib.hid (vkey_any vb n t now X m w hm hk h ht)
  obtain ⟨s, hs⟩ : ∃ s : ByteArray, s = a ++ b := ⟨_, rfl⟩
  have hsd : s.data.toList = a.data.toList ++ b.data.toList := by rw [hs]; simp
  have hss : s.size = a.size + b.size := by rw [hs]; simp
  have HSD := Lib.hid hsd
  have HS := Lib.hid hs
  have HTW := Lib.hid (show (a.data.toList ++ b.data.toList).length ≤ 16 by rw [← hsd, size_toList]; omega)
  have hsm : s.size ≤ maxLen := by unfold maxLen; omega
  clear h ht hsd hs hk
  go_enter Tryz.func33, Tryz.ntmps33
  go_wp2_with fail
  refine HKY.out.mono ?_
  rintro e w1 ⟨A, c, X2, rfl, hrow, hx2, hv1, ht1, hg1⟩
  obtain ⟨c2, w2, hrun, hrow2, hb2⟩ := run_bytes_str (P := Tryz.prog) Tryz.underlying9 Tryz.underlying27 Tryz.underlying5 s hsm w1
  have hs1 := hg1.size
  have hs2 := hb2.size
  have HX2 := Lib.hid hx2
  have HV2 := Lib.hid (hv1.within.new hb2)
  have hlv := hv1.lt
  have HT2 := Lib.hid (ht1.below hb2)
  have HG2 := Lib.hid (hg1.next_new hb2)
  have HNW := Lib.hid (New_cip (vKey m t n) s.data.toList A 32 c (some ⟨w1.heap.size, 0, none⟩) s.size c2 w2.heap.size w2 (hrow.below hb2 (Nat.le_refl _)).reads hrow2.reads (Nat.le_refl _) (by omega))
  rw [HSD.out] at HNW
  have HC0 := Lib.hid (cipE_ok (key := vKey m t n) (.inr (length_vKey m t n)) HTW.out)
  rw [hss] at hrun HNW
  rw [HS.out] at hrun
  obtain ⟨k, hk⟩ : ∃ k, k = a.size + b.size := ⟨_, rfl⟩
  rw [← hk] at hrun HNW
  clear hrow hx2 hv1 ht1 hg1 hrow2 hb2 hss hsm hk HS HSD
  go_wp2_with fail
  refine HNW.out.mono ?_
  rintro e w3 ⟨hb3, ⟨h0, _⟩ | ⟨_, cb, rfl, hcb, hcip⟩⟩
  · exact absurd HC0.out h0
  have HB3 := Lib.hid hb3
  have HCIP := Lib.hid hcip
  clear hb3 hcip
  go_wp2_with fail
  go_ret
  exact ⟨cb, w2.heap.size, fun k => X2 k ∧ k < w1.heap.size, rfl, by omega, hcb, HCIP.out, fun k hk => HX2.out k hk.1, fun k hk => by have := hk.2; omega, by omega, HV2.out.new HB3.out, HT2.out.below HB3.out, HG2.out.next_new HB3.out⟩
/-- The vault behind work with the cipher. -/
theorem VCipOut.done {vb t now cb N : Nat} {X X2 : Nat → Prop} {m tw key : List UInt8} {w w' w2 : World} (h1 : w.heap.size ≤ N) (h4 : ∀ k, X2 k → (X k ∧ k < w.heap.size) ∨ w.heap.size ≤ k) (h5 : ∀ k, X2 k → k < N) (h6 : vb < N) (h7 : VauAt w' vb X2 m t now) (h8 : Tab w') (h9 : Grew (fun k => k = vb ∨ X k) w w')
    (hl : 1 < N) (ho : CipOut cb (fun k => N ≤ k) key tw w' w2) : VauPost vb X m t now w w2 := by
  obtain ⟨_, _, _, hg⟩ := ho
  exact ⟨⟨X2, h4, h7.grew hg (by omega) fun k hk h => by have := h5 k hk; omega, h9.next hg fun k hk h => by omega⟩, h8.grew hg (by omega)⟩
/-! ### Token -/
def vtR (m : List UInt8) (t now : Nat) (l : List UInt8) : Ending := .returned (.tuple #[.string ⟨(vtS m t now l).toArray⟩, .int .i64 (vtE l)])
def vbR (m : List UInt8) (t now : Nat) (l : List UInt8) : Ending := .returned (.tuple #[.string ⟨(vbS m t now l).toArray⟩, .int .i64 (vbE m t now l)])
def vnR (m : List UInt8) (t now : Nat) (l : List UInt8) : Ending := .returned (.tuple #[.string ⟨(vnS m t now l).toArray⟩, .int .i64 (vnE m t now l)])
theorem vstr (s : ByteArray) : (⟨s.data.toList.toArray⟩ : ByteArray) = s := ByteArray.ext (Array.toList_inj.1 (by simp))
theorem vcat3 (a b c : List UInt8) : ((⟨a.toArray⟩ : ByteArray) ++ (⟨b.toArray⟩ : ByteArray) ++ (⟨c.toArray⟩ : ByteArray)) = ⟨(a ++ b ++ c).toArray⟩ := by rw [str_add, str_add]
set_option maxRecDepth 100000 in
set_option maxHeartbeats 4000000 in
theorem VToken_no (vb : Nat) (s : ByteArray) (w : World) (hs : s.size ≤ maxLen) (hp : panB s.data.toList = false) :
    Calls Tryz.prog 12 #[.pointer (some ⟨vb, 0, none⟩), .string s] w fun e w' => e = .returned (.tuple #[.string ⟨#[]⟩, .int .i64 10]) ∧ Below w.heap.size w w' := by
  have HI := Lib.hid (Is_any s w hs)
  have HP := Lib.hid hp
  clear hp
  go_enter Tryz.func12, Tryz.ntmps12
  go_wp2_with fail
  refine HI.out.mono ?_
  rw [HP.out]
  rintro e w1 ⟨rfl, hb1⟩
  go_wp2_with fail
  go_ret2
  exact ⟨rfl, hb1⟩
set_option maxRecDepth 100000 in
set_option maxHeartbeats 4000000 in
theorem VToken_yes (vb t now : Nat) (X : Nat → Prop) (m : List UInt8) (s : ByteArray) (w : World) (h : VauAt w vb X m t now) (hv : VOk m t now) (ht : Tab w) (hs : s.size ≤ maxLen) (hp : panB s.data.toList = true) :
    Calls Tryz.prog 12 #[.pointer (some ⟨vb, 0, none⟩), .string s] w fun e w' => e = tokR (hidS (vKey m t now) s.data.toList) now ∧ VauPost vb X m t now w w' := by
  have HI := Lib.hid (Is_any s w hs)
  have HCUT := Lib.hid (fun w => Cut_any s w hs)
  obtain ⟨l, hl⟩ : ∃ l, l = s.data.toList := ⟨_, rfl⟩
  rw [← hl] at HI HCUT hp ⊢
  have hsh := pan_shaped hp
  obtain ⟨p1, p2, p3, p4, p5⟩ := parts_len hsh
  have HCR := Lib.hid (cutR_yes hsh)
  have HP := Lib.hid hp
  have hnm := nm_mid hsh
  have HX := Lib.hid h.within
  have HT := Lib.hid ht
  have hlt := ht.lt
  obtain ⟨hm, _, _, hn1, hn2⟩ := id hv
  have HK := Lib.hid (hv.key hn1 (Nat.le_refl _))
  obtain ⟨a, ha⟩ : ∃ a : ByteArray, a = ⟨(binP l).toArray⟩ := ⟨_, rfl⟩
  obtain ⟨b, hb⟩ : ∃ b : ByteArray, b = ⟨(midP l).toArray⟩ := ⟨_, rfl⟩
  obtain ⟨c, hc⟩ : ∃ c : ByteArray, c = ⟨(lastP l).toArray⟩ := ⟨_, rfl⟩
  rw [← ha, ← hb, ← hc] at HCR
  have had : a.data.toList = binP l := by rw [ha]
  have hbd : b.data.toList = midP l := by rw [hb]
  have hcd : c.data.toList = lastP l := by rw [hc]
  have hsa : a.size ≤ 6 := by rw [← size_toList, had, p1]; omega
  have hsb : b.size ≤ 9 := by rw [← size_toList, hbd, p2]; omega
  have hsc : c.size ≤ 4 := by rw [← size_toList, hcd, p3]; omega
  obtain ⟨x, hx⟩ : ∃ x : ByteArray, x = ⟨(encT (vKey m t now) (twkP l) (midP l)).toArray⟩ := ⟨_, rfl⟩
  have hsx : x.size ≤ 9 := by rw [hx, len_arr, (dec_encT (vKey m t now) (twkP l) hnm).2.2, p2]; omega
  have HENC := Lib.hid (fun cb X2 w (h : CipAt w cb X2 (vKey m t now) (a.data.toList ++ c.data.toList)) => show Calls Tryz.prog 34 #[.pointer (some ⟨cb, 0, none⟩), .string b] w (fun e w' => e = .returned (.tuple #[.string x, .int .i64 0]) ∧ CipOut cb X2 (vKey m t now) (a.data.toList ++ c.data.toList) w w') by
    have h1 := FEncrypt_any cb X2 (vKey m t now) (a.data.toList ++ c.data.toList) b w h (.inr (length_vKey m t now)) (by simp only [List.length_append, size_toList]; omega) (by unfold maxLen; omega)
    unfold EncR encR at h1
    rw [hbd, hnm, if_pos rfl, show a.data.toList ++ c.data.toList = twkP l by rw [had, hcd]; rfl] at h1
    rw [show a.data.toList ++ c.data.toList = twkP l by rw [had, hcd]; rfl, hx]
    exact h1)
  have hh := hid_parts hsh (vKey m t now)
  have hh5 : (hidS (vKey m t now) l).length = l.length := hh.2.2.2.2
  have htot : a ++ x ++ c = ⟨(hidS (vKey m t now) l).toArray⟩ := by rw [ha, hx, hc, vcat3]; rfl
  have HTOK := Lib.hid (fun w (h : Tab w) => show Calls Tryz.prog 35 #[.string (a ++ x ++ c), .int .i64 now] w (fun e w' => e = tokR (hidS (vKey m t now) l) now ∧ Below w.heap.size w w') by
    have h1 := Token_any (a ++ x ++ c) now w (by rw [htot, len_arr]; unfold maxLen; omega) h
    rw [htot] at h1 ⊢
    exact h1)
  have HVER := Lib.hid (fun X2 w h => Version_any vb X2 m t now w h)
  clear h hv ht hp hsh p1 p2 p3 p4 p5 hnm ha hb hc had hbd hcd hx hh hh5 htot hl
  go_enter Tryz.func12, Tryz.ntmps12
  go_wp2_with fail
  refine HI.out.mono ?_
  rw [HP.out]
  rintro e w1 ⟨rfl, hb1⟩
  have HB1 := Lib.hid hb1
  have HV1 := Lib.hid (HX.out.new hb1)
  have HVR := Lib.hid (HVER.out _ w1 HV1.out)
  clear hb1
  go_wp2_with fail
  refine HVR.out.mono ?_
  rintro e w2 ⟨rfl, rfl⟩
  go_wp2_with fail
  refine (HCUT.out _).mono ?_
  rw [HCR.out]
  rintro e w2 ⟨rfl, hb2⟩
  have HB2 := Lib.hid (thenB HB1.out hb2)
  have HCIP := Lib.hid (vcipher_any vb now t now _ m a c w2 hm HK.out (HV1.out.new hb2) (HT.out.below (thenB HB1.out hb2)) (by omega))
  clear hb2
  go_wp2_with fail
  refine HCIP.out.mono ?_
  rintro e w3 ⟨cb, N, X3, rfl, h1, h2, hcip, h4, h5, h6, h7, h8, h9⟩
  have HVD := Lib.hid (fun w4 ho => VCipOut.done h1 h4 h5 h6 h7 h8 h9 (by have := HB2.out.size; omega) (key := vKey m t now) (tw := a.data.toList ++ c.data.toList) (cb := cb) (w2 := w4) ho)
  have HE := Lib.hid (HENC.out cb _ w3 hcip)
  clear h1 h2 hcip h4 h5 h6 h7 h8 h9
  go_wp2_with fail
  refine HE.out.mono ?_
  rintro e w4 ⟨rfl, hco⟩
  have HP4 := Lib.hid (HVD.out w4 hco)
  clear hco
  have HTK := Lib.hid (HTOK.out w4 HP4.out.2)
  unfold tokR at HTK
  go_wp2_with fail
  refine HTK.out.mono ?_
  rintro e w5 ⟨rfl, hb5⟩
  have HB5 := Lib.hid hb5
  clear hb5
  go_wp2_with fail
  go_ret2
  exact ⟨rfl, VauPost.after HB2.out (HP4.out.more HB5.out)⟩
theorem vtR_no {m : List UInt8} {t now : Nat} {l : List UInt8} (h : panB l = false) : vtR m t now l = .returned (.tuple #[.string ⟨#[]⟩, .int .i64 10]) := by unfold vtR; rw [vtS_no h, vtE_no h]
theorem vtR_yes {m : List UInt8} {t now : Nat} {l : List UInt8} (h : panB l = true) (h1 : 1 ≤ now) (h2 : now ≤ 255) : vtR m t now l = tokR (hidS (vKey m t now) l) now := by
  unfold vtR tokR; rw [vtS_yes h, vtE_yes h, (tok_parts h h1 h2).1]
theorem VToken_any (vb t now : Nat) (X : Nat → Prop) (m : List UInt8) (s : ByteArray) (w : World) (h : VauAt w vb X m t now) (hv : VOk m t now) (ht : Tab w) (hs : s.size ≤ maxLen) :
    Calls Tryz.prog 12 #[.pointer (some ⟨vb, 0, none⟩), .string s] w fun e w' => e = vtR m t now s.data.toList ∧ VauPost vb X m t now w w' := by
  cases hp : panB s.data.toList with
  | false => exact (VToken_no vb s w hs hp).mono fun e w' ⟨he, hb⟩ => ⟨he.trans (vtR_no hp).symm, VauPost.below h ht hb⟩
  | true => exact (VToken_yes vb t now X m s w h hv ht hs hp).mono fun e w' ⟨he, hb⟩ => ⟨he.trans (vtR_yes hp hv.2.2.2.1 hv.2.2.2.2).symm, hb⟩
end Go.Proofs.YtogpnlfbdhddmaaGreatDoor
namespace Go.Proofs.YtogpnlfbdhddmaaGreatDoor
open Go.RowKit

set_option maxRecDepth 100000 in
set_option maxHeartbeats 4000000 in
theorem VBack_split (vb : Nat) (s : ByteArray) (w : World) (ht : Tab w) (hs : s.size ≤ maxLen) (hp : splitOk s.data.toList = false) :
    Calls Tryz.prog 21 #[.pointer (some ⟨vb, 0, none⟩), .string s] w fun e w' => e = .returned (.tuple #[.string ⟨#[]⟩, .int .i64 11]) ∧ Below w.heap.size w w' := by
  have HI := Lib.hid (Split_any s w hs ht)
  have HP := Lib.hid (splR_no hp)
  clear hp
  go_enter Tryz.func21, Tryz.ntmps21
  go_wp2_with fail
  refine HI.out.mono ?_
  rw [HP.out]
  rintro e w1 ⟨rfl, hb1⟩
  go_wp2_with fail
  go_ret2
  exact ⟨rfl, hb1⟩
set_option maxRecDepth 100000 in
set_option maxHeartbeats 4000000 in
theorem VBack_ver (vb t now : Nat) (X : Nat → Prop) (m : List UInt8) (s p : ByteArray) (n : Nat) (w : World) (h : VauAt w vb X m t now) (ht : Tab w) (hs : s.size ≤ maxLen) (hp : splR s.data.toList = .returned (.tuple #[.string p, .int .i64 n, .int .i64 0])) (hn : now < n) :
    Calls Tryz.prog 21 #[.pointer (some ⟨vb, 0, none⟩), .string s] w fun e w' => e = .returned (.tuple #[.string ⟨#[]⟩, .int .i64 12]) ∧ Below w.heap.size w w' := by
  have HI := Lib.hid (Split_any s w hs ht)
  have HP := Lib.hid hp
  have HX := Lib.hid h
  have t1 : decide ((now : Int) < (n : Int)) = true := decide_eq_true (by omega)
  have t2 : decide (now < n) = true := decide_eq_true (by omega)
  clear hp h
  go_enter Tryz.func21, Tryz.ntmps21
  go_wp2_with fail
  refine HI.out.mono ?_
  rw [HP.out]
  rintro e w1 ⟨rfl, hb1⟩
  have HV := Lib.hid (Version_any vb X m t now w1 (HX.out.new hb1))
  have HB1 := Lib.hid hb1
  clear hb1
  go_wp2_with fail
  refine HV.out.mono ?_
  rintro e w2 ⟨rfl, rfl⟩
  go_wp2_with fail
  go_ret2
  exact ⟨rfl, HB1.out⟩
/-- What Back answers once the token is split. -/
def vmR (k l : List UInt8) : Ending := if panB (shoS k l) = true then .returned (.tuple #[.string ⟨(shoS k l).toArray⟩, .int .i64 0]) else .returned (.tuple #[.string ⟨#[]⟩, .int .i64 11])
set_option maxRecDepth 100000 in
set_option maxHeartbeats 4000000 in
theorem VBack_mid (vb t now : Nat) (X : Nat → Prop) (m : List UInt8) (s p : ByteArray) (n : Nat) (w : World) (h : VauAt w vb X m t now) (hv : VOk m t now) (ht : Tab w) (hs : s.size ≤ maxLen) (hp : splR s.data.toList = .returned (.tuple #[.string p, .int .i64 n, .int .i64 0])) (hsh : shapedB p.data.toList = true) (hn0 : 1 ≤ n) (hn : n ≤ now) :
    Calls Tryz.prog 21 #[.pointer (some ⟨vb, 0, none⟩), .string s] w fun e w' => e = vmR (vKey m t n) p.data.toList ∧ VauPost vb X m t now w w' := by
  have HI := Lib.hid (Split_any s w hs ht)
  have HP := Lib.hid hp
  obtain ⟨l, hl⟩ : ∃ l, l = p.data.toList := ⟨_, rfl⟩
  have hps : p.size ≤ maxLen := by rw [← size_toList]; have := (shapedB_iff.1 hsh).2.2; unfold maxLen; omega
  have HCUT := Lib.hid (fun w => Cut_any p w hps)
  rw [← hl] at HCUT hsh ⊢
  obtain ⟨p1, p2, p3, p4, p5⟩ := parts_len hsh
  have HCR := Lib.hid (cutR_yes hsh)
  have hnm := nm_mid hsh
  have HX := Lib.hid h.within
  have HT := Lib.hid ht
  have hlt := ht.lt
  obtain ⟨hm, _, _, _, hn2⟩ := id hv
  have HK := Lib.hid (hv.key hn0 hn)
  obtain ⟨kk, hkk⟩ : ∃ kk, kk = vKey m t n := ⟨_, rfl⟩
  have hkl : kk.length = 32 := by rw [hkk]; exact length_vKey m t n
  obtain ⟨a, ha⟩ : ∃ a : ByteArray, a = ⟨(binP l).toArray⟩ := ⟨_, rfl⟩
  obtain ⟨b, hb⟩ : ∃ b : ByteArray, b = ⟨(midP l).toArray⟩ := ⟨_, rfl⟩
  obtain ⟨c, hc⟩ : ∃ c : ByteArray, c = ⟨(lastP l).toArray⟩ := ⟨_, rfl⟩
  rw [← ha, ← hb, ← hc] at HCR
  have had : a.data.toList = binP l := by rw [ha]
  have hbd : b.data.toList = midP l := by rw [hb]
  have hcd : c.data.toList = lastP l := by rw [hc]
  have hsa : a.size ≤ 6 := by rw [← size_toList, had, p1]; omega
  have hsb : b.size ≤ 9 := by rw [← size_toList, hbd, p2]; omega
  have hsc : c.size ≤ 4 := by rw [← size_toList, hcd, p3]; omega
  obtain ⟨x, hx⟩ : ∃ x : ByteArray, x = ⟨(decT kk (twkP l) (midP l)).toArray⟩ := ⟨_, rfl⟩
  have hsx : x.size ≤ 9 := by rw [hx, len_arr, (enc_decT kk (twkP l) hnm).2.2, p2]; omega
  have HDEC := Lib.hid (fun cb X2 w (h : CipAt w cb X2 kk (a.data.toList ++ c.data.toList)) => show Calls Tryz.prog 46 #[.pointer (some ⟨cb, 0, none⟩), .string b] w (fun e w' => e = .returned (.tuple #[.string x, .int .i64 0]) ∧ CipOut cb X2 kk (a.data.toList ++ c.data.toList) w w') by
    have h1 := FDecrypt_any cb X2 kk (a.data.toList ++ c.data.toList) b w h (.inr hkl) (by simp only [List.length_append, size_toList]; omega) (by unfold maxLen; omega)
    unfold EncR decR at h1
    rw [hbd, hnm, if_pos rfl, show a.data.toList ++ c.data.toList = twkP l by rw [had, hcd]; rfl] at h1
    rw [show a.data.toList ++ c.data.toList = twkP l by rw [had, hcd]; rfl, hx]
    exact h1)
  have htot : a ++ x ++ c = ⟨(shoS kk l).toArray⟩ := by rw [ha, hx, hc, vcat3]; rfl
  have HIS := Lib.hid (fun w => show Calls Tryz.prog 13 #[.string (a ++ x ++ c)] w (fun e w' => e = .returned (.bool (panB (shoS kk l))) ∧ Below w.heap.size w w') by
    have h1 := Is_any (a ++ x ++ c) w (by simp only [ByteArray.size_append]; unfold maxLen; omega)
    rw [htot] at h1 ⊢
    exact h1)
  have HCIP := Lib.hid (fun w2 h ht => vcipher_any vb n t now (fun k => X k ∧ k < w.heap.size) m a c w2 hm HK.out h ht (by omega))
  rw [← hkk]
  have HTOT := Lib.hid htot
  have HKK := Lib.hid hkk
  have HTW := Lib.hid (show twkP l = a.data.toList ++ c.data.toList by rw [had, hcd]; rfl)
  have t1 : decide ((now : Int) < (n : Int)) = false := decide_eq_false (by omega)
  have t2 : decide (now < n) = false := decide_eq_false (by omega)
  unfold vmR
  obtain ⟨pb, hpb⟩ : ∃ pb, pb = panB (shoS kk l) := ⟨_, rfl⟩
  rw [← hpb] at HIS ⊢
  rw [← htot]
  clear h hv ht hp hsh p1 p2 p3 p4 p5 hnm ha hb hc had hbd hcd hx htot hl hkk hkl hpb
  go_enter Tryz.func21, Tryz.ntmps21
  go_wp2_with fail
  refine HI.out.mono ?_
  rw [HP.out]
  rintro e w1 ⟨rfl, hb1⟩
  have HV := Lib.hid (Version_any vb _ m t now w1 (HX.out.new hb1))
  have HB1 := Lib.hid hb1
  clear hb1
  go_wp2_with fail
  refine HV.out.mono ?_
  rintro e w2 ⟨rfl, rfl⟩
  go_wp2_with fail
  refine (HCUT.out _).mono ?_
  rw [HCR.out]
  rintro e w2 ⟨rfl, hb2⟩
  have HB2 := Lib.hid (thenB HB1.out hb2)
  have HC2 := Lib.hid (HCIP.out w2 ((HX.out.new HB1.out).new hb2) (HT.out.below (thenB HB1.out hb2)))
  clear hb2
  go_wp2_with fail
  refine HC2.out.mono ?_
  rintro e w3 ⟨cb, N, X3, rfl, h1, h2, hcip, h4, h5, h6, h7, h8, h9⟩
  rw [← HKK.out] at hcip
  have HVD := Lib.hid (fun w4 ho => VCipOut.done h1 h4 h5 h6 h7 h8 h9 (by have := HB2.out.size; omega) (key := kk) (tw := a.data.toList ++ c.data.toList) (cb := cb) (w2 := w4) ho)
  have HE := Lib.hid (HDEC.out cb _ w3 hcip)
  clear h1 h2 hcip h4 h5 h6 h7 h8 h9
  go_wp2_with fail
  refine HE.out.mono ?_
  rintro e w4 ⟨rfl, hco⟩
  have HP4 := Lib.hid (HVD.out w4 hco)
  clear hco
  go_wp2_with fail
  refine (HIS.out _).mono ?_
  rintro e w5 ⟨rfl, hb5⟩
  have HB5 := Lib.hid hb5
  clear hb5
  cases pb
  · go_wp2_with fail
    go_ret2
    exact ⟨rfl, VauPost.after HB2.out (HP4.out.more HB5.out)⟩
  · go_wp2_with fail
    go_ret2
    exact ⟨rfl, VauPost.after HB2.out (HP4.out.more HB5.out)⟩
theorem VBack_any (vb t now : Nat) (X : Nat → Prop) (m : List UInt8) (s : ByteArray) (w : World) (h : VauAt w vb X m t now) (hv : VOk m t now) (ht : Tab w) (hs : s.size ≤ maxLen) :
    Calls Tryz.prog 21 #[.pointer (some ⟨vb, 0, none⟩), .string s] w fun e w' => e = vbR m t now s.data.toList ∧ VauPost vb X m t now w w' := by
  cases hp : splitOk s.data.toList with
  | false =>
    refine (VBack_split vb s w ht hs hp).mono fun e w' ⟨he, hb⟩ => ⟨he.trans ?_, VauPost.below h ht hb⟩
    have h0 := vbE_split (m := m) (t := t) (now := now) hp
    unfold vbR; rw [vbS_no (by rw [h0]; decide), h0]
  | true =>
    obtain ⟨s1, s2, s3⟩ := spl_yes hp
    obtain ⟨g1, g2, g3, _⟩ := split_shaped hp
    obtain ⟨n, hn⟩ := Int.eq_ofNat_of_zero_le (show 0 ≤ numV (afterDot s.data.toList) by omega)
    have hR : splR s.data.toList = .returned (.tuple #[.string ⟨(beforeDot s.data.toList).toArray⟩, .int .i64 n, .int .i64 0]) := by rw [splR_yes hp, hn]
    by_cases hlt : now < n
    · refine (VBack_ver vb t now X m s _ n w h ht hs hR hlt).mono fun e w' ⟨he, hb⟩ => ⟨he.trans ?_, VauPost.below h ht hb⟩
      have h0 := vbE_ver (m := m) (t := t) (now := now) hp (by rw [s3, hn]; omega)
      unfold vbR; rw [vbS_no (by rw [h0]; decide), h0]
    · refine (VBack_mid vb t now X m s _ n w h hv ht hs hR (by exact g1) (by omega) (by omega)).mono fun e w' ⟨he, hb⟩ => ⟨he.trans ?_, hb⟩
      have hk : shoS (vKey m t (splV s.data.toList).toNat) (splS s.data.toList) = shoS (vKey m t n) (beforeDot s.data.toList) := by rw [s2, s3, hn, Int.toNat_natCast]
      unfold vbR vmR
      show (if panB (shoS (vKey m t n) (beforeDot s.data.toList)) = true then _ else _) = _
      cases hpb : panB (shoS (vKey m t n) (beforeDot s.data.toList)) with
      | false =>
        have h0 := vbE_pan (m := m) (t := t) (now := now) hp (by rw [s3, hn]; omega) (by rw [hk]; exact hpb)
        rw [vbS_no (by rw [h0]; decide), h0, if_neg (by decide)]
      | true =>
        have h0 := vbE_ok (m := m) (t := t) (now := now) hp (by rw [s3, hn]; omega) (by rw [hk]; exact hpb)
        rw [vbS_ok h0, h0, if_pos rfl, hk]
/-! ### Renew -/
theorem vnR_no {m : List UInt8} {t now : Nat} {l : List UInt8} (h : ¬ vbE m t now l = 0) : vnR m t now l = .returned (.tuple #[.string ⟨#[]⟩, .int .i64 (vbE m t now l)]) := by unfold vnR vnE; rw [vnS_no h]
theorem vnR_ok {m : List UInt8} {t now : Nat} {l : List UInt8} (h : vbE m t now l = 0) : vnR m t now l = vtR m t now (vbS m t now l) := by unfold vnR vnE vtR; rw [vnS_ok h, h, vtE_yes (back_tok h).1]
set_option maxRecDepth 100000 in
set_option maxHeartbeats 4000000 in
theorem VRenew_any (vb t now : Nat) (X : Nat → Prop) (m : List UInt8) (s : ByteArray) (w : World) (h : VauAt w vb X m t now) (hv : VOk m t now) (ht : Tab w) (hs : s.size ≤ maxLen) :
    Calls Tryz.prog 24 #[.pointer (some ⟨vb, 0, none⟩), .string s] w fun e w' => e = vnR m t now s.data.toList ∧ VauPost vb X m t now w w' := by
  have HBK := Lib.hid (VBack_any vb t now X m s w h hv ht hs)
  obtain ⟨er, her⟩ : ∃ er, er = vbE m t now s.data.toList := ⟨_, rfl⟩
  obtain ⟨p, hp⟩ : ∃ p : ByteArray, p = ⟨(vbS m t now s.data.toList).toArray⟩ := ⟨_, rfl⟩
  unfold vbR at HBK
  rw [← her, ← hp] at HBK
  have hpl : p.size ≤ maxLen := by rw [hp, len_arr]; have := back_len (m := m) (t := t) (now := now) (l := s.data.toList); unfold maxLen; omega
  have hpd : p.data.toList = vbS m t now s.data.toList := by rw [hp]
  have HTK := Lib.hid (fun w1 X1 (h1 : VauAt w1 vb X1 m t now) (ht1 : Tab w1) => VToken_any vb t now X1 m p w1 h1 hv ht1 hpl)
  rw [hpd] at HTK
  by_cases h0 : er = 0
  · have HE := Lib.hid (vnR_ok (m := m) (t := t) (now := now) (l := s.data.toList) (by rw [← her]; exact h0))
    clear h hv ht hp hpd her hpl
    subst h0
    unfold vtR at HTK
    unfold vtR at HE
    go_enter Tryz.func24, Tryz.ntmps24
    go_wp2_with fail
    refine HBK.out.mono ?_
    rintro e w1 ⟨rfl, hp1⟩
    obtain ⟨X2, hv2, ht2, hn2⟩ := hp1.next
    have HN2 := Lib.hid hn2
    have HT2 := Lib.hid (HTK.out w1 X2 hv2 ht2)
    clear hp1 hv2 ht2 hn2
    go_wp2_with fail
    refine HT2.out.mono ?_
    rintro e w2 ⟨rfl, hp2⟩
    have HP2 := Lib.hid (HN2.out w2 hp2)
    clear hp2
    go_wp2_with fail
    go_ret2
    exact ⟨HE.out.symm, HP2.out⟩
  · have HE := Lib.hid (vnR_no (m := m) (t := t) (now := now) (l := s.data.toList) (by rw [← her]; exact h0))
    rw [← her] at HE
    have hb0 : (er == 0) = false := beq_eq_false_iff_ne.2 h0
    have hb1 : (er != 0) = true := bne_iff_ne.2 h0
    clear h hv ht hp hpd her hpl h0 HTK
    go_enter Tryz.func24, Tryz.ntmps24
    go_wp2_with fail
    refine HBK.out.mono ?_
    rintro e w1 ⟨rfl, hp1⟩
    have HP1 := Lib.hid hp1
    clear hp1
    go_wp2_with fail
    go_ret2
    exact ⟨HE.out.symm, HP1.out⟩
end Go.Proofs.YtogpnlfbdhddmaaGreatDoor
namespace Go.Proofs.YtogpnlfbdhddmaaGreatDoor
open Go.RowKit

section
variable {w0 w w' : World} {vb t now now' : Nat} {m : List UInt8}
theorem VauSin.post (h : VauSin w0 vb m t now w) (hp : VauPost vb (fun k => w0.heap.size ≤ k) m t now' w w') : VauSin w0 vb m t now' w' := hp.1.sin (fun _ hk => hk) h.2.1 h.2.2
theorem VauSin.below (h : VauSin w0 vb m t now w) (hb : Below w.heap.size w w') : VauSin w0 vb m t now w' := ⟨h.1.new hb, h.2.1, h.2.2.trans (hb.mono h.2.2.size)⟩
theorem VauSin.tab (h : VauSin w0 vb m t now w) (ht : Tab w0) : Tab w := ht.below h.2.2
theorem sToken (h : VauSin w0 vb m t now w) (hv : VOk m t now) (ht : Tab w0) (s : ByteArray) (hs : s.size ≤ maxLen) :
    Calls Tryz.prog 12 #[.pointer (some ⟨vb, 0, none⟩), .string s] w fun e w' => e = vtR m t now s.data.toList ∧ VauSin w0 vb m t now w' :=
  (VToken_any vb t now _ m s w h.1 hv (h.tab ht) hs).mono fun _ _ ⟨he, hp⟩ => ⟨he, h.post hp⟩
theorem sBack (h : VauSin w0 vb m t now w) (hv : VOk m t now) (ht : Tab w0) (s : ByteArray) (hs : s.size ≤ maxLen) :
    Calls Tryz.prog 21 #[.pointer (some ⟨vb, 0, none⟩), .string s] w fun e w' => e = vbR m t now s.data.toList ∧ VauSin w0 vb m t now w' :=
  (VBack_any vb t now _ m s w h.1 hv (h.tab ht) hs).mono fun _ _ ⟨he, hp⟩ => ⟨he, h.post hp⟩
theorem sRenew (h : VauSin w0 vb m t now w) (hv : VOk m t now) (ht : Tab w0) (s : ByteArray) (hs : s.size ≤ maxLen) :
    Calls Tryz.prog 24 #[.pointer (some ⟨vb, 0, none⟩), .string s] w fun e w' => e = vnR m t now s.data.toList ∧ VauSin w0 vb m t now w' :=
  (VRenew_any vb t now _ m s w h.1 hv (h.tab ht) hs).mono fun _ _ ⟨he, hp⟩ => ⟨he, h.post hp⟩
theorem sVersion (h : VauSin w0 vb m t now w) :
    Calls Tryz.prog 11 #[.pointer (some ⟨vb, 0, none⟩)] w fun e w' => e = .returned (.int .i64 now) ∧ w = w' := Version_any vb _ m t now w h.1
theorem sRotate_yes (h : VauSin w0 vb m t now w) (hn : now < 255) :
    Calls Tryz.prog 10 #[.pointer (some ⟨vb, 0, none⟩)] w fun e w' => e = .returned (.tuple #[.int .i64 (now + 1 : Nat), .int .i64 0]) ∧ VauSin w0 vb m t (now + 1) w' :=
  (Rotate_yes vb _ m t now w h.1 hn).mono fun _ _ ⟨he, hp, hg⟩ => ⟨he, hp, h.2.1, h.2.2.trans (hg.below h.2.2.size fun k _ hk => by have h2 : k = vb := hk; have := h.2.1; omega)⟩
theorem sRotate_no (h : VauSin w0 vb m t now w) (hn : now = 255) :
    Calls Tryz.prog 10 #[.pointer (some ⟨vb, 0, none⟩)] w fun e w' => e = .returned (.tuple #[.int .i64 0, .int .i64 14]) ∧ w = w' := Rotate_no vb _ m t now w h.1 hn
theorem VOk.of_new {m : List UInt8} {t v : Int} (h : vOk m t v = true) : VOk m t.toNat v.toNat ∧ 0 ≤ t ∧ 0 ≤ v := by
  obtain ⟨_, h2, h3⟩ := vOk_iff.1 h
  obtain ⟨a, b, _, _, c, d⟩ := keyOk_iff.1 h3
  exact ⟨⟨h2, by omega, by omega, by omega, by omega⟩, by omega, by omega⟩
theorem sin_new {w1 w2 : World} {m : List UInt8} {vb t now : Nat} (hb : Below w0.heap.size w0 w1) (hb2 : Below w1.heap.size w1 w2) (h : w1.heap.size ≤ vb) (hv : VauAt w2 vb (fun k => w1.heap.size ≤ k) m t now) : VauSin w0 vb m t now w2 :=
  ⟨hv.mono fun _ _ hk => Nat.le_trans hb.size hk, Nat.le_trans hb.size h, thenB hb hb2⟩
end
/-- What Token answers, and what it is split into. -/
theorem vt_split {m : List UInt8} {t now : Nat} {l : List UInt8} (h : panB l = true) (h1 : 1 ≤ now) (h2 : now ≤ 255) :
    ∃ x d : ByteArray, x.size ≤ 30 ∧ x.data.toList = vtS m t now l ∧ d.data.toList = hidS (vKey m t now) l ∧ vtR m t now l = .returned (.tuple #[.string x, .int .i64 0]) ∧ splR x.data.toList = .returned (.tuple #[.string d, .int .i64 now, .int .i64 0]) := by
  obtain ⟨a, b, c, d⟩ := tok_parts (m := m) (t := t) h h1 h2
  refine ⟨⟨(vtS m t now l).toArray⟩, ⟨(hidS (vKey m t now) l).toArray⟩, by rw [len_arr]; exact tok_len h h1 h2, rfl, rfl, by unfold vtR; rw [vtE_yes h], ?_⟩
  show splR (vtS m t now l) = _
  unfold splR
  rw [c, d, (spl_yes b).1]
/-! ### the small case -/
theorem vmake16 (w : World) : (Instr.makeSlice 27 (.int .i64 16) (.int .i64 16)).run Tryz.prog w = .ok (.slice (some ⟨w.heap.size, 0, none⟩) 16 16) (w.alloc (.cells (bv (zeros' 16)).toArray 5)) := by kernel_rfl
theorem vmake20 (w : World) : (Instr.makeSlice 27 (.int .i64 20) (.int .i64 20)).run Tryz.prog w = .ok (.slice (some ⟨w.heap.size, 0, none⟩) 20 20) (w.alloc (.cells (bv (zeros' 20)).toArray 5)) := by kernel_rfl
theorem zeros_reads (w : World) (t : TypeId) (n : Nat) : Reads (w.alloc (.cells (bv (zeros' n)).toArray t)) (w.heap.size + 1) 1 (some ⟨w.heap.size, 0, none⟩) n (bv (zeros' n)) := by
  refine ⟨by rw [length_bv]; simp [zeros'], fun _ => ⟨_, _, rfl, by omega, fun j u hu => ?_⟩⟩
  rw [Nat.zero_add, cell?_new]
  simpa using hu
theorem sv_pan1 : panB (⟨#[52, 49, 49, 49, 49, 49, 49, 49, 49, 49, 49, 49, 49, 49, 49, 49]⟩ : ByteArray).data.toList = true := by decide +kernel
theorem sv_pan2 : panB (⟨#[52, 49, 49, 49, 49, 49, 49, 49, 49, 49, 49, 49, 49, 49, 49, 50]⟩ : ByteArray).data.toList = false := by decide +kernel
theorem tok_len1 {m l : List UInt8} {t : Nat} (h : panB l = true) : (vtS m t 1 l).length = l.length + 2 := by
  have he := (tok_parts (m := m) (t := t) (v := 1) h (by decide) (by decide)).1
  rw [vtS_yes h, tokS_ok he]
  have := (hid_parts (pan_shaped h) (vKey m t 1)).2.2.2.2
  have hd : (dec (((1 : Nat) : Int)).toNat).length = 1 := by rw [dec_one (by decide)]; rfl
  rw [List.length_append, List.length_cons, hd]; omega
set_option maxRecDepth 100000 in
set_option maxHeartbeats 4000000 in
theorem small14_any (w : World) (ht : Tab w) : Calls Tryz.prog 8 #[] w fun e w' => e = .returned (.bool true) ∧ Below w.heap.size w w' := by
  have hmk := vmake16
  have hv1 : VOk (zeros' 16) 1 1 := ⟨by decide, by decide, by decide, by decide, by decide⟩
  have hv2 : VOk (zeros' 16) 1 2 := ⟨by decide, by decide, by decide, by decide, by decide⟩
  obtain ⟨ms, hms⟩ : ∃ ms, ms = zeros' 16 := ⟨_, rfl⟩
  have HOK := Lib.hid (show vOk ms 1 1 = true by rw [hms]; decide +kernel)
  rw [← hms] at hv1 hv2
  have HV1 := Lib.hid hv1
  have HV2 := Lib.hid hv2
  have HNEW := Lib.hid (fun w1 (h : Tab (w1.alloc (.cells (bv (zeros' 16)).toArray 5))) => New_vau (zeros' 16) (some ⟨w1.heap.size, 0, none⟩) 16 16 (w1.heap.size + 1) 1 1 (w1.alloc (.cells (bv (zeros' 16)).toArray 5)) (zeros_reads w1 _ 16) (by simp) h)
  rw [← hms] at HNEW hmk
  obtain ⟨x, hx⟩ : ∃ x : ByteArray, x = ⟨(vtS ms 1 1 (⟨#[52, 49, 49, 49, 49, 49, 49, 49, 49, 49, 49, 49, 49, 49, 49, 49]⟩ : ByteArray).data.toList).toArray⟩ := ⟨_, rfl⟩
  have HT1 := Lib.hid (show vtR ms 1 1 (⟨#[52, 49, 49, 49, 49, 49, 49, 49, 49, 49, 49, 49, 49, 49, 49, 49]⟩ : ByteArray).data.toList = .returned (.tuple #[.string x, .int .i64 0]) by unfold vtR; rw [vtE_yes sv_pan1, hx])
  have HT2 := Lib.hid (show vtR ms 1 2 (⟨#[52, 49, 49, 49, 49, 49, 49, 49, 49, 49, 49, 49, 49, 49, 49, 50]⟩ : ByteArray).data.toList = .returned (.tuple #[.string ⟨#[]⟩, .int .i64 10]) from vtR_no sv_pan2)
  have hxz : x.size = 18 := by rw [hx, len_arr, tok_len1 sv_pan1]; rfl
  have hxm : x.size ≤ maxLen := by unfold maxLen; omega
  have HB1 := Lib.hid (show vbR ms 1 2 x.data.toList = .returned (.tuple #[.string ⟨#[52, 49, 49, 49, 49, 49, 49, 49, 49, 49, 49, 49, 49, 49, 49, 49]⟩, .int .i64 0]) by
    have h := tok_back (m := ms) (t := 1) (now := 2) (v := 1) sv_pan1 (by decide) (by decide) (by decide)
    have e : x.data.toList = vtS ms 1 1 (⟨#[52, 49, 49, 49, 49, 49, 49, 49, 49, 49, 49, 49, 49, 49, 49, 49]⟩ : ByteArray).data.toList := by rw [hx]
    unfold vbR; rw [e, h.1, h.2])
  have hx18 : ((x.size : Int) == 18) = true := by rw [hxz]; rfl
  have HXM := Lib.hid hxm
  clear hms hv1 hv2 hx hxz hxm
  go_enter Tryz.func8, Tryz.ntmps8
  go_wp2_with fail
  refine (HNEW.out w (ht.below ((Below.refl _ _).alloc (Nat.le_refl _) _))).mono ?_
  rintro e w2 ⟨hb2, ⟨h0, _⟩ | ⟨_, vb, rfl, hvb, hva⟩⟩
  · rw [HOK.out] at h0; cases h0
  have HS2 : Hid (VauSin w vb ms 1 1 w2) := Lib.hid (sin_new (w0 := w) ((Below.refl _ _).alloc (Nat.le_refl _) _) hb2 hvb hva)
  clear hb2 hva hmk
  go_wp2_with fail
  refine (sToken HS2.out HV1.out ht _ (by decide)).mono ?_
  rw [HT1.out]
  rintro e w3 ⟨rfl, h3⟩
  have HS3 := Lib.hid h3
  clear h3
  go_wp2_with fail
  refine (sRotate_yes HS3.out (by decide)).mono ?_
  rintro e w4 ⟨rfl, h4⟩
  have HS4 := Lib.hid h4
  clear h4
  go_wp2_with fail
  refine (sBack HS4.out HV2.out ht x HXM.out).mono ?_
  rw [show 1 + 1 = 2 from rfl, HB1.out]
  rintro e w5 ⟨rfl, h5⟩
  have HS5 := Lib.hid h5
  clear h5
  go_wp2_with fail
  refine (sToken HS5.out HV2.out ht _ (by decide)).mono ?_
  rw [HT2.out]
  rintro e w6 ⟨rfl, h6⟩
  have HS6 := Lib.hid h6
  clear h6
  go_wp2_with fail
  go_ret
  exact ⟨rfl, HS6.out.2.2⟩
end Go.Proofs.YtogpnlfbdhddmaaGreatDoor
