/- PLAIN: packing and unpacking undo each other; a number's text tells it. -/
import Derived.Test.YtiijjpjkfiookaaDoorDigNumP
import Derived.Test.YtiijjpjkfiookaaDoorDigUnp
namespace Go.Proofs.YtiijjpjkfiookaaDoor

theorem half_byte {c : UInt8} : UInt8.ofNat (c.toNat / 16 * 16 + c.toNat % 16) = c := by
  rw [show c.toNat / 16 * 16 + c.toNat % 16 = c.toNat by omega]; simp
theorem pairs_unp : ∀ (l : List UInt8), l.all okB = true → pairs (unp l) = l
  | [], _ => rfl
  | c :: l, h => by
    simp only [List.all_cons, Bool.and_eq_true] at h
    have h1 := okB_iff.1 h.1
    have e : unp (c :: l) = sg (c.toNat / 16) :: sg (c.toNat % 16) :: unp l := rfl
    rw [e, pairs, pairs_unp l h.2, dg_sg h1.1, dg_sg h1.2, half_byte]
theorem unp_dig : ∀ (l : List UInt8), l.all okB = true → (unp l).all isDig = true
  | [], _ => rfl
  | c :: l, h => by
    simp only [List.all_cons, Bool.and_eq_true] at h
    have h1 := okB_iff.1 h.1
    have e : unp (c :: l) = sg (c.toNat / 16) :: sg (c.toNat % 16) :: unp l := rfl
    rw [e]
    simp only [List.all_cons, unp_dig l h.2, isDig_sg h1.1, isDig_sg h1.2, Bool.and_self]
theorem pair_nat {a b : Nat} (ha : a ≤ 9) (hb : b ≤ 9) : (UInt8.ofNat (a * 16 + b)).toNat = a * 16 + b := by
  rw [UInt8.toNat_ofNat']; omega
theorem unp_pairs : ∀ (n : Nat) (l : List UInt8), l.length = 2 * n → l.all isDig = true → unp (pairs l) = l ∧ (pairs l).all okB = true
  | 0, l, h, _ => by
    have : l = [] := List.eq_nil_of_length_eq_zero (by omega)
    subst this; exact ⟨rfl, rfl⟩
  | n + 1, a :: b :: l, h, hd => by
    simp only [List.length_cons] at h
    simp only [List.all_cons, Bool.and_eq_true] at hd
    have ha := dg_le hd.1
    have hb := dg_le hd.2.1
    obtain ⟨h1, h2⟩ := unp_pairs n l (by omega) hd.2.2
    have e : unp (pairs (a :: b :: l)) = sg ((UInt8.ofNat (dg a * 16 + dg b)).toNat / 16) :: sg ((UInt8.ofNat (dg a * 16 + dg b)).toNat % 16) :: unp (pairs l) := rfl
    refine ⟨?_, ?_⟩
    · rw [e, h1, pair_nat ha hb, show (dg a * 16 + dg b) / 16 = dg a by omega, show (dg a * 16 + dg b) % 16 = dg b by omega, sg_dg hd.1, sg_dg hd.2.1]
    · simp only [pairs, List.all_cons, h2, Bool.and_true]
      exact okB_iff.2 (by rw [pair_nat ha hb]; omega)
  | n + 1, [a], h, _ => by simp only [List.length_cons, List.length_nil] at h; omega
  | n + 1, [], h, _ => by simp at h

theorem evened_head {l : List UInt8} (h : l.length % 2 = 1) : evened l = 48 :: l := if_pos h
theorem evened_same {l : List UInt8} (h : ¬ l.length % 2 = 1) : evened l = l := if_neg h
theorem evened_drop (l : List UInt8) : (evened l).drop (l.length % 2) = l := by
  by_cases h : l.length % 2 = 1
  · rw [evened_head h, h]; rfl
  · rw [evened_same h, show l.length % 2 = 0 by omega]; rfl

/-- Unpacking what was packed. -/
theorem back_unp {l m : List UInt8} (h : lookE l = 0) : unpackE (packB l ++ m) l.length = 0 ∧ unpackS (packB l ++ m) l.length = l ∧ unpackK (packB l ++ m) l.length = ((packB l).length : Int) := by
  obtain ⟨hd, h9⟩ := lookE_ok.1 h
  have hp := length_packB h
  have ht : (packB l ++ m).take (((l.length : Int) + 1) / 2).toNat = packB l := by
    rw [show (((l.length : Int) + 1) / 2).toNat = (packB l).length by omega, List.take_left']; rfl
  have hpe : packB l = pairs (evened l) := if_pos h
  obtain ⟨h1, h2⟩ := unp_pairs _ (evened l) (length_evened l) (evened_dig hd)
  rw [← hpe] at h1 h2
  have he : unpackE (packB l ++ m) l.length = 0 := by
    refine unpackE_ok (by omega) (by omega) (by rw [List.length_append]; omega) (by rw [ht]; exact h2) ?_
    rw [ht, h1]
    rintro ⟨h3, h4⟩
    rw [evened_head (by omega)] at h4
    exact h4 rfl
  refine ⟨he, ?_, ?_⟩
  · rw [unpackS_ok he, ht, h1, show ((l.length : Int) % 2).toNat = l.length % 2 by omega]
    exact evened_drop l
  · rw [unpackK_ok he]; omega

/-- Packing what was unpacked. -/
theorem back_pack {l : List UInt8} {n : Int} (h : unpackE l n = 0) : lookE (unpackS l n) = 0 ∧ ((unpackS l n).length : Int) = n ∧ 0 ≤ unpackK l n ∧ unpackK l n ≤ l.length ∧ packB (unpackS l n) = l.take (unpackK l n).toNat := by
  by_cases c1 : n < 0
  · rw [unpackE_neg c1] at h; cases h
  by_cases c2 : 999 < n
  · rw [unpackE_long c2] at h; cases h
  by_cases c3 : (l.length : Int) < (n + 1) / 2
  · rw [unpackE_end (by omega) (by omega) c3] at h; cases h
  by_cases c4 : (l.take ((n + 1) / 2).toNat).all okB = false
  · rw [unpackE_form (by omega) (by omega) c3 c4] at h; cases h
  have c4' : (l.take ((n + 1) / 2).toNat).all okB = true := by simpa using c4
  by_cases c5 : n % 2 = 1 ∧ (unp (l.take ((n + 1) / 2).toNat)).head? ≠ some 48
  · rw [unpackE_odd (by omega) (by omega) c3 c4' c5] at h; cases h
  have hS := unpackS_ok h
  have hK := unpackK_ok h
  have hlt : (l.take ((n + 1) / 2).toNat).length = ((n + 1) / 2).toNat := by rw [List.length_take]; omega
  have hu := length_unp (l.take ((n + 1) / 2).toNat)
  rw [hlt] at hu
  have hdg := unp_dig _ c4'
  have hpu := pairs_unp _ c4'
  rw [hS, hK]
  generalize hU : unp (l.take ((n + 1) / 2).toNat) = U at *
  have hlen : ((U.drop (n % 2).toNat).length : Int) = n := by rw [List.length_drop]; omega
  have hdd : (U.drop (n % 2).toNat).all isDig = true := by
    rw [List.all_eq_true] at hdg ⊢
    exact fun c hc => hdg c (List.mem_of_mem_drop hc)
  have hl : lookE (U.drop (n % 2).toNat) = 0 := lookE_ok.2 ⟨hdd, by omega⟩
  refine ⟨hl, hlen, by omega, by omega, ?_⟩
  have hev : evened (U.drop (n % 2).toNat) = U := by
    by_cases hp : n % 2 = 1
    · rw [evened_head (by omega)]
      have h48 : U.head? = some 48 := by
        by_cases q : U.head? = some 48
        · exact q
        · exact absurd ⟨hp, q⟩ c5
      rw [hp]
      cases U with
      | nil => cases h48
      | cons a r =>
        simp only [List.head?_cons, Option.some.injEq] at h48
        subst h48; rfl
    · rw [evened_same (by omega), show (n % 2).toNat = 0 by omega]; rfl
  unfold packB
  rw [if_pos hl, hev, hpu]

/-- A number's text tells it. -/
theorem back_text {n w : Int} (h63 : n ≤ 9223372036854775807) (h : textE n w = 0) : numE (textV n w) = 0 ∧ numV (textV n w) = n ∧ ((textV n w).length : Int) = w ∧ (textV n w).length ≤ 19 := by
  by_cases h1 : n < 0 ∨ w < 1 ∨ 19 < w
  · rw [textE_arg h1] at h; cases h
  have h2 : ¬ 0 < n.toNat / 10 ^ w.toNat := by
    intro h2; rw [textE_num h1 h2] at h; cases h
  have h3 : n.toNat < 10 ^ w.toNat := by
    rcases Nat.lt_or_ge n.toNat (10 ^ w.toNat) with h4 | h4
    · exact h4
    · exact absurd (Nat.div_pos h4 (Nat.pow_pos (by omega : 0 < 10))) h2
  have hv := val_textD n.toNat w.toNat
  rw [Nat.mod_eq_of_lt h3] at hv
  have hlen := length_textD n.toNat w.toNat
  have hne : textD n.toNat w.toNat ≠ [] := by intro e; rw [e] at hlen; simp at hlen; omega
  have hE := numE_ok (lookE_textD (n := n.toNat) (w := w.toNat) (by omega)) hne (by rw [hv]; omega)
  rw [textV_ok h]
  exact ⟨hE, by rw [numV_ok hE, hv]; omega, by omega, by omega⟩
/-- The digits of the value of digits. -/
theorem textD_val : ∀ (l : List UInt8), l.all isDig = true → textD (valD l) l.length = l := by
  intro l
  induction l with
  | nil => intro _; rfl
  | cons c l ih =>
    intro h
    have hc : isDig c = true := by simp at h; exact h.1
    have hl : l.all isDig = true := by simp at h ⊢; exact h.2
    have hlt := val_lt l hl
    have h9 := dg_le hc
    rw [List.length_cons, textD_succ, val_cons]
    have hp : 0 < 10 ^ l.length := Nat.pow_pos (by decide)
    have e1 : (dg c * 10 ^ l.length + valD l) / 10 ^ l.length % 10 = dg c := by
      rw [Nat.mul_comm, Nat.mul_add_div hp, Nat.div_eq_of_lt hlt]; omega
    rw [e1, sg_dg hc]
    congr 1
    have e2 : ∀ (m w : Nat), textD (m * 10 ^ w + valD l) w = textD (valD l) w := by
      intro m w
      unfold textD
      apply List.map_congr_left
      intro j hj
      have hj2 : j < w := by simpa using hj
      congr 1
      have : m * 10 ^ w = 10 ^ (w - 1 - j) * (10 * (m * 10 ^ j)) := by
        have : w = (w - 1 - j) + (1 + j) := by omega
        rw [this]
        simp only [Nat.pow_add, Nat.pow_one]
        rw [show w - 1 - j + (1 + j) - 1 - j = w - 1 - j by omega]
        generalize 10 ^ (w - 1 - j) = x
        generalize 10 ^ j = y
        rw [Nat.mul_comm m, Nat.mul_assoc, Nat.mul_assoc]; congr 1; rw [Nat.mul_comm y]
      rw [this, Nat.mul_add_div (Nat.pow_pos (by decide))]
      omega
    rw [e2]
    exact ih hl
end Go.Proofs.YtiijjpjkfiookaaDoor
