/- PLAIN: texts of digits, without a program: what is wrong with one, Luhn sums and check digits, packing. -/
namespace Go.Proofs.YtiijjpjkfiookaaDoor

/-! ### digits -/
/-- A byte that is a digit. -/
def isDig (c : UInt8) : Bool := decide (48 ≤ c.toNat ∧ c.toNat ≤ 57)
theorem isDig_iff {c : UInt8} : isDig c = true ↔ 48 ≤ c.toNat ∧ c.toNat ≤ 57 := by simp [isDig]
def dg (c : UInt8) : Nat := c.toNat - 48
/-- What is wrong with a text of digits: 0: nothing, 2: too long, 4: not of digits. -/
def lookE (l : List UInt8) : Int := if l.all isDig = true then (if l.length ≤ 999 then 0 else 2) else 4
theorem lookE_ok {l : List UInt8} : lookE l = 0 ↔ l.all isDig = true ∧ l.length ≤ 999 := by
  unfold lookE
  by_cases h : l.all isDig = true
  · rw [if_pos h]; by_cases k : l.length ≤ 999 <;> simp [h, k]
  · rw [if_neg h]; simp [h]
theorem lookE_form {l : List UInt8} (h : l.all isDig = false) : lookE l = 4 := by simp [lookE, h]
theorem lookE_long {l : List UInt8} (h : l.all isDig = true) (hl : 999 < l.length) : lookE l = 2 := by
  unfold lookE; rw [if_pos h, if_neg (by omega)]
theorem dig_at {l : List UInt8} (h : l.all isDig = true) {k : Nat} (hk : k < l.length) : 48 ≤ (l[k]).toNat ∧ (l[k]).toNat ≤ 57 :=
  isDig_iff.1 ((List.all_eq_true.1 h) _ (List.getElem_mem hk))

/-! ### the Luhn sum -/
def tw (d : Nat) : Nat := if 9 < 2 * d then 2 * d - 9 else 2 * d
/-- The Luhn sum of a text with b digits behind it. -/
def wsum : List UInt8 → Nat → Nat
  | [], _ => 0
  | c :: l, b => (if (l.length + b) % 2 = 1 then tw (dg c) else dg c) + wsum l b
theorem tw_le {d : Nat} (h : d ≤ 9) : tw d ≤ 9 := by unfold tw; split <;> omega
theorem dg_le {c : UInt8} (h : isDig c = true) : dg c ≤ 9 := by have := isDig_iff.1 h; unfold dg; omega
theorem wsum_le : ∀ (l : List UInt8) (b : Nat), l.all isDig = true → wsum l b ≤ 9 * l.length
  | [], _, _ => by simp [wsum]
  | c :: l, b, h => by
    simp only [List.all_cons, Bool.and_eq_true] at h
    have h1 := wsum_le l b h.2
    have h2 := dg_le h.1
    have h3 := tw_le h2
    simp only [wsum, List.length_cons]
    split <;> omega
theorem wsum_drop (l : List UInt8) (b k : Nat) (hk : k < l.length) :
    wsum (l.drop k) b = (if (l.length - 1 - k + b) % 2 = 1 then tw (dg l[k]) else dg l[k]) + wsum (l.drop (k + 1)) b := by
  rw [List.drop_eq_getElem_cons hk]
  simp only [wsum, List.length_drop]
  rw [show l.length - (k + 1) = l.length - 1 - k by omega]
theorem wsum_append : ∀ (l m : List UInt8) (b : Nat), wsum (l ++ m) b = wsum l (m.length + b) + wsum m b
  | [], m, b => by simp [wsum]
  | c :: l, m, b => by
    simp only [List.cons_append, wsum, List.length_append, wsum_append l m b]
    rw [show l.length + m.length + b = l.length + (m.length + b) by omega]
    omega
theorem wsum_par : ∀ (l : List UInt8) (b : Nat), wsum l (b + 2) = wsum l b
  | [], b => by simp [wsum]
  | c :: l, b => by
    simp only [wsum, wsum_par l b]
    rw [show (l.length + (b + 2)) % 2 = (l.length + b) % 2 by omega]

/-- The check digit. -/
def luhn (l : List UInt8) : Nat := (10 - wsum l 1 % 10) % 10
theorem luhn_le (l : List UInt8) : luhn l ≤ 9 := by unfold luhn; omega
def luhnV (l : List UInt8) : Int := if lookE l = 0 then (luhn l : Int) else 0
/-- Valid. -/
def validB (l : List UInt8) : Bool := !l.isEmpty && decide (lookE l = 0) && decide (wsum l 0 % 10 = 0)
theorem validB_iff {l : List UInt8} : validB l = true ↔ l ≠ [] ∧ lookE l = 0 ∧ wsum l 0 % 10 = 0 := by
  unfold validB
  cases l <;> simp

/-- A digit's sign. -/
def sg (d : Nat) : UInt8 := UInt8.ofNat (48 + d)
theorem sg_toNat {d : Nat} (h : d ≤ 9) : (sg d).toNat = 48 + d := by
  unfold sg
  rw [UInt8.toNat_ofNat']
  omega
theorem dg_sg {d : Nat} (h : d ≤ 9) : dg (sg d) = d := by unfold dg; rw [sg_toNat h]; omega
theorem isDig_sg {d : Nat} (h : d ≤ 9) : isDig (sg d) = true := isDig_iff.2 (by rw [sg_toNat h]; omega)
theorem sg_dg {c : UInt8} (h : isDig c = true) : sg (dg c) = c := by
  have := isDig_iff.1 h
  apply UInt8.toNat_inj.1
  rw [sg_toNat (dg_le h)]
  unfold dg
  omega
theorem dg_inj {c d : UInt8} (hc : isDig c = true) (hd : isDig d = true) (h : dg c = dg d) : c = d := by
  rw [← sg_dg hc, ← sg_dg hd, h]
theorem wsum_snoc (l : List UInt8) {d : Nat} (h : d ≤ 9) : wsum (l ++ [sg d]) 0 = wsum l 1 + d := by
  rw [wsum_append]
  simp [wsum, dg_sg h]
/-- With the digit d behind it the sum is a multiple of ten just if d is the check digit. -/
theorem luhn_iff (l : List UInt8) {d : Nat} (h : d ≤ 9) : wsum (l ++ [sg d]) 0 % 10 = 0 ↔ d = luhn l := by
  rw [wsum_snoc l h]
  unfold luhn
  omega
theorem lookE_snoc {l : List UInt8} {d : Nat} (h : d ≤ 9) (hl : lookE l = 0) (hlen : l.length < 999) : lookE (l ++ [sg d]) = 0 := by
  obtain ⟨h1, h2⟩ := lookE_ok.1 hl
  refine lookE_ok.2 ⟨?_, by simp; omega⟩
  rw [List.all_append, h1]
  simp [isDig_sg h]

/-! ### packing -/
/-- With a nought ahead where their number is odd. -/
def evened (l : List UInt8) : List UInt8 := if l.length % 2 = 1 then 48 :: l else l
/-- Two by two. -/
def pairs : List UInt8 → List UInt8
  | a :: b :: l => UInt8.ofNat (dg a * 16 + dg b) :: pairs l
  | _ => []
def packB (l : List UInt8) : List UInt8 := if lookE l = 0 then pairs (evened l) else []
theorem length_evened (l : List UInt8) : (evened l).length = 2 * ((l.length + 1) / 2) := by
  unfold evened
  by_cases h : l.length % 2 = 1
  · rw [if_pos h, List.length_cons]; omega
  · rw [if_neg h]; omega
theorem length_pairs : ∀ (n : Nat) (l : List UInt8), l.length = 2 * n → (pairs l).length = n
  | 0, l, h => by
    have : l = [] := List.eq_nil_of_length_eq_zero (by omega)
    subst this; rfl
  | n + 1, a :: b :: l, h => by
    simp only [List.length_cons] at h
    simp [pairs, length_pairs n l (by omega)]
  | n + 1, [a], h => by simp only [List.length_cons, List.length_nil] at h; omega
  | n + 1, [], h => by simp at h
theorem length_packB {l : List UInt8} (h : lookE l = 0) : (packB l).length = (l.length + 1) / 2 := by
  unfold packB; rw [if_pos h]; exact length_pairs _ _ (length_evened l)
theorem pairs_at : ∀ (l : List UInt8) (j : Nat) (h : 2 * j + 1 < l.length), (pairs l)[j]? = some (UInt8.ofNat (dg (l[2 * j]'(by omega)) * 16 + dg (l[2 * j + 1]'h)))
  | a :: b :: l, 0, h => by simp [pairs]
  | a :: b :: l, j + 1, h => by
    simp only [List.length_cons] at h
    have := pairs_at l j (by omega)
    simp only [pairs, List.getElem?_cons_succ, this]
    simp [show 2 * (j + 1) = 2 * j + 1 + 1 by omega]
  | [a], j, h => by simp only [List.length_cons, List.length_nil] at h; omega
  | [], j, h => by simp at h
theorem evened_at (l : List UInt8) (k : Nat) (hk : k < l.length) : (evened l)[k + l.length % 2]? = some l[k] := by
  unfold evened
  split
  · next h => rw [h]; simp [hk]
  · next h => rw [show l.length % 2 = 0 by omega]; simp [hk]
theorem evened_dig {l : List UInt8} (h : l.all isDig = true) : (evened l).all isDig = true := by
  unfold evened; split
  · simp only [List.all_cons, h, Bool.and_true]; decide
  · exact h

/-! ### packing digit by digit -/
/-- Byte j when k digits have been laid. -/
def pkAt (l : List UInt8) (k j : Nat) : Nat := (if 2 * j < k + l.length % 2 then dg ((evened l).getD (2 * j) 48) * 16 else 0) + (if 2 * j + 1 < k + l.length % 2 then dg ((evened l).getD (2 * j + 1) 48) else 0)
theorem evened_getD (l : List UInt8) (k : Nat) (hk : k < l.length) : (evened l).getD (k + l.length % 2) 48 = l[k] := by
  rw [List.getD_eq_getElem?_getD, evened_at l k hk]; rfl
theorem evened_nought (l : List UInt8) (h : l.length % 2 = 1) : (evened l).getD 0 48 = 48 := by unfold evened; rw [if_pos h]; rfl
theorem dg_evened {l : List UInt8} (h : l.all isDig = true) (i : Nat) : dg ((evened l).getD i 48) ≤ 9 := by
  rw [List.getD_eq_getElem?_getD]
  by_cases hi : i < (evened l).length
  · rw [List.getElem?_eq_getElem hi]
    exact dg_le (List.all_eq_true.1 (evened_dig h) _ (List.getElem_mem hi))
  · rw [List.getElem?_eq_none (by omega)]; decide
theorem pk_zero (l : List UInt8) (j : Nat) : pkAt l 0 j = 0 := by
  unfold pkAt
  rw [if_neg (c := 2 * j + 1 < 0 + l.length % 2) (by omega)]
  by_cases h : 2 * j < 0 + l.length % 2
  · rw [if_pos h, show 2 * j = 0 by omega, evened_nought l (by omega)]; rfl
  · rw [if_neg h]
theorem pk_other (l : List UInt8) (k j : Nat) (hj : j ≠ (k + l.length % 2) / 2) : pkAt l (k + 1) j = pkAt l k j := by
  unfold pkAt
  congr 1
  · by_cases h : 2 * j < k + l.length % 2
    · rw [if_pos h, if_pos (by omega)]
    · rw [if_neg h, if_neg (by omega)]
  · by_cases h : 2 * j + 1 < k + l.length % 2
    · rw [if_pos h, if_pos (by omega)]
    · rw [if_neg h, if_neg (by omega)]
theorem pk_high (l : List UInt8) (k : Nat) (hk : k < l.length) (hp : (k + l.length % 2) % 2 = 0) :
    pkAt l k ((k + l.length % 2) / 2) = 0 ∧ pkAt l (k + 1) ((k + l.length % 2) / 2) = dg l[k] * 16 := by
  have e : 2 * ((k + l.length % 2) / 2) = k + l.length % 2 := by omega
  constructor
  · unfold pkAt
    rw [e, if_neg (by omega), if_neg (by omega)]
  · unfold pkAt
    rw [e, if_pos (by omega), if_neg (by omega), evened_getD l k hk]
    rfl
theorem pk_low (l : List UInt8) (k : Nat) (hd : l.all isDig = true) (hk : k < l.length) (hp : (k + l.length % 2) % 2 = 1) :
    ∃ a, a ≤ 9 ∧ pkAt l k ((k + l.length % 2) / 2) = a * 16 ∧ pkAt l (k + 1) ((k + l.length % 2) / 2) = a * 16 + dg l[k] := by
  have e : 2 * ((k + l.length % 2) / 2) + 1 = k + l.length % 2 := by omega
  refine ⟨_, dg_evened hd (2 * ((k + l.length % 2) / 2)), ?_, ?_⟩
  · unfold pkAt
    rw [e, if_pos (by omega), if_neg (by omega)]
    rfl
  · unfold pkAt
    rw [e, if_pos (by omega), if_pos (by omega), evened_getD l k hk]
theorem pk_end (l : List UInt8) (hd : l.all isDig = true) (j : Nat) (hj : j < (l.length + 1) / 2) : ((pairs (evened l))[j]?.map UInt8.toNat) = some (pkAt l l.length j) := by
  have hl := length_evened l
  have h1 : 2 * j + 1 < (evened l).length := by omega
  rw [pairs_at (evened l) j h1]
  have a := dg_evened hd (2 * j)
  have b := dg_evened hd (2 * j + 1)
  rw [List.getD_eq_getElem?_getD, List.getElem?_eq_getElem (by omega)] at a b
  simp only [Option.getD_some] at a b
  simp only [Option.map_some, Option.some.injEq, UInt8.toNat_ofNat']
  unfold pkAt
  rw [if_pos (by omega), if_pos (by omega), List.getD_eq_getElem?_getD, List.getD_eq_getElem?_getD, List.getElem?_eq_getElem (by omega), List.getElem?_eq_getElem (by omega)]
  simp only [Option.getD_some]
  omega

/-! ### the text of a number -/
/-- The last w digits of n. -/
def textD (n w : Nat) : List UInt8 := (List.range w).map fun j => sg (n / 10 ^ (w - 1 - j) % 10)
theorem length_textD (n w : Nat) : (textD n w).length = w := by simp [textD]
theorem textD_succ (n w : Nat) : textD n (w + 1) = sg (n / 10 ^ w % 10) :: textD n w := by
  unfold textD
  rw [List.range_succ_eq_map, List.map_cons, List.map_map]
  refine congr (congrArg _ (by simp)) (List.map_congr_left fun j hj => ?_)
  simp only [Function.comp]
  rw [show w + 1 - 1 - (j + 1) = w - 1 - j by omega]
/-- What is wrong with a number and a width. -/
def textE (n w : Int) : Int := if n < 0 ∨ w < 1 ∨ 19 < w then 1 else if 10 ^ w.toNat ≤ n.toNat then 5 else 0
def textV (n w : Int) : List UInt8 := if textE n w = 0 then textD n.toNat w.toNat else []
theorem textE_arg {n w : Int} (h : n < 0 ∨ w < 1 ∨ 19 < w) : textE n w = 1 := if_pos h
theorem textE_num {n w : Int} (h : ¬ (n < 0 ∨ w < 1 ∨ 19 < w)) (h2 : 0 < n.toNat / 10 ^ w.toNat) : textE n w = 5 := by
  unfold textE
  rw [if_neg h, if_pos]
  rcases Nat.lt_or_ge n.toNat (10 ^ w.toNat) with h3 | h3
  · rw [Nat.div_eq_of_lt h3] at h2; omega
  · exact h3
theorem textE_ok {n w : Int} (h : ¬ (n < 0 ∨ w < 1 ∨ 19 < w)) (h2 : ¬ 0 < n.toNat / 10 ^ w.toNat) : textE n w = 0 := by
  unfold textE
  rw [if_neg h, if_neg]
  intro h3
  have := Nat.div_pos h3 (Nat.pow_pos (by omega : 0 < 10))
  omega
theorem div_pow_succ (n k : Nat) : n / 10 ^ k / 10 = n / 10 ^ (k + 1) := by rw [Nat.div_div_eq_div_mul, Nat.pow_succ]
theorem textV_no {n w : Int} (h : textE n w ≠ 0) : textV n w = [] := if_neg h
theorem textV_ok {n w : Int} (h : textE n w = 0) : textV n w = textD n.toNat w.toNat := if_pos h
end Go.Proofs.YtiijjpjkfiookaaDoor
