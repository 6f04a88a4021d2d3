/- PLAIN: the field of 256; AES on rows of bytes. PLAIN: texts of digits, without a program: what is wrong with one, Luhn sums and check digits, packing. PLAIN: the number that digits tell. PLAIN: unpacking. PLAIN: packing and unpacking undo each other; a number's text tells it. -/
import Derived.Test.YtiijjpjkfiookaaGreatDoorGMem
namespace Go.Proofs.YtiijjpjkfiookaaGreatDoor

/-! ### the field -/
/-- A byte times x. -/
def xt (a : UInt8) : UInt8 := UInt8.ofNat (if a.toNat < 128 then 2 * a.toNat else (2 * a.toNat - 256) ^^^ 27)
theorem xor_256 {a b : Nat} (ha : a < 256) (hb : b < 256) : a ^^^ b < 256 := Nat.xor_lt_two_pow (n := 8) ha hb
theorem and_256 {a b : Nat} (hb : b < 256) : a &&& b < 256 := Nat.lt_of_le_of_lt Nat.and_le_right hb
theorem or_256 {a b : Nat} (ha : a < 256) (hb : b < 256) : a ||| b < 256 := Nat.or_lt_two_pow (n := 8) ha hb
theorem u8_of {n : Nat} (h : n < 256) : (UInt8.ofNat n).toNat = n := by rw [UInt8.toNat_ofNat']; exact Nat.mod_eq_of_lt h
theorem xt_toNat (a : UInt8) : (xt a).toNat = if a.toNat < 128 then 2 * a.toNat else (2 * a.toNat - 256) ^^^ 27 := by
  have := a.toNat_lt
  unfold xt
  apply u8_of
  split
  · omega
  · exact xor_256 (by omega) (by omega)
/-- The product, bit by bit. -/
def gm : Nat → UInt8 → UInt8 → UInt8 → UInt8
  | 0, p, _, _ => p
  | k + 1, p, a, b => gm k (if b.toNat % 2 = 1 then p ^^^ a else p) (xt a) (UInt8.ofNat (b.toNat / 2))
def mulG (a b : UInt8) : UInt8 := gm 8 0 a b
theorem gm_zero : ∀ k p a, gm k p a 0 = p
  | 0, _, _ => rfl
  | k + 1, p, a => by
    show gm k (if (0 : Nat) % 2 = 1 then p ^^^ a else p) (xt a) (UInt8.ofNat (0 / 2)) = p
    rw [if_neg (by decide)]
    exact gm_zero k p (xt a)
/-- A power: bit by bit of the exponent. -/
def pwr : Nat → UInt8 → UInt8 → Nat → UInt8
  | 0, p, _, _ => p
  | f + 1, p, a, n => pwr f (if n % 2 = 1 then mulG p a else p) (mulG a a) (n / 2)
theorem pwr_zero : ∀ f p a, pwr f p a 0 = p
  | 0, _, _ => rfl
  | f + 1, p, a => by
    show pwr f (if (0 : Nat) % 2 = 1 then mulG p a else p) (mulG a a) (0 / 2) = p
    rw [if_neg (by decide)]
    exact pwr_zero f p _
theorem pwr_odd {f : Nat} {p a : UInt8} {n : Nat} (h : n % 2 = 1) (hf : n < 2 ^ f) : pwr f p a n = pwr f (mulG p a) a (n - 1) := by
  cases f with
  | zero => simp at hf; omega
  | succ f =>
    show pwr f (if n % 2 = 1 then mulG p a else p) (mulG a a) (n / 2) = pwr f (if (n - 1) % 2 = 1 then mulG (mulG p a) a else mulG p a) (mulG a a) ((n - 1) / 2)
    rw [if_pos h, if_neg (by omega), show (n - 1) / 2 = n / 2 by omega]
theorem pwr_even {f : Nat} {p a : UInt8} {n : Nat} (h : ¬ n % 2 = 1) : pwr (f + 1) p a n = pwr f p (mulG a a) (n / 2) := by
  show pwr f (if n % 2 = 1 then mulG p a else p) (mulG a a) (n / 2) = _
  rw [if_neg h]
def invG (a : UInt8) : UInt8 := pwr 8 1 a 254
/-- Turned to the left by one. -/
def rl1 (a : UInt8) : UInt8 := UInt8.ofNat ((2 * a.toNat) % 256 ||| a.toNat / 128)
theorem rl1_toNat (a : UInt8) : (rl1 a).toNat = (2 * a.toNat) % 256 ||| a.toNat / 128 := by
  have := a.toNat_lt
  exact u8_of (or_256 (by omega) (by omega))
def affG (i : UInt8) : UInt8 := i ^^^ 99 ^^^ rl1 i ^^^ rl1 (rl1 i) ^^^ rl1 (rl1 (rl1 i)) ^^^ rl1 (rl1 (rl1 (rl1 i)))
def boxG (a : UInt8) : UInt8 := affG (invG a)
/-- The map of all bytes in one number. -/
def sbT : Nat := 0x16bb54b00f2d99416842e6bf0d89a18cdf2855cee9871e9b948ed9691198f8e19e1dc186b95735610ef6034866b53e708a8bbd4b1f74dde8c6b4a61c2e2578ba08ae7a65eaf4566ca94ed58d6d37c8e779e4959162acd3c25c2406490a3a32e0db0b5ede14b8ee4688902a22dc4f816073195d643d7ea7c41744975fec130ccdd2f3ff1021dab6bcf5389d928f40a351a89f3c507f02f94585334d43fbaaefd0cf584c4a39becb6a5bb1fc20ed00d153842fe329b3d63b52a05a6e1b1a2c830975b227ebe28012079a059618c323c7041531d871f1e5a534ccf73f362693fdb7c072a49cafa2d4adf04759fa7dc982ca76abd7fe2b670130c56f6bf27b777c63
def sb (a : UInt8) : UInt8 := UInt8.ofNat (sbT >>> (8 * a.toNat))
theorem boxG_tab : ∀ n, n < 256 → boxG (UInt8.ofNat n) = sb (UInt8.ofNat n) := by decide +kernel
theorem boxG_sb (a : UInt8) : boxG a = sb a := by
  have h := boxG_tab a.toNat a.toNat_lt
  rwa [UInt8.ofNat_toNat] at h

/-! ### blocks -/
/-- Two rows by exclusive or. -/
def xorL (a b : List UInt8) : List UInt8 := List.zipWith (· ^^^ ·) a b
theorem length_xorL (a b : List UInt8) : (xorL a b).length = min a.length b.length := by simp [xorL]
theorem getD_xorL (a b : List UInt8) (i : Nat) (ha : i < a.length) (hb : i < b.length) : (xorL a b)[i]? = some (a[i] ^^^ b[i]) := by
  simp [xorL, List.getElem?_zipWith, ha, hb]
/-- Where turning takes byte i from. -/
def trn (i : Nat) : Nat := (i + 4 * (i % 4)) % 16
/-- Each byte mapped, the rows turned to the left. -/
def turnL (b : List UInt8) : List UInt8 := (List.range 16).map fun i => sb (b.getD (trn i) 0)
def mixB (b : List UInt8) (i : Nat) : UInt8 :=
  b.getD i 0 ^^^ ((((b.getD (4 * (i / 4)) 0 ^^^ b.getD (4 * (i / 4) + 1) 0) ^^^ b.getD (4 * (i / 4) + 2) 0) ^^^ b.getD (4 * (i / 4) + 3) 0) ^^^ xt (b.getD i 0 ^^^ b.getD (4 * (i / 4) + (i % 4 + 1) % 4) 0))
/-- The columns mixed. -/
def mixL (b : List UInt8) : List UInt8 := (List.range 16).map (mixB b)
theorem length_turnL (b : List UInt8) : (turnL b).length = 16 := by simp [turnL]
theorem length_mixL (b : List UInt8) : (mixL b).length = 16 := by simp [mixL]
/-- The state behind i rounds of last. -/
def aesAt (ks : List (List UInt8)) (b : List UInt8) : Nat → List UInt8
  | 0 => xorL b (ks.getD 0 [])
  | i + 1 => xorL (if i + 1 < ks.length - 1 then mixL (turnL (aesAt ks b i)) else turnL (aesAt ks b i)) (ks.getD (i + 1) [])
/-- The block encrypted under these round keys. -/
def aesE (ks : List (List UInt8)) (b : List UInt8) : List UInt8 := aesAt ks b (ks.length - 1)
theorem aesAt_last {ks : List (List UInt8)} {b : List UInt8} {i : Nat} (h : ¬ i + 1 < ks.length - 1) : aesAt ks b (i + 1) = xorL (turnL (aesAt ks b i)) (ks.getD (i + 1) []) := by
  show xorL (if _ then _ else _) _ = _
  rw [if_neg h]
theorem aesAt_mid {ks : List (List UInt8)} {b : List UInt8} {i : Nat} (h : i + 1 < ks.length - 1) : aesAt ks b (i + 1) = xorL (mixL (turnL (aesAt ks b i))) (ks.getD (i + 1) []) := by
  show xorL (if _ then _ else _) _ = _
  rw [if_pos h]

/-! ### round keys -/
/-- The round's byte. -/
def rcG : Nat → UInt8
  | 0 => 1
  | k + 1 => mulG (rcG k) 2
/-- What is laid on a word: the word ahead, mapped. -/
def tword (n i : Nat) (t : List UInt8) : List UInt8 :=
  if i % n = 0 then [sb (t.getD 1 0) ^^^ rcG (i / n - 1), sb (t.getD 2 0), sb (t.getD 3 0), sb (t.getD 0 0)] else if n = 8 ∧ i % n = 4 then t.map sb else t
/-- The key and k more words. -/
def kexp (key : List UInt8) : Nat → List UInt8
  | 0 => key
  | k + 1 => kexp key k ++ xorL (tword (key.length / 4) (key.length / 4 + k) (((kexp key k).drop (4 * (key.length / 4 + k) - 4)).take 4)) (((kexp key k).drop (4 * k)).take 4)
theorem length_tword (n i : Nat) {t : List UInt8} (h : t.length = 4) : (tword n i t).length = 4 := by
  unfold tword; split
  · rfl
  · split
    · simp [h]
    · exact h
theorem length_kexp (key : List UInt8) (h : key.length = 16 ∨ key.length = 32) : ∀ k, (kexp key k).length = key.length + 4 * k
  | 0 => rfl
  | k + 1 => by
    have ih := length_kexp key h k
    show (kexp key k ++ xorL _ _).length = _
    rw [List.length_append, length_xorL, length_tword _ _ (by simp [ih]; omega)]
    simp [ih]
    omega
/-- The round keys. -/
def rksOf (key : List UInt8) : List (List UInt8) :=
  (List.range (key.length / 4 + 7)).map fun r => ((kexp key (3 * (key.length / 4) + 28)).drop (16 * r)).take 16
theorem length_rks (key : List UInt8) : (rksOf key).length = key.length / 4 + 7 := by simp [rksOf]
theorem rks_at (key : List UInt8) {r : Nat} (h : r < key.length / 4 + 7) : (rksOf key).getD r [] = ((kexp key (3 * (key.length / 4) + 28)).drop (16 * r)).take 16 := by
  simp [rksOf, List.getD, h]
theorem rks_len (key : List UInt8) (hk : key.length = 16 ∨ key.length = 32) {r : Nat} (h : r < key.length / 4 + 7) : ((rksOf key).getD r []).length = 16 := by
  rw [rks_at key h, List.length_take, List.length_drop, length_kexp key hk]
  omega
theorem length_aesAt {ks : List (List UInt8)} {b : List UInt8} (hb : b.length = 16) (hk : ∀ r, r < ks.length → (ks.getD r []).length = 16) : ∀ i, i < ks.length → (aesAt ks b i).length = 16
  | 0, h => by show (xorL _ _).length = 16; rw [length_xorL, hb, hk 0 h]; rfl
  | i + 1, h => by
    by_cases hm : i + 1 < ks.length - 1
    · rw [aesAt_mid hm, length_xorL, length_mixL, hk _ h]; rfl
    · rw [aesAt_last hm, length_xorL, length_turnL, hk _ h]; rfl
theorem length_aesE {key b : List UInt8} (hb : b.length = 16) (hk : key.length = 16 ∨ key.length = 32) : (aesE (rksOf key) b).length = 16 :=
  length_aesAt hb (fun r hr => rks_len key hk (by rwa [length_rks] at hr)) _ (by rw [length_rks]; omega)

/-! ### rows of blocks -/
def cbcAt (ks : List (List UInt8)) (p : List UInt8) : Nat → List UInt8
  | 0 => List.replicate 16 0
  | k + 1 => aesE ks (xorL (cbcAt ks p k) ((p.drop (16 * k)).take 16))
/-- The block at the end of a row of blocks. -/
def cbc (ks : List (List UInt8)) (p : List UInt8) : List UInt8 := cbcAt ks p (p.length / 16)
theorem length_cbcAt {key : List UInt8} (hk : key.length = 16 ∨ key.length = 32) (p : List UInt8) : ∀ k, 16 * k ≤ p.length → (cbcAt (rksOf key) p k).length = 16
  | 0, _ => by simp [cbcAt]
  | k + 1, h => by
    show (aesE _ _).length = 16
    refine length_aesE ?_ hk
    rw [length_xorL, length_cbcAt hk p k (by omega), List.length_take, List.length_drop]
    omega
end Go.Proofs.YtiijjpjkfiookaaGreatDoor
namespace Go.Proofs.YtiijjpjkfiookaaGreatDoor

/-! ### digits -/
/-- A byte that is a digit. -/
def isDig (c : UInt8) : Bool := decide (48 ≤ c.toNat ∧ c.toNat ≤ 57)
theorem isDig_iff {c : UInt8} : isDig c = true ↔ 48 ≤ c.toNat ∧ c.toNat ≤ 57 := by simp [isDig]
def dg (c : UInt8) : Nat := c.toNat - 48
/-- What is wrong with a text of digits: 0: nothing, 2: too long, 4: not of digits. -/
def lookE (l : List UInt8) : Int := if l.all isDig = true then (if l.length ≤ 999 then 0 else 2) else 4
theorem lookE_ok {l : List UInt8} : lookE l = 0 ↔ l.all isDig = true ∧ l.length ≤ 999 := by
  unfold lookE
  by_cases h : l.all isDig = true
  · rw [if_pos h]; by_cases k : l.length ≤ 999 <;> simp [h, k]
  · rw [if_neg h]; simp [h]
theorem lookE_form {l : List UInt8} (h : l.all isDig = false) : lookE l = 4 := by simp [lookE, h]
theorem lookE_long {l : List UInt8} (h : l.all isDig = true) (hl : 999 < l.length) : lookE l = 2 := by
  unfold lookE; rw [if_pos h, if_neg (by omega)]
theorem dig_at {l : List UInt8} (h : l.all isDig = true) {k : Nat} (hk : k < l.length) : 48 ≤ (l[k]).toNat ∧ (l[k]).toNat ≤ 57 :=
  isDig_iff.1 ((List.all_eq_true.1 h) _ (List.getElem_mem hk))

/-! ### the Luhn sum -/
def tw (d : Nat) : Nat := if 9 < 2 * d then 2 * d - 9 else 2 * d
/-- The Luhn sum of a text with b digits behind it. -/
def wsum : List UInt8 → Nat → Nat
  | [], _ => 0
  | c :: l, b => (if (l.length + b) % 2 = 1 then tw (dg c) else dg c) + wsum l b
theorem tw_le {d : Nat} (h : d ≤ 9) : tw d ≤ 9 := by unfold tw; split <;> omega
theorem dg_le {c : UInt8} (h : isDig c = true) : dg c ≤ 9 := by have := isDig_iff.1 h; unfold dg; omega
theorem wsum_le : ∀ (l : List UInt8) (b : Nat), l.all isDig = true → wsum l b ≤ 9 * l.length
  | [], _, _ => by simp [wsum]
  | c :: l, b, h => by
    simp only [List.all_cons, Bool.and_eq_true] at h
    have h1 := wsum_le l b h.2
    have h2 := dg_le h.1
    have h3 := tw_le h2
    simp only [wsum, List.length_cons]
    split <;> omega
theorem wsum_drop (l : List UInt8) (b k : Nat) (hk : k < l.length) :
    wsum (l.drop k) b = (if (l.length - 1 - k + b) % 2 = 1 then tw (dg l[k]) else dg l[k]) + wsum (l.drop (k + 1)) b := by
  rw [List.drop_eq_getElem_cons hk]
  simp only [wsum, List.length_drop]
  rw [show l.length - (k + 1) = l.length - 1 - k by omega]
theorem wsum_append : ∀ (l m : List UInt8) (b : Nat), wsum (l ++ m) b = wsum l (m.length + b) + wsum m b
  | [], m, b => by simp [wsum]
  | c :: l, m, b => by
    simp only [List.cons_append, wsum, List.length_append, wsum_append l m b]
    rw [show l.length + m.length + b = l.length + (m.length + b) by omega]
    omega
theorem wsum_par : ∀ (l : List UInt8) (b : Nat), wsum l (b + 2) = wsum l b
  | [], b => by simp [wsum]
  | c :: l, b => by
    simp only [wsum, wsum_par l b]
    rw [show (l.length + (b + 2)) % 2 = (l.length + b) % 2 by omega]

/-- The check digit. -/
def luhn (l : List UInt8) : Nat := (10 - wsum l 1 % 10) % 10
theorem luhn_le (l : List UInt8) : luhn l ≤ 9 := by unfold luhn; omega
def luhnV (l : List UInt8) : Int := if lookE l = 0 then (luhn l : Int) else 0
/-- Valid. -/
def validB (l : List UInt8) : Bool := !l.isEmpty && decide (lookE l = 0) && decide (wsum l 0 % 10 = 0)
theorem validB_iff {l : List UInt8} : validB l = true ↔ l ≠ [] ∧ lookE l = 0 ∧ wsum l 0 % 10 = 0 := by
  unfold validB
  cases l <;> simp

/-- A digit's sign. -/
def sg (d : Nat) : UInt8 := UInt8.ofNat (48 + d)
theorem sg_toNat {d : Nat} (h : d ≤ 9) : (sg d).toNat = 48 + d := by
  unfold sg
  rw [UInt8.toNat_ofNat']
  omega
theorem dg_sg {d : Nat} (h : d ≤ 9) : dg (sg d) = d := by unfold dg; rw [sg_toNat h]; omega
theorem isDig_sg {d : Nat} (h : d ≤ 9) : isDig (sg d) = true := isDig_iff.2 (by rw [sg_toNat h]; omega)
theorem sg_dg {c : UInt8} (h : isDig c = true) : sg (dg c) = c := by
  have := isDig_iff.1 h
  apply UInt8.toNat_inj.1
  rw [sg_toNat (dg_le h)]
  unfold dg
  omega
theorem dg_inj {c d : UInt8} (hc : isDig c = true) (hd : isDig d = true) (h : dg c = dg d) : c = d := by
  rw [← sg_dg hc, ← sg_dg hd, h]
theorem wsum_snoc (l : List UInt8) {d : Nat} (h : d ≤ 9) : wsum (l ++ [sg d]) 0 = wsum l 1 + d := by
  rw [wsum_append]
  simp [wsum, dg_sg h]
/-- With the digit d behind it the sum is a multiple of ten just if d is the check digit. -/
theorem luhn_iff (l : List UInt8) {d : Nat} (h : d ≤ 9) : wsum (l ++ [sg d]) 0 % 10 = 0 ↔ d = luhn l := by
  rw [wsum_snoc l h]
  unfold luhn
  omega
theorem lookE_snoc {l : List UInt8} {d : Nat} (h : d ≤ 9) (hl : lookE l = 0) (hlen : l.length < 999) : lookE (l ++ [sg d]) = 0 := by
  obtain ⟨h1, h2⟩ := lookE_ok.1 hl
  refine lookE_ok.2 ⟨?_, by simp; omega⟩
  rw [List.all_append, h1]
  simp [isDig_sg h]

/-! ### packing -/
/-- With a nought ahead where their number is odd. -/
def evened (l : List UInt8) : List UInt8 := if l.length % 2 = 1 then 48 :: l else l
/-- Two by two. -/
def pairs : List UInt8 → List UInt8
  | a :: b :: l => UInt8.ofNat (dg a * 16 + dg b) :: pairs l
  | _ => []
def packB (l : List UInt8) : List UInt8 := if lookE l = 0 then pairs (evened l) else []
theorem length_evened (l : List UInt8) : (evened l).length = 2 * ((l.length + 1) / 2) := by
  unfold evened
  by_cases h : l.length % 2 = 1
  · rw [if_pos h, List.length_cons]; omega
  · rw [if_neg h]; omega
theorem length_pairs : ∀ (n : Nat) (l : List UInt8), l.length = 2 * n → (pairs l).length = n
  | 0, l, h => by
    have : l = [] := List.eq_nil_of_length_eq_zero (by omega)
    subst this; rfl
  | n + 1, a :: b :: l, h => by
    simp only [List.length_cons] at h
    simp [pairs, length_pairs n l (by omega)]
  | n + 1, [a], h => by simp only [List.length_cons, List.length_nil] at h; omega
  | n + 1, [], h => by simp at h
theorem length_packB {l : List UInt8} (h : lookE l = 0) : (packB l).length = (l.length + 1) / 2 := by
  unfold packB; rw [if_pos h]; exact length_pairs _ _ (length_evened l)
theorem pairs_at : ∀ (l : List UInt8) (j : Nat) (h : 2 * j + 1 < l.length), (pairs l)[j]? = some (UInt8.ofNat (dg (l[2 * j]'(by omega)) * 16 + dg (l[2 * j + 1]'h)))
  | a :: b :: l, 0, h => by simp [pairs]
  | a :: b :: l, j + 1, h => by
    simp only [List.length_cons] at h
    have := pairs_at l j (by omega)
    simp only [pairs, List.getElem?_cons_succ, this]
    simp [show 2 * (j + 1) = 2 * j + 1 + 1 by omega]
  | [a], j, h => by simp only [List.length_cons, List.length_nil] at h; omega
  | [], j, h => by simp at h
theorem evened_at (l : List UInt8) (k : Nat) (hk : k < l.length) : (evened l)[k + l.length % 2]? = some l[k] := by
  unfold evened
  split
  · next h => rw [h]; simp [hk]
  · next h => rw [show l.length % 2 = 0 by omega]; simp [hk]
theorem evened_dig {l : List UInt8} (h : l.all isDig = true) : (evened l).all isDig = true := by
  unfold evened; split
  · simp only [List.all_cons, h, Bool.and_true]; decide
  · exact h

/-! ### packing digit by digit -/
/-- Byte j when k digits have been laid. -/
def pkAt (l : List UInt8) (k j : Nat) : Nat := (if 2 * j < k + l.length % 2 then dg ((evened l).getD (2 * j) 48) * 16 else 0) + (if 2 * j + 1 < k + l.length % 2 then dg ((evened l).getD (2 * j + 1) 48) else 0)
theorem evened_getD (l : List UInt8) (k : Nat) (hk : k < l.length) : (evened l).getD (k + l.length % 2) 48 = l[k] := by
  rw [List.getD_eq_getElem?_getD, evened_at l k hk]; rfl
theorem evened_nought (l : List UInt8) (h : l.length % 2 = 1) : (evened l).getD 0 48 = 48 := by unfold evened; rw [if_pos h]; rfl
theorem dg_evened {l : List UInt8} (h : l.all isDig = true) (i : Nat) : dg ((evened l).getD i 48) ≤ 9 := by
  rw [List.getD_eq_getElem?_getD]
  by_cases hi : i < (evened l).length
  · rw [List.getElem?_eq_getElem hi]
    exact dg_le (List.all_eq_true.1 (evened_dig h) _ (List.getElem_mem hi))
  · rw [List.getElem?_eq_none (by omega)]; decide
theorem pk_zero (l : List UInt8) (j : Nat) : pkAt l 0 j = 0 := by
  unfold pkAt
  rw [if_neg (c := 2 * j + 1 < 0 + l.length % 2) (by omega)]
  by_cases h : 2 * j < 0 + l.length % 2
  · rw [if_pos h, show 2 * j = 0 by omega, evened_nought l (by omega)]; rfl
  · rw [if_neg h]
theorem pk_other (l : List UInt8) (k j : Nat) (hj : j ≠ (k + l.length % 2) / 2) : pkAt l (k + 1) j = pkAt l k j := by
  unfold pkAt
  congr 1
  · by_cases h : 2 * j < k + l.length % 2
    · rw [if_pos h, if_pos (by omega)]
    · rw [if_neg h, if_neg (by omega)]
  · by_cases h : 2 * j + 1 < k + l.length % 2
    · rw [if_pos h, if_pos (by omega)]
    · rw [if_neg h, if_neg (by omega)]
theorem pk_high (l : List UInt8) (k : Nat) (hk : k < l.length) (hp : (k + l.length % 2) % 2 = 0) :
    pkAt l k ((k + l.length % 2) / 2) = 0 ∧ pkAt l (k + 1) ((k + l.length % 2) / 2) = dg l[k] * 16 := by
  have e : 2 * ((k + l.length % 2) / 2) = k + l.length % 2 := by omega
  constructor
  · unfold pkAt
    rw [e, if_neg (by omega), if_neg (by omega)]
  · unfold pkAt
    rw [e, if_pos (by omega), if_neg (by omega), evened_getD l k hk]
    rfl
theorem pk_low (l : List UInt8) (k : Nat) (hd : l.all isDig = true) (hk : k < l.length) (hp : (k + l.length % 2) % 2 = 1) :
    ∃ a, a ≤ 9 ∧ pkAt l k ((k + l.length % 2) / 2) = a * 16 ∧ pkAt l (k + 1) ((k + l.length % 2) / 2) = a * 16 + dg l[k] := by
  have e : 2 * ((k + l.length % 2) / 2) + 1 = k + l.length % 2 := by omega
  refine ⟨_, dg_evened hd (2 * ((k + l.length % 2) / 2)), ?_, ?_⟩
  · unfold pkAt
    rw [e, if_pos (by omega), if_neg (by omega)]
    rfl
  · unfold pkAt
    rw [e, if_pos (by omega), if_pos (by omega), evened_getD l k hk]
theorem pk_end (l : List UInt8) (hd : l.all isDig = true) (j : Nat) (hj : j < (l.length + 1) / 2) : ((pairs (evened l))[j]?.map UInt8.toNat) = some (pkAt l l.length j) := by
  have hl := length_evened l
  have h1 : 2 * j + 1 < (evened l).length := by omega
  rw [pairs_at (evened l) j h1]
  have a := dg_evened hd (2 * j)
  have b := dg_evened hd (2 * j + 1)
  rw [List.getD_eq_getElem?_getD, List.getElem?_eq_getElem (by omega)] at a b
  simp only [Option.getD_some] at a b
  simp only [Option.map_some, Option.some.injEq, UInt8.toNat_ofNat']
  unfold pkAt
  rw [if_pos (by omega), if_pos (by omega), List.getD_eq_getElem?_getD, List.getD_eq_getElem?_getD, List.getElem?_eq_getElem (by omega), List.getElem?_eq_getElem (by omega)]
  simp only [Option.getD_some]
  omega

/-! ### the text of a number -/
/-- The last w digits of n. -/
def textD (n w : Nat) : List UInt8 := (List.range w).map fun j => sg (n / 10 ^ (w - 1 - j) % 10)
theorem length_textD (n w : Nat) : (textD n w).length = w := by simp [textD]
theorem textD_succ (n w : Nat) : textD n (w + 1) = sg (n / 10 ^ w % 10) :: textD n w := by
  unfold textD
  rw [List.range_succ_eq_map, List.map_cons, List.map_map]
  refine congr (congrArg _ (by simp)) (List.map_congr_left fun j hj => ?_)
  simp only [Function.comp]
  rw [show w + 1 - 1 - (j + 1) = w - 1 - j by omega]
/-- What is wrong with a number and a width. -/
def textE (n w : Int) : Int := if n < 0 ∨ w < 1 ∨ 19 < w then 1 else if 10 ^ w.toNat ≤ n.toNat then 5 else 0
def textV (n w : Int) : List UInt8 := if textE n w = 0 then textD n.toNat w.toNat else []
theorem textE_arg {n w : Int} (h : n < 0 ∨ w < 1 ∨ 19 < w) : textE n w = 1 := if_pos h
theorem textE_num {n w : Int} (h : ¬ (n < 0 ∨ w < 1 ∨ 19 < w)) (h2 : 0 < n.toNat / 10 ^ w.toNat) : textE n w = 5 := by
  unfold textE
  rw [if_neg h, if_pos]
  rcases Nat.lt_or_ge n.toNat (10 ^ w.toNat) with h3 | h3
  · rw [Nat.div_eq_of_lt h3] at h2; omega
  · exact h3
theorem textE_ok {n w : Int} (h : ¬ (n < 0 ∨ w < 1 ∨ 19 < w)) (h2 : ¬ 0 < n.toNat / 10 ^ w.toNat) : textE n w = 0 := by
  unfold textE
  rw [if_neg h, if_neg]
  intro h3
  have := Nat.div_pos h3 (Nat.pow_pos (by omega : 0 < 10))
  omega
theorem div_pow_succ (n k : Nat) : n / 10 ^ k / 10 = n / 10 ^ (k + 1) := by rw [Nat.div_div_eq_div_mul, Nat.pow_succ]
theorem textV_no {n w : Int} (h : textE n w ≠ 0) : textV n w = [] := if_neg h
theorem textV_ok {n w : Int} (h : textE n w = 0) : textV n w = textD n.toNat w.toNat := if_pos h
end Go.Proofs.YtiijjpjkfiookaaGreatDoor
namespace Go.Proofs.YtiijjpjkfiookaaGreatDoor

/-- The number of digits. -/
def valD (l : List UInt8) : Nat := l.foldl (fun n c => 10 * n + dg c) 0
theorem val_from (l : List UInt8) : ∀ n, l.foldl (fun n c => 10 * n + dg c) n = n * 10 ^ l.length + valD l := by
  unfold valD
  induction l with
  | nil => intro n; simp
  | cons c l ih =>
    intro n
    simp only [List.foldl_cons, List.length_cons]
    rw [ih (10 * n + dg c), ih (10 * 0 + dg c), Nat.pow_succ, Nat.add_mul, Nat.mul_zero, Nat.zero_add, Nat.mul_comm 10 n, Nat.mul_assoc, Nat.mul_comm 10 (10 ^ l.length), Nat.add_assoc]
theorem val_cons (c : UInt8) (l : List UInt8) : valD (c :: l) = dg c * 10 ^ l.length + valD l := by
  have := val_from l (10 * 0 + dg c)
  simpa [valD] using this
theorem val_snoc (l : List UInt8) (c : UInt8) : valD (l ++ [c]) = 10 * valD l + dg c := by simp [valD]
theorem val_append (l m : List UInt8) : valD (l ++ m) = valD l * 10 ^ m.length + valD m := by
  have := val_from m (valD l)
  simpa [valD] using this
theorem val_lt : ∀ (l : List UInt8), l.all isDig = true → valD l < 10 ^ l.length
  | [], _ => by simp [valD]
  | c :: l, h => by
    simp only [List.all_cons, Bool.and_eq_true] at h
    have h1 := val_lt l h.2
    have h2 := dg_le h.1
    rw [val_cons, List.length_cons, Nat.pow_succ]
    have : dg c * 10 ^ l.length ≤ 9 * 10 ^ l.length := Nat.mul_le_mul_right _ h2
    omega
/-- Without the noughts ahead. -/
def trimZ (l : List UInt8) : List UInt8 := l.dropWhile (· == 48)
theorem trim_all {l : List UInt8} (h : l.all isDig = true) : (trimZ l).all isDig = true := by
  rw [List.all_eq_true] at h ⊢
  exact fun c hc => h c (List.dropWhile_sublist _ |>.subset hc)
theorem val_trim : ∀ (l : List UInt8), valD (trimZ l) = valD l
  | [] => rfl
  | c :: l => by
    unfold trimZ
    rw [List.dropWhile_cons]
    by_cases hc : (c == 48) = true
    · rw [if_pos hc]
      have e : c = 48 := by simpa using hc
      rw [val_cons, e, show dg 48 = 0 from rfl, Nat.zero_mul, Nat.zero_add]
      exact val_trim l
    · rw [if_neg hc]
theorem trim_head {l : List UInt8} {c : UInt8} {m : List UInt8} (h : trimZ l = c :: m) : c ≠ 48 := by
  induction l with
  | nil => simp [trimZ] at h
  | cons x l ih =>
    unfold trimZ at h
    rw [List.dropWhile_cons] at h
    by_cases hx : (x == 48) = true
    · rw [if_pos hx] at h; exact ih h
    · rw [if_neg hx] at h
      injection h with h1 _
      subst h1
      simpa using hx
/-- A long number without noughts ahead is great. -/
theorem trim_big {l : List UInt8} (h : l.all isDig = true) (hl : 19 < (trimZ l).length) : 9223372036854775807 < valD l := by
  rw [← val_trim]
  have ha := trim_all h
  cases ht : trimZ l with
  | nil => rw [ht] at hl; simp at hl
  | cons c m =>
    have hc := trim_head ht
    rw [ht] at ha hl
    simp only [List.all_cons, Bool.and_eq_true] at ha
    have hd : 1 ≤ dg c := by
      have := isDig_iff.1 ha.1
      unfold dg
      have : c.toNat ≠ 48 := fun e => hc (UInt8.toNat_inj.1 e)
      omega
    rw [val_cons]
    have hm : 19 ≤ m.length := by rw [List.length_cons] at hl; omega
    have hp : 10 ^ 19 ≤ 10 ^ m.length := Nat.pow_le_pow_right (by decide) hm
    have : 1 * 10 ^ m.length ≤ dg c * 10 ^ m.length := Nat.mul_le_mul_right _ hd
    have e : (10 : Nat) ^ 19 = 10000000000000000000 := by decide
    omega
/-- What Number says is wrong. -/
def numE (l : List UInt8) : Int := if lookE l = 0 then (if l = [] then 3 else if valD l ≤ 9223372036854775807 then 0 else 5) else lookE l
def numV (l : List UInt8) : Int := if numE l = 0 then (valD l : Int) else 0
theorem numE_look {l : List UInt8} (h : lookE l ≠ 0) : numE l = lookE l := if_neg h
theorem lookE_nil : lookE [] = 0 := by decide
theorem numE_nil : numE [] = 3 := by decide
theorem numE_big {l : List UInt8} (h : lookE l = 0) (h0 : l ≠ []) (hb : 9223372036854775807 < valD l) : numE l = 5 := by unfold numE; rw [if_pos h, if_neg h0, if_neg (by omega)]
theorem numE_ok {l : List UInt8} (h : lookE l = 0) (h0 : l ≠ []) (hb : valD l ≤ 9223372036854775807) : numE l = 0 := by unfold numE; rw [if_pos h, if_neg h0, if_pos hb]
theorem numV_no {l : List UInt8} (h : numE l ≠ 0) : numV l = 0 := if_neg h
theorem numV_ok {l : List UInt8} (h : numE l = 0) : numV l = (valD l : Int) := if_pos h
theorem numE_zero {l : List UInt8} (h : numE l = 0) : lookE l = 0 ∧ l ≠ [] ∧ valD l ≤ 9223372036854775807 := by
  unfold numE at h
  by_cases h1 : lookE l = 0
  · rw [if_pos h1] at h
    by_cases h2 : l = []
    · rw [if_pos h2] at h; cases h
    · rw [if_neg h2] at h
      by_cases h3 : valD l ≤ 9223372036854775807
      · exact ⟨h1, h2, h3⟩
      · rw [if_neg h3] at h; cases h
  · rw [if_neg h1] at h; exact absurd h h1
/-! ### a number's digits tell it -/
theorem textD_dig (n : Nat) : ∀ w, (textD n w).all isDig = true := fun w => by
  rw [List.all_eq_true]
  intro c hc
  simp only [textD, List.mem_map, List.mem_range] at hc
  obtain ⟨j, _, rfl⟩ := hc
  exact isDig_sg (by omega)
theorem val_textD (n : Nat) : ∀ w, valD (textD n w) = n % 10 ^ w
  | 0 => by simp [textD, valD, Nat.mod_one]
  | w + 1 => by
    rw [textD_succ, val_cons, dg_sg (by omega), length_textD, val_textD n w]
    have h1 := Nat.div_add_mod n (10 ^ w)
    have h3 : n / 10 ^ w % 10 * 10 ^ w + n % 10 ^ w = n % (10 ^ w * 10) := by
      rw [Nat.mod_mul, Nat.mul_comm (10 ^ w), Nat.add_comm]
    rw [h3, Nat.pow_succ]
theorem lookE_textD {n w : Nat} (h : w ≤ 999) : lookE (textD n w) = 0 := lookE_ok.2 ⟨textD_dig n w, by rw [length_textD]; exact h⟩
/-- Noughts ahead change no number. -/
theorem val_noughts (k : Nat) (l : List UInt8) : valD (List.replicate k 48 ++ l) = valD l := by
  induction k with
  | zero => rfl
  | succ k ih => rw [List.replicate_succ, List.cons_append, val_cons, ih]; simp [dg]
end Go.Proofs.YtiijjpjkfiookaaGreatDoor
namespace Go.Proofs.YtiijjpjkfiookaaGreatDoor
/-! ### unpacking -/
/-- A byte whose halves are digits. -/
def okB (c : UInt8) : Bool := decide (c.toNat / 16 ≤ 9 ∧ c.toNat % 16 ≤ 9)
theorem okB_iff {c : UInt8} : okB c = true ↔ c.toNat / 16 ≤ 9 ∧ c.toNat % 16 ≤ 9 := by simp [okB]
def unp (l : List UInt8) : List UInt8 := l.flatMap fun c => [sg (c.toNat / 16), sg (c.toNat % 16)]
theorem unp_snoc (l : List UInt8) (c : UInt8) : unp (l ++ [c]) = unp l ++ [sg (c.toNat / 16), sg (c.toNat % 16)] := by simp [unp]
theorem length_unp : ∀ (l : List UInt8), (unp l).length = 2 * l.length
  | [] => rfl
  | c :: l => by
    have := length_unp l
    have e : unp (c :: l) = [sg (c.toNat / 16), sg (c.toNat % 16)] ++ unp l := rfl
    rw [e, List.length_append, this]
    simp only [List.length_cons, List.length_nil]
    omega
/-- What Unpack says is wrong. -/
def unpackE (l : List UInt8) (n : Int) : Int :=
  if n < 0 then 1 else if 999 < n then 2 else if (l.length : Int) < (n + 1) / 2 then 3 else
  if (l.take ((n + 1) / 2).toNat).all okB = false then 4 else
  if n % 2 = 1 ∧ (unp (l.take ((n + 1) / 2).toNat)).head? ≠ some 48 then 4 else 0
/-- The digits that Unpack answers. -/
def unpackS (l : List UInt8) (n : Int) : List UInt8 := if unpackE l n = 0 then (unp (l.take ((n + 1) / 2).toNat)).drop (n % 2).toNat else []
/-- How many bytes they take. -/
def unpackK (l : List UInt8) (n : Int) : Int := if unpackE l n = 0 then (n + 1) / 2 else 0
theorem unpackE_neg {l : List UInt8} {n : Int} (h : n < 0) : unpackE l n = 1 := if_pos h
theorem unpackE_long {l : List UInt8} {n : Int} (h : 999 < n) : unpackE l n = 2 := by unfold unpackE; rw [if_neg (by omega), if_pos h]
theorem unpackE_end {l : List UInt8} {n : Int} (h0 : 0 ≤ n) (h1 : n ≤ 999) (h : (l.length : Int) < (n + 1) / 2) : unpackE l n = 3 := by
  unfold unpackE; rw [if_neg (by omega), if_neg (by omega), if_pos h]
theorem unpackE_form {l : List UInt8} {n : Int} (h0 : 0 ≤ n) (h1 : n ≤ 999) (h : ¬ (l.length : Int) < (n + 1) / 2) (hf : (l.take ((n + 1) / 2).toNat).all okB = false) : unpackE l n = 4 := by
  unfold unpackE; rw [if_neg (by omega), if_neg (by omega), if_neg h, if_pos hf]
theorem unpackE_odd {l : List UInt8} {n : Int} (h0 : 0 ≤ n) (h1 : n ≤ 999) (h : ¬ (l.length : Int) < (n + 1) / 2) (hf : (l.take ((n + 1) / 2).toNat).all okB = true) (h2 : n % 2 = 1 ∧ (unp (l.take ((n + 1) / 2).toNat)).head? ≠ some 48) : unpackE l n = 4 := by
  unfold unpackE; rw [if_neg (by omega), if_neg (by omega), if_neg h, if_neg (by rw [hf]; decide), if_pos h2]
theorem unpackE_ok {l : List UInt8} {n : Int} (h0 : 0 ≤ n) (h1 : n ≤ 999) (h : ¬ (l.length : Int) < (n + 1) / 2) (hf : (l.take ((n + 1) / 2).toNat).all okB = true) (h2 : ¬ (n % 2 = 1 ∧ (unp (l.take ((n + 1) / 2).toNat)).head? ≠ some 48)) : unpackE l n = 0 := by
  unfold unpackE; rw [if_neg (by omega), if_neg (by omega), if_neg h, if_neg (by rw [hf]; decide), if_neg h2]
theorem unpackS_no {l : List UInt8} {n : Int} (h : unpackE l n ≠ 0) : unpackS l n = [] := if_neg h
theorem unpackK_no {l : List UInt8} {n : Int} (h : unpackE l n ≠ 0) : unpackK l n = 0 := if_neg h
theorem unpackS_ok {l : List UInt8} {n : Int} (h : unpackE l n = 0) : unpackS l n = (unp (l.take ((n + 1) / 2).toNat)).drop (n % 2).toNat := if_pos h
theorem unpackK_ok {l : List UInt8} {n : Int} (h : unpackE l n = 0) : unpackK l n = (n + 1) / 2 := if_pos h
end Go.Proofs.YtiijjpjkfiookaaGreatDoor
namespace Go.Proofs.YtiijjpjkfiookaaGreatDoor

theorem half_byte {c : UInt8} : UInt8.ofNat (c.toNat / 16 * 16 + c.toNat % 16) = c := by
  rw [show c.toNat / 16 * 16 + c.toNat % 16 = c.toNat by omega]; simp
theorem pairs_unp : ∀ (l : List UInt8), l.all okB = true → pairs (unp l) = l
  | [], _ => rfl
  | c :: l, h => by
    simp only [List.all_cons, Bool.and_eq_true] at h
    have h1 := okB_iff.1 h.1
    have e : unp (c :: l) = sg (c.toNat / 16) :: sg (c.toNat % 16) :: unp l := rfl
    rw [e, pairs, pairs_unp l h.2, dg_sg h1.1, dg_sg h1.2, half_byte]
theorem unp_dig : ∀ (l : List UInt8), l.all okB = true → (unp l).all isDig = true
  | [], _ => rfl
  | c :: l, h => by
    simp only [List.all_cons, Bool.and_eq_true] at h
    have h1 := okB_iff.1 h.1
    have e : unp (c :: l) = sg (c.toNat / 16) :: sg (c.toNat % 16) :: unp l := rfl
    rw [e]
    simp only [List.all_cons, unp_dig l h.2, isDig_sg h1.1, isDig_sg h1.2, Bool.and_self]
theorem pair_nat {a b : Nat} (ha : a ≤ 9) (hb : b ≤ 9) : (UInt8.ofNat (a * 16 + b)).toNat = a * 16 + b := by
  rw [UInt8.toNat_ofNat']; omega
theorem unp_pairs : ∀ (n : Nat) (l : List UInt8), l.length = 2 * n → l.all isDig = true → unp (pairs l) = l ∧ (pairs l).all okB = true
  | 0, l, h, _ => by
    have : l = [] := List.eq_nil_of_length_eq_zero (by omega)
    subst this; exact ⟨rfl, rfl⟩
  | n + 1, a :: b :: l, h, hd => by
    simp only [List.length_cons] at h
    simp only [List.all_cons, Bool.and_eq_true] at hd
    have ha := dg_le hd.1
    have hb := dg_le hd.2.1
    obtain ⟨h1, h2⟩ := unp_pairs n l (by omega) hd.2.2
    have e : unp (pairs (a :: b :: l)) = sg ((UInt8.ofNat (dg a * 16 + dg b)).toNat / 16) :: sg ((UInt8.ofNat (dg a * 16 + dg b)).toNat % 16) :: unp (pairs l) := rfl
    refine ⟨?_, ?_⟩
    · rw [e, h1, pair_nat ha hb, show (dg a * 16 + dg b) / 16 = dg a by omega, show (dg a * 16 + dg b) % 16 = dg b by omega, sg_dg hd.1, sg_dg hd.2.1]
    · simp only [pairs, List.all_cons, h2, Bool.and_true]
      exact okB_iff.2 (by rw [pair_nat ha hb]; omega)
  | n + 1, [a], h, _ => by simp only [List.length_cons, List.length_nil] at h; omega
  | n + 1, [], h, _ => by simp at h

theorem evened_head {l : List UInt8} (h : l.length % 2 = 1) : evened l = 48 :: l := if_pos h
theorem evened_same {l : List UInt8} (h : ¬ l.length % 2 = 1) : evened l = l := if_neg h
theorem evened_drop (l : List UInt8) : (evened l).drop (l.length % 2) = l := by
  by_cases h : l.length % 2 = 1
  · rw [evened_head h, h]; rfl
  · rw [evened_same h, show l.length % 2 = 0 by omega]; rfl

/-- Unpacking what was packed. -/
theorem back_unp {l m : List UInt8} (h : lookE l = 0) : unpackE (packB l ++ m) l.length = 0 ∧ unpackS (packB l ++ m) l.length = l ∧ unpackK (packB l ++ m) l.length = ((packB l).length : Int) := by
  obtain ⟨hd, h9⟩ := lookE_ok.1 h
  have hp := length_packB h
  have ht : (packB l ++ m).take (((l.length : Int) + 1) / 2).toNat = packB l := by
    rw [show (((l.length : Int) + 1) / 2).toNat = (packB l).length by omega, List.take_left']; rfl
  have hpe : packB l = pairs (evened l) := if_pos h
  obtain ⟨h1, h2⟩ := unp_pairs _ (evened l) (length_evened l) (evened_dig hd)
  rw [← hpe] at h1 h2
  have he : unpackE (packB l ++ m) l.length = 0 := by
    refine unpackE_ok (by omega) (by omega) (by rw [List.length_append]; omega) (by rw [ht]; exact h2) ?_
    rw [ht, h1]
    rintro ⟨h3, h4⟩
    rw [evened_head (by omega)] at h4
    exact h4 rfl
  refine ⟨he, ?_, ?_⟩
  · rw [unpackS_ok he, ht, h1, show ((l.length : Int) % 2).toNat = l.length % 2 by omega]
    exact evened_drop l
  · rw [unpackK_ok he]; omega

/-- Packing what was unpacked. -/
theorem back_pack {l : List UInt8} {n : Int} (h : unpackE l n = 0) : lookE (unpackS l n) = 0 ∧ ((unpackS l n).length : Int) = n ∧ 0 ≤ unpackK l n ∧ unpackK l n ≤ l.length ∧ packB (unpackS l n) = l.take (unpackK l n).toNat := by
  by_cases c1 : n < 0
  · rw [unpackE_neg c1] at h; cases h
  by_cases c2 : 999 < n
  · rw [unpackE_long c2] at h; cases h
  by_cases c3 : (l.length : Int) < (n + 1) / 2
  · rw [unpackE_end (by omega) (by omega) c3] at h; cases h
  by_cases c4 : (l.take ((n + 1) / 2).toNat).all okB = false
  · rw [unpackE_form (by omega) (by omega) c3 c4] at h; cases h
  have c4' : (l.take ((n + 1) / 2).toNat).all okB = true := by simpa using c4
  by_cases c5 : n % 2 = 1 ∧ (unp (l.take ((n + 1) / 2).toNat)).head? ≠ some 48
  · rw [unpackE_odd (by omega) (by omega) c3 c4' c5] at h; cases h
  have hS := unpackS_ok h
  have hK := unpackK_ok h
  have hlt : (l.take ((n + 1) / 2).toNat).length = ((n + 1) / 2).toNat := by rw [List.length_take]; omega
  have hu := length_unp (l.take ((n + 1) / 2).toNat)
  rw [hlt] at hu
  have hdg := unp_dig _ c4'
  have hpu := pairs_unp _ c4'
  rw [hS, hK]
  generalize hU : unp (l.take ((n + 1) / 2).toNat) = U at *
  have hlen : ((U.drop (n % 2).toNat).length : Int) = n := by rw [List.length_drop]; omega
  have hdd : (U.drop (n % 2).toNat).all isDig = true := by
    rw [List.all_eq_true] at hdg ⊢
    exact fun c hc => hdg c (List.mem_of_mem_drop hc)
  have hl : lookE (U.drop (n % 2).toNat) = 0 := lookE_ok.2 ⟨hdd, by omega⟩
  refine ⟨hl, hlen, by omega, by omega, ?_⟩
  have hev : evened (U.drop (n % 2).toNat) = U := by
    by_cases hp : n % 2 = 1
    · rw [evened_head (by omega)]
      have h48 : U.head? = some 48 := by
        by_cases q : U.head? = some 48
        · exact q
        · exact absurd ⟨hp, q⟩ c5
      rw [hp]
      cases U with
      | nil => cases h48
      | cons a r =>
        simp only [List.head?_cons, Option.some.injEq] at h48
        subst h48; rfl
    · rw [evened_same (by omega), show (n % 2).toNat = 0 by omega]; rfl
  unfold packB
  rw [if_pos hl, hev, hpu]

/-- A number's text tells it. -/
theorem back_text {n w : Int} (h63 : n ≤ 9223372036854775807) (h : textE n w = 0) : numE (textV n w) = 0 ∧ numV (textV n w) = n ∧ ((textV n w).length : Int) = w ∧ (textV n w).length ≤ 19 := by
  by_cases h1 : n < 0 ∨ w < 1 ∨ 19 < w
  · rw [textE_arg h1] at h; cases h
  have h2 : ¬ 0 < n.toNat / 10 ^ w.toNat := by
    intro h2; rw [textE_num h1 h2] at h; cases h
  have h3 : n.toNat < 10 ^ w.toNat := by
    rcases Nat.lt_or_ge n.toNat (10 ^ w.toNat) with h4 | h4
    · exact h4
    · exact absurd (Nat.div_pos h4 (Nat.pow_pos (by omega : 0 < 10))) h2
  have hv := val_textD n.toNat w.toNat
  rw [Nat.mod_eq_of_lt h3] at hv
  have hlen := length_textD n.toNat w.toNat
  have hne : textD n.toNat w.toNat ≠ [] := by intro e; rw [e] at hlen; simp at hlen; omega
  have hE := numE_ok (lookE_textD (n := n.toNat) (w := w.toNat) (by omega)) hne (by rw [hv]; omega)
  rw [textV_ok h]
  exact ⟨hE, by rw [numV_ok hE, hv]; omega, by omega, by omega⟩
/-- The digits of the value of digits. -/
theorem textD_val : ∀ (l : List UInt8), l.all isDig = true → textD (valD l) l.length = l := by
  intro l
  induction l with
  | nil => intro _; rfl
  | cons c l ih =>
    intro h
    have hc : isDig c = true := by simp at h; exact h.1
    have hl : l.all isDig = true := by simp at h ⊢; exact h.2
    have hlt := val_lt l hl
    have h9 := dg_le hc
    rw [List.length_cons, textD_succ, val_cons]
    have hp : 0 < 10 ^ l.length := Nat.pow_pos (by decide)
    have e1 : (dg c * 10 ^ l.length + valD l) / 10 ^ l.length % 10 = dg c := by
      rw [Nat.mul_comm, Nat.mul_add_div hp, Nat.div_eq_of_lt hlt]; omega
    rw [e1, sg_dg hc]
    congr 1
    have e2 : ∀ (m w : Nat), textD (m * 10 ^ w + valD l) w = textD (valD l) w := by
      intro m w
      unfold textD
      apply List.map_congr_left
      intro j hj
      have hj2 : j < w := by simpa using hj
      congr 1
      have : m * 10 ^ w = 10 ^ (w - 1 - j) * (10 * (m * 10 ^ j)) := by
        have : w = (w - 1 - j) + (1 + j) := by omega
        rw [this]
        simp only [Nat.pow_add, Nat.pow_one]
        rw [show w - 1 - j + (1 + j) - 1 - j = w - 1 - j by omega]
        generalize 10 ^ (w - 1 - j) = x
        generalize 10 ^ j = y
        rw [Nat.mul_comm m, Nat.mul_assoc, Nat.mul_assoc]; congr 1; rw [Nat.mul_comm y]
      rw [this, Nat.mul_add_div (Nat.pow_pos (by decide))]
      omega
    rw [e2]
    exact ih hl
end Go.Proofs.YtiijjpjkfiookaaGreatDoor
