/- PLAIN: the field of 256; AES on rows of bytes. PLAIN: texts of digits, without a program: what is wrong with one, Luhn sums and check digits, packing. PLAIN: the number that digits tell. PLAIN: unpacking. PLAIN: packing and unpacking undo each other; a number's text tells it. PLAIN: a number's digits, one by one. PLAIN: card numbers, their parts and masks; tokens. PLAIN: the digest of a text, on numbers below 2^32. PLAIN: names of purposes, keys of a ring. PLAIN: what the laws of digits say of the check digit: one digit turned, two exchanged, the last one. -/
import Derived.Test.YtogpnlfbdhddmaaGreatDoorGMem
import Derived.Lib.ItoaNum
namespace Go.Proofs.YtogpnlfbdhddmaaGreatDoor

/-! ### the field -/
/-- A byte times x. -/
def xt (a : UInt8) : UInt8 := UInt8.ofNat (if a.toNat < 128 then 2 * a.toNat else (2 * a.toNat - 256) ^^^ 27)
theorem xor_256 {a b : Nat} (ha : a < 256) (hb : b < 256) : a ^^^ b < 256 := Nat.xor_lt_two_pow (n := 8) ha hb
theorem and_256 {a b : Nat} (hb : b < 256) : a &&& b < 256 := Nat.lt_of_le_of_lt Nat.and_le_right hb
theorem or_256 {a b : Nat} (ha : a < 256) (hb : b < 256) : a ||| b < 256 := Nat.or_lt_two_pow (n := 8) ha hb
theorem u8_of {n : Nat} (h : n < 256) : (UInt8.ofNat n).toNat = n := by rw [UInt8.toNat_ofNat']; exact Nat.mod_eq_of_lt h
theorem xt_toNat (a : UInt8) : (xt a).toNat = if a.toNat < 128 then 2 * a.toNat else (2 * a.toNat - 256) ^^^ 27 := by
  have := a.toNat_lt
  unfold xt
  apply u8_of
  split
  · omega
  · exact xor_256 (by omega) (by omega)
/-- The product, bit by bit. -/
def gm : Nat → UInt8 → UInt8 → UInt8 → UInt8
  | 0, p, _, _ => p
  | k + 1, p, a, b => gm k (if b.toNat % 2 = 1 then p ^^^ a else p) (xt a) (UInt8.ofNat (b.toNat / 2))
def mulG (a b : UInt8) : UInt8 := gm 8 0 a b
theorem gm_zero : ∀ k p a, gm k p a 0 = p
  | 0, _, _ => rfl
  | k + 1, p, a => by
    show gm k (if (0 : Nat) % 2 = 1 then p ^^^ a else p) (xt a) (UInt8.ofNat (0 / 2)) = p
    rw [if_neg (by decide)]
    exact gm_zero k p (xt a)
/-- A power: bit by bit of the exponent. -/
def pwr : Nat → UInt8 → UInt8 → Nat → UInt8
  | 0, p, _, _ => p
  | f + 1, p, a, n => pwr f (if n % 2 = 1 then mulG p a else p) (mulG a a) (n / 2)
theorem pwr_zero : ∀ f p a, pwr f p a 0 = p
  | 0, _, _ => rfl
  | f + 1, p, a => by
    show pwr f (if (0 : Nat) % 2 = 1 then mulG p a else p) (mulG a a) (0 / 2) = p
    rw [if_neg (by decide)]
    exact pwr_zero f p _
theorem pwr_odd {f : Nat} {p a : UInt8} {n : Nat} (h : n % 2 = 1) (hf : n < 2 ^ f) : pwr f p a n = pwr f (mulG p a) a (n - 1) := by
  cases f with
  | zero => simp at hf; omega
  | succ f =>
    show pwr f (if n % 2 = 1 then mulG p a else p) (mulG a a) (n / 2) = pwr f (if (n - 1) % 2 = 1 then mulG (mulG p a) a else mulG p a) (mulG a a) ((n - 1) / 2)
    rw [if_pos h, if_neg (by omega), show (n - 1) / 2 = n / 2 by omega]
theorem pwr_even {f : Nat} {p a : UInt8} {n : Nat} (h : ¬ n % 2 = 1) : pwr (f + 1) p a n = pwr f p (mulG a a) (n / 2) := by
  show pwr f (if n % 2 = 1 then mulG p a else p) (mulG a a) (n / 2) = _
  rw [if_neg h]
def invG (a : UInt8) : UInt8 := pwr 8 1 a 254
/-- Turned to the left by one. -/
def rl1 (a : UInt8) : UInt8 := UInt8.ofNat ((2 * a.toNat) % 256 ||| a.toNat / 128)
theorem rl1_toNat (a : UInt8) : (rl1 a).toNat = (2 * a.toNat) % 256 ||| a.toNat / 128 := by
  have := a.toNat_lt
  exact u8_of (or_256 (by omega) (by omega))
def affG (i : UInt8) : UInt8 := i ^^^ 99 ^^^ rl1 i ^^^ rl1 (rl1 i) ^^^ rl1 (rl1 (rl1 i)) ^^^ rl1 (rl1 (rl1 (rl1 i)))
def boxG (a : UInt8) : UInt8 := affG (invG a)
/-- The map of all bytes in one number. -/
def sbT : Nat := 0x16bb54b00f2d99416842e6bf0d89a18cdf2855cee9871e9b948ed9691198f8e19e1dc186b95735610ef6034866b53e708a8bbd4b1f74dde8c6b4a61c2e2578ba08ae7a65eaf4566ca94ed58d6d37c8e779e4959162acd3c25c2406490a3a32e0db0b5ede14b8ee4688902a22dc4f816073195d643d7ea7c41744975fec130ccdd2f3ff1021dab6bcf5389d928f40a351a89f3c507f02f94585334d43fbaaefd0cf584c4a39becb6a5bb1fc20ed00d153842fe329b3d63b52a05a6e1b1a2c830975b227ebe28012079a059618c323c7041531d871f1e5a534ccf73f362693fdb7c072a49cafa2d4adf04759fa7dc982ca76abd7fe2b670130c56f6bf27b777c63
def sb (a : UInt8) : UInt8 := UInt8.ofNat (sbT >>> (8 * a.toNat))
theorem boxG_tab : ∀ n, n < 256 → boxG (UInt8.ofNat n) = sb (UInt8.ofNat n) := by decide +kernel
theorem boxG_sb (a : UInt8) : boxG a = sb a := by
  have h := boxG_tab a.toNat a.toNat_lt
  rwa [UInt8.ofNat_toNat] at h

/-! ### blocks -/
/-- Two rows by exclusive or. -/
def xorL (a b : List UInt8) : List UInt8 := List.zipWith (· ^^^ ·) a b
theorem length_xorL (a b : List UInt8) : (xorL a b).length = min a.length b.length := by simp [xorL]
theorem getD_xorL (a b : List UInt8) (i : Nat) (ha : i < a.length) (hb : i < b.length) : (xorL a b)[i]? = some (a[i] ^^^ b[i]) := by
  simp [xorL, List.getElem?_zipWith, ha, hb]
/-- Where turning takes byte i from. -/
def trn (i : Nat) : Nat := (i + 4 * (i % 4)) % 16
/-- Each byte mapped, the rows turned to the left. -/
def turnL (b : List UInt8) : List UInt8 := (List.range 16).map fun i => sb (b.getD (trn i) 0)
def mixB (b : List UInt8) (i : Nat) : UInt8 :=
  b.getD i 0 ^^^ ((((b.getD (4 * (i / 4)) 0 ^^^ b.getD (4 * (i / 4) + 1) 0) ^^^ b.getD (4 * (i / 4) + 2) 0) ^^^ b.getD (4 * (i / 4) + 3) 0) ^^^ xt (b.getD i 0 ^^^ b.getD (4 * (i / 4) + (i % 4 + 1) % 4) 0))
/-- The columns mixed. -/
def mixL (b : List UInt8) : List UInt8 := (List.range 16).map (mixB b)
theorem length_turnL (b : List UInt8) : (turnL b).length = 16 := by simp [turnL]
theorem length_mixL (b : List UInt8) : (mixL b).length = 16 := by simp [mixL]
/-- The state behind i rounds of last. -/
def aesAt (ks : List (List UInt8)) (b : List UInt8) : Nat → List UInt8
  | 0 => xorL b (ks.getD 0 [])
  | i + 1 => xorL (if i + 1 < ks.length - 1 then mixL (turnL (aesAt ks b i)) else turnL (aesAt ks b i)) (ks.getD (i + 1) [])
/-- The block encrypted under these round keys. -/
def aesE (ks : List (List UInt8)) (b : List UInt8) : List UInt8 := aesAt ks b (ks.length - 1)
theorem aesAt_last {ks : List (List UInt8)} {b : List UInt8} {i : Nat} (h : ¬ i + 1 < ks.length - 1) : aesAt ks b (i + 1) = xorL (turnL (aesAt ks b i)) (ks.getD (i + 1) []) := by
  show xorL (if _ then _ else _) _ = _
  rw [if_neg h]
theorem aesAt_mid {ks : List (List UInt8)} {b : List UInt8} {i : Nat} (h : i + 1 < ks.length - 1) : aesAt ks b (i + 1) = xorL (mixL (turnL (aesAt ks b i))) (ks.getD (i + 1) []) := by
  show xorL (if _ then _ else _) _ = _
  rw [if_pos h]

/-! ### round keys -/
/-- The round's byte. -/
def rcG : Nat → UInt8
  | 0 => 1
  | k + 1 => mulG (rcG k) 2
/-- What is laid on a word: the word ahead, mapped. -/
def tword (n i : Nat) (t : List UInt8) : List UInt8 :=
  if i % n = 0 then [sb (t.getD 1 0) ^^^ rcG (i / n - 1), sb (t.getD 2 0), sb (t.getD 3 0), sb (t.getD 0 0)] else if n = 8 ∧ i % n = 4 then t.map sb else t
/-- The key and k more words. -/
def kexp (key : List UInt8) : Nat → List UInt8
  | 0 => key
  | k + 1 => kexp key k ++ xorL (tword (key.length / 4) (key.length / 4 + k) (((kexp key k).drop (4 * (key.length / 4 + k) - 4)).take 4)) (((kexp key k).drop (4 * k)).take 4)
theorem length_tword (n i : Nat) {t : List UInt8} (h : t.length = 4) : (tword n i t).length = 4 := by
  unfold tword; split
  · rfl
  · split
    · simp [h]
    · exact h
theorem length_kexp (key : List UInt8) (h : key.length = 16 ∨ key.length = 32) : ∀ k, (kexp key k).length = key.length + 4 * k
  | 0 => rfl
  | k + 1 => by
    have ih := length_kexp key h k
    show (kexp key k ++ xorL _ _).length = _
    rw [List.length_append, length_xorL, length_tword _ _ (by simp [ih]; omega)]
    simp [ih]
    omega
/-- The round keys. -/
def rksOf (key : List UInt8) : List (List UInt8) :=
  (List.range (key.length / 4 + 7)).map fun r => ((kexp key (3 * (key.length / 4) + 28)).drop (16 * r)).take 16
theorem length_rks (key : List UInt8) : (rksOf key).length = key.length / 4 + 7 := by simp [rksOf]
theorem rks_at (key : List UInt8) {r : Nat} (h : r < key.length / 4 + 7) : (rksOf key).getD r [] = ((kexp key (3 * (key.length / 4) + 28)).drop (16 * r)).take 16 := by
  simp [rksOf, List.getD, h]
theorem rks_len (key : List UInt8) (hk : key.length = 16 ∨ key.length = 32) {r : Nat} (h : r < key.length / 4 + 7) : ((rksOf key).getD r []).length = 16 := by
  rw [rks_at key h, List.length_take, List.length_drop, length_kexp key hk]
  omega
theorem length_aesAt {ks : List (List UInt8)} {b : List UInt8} (hb : b.length = 16) (hk : ∀ r, r < ks.length → (ks.getD r []).length = 16) : ∀ i, i < ks.length → (aesAt ks b i).length = 16
  | 0, h => by show (xorL _ _).length = 16; rw [length_xorL, hb, hk 0 h]; rfl
  | i + 1, h => by
    by_cases hm : i + 1 < ks.length - 1
    · rw [aesAt_mid hm, length_xorL, length_mixL, hk _ h]; rfl
    · rw [aesAt_last hm, length_xorL, length_turnL, hk _ h]; rfl
theorem length_aesE {key b : List UInt8} (hb : b.length = 16) (hk : key.length = 16 ∨ key.length = 32) : (aesE (rksOf key) b).length = 16 :=
  length_aesAt hb (fun r hr => rks_len key hk (by rwa [length_rks] at hr)) _ (by rw [length_rks]; omega)

/-! ### rows of blocks -/
def cbcAt (ks : List (List UInt8)) (p : List UInt8) : Nat → List UInt8
  | 0 => List.replicate 16 0
  | k + 1 => aesE ks (xorL (cbcAt ks p k) ((p.drop (16 * k)).take 16))
/-- The block at the end of a row of blocks. -/
def cbc (ks : List (List UInt8)) (p : List UInt8) : List UInt8 := cbcAt ks p (p.length / 16)
theorem length_cbcAt {key : List UInt8} (hk : key.length = 16 ∨ key.length = 32) (p : List UInt8) : ∀ k, 16 * k ≤ p.length → (cbcAt (rksOf key) p k).length = 16
  | 0, _ => by simp [cbcAt]
  | k + 1, h => by
    show (aesE _ _).length = 16
    refine length_aesE ?_ hk
    rw [length_xorL, length_cbcAt hk p k (by omega), List.length_take, List.length_drop]
    omega
end Go.Proofs.YtogpnlfbdhddmaaGreatDoor
namespace Go.Proofs.YtogpnlfbdhddmaaGreatDoor

/-! ### digits -/
/-- A byte that is a digit. -/
def isDig (c : UInt8) : Bool := decide (48 ≤ c.toNat ∧ c.toNat ≤ 57)
theorem isDig_iff {c : UInt8} : isDig c = true ↔ 48 ≤ c.toNat ∧ c.toNat ≤ 57 := by simp [isDig]
def dg (c : UInt8) : Nat := c.toNat - 48
/-- What is wrong with a text of digits: 0: nothing, 2: too long, 4: not of digits. -/
def lookE (l : List UInt8) : Int := if l.all isDig = true then (if l.length ≤ 999 then 0 else 2) else 4
theorem lookE_ok {l : List UInt8} : lookE l = 0 ↔ l.all isDig = true ∧ l.length ≤ 999 := by
  unfold lookE
  by_cases h : l.all isDig = true
  · rw [if_pos h]; by_cases k : l.length ≤ 999 <;> simp [h, k]
  · rw [if_neg h]; simp [h]
theorem lookE_form {l : List UInt8} (h : l.all isDig = false) : lookE l = 4 := by simp [lookE, h]
theorem lookE_long {l : List UInt8} (h : l.all isDig = true) (hl : 999 < l.length) : lookE l = 2 := by
  unfold lookE; rw [if_pos h, if_neg (by omega)]
theorem dig_at {l : List UInt8} (h : l.all isDig = true) {k : Nat} (hk : k < l.length) : 48 ≤ (l[k]).toNat ∧ (l[k]).toNat ≤ 57 :=
  isDig_iff.1 ((List.all_eq_true.1 h) _ (List.getElem_mem hk))

/-! ### the Luhn sum -/
def tw (d : Nat) : Nat := if 9 < 2 * d then 2 * d - 9 else 2 * d
/-- The Luhn sum of a text with b digits behind it. -/
def wsum : List UInt8 → Nat → Nat
  | [], _ => 0
  | c :: l, b => (if (l.length + b) % 2 = 1 then tw (dg c) else dg c) + wsum l b
theorem tw_le {d : Nat} (h : d ≤ 9) : tw d ≤ 9 := by unfold tw; split <;> omega
theorem dg_le {c : UInt8} (h : isDig c = true) : dg c ≤ 9 := by have := isDig_iff.1 h; unfold dg; omega
theorem wsum_le : ∀ (l : List UInt8) (b : Nat), l.all isDig = true → wsum l b ≤ 9 * l.length
  | [], _, _ => by simp [wsum]
  | c :: l, b, h => by
    simp only [List.all_cons, Bool.and_eq_true] at h
    have h1 := wsum_le l b h.2
    have h2 := dg_le h.1
    have h3 := tw_le h2
    simp only [wsum, List.length_cons]
    split <;> omega
theorem wsum_drop (l : List UInt8) (b k : Nat) (hk : k < l.length) :
    wsum (l.drop k) b = (if (l.length - 1 - k + b) % 2 = 1 then tw (dg l[k]) else dg l[k]) + wsum (l.drop (k + 1)) b := by
  rw [List.drop_eq_getElem_cons hk]
  simp only [wsum, List.length_drop]
  rw [show l.length - (k + 1) = l.length - 1 - k by omega]
theorem wsum_append : ∀ (l m : List UInt8) (b : Nat), wsum (l ++ m) b = wsum l (m.length + b) + wsum m b
  | [], m, b => by simp [wsum]
  | c :: l, m, b => by
    simp only [List.cons_append, wsum, List.length_append, wsum_append l m b]
    rw [show l.length + m.length + b = l.length + (m.length + b) by omega]
    omega
theorem wsum_par : ∀ (l : List UInt8) (b : Nat), wsum l (b + 2) = wsum l b
  | [], b => by simp [wsum]
  | c :: l, b => by
    simp only [wsum, wsum_par l b]
    rw [show (l.length + (b + 2)) % 2 = (l.length + b) % 2 by omega]

/-- The check digit. -/
def luhn (l : List UInt8) : Nat := (10 - wsum l 1 % 10) % 10
theorem luhn_le (l : List UInt8) : luhn l ≤ 9 := by unfold luhn; omega
def luhnV (l : List UInt8) : Int := if lookE l = 0 then (luhn l : Int) else 0
/-- Valid. -/
def validB (l : List UInt8) : Bool := !l.isEmpty && decide (lookE l = 0) && decide (wsum l 0 % 10 = 0)
theorem validB_iff {l : List UInt8} : validB l = true ↔ l ≠ [] ∧ lookE l = 0 ∧ wsum l 0 % 10 = 0 := by
  unfold validB
  cases l <;> simp

/-- A digit's sign. -/
def sg (d : Nat) : UInt8 := UInt8.ofNat (48 + d)
theorem sg_toNat {d : Nat} (h : d ≤ 9) : (sg d).toNat = 48 + d := by
  unfold sg
  rw [UInt8.toNat_ofNat']
  omega
theorem dg_sg {d : Nat} (h : d ≤ 9) : dg (sg d) = d := by unfold dg; rw [sg_toNat h]; omega
theorem isDig_sg {d : Nat} (h : d ≤ 9) : isDig (sg d) = true := isDig_iff.2 (by rw [sg_toNat h]; omega)
theorem sg_dg {c : UInt8} (h : isDig c = true) : sg (dg c) = c := by
  have := isDig_iff.1 h
  apply UInt8.toNat_inj.1
  rw [sg_toNat (dg_le h)]
  unfold dg
  omega
theorem dg_inj {c d : UInt8} (hc : isDig c = true) (hd : isDig d = true) (h : dg c = dg d) : c = d := by
  rw [← sg_dg hc, ← sg_dg hd, h]
theorem wsum_snoc (l : List UInt8) {d : Nat} (h : d ≤ 9) : wsum (l ++ [sg d]) 0 = wsum l 1 + d := by
  rw [wsum_append]
  simp [wsum, dg_sg h]
/-- With the digit d behind it the sum is a multiple of ten just if d is the check digit. -/
theorem luhn_iff (l : List UInt8) {d : Nat} (h : d ≤ 9) : wsum (l ++ [sg d]) 0 % 10 = 0 ↔ d = luhn l := by
  rw [wsum_snoc l h]
  unfold luhn
  omega
theorem lookE_snoc {l : List UInt8} {d : Nat} (h : d ≤ 9) (hl : lookE l = 0) (hlen : l.length < 999) : lookE (l ++ [sg d]) = 0 := by
  obtain ⟨h1, h2⟩ := lookE_ok.1 hl
  refine lookE_ok.2 ⟨?_, by simp; omega⟩
  rw [List.all_append, h1]
  simp [isDig_sg h]

/-! ### packing -/
/-- With a nought ahead where their number is odd. -/
def evened (l : List UInt8) : List UInt8 := if l.length % 2 = 1 then 48 :: l else l
/-- Two by two. -/
def pairs : List UInt8 → List UInt8
  | a :: b :: l => UInt8.ofNat (dg a * 16 + dg b) :: pairs l
  | _ => []
def packB (l : List UInt8) : List UInt8 := if lookE l = 0 then pairs (evened l) else []
theorem length_evened (l : List UInt8) : (evened l).length = 2 * ((l.length + 1) / 2) := by
  unfold evened
  by_cases h : l.length % 2 = 1
  · rw [if_pos h, List.length_cons]; omega
  · rw [if_neg h]; omega
theorem length_pairs : ∀ (n : Nat) (l : List UInt8), l.length = 2 * n → (pairs l).length = n
  | 0, l, h => by
    have : l = [] := List.eq_nil_of_length_eq_zero (by omega)
    subst this; rfl
  | n + 1, a :: b :: l, h => by
    simp only [List.length_cons] at h
    simp [pairs, length_pairs n l (by omega)]
  | n + 1, [a], h => by simp only [List.length_cons, List.length_nil] at h; omega
  | n + 1, [], h => by simp at h
theorem length_packB {l : List UInt8} (h : lookE l = 0) : (packB l).length = (l.length + 1) / 2 := by
  unfold packB; rw [if_pos h]; exact length_pairs _ _ (length_evened l)
theorem pairs_at : ∀ (l : List UInt8) (j : Nat) (h : 2 * j + 1 < l.length), (pairs l)[j]? = some (UInt8.ofNat (dg (l[2 * j]'(by omega)) * 16 + dg (l[2 * j + 1]'h)))
  | a :: b :: l, 0, h => by simp [pairs]
  | a :: b :: l, j + 1, h => by
    simp only [List.length_cons] at h
    have := pairs_at l j (by omega)
    simp only [pairs, List.getElem?_cons_succ, this]
    simp [show 2 * (j + 1) = 2 * j + 1 + 1 by omega]
  | [a], j, h => by simp only [List.length_cons, List.length_nil] at h; omega
  | [], j, h => by simp at h
theorem evened_at (l : List UInt8) (k : Nat) (hk : k < l.length) : (evened l)[k + l.length % 2]? = some l[k] := by
  unfold evened
  split
  · next h => rw [h]; simp [hk]
  · next h => rw [show l.length % 2 = 0 by omega]; simp [hk]
theorem evened_dig {l : List UInt8} (h : l.all isDig = true) : (evened l).all isDig = true := by
  unfold evened; split
  · simp only [List.all_cons, h, Bool.and_true]; decide
  · exact h

/-! ### packing digit by digit -/
/-- Byte j when k digits have been laid. -/
def pkAt (l : List UInt8) (k j : Nat) : Nat := (if 2 * j < k + l.length % 2 then dg ((evened l).getD (2 * j) 48) * 16 else 0) + (if 2 * j + 1 < k + l.length % 2 then dg ((evened l).getD (2 * j + 1) 48) else 0)
theorem evened_getD (l : List UInt8) (k : Nat) (hk : k < l.length) : (evened l).getD (k + l.length % 2) 48 = l[k] := by
  rw [List.getD_eq_getElem?_getD, evened_at l k hk]; rfl
theorem evened_nought (l : List UInt8) (h : l.length % 2 = 1) : (evened l).getD 0 48 = 48 := by unfold evened; rw [if_pos h]; rfl
theorem dg_evened {l : List UInt8} (h : l.all isDig = true) (i : Nat) : dg ((evened l).getD i 48) ≤ 9 := by
  rw [List.getD_eq_getElem?_getD]
  by_cases hi : i < (evened l).length
  · rw [List.getElem?_eq_getElem hi]
    exact dg_le (List.all_eq_true.1 (evened_dig h) _ (List.getElem_mem hi))
  · rw [List.getElem?_eq_none (by omega)]; decide
theorem pk_zero (l : List UInt8) (j : Nat) : pkAt l 0 j = 0 := by
  unfold pkAt
  rw [if_neg (c := 2 * j + 1 < 0 + l.length % 2) (by omega)]
  by_cases h : 2 * j < 0 + l.length % 2
  · rw [if_pos h, show 2 * j = 0 by omega, evened_nought l (by omega)]; rfl
  · rw [if_neg h]
theorem pk_other (l : List UInt8) (k j : Nat) (hj : j ≠ (k + l.length % 2) / 2) : pkAt l (k + 1) j = pkAt l k j := by
  unfold pkAt
  congr 1
  · by_cases h : 2 * j < k + l.length % 2
    · rw [if_pos h, if_pos (by omega)]
    · rw [if_neg h, if_neg (by omega)]
  · by_cases h : 2 * j + 1 < k + l.length % 2
    · rw [if_pos h, if_pos (by omega)]
    · rw [if_neg h, if_neg (by omega)]
theorem pk_high (l : List UInt8) (k : Nat) (hk : k < l.length) (hp : (k + l.length % 2) % 2 = 0) :
    pkAt l k ((k + l.length % 2) / 2) = 0 ∧ pkAt l (k + 1) ((k + l.length % 2) / 2) = dg l[k] * 16 := by
  have e : 2 * ((k + l.length % 2) / 2) = k + l.length % 2 := by omega
  constructor
  · unfold pkAt
    rw [e, if_neg (by omega), if_neg (by omega)]
  · unfold pkAt
    rw [e, if_pos (by omega), if_neg (by omega), evened_getD l k hk]
    rfl
theorem pk_low (l : List UInt8) (k : Nat) (hd : l.all isDig = true) (hk : k < l.length) (hp : (k + l.length % 2) % 2 = 1) :
    ∃ a, a ≤ 9 ∧ pkAt l k ((k + l.length % 2) / 2) = a * 16 ∧ pkAt l (k + 1) ((k + l.length % 2) / 2) = a * 16 + dg l[k] := by
  have e : 2 * ((k + l.length % 2) / 2) + 1 = k + l.length % 2 := by omega
  refine ⟨_, dg_evened hd (2 * ((k + l.length % 2) / 2)), ?_, ?_⟩
  · unfold pkAt
    rw [e, if_pos (by omega), if_neg (by omega)]
    rfl
  · unfold pkAt
    rw [e, if_pos (by omega), if_pos (by omega), evened_getD l k hk]
theorem pk_end (l : List UInt8) (hd : l.all isDig = true) (j : Nat) (hj : j < (l.length + 1) / 2) : ((pairs (evened l))[j]?.map UInt8.toNat) = some (pkAt l l.length j) := by
  have hl := length_evened l
  have h1 : 2 * j + 1 < (evened l).length := by omega
  rw [pairs_at (evened l) j h1]
  have a := dg_evened hd (2 * j)
  have b := dg_evened hd (2 * j + 1)
  rw [List.getD_eq_getElem?_getD, List.getElem?_eq_getElem (by omega)] at a b
  simp only [Option.getD_some] at a b
  simp only [Option.map_some, Option.some.injEq, UInt8.toNat_ofNat']
  unfold pkAt
  rw [if_pos (by omega), if_pos (by omega), List.getD_eq_getElem?_getD, List.getD_eq_getElem?_getD, List.getElem?_eq_getElem (by omega), List.getElem?_eq_getElem (by omega)]
  simp only [Option.getD_some]
  omega

/-! ### the text of a number -/
/-- The last w digits of n. -/
def textD (n w : Nat) : List UInt8 := (List.range w).map fun j => sg (n / 10 ^ (w - 1 - j) % 10)
theorem length_textD (n w : Nat) : (textD n w).length = w := by simp [textD]
theorem textD_succ (n w : Nat) : textD n (w + 1) = sg (n / 10 ^ w % 10) :: textD n w := by
  unfold textD
  rw [List.range_succ_eq_map, List.map_cons, List.map_map]
  refine congr (congrArg _ (by simp)) (List.map_congr_left fun j hj => ?_)
  simp only [Function.comp]
  rw [show w + 1 - 1 - (j + 1) = w - 1 - j by omega]
/-- What is wrong with a number and a width. -/
def textE (n w : Int) : Int := if n < 0 ∨ w < 1 ∨ 19 < w then 1 else if 10 ^ w.toNat ≤ n.toNat then 5 else 0
def textV (n w : Int) : List UInt8 := if textE n w = 0 then textD n.toNat w.toNat else []
theorem textE_arg {n w : Int} (h : n < 0 ∨ w < 1 ∨ 19 < w) : textE n w = 1 := if_pos h
theorem textE_num {n w : Int} (h : ¬ (n < 0 ∨ w < 1 ∨ 19 < w)) (h2 : 0 < n.toNat / 10 ^ w.toNat) : textE n w = 5 := by
  unfold textE
  rw [if_neg h, if_pos]
  rcases Nat.lt_or_ge n.toNat (10 ^ w.toNat) with h3 | h3
  · rw [Nat.div_eq_of_lt h3] at h2; omega
  · exact h3
theorem textE_ok {n w : Int} (h : ¬ (n < 0 ∨ w < 1 ∨ 19 < w)) (h2 : ¬ 0 < n.toNat / 10 ^ w.toNat) : textE n w = 0 := by
  unfold textE
  rw [if_neg h, if_neg]
  intro h3
  have := Nat.div_pos h3 (Nat.pow_pos (by omega : 0 < 10))
  omega
theorem div_pow_succ (n k : Nat) : n / 10 ^ k / 10 = n / 10 ^ (k + 1) := by rw [Nat.div_div_eq_div_mul, Nat.pow_succ]
theorem textV_no {n w : Int} (h : textE n w ≠ 0) : textV n w = [] := if_neg h
theorem textV_ok {n w : Int} (h : textE n w = 0) : textV n w = textD n.toNat w.toNat := if_pos h
end Go.Proofs.YtogpnlfbdhddmaaGreatDoor
namespace Go.Proofs.YtogpnlfbdhddmaaGreatDoor

/-- The number of digits. -/
def valD (l : List UInt8) : Nat := l.foldl (fun n c => 10 * n + dg c) 0
theorem val_from (l : List UInt8) : ∀ n, l.foldl (fun n c => 10 * n + dg c) n = n * 10 ^ l.length + valD l := by
  unfold valD
  induction l with
  | nil => intro n; simp
  | cons c l ih =>
    intro n
    simp only [List.foldl_cons, List.length_cons]
    rw [ih (10 * n + dg c), ih (10 * 0 + dg c), Nat.pow_succ, Nat.add_mul, Nat.mul_zero, Nat.zero_add, Nat.mul_comm 10 n, Nat.mul_assoc, Nat.mul_comm 10 (10 ^ l.length), Nat.add_assoc]
theorem val_cons (c : UInt8) (l : List UInt8) : valD (c :: l) = dg c * 10 ^ l.length + valD l := by
  have := val_from l (10 * 0 + dg c)
  simpa [valD] using this
theorem val_snoc (l : List UInt8) (c : UInt8) : valD (l ++ [c]) = 10 * valD l + dg c := by simp [valD]
theorem val_append (l m : List UInt8) : valD (l ++ m) = valD l * 10 ^ m.length + valD m := by
  have := val_from m (valD l)
  simpa [valD] using this
theorem val_lt : ∀ (l : List UInt8), l.all isDig = true → valD l < 10 ^ l.length
  | [], _ => by simp [valD]
  | c :: l, h => by
    simp only [List.all_cons, Bool.and_eq_true] at h
    have h1 := val_lt l h.2
    have h2 := dg_le h.1
    rw [val_cons, List.length_cons, Nat.pow_succ]
    have : dg c * 10 ^ l.length ≤ 9 * 10 ^ l.length := Nat.mul_le_mul_right _ h2
    omega
/-- Without the noughts ahead. -/
def trimZ (l : List UInt8) : List UInt8 := l.dropWhile (· == 48)
theorem trim_all {l : List UInt8} (h : l.all isDig = true) : (trimZ l).all isDig = true := by
  rw [List.all_eq_true] at h ⊢
  exact fun c hc => h c (List.dropWhile_sublist _ |>.subset hc)
theorem val_trim : ∀ (l : List UInt8), valD (trimZ l) = valD l
  | [] => rfl
  | c :: l => by
    unfold trimZ
    rw [List.dropWhile_cons]
    by_cases hc : (c == 48) = true
    · rw [if_pos hc]
      have e : c = 48 := by simpa using hc
      rw [val_cons, e, show dg 48 = 0 from rfl, Nat.zero_mul, Nat.zero_add]
      exact val_trim l
    · rw [if_neg hc]
theorem trim_head {l : List UInt8} {c : UInt8} {m : List UInt8} (h : trimZ l = c :: m) : c ≠ 48 := by
  induction l with
  | nil => simp [trimZ] at h
  | cons x l ih =>
    unfold trimZ at h
    rw [List.dropWhile_cons] at h
    by_cases hx : (x == 48) = true
    · rw [if_pos hx] at h; exact ih h
    · rw [if_neg hx] at h
      injection h with h1 _
      subst h1
      simpa using hx
/-- A long number without noughts ahead is great. -/
theorem trim_big {l : List UInt8} (h : l.all isDig = true) (hl : 19 < (trimZ l).length) : 9223372036854775807 < valD l := by
  rw [← val_trim]
  have ha := trim_all h
  cases ht : trimZ l with
  | nil => rw [ht] at hl; simp at hl
  | cons c m =>
    have hc := trim_head ht
    rw [ht] at ha hl
    simp only [List.all_cons, Bool.and_eq_true] at ha
    have hd : 1 ≤ dg c := by
      have := isDig_iff.1 ha.1
      unfold dg
      have : c.toNat ≠ 48 := fun e => hc (UInt8.toNat_inj.1 e)
      omega
    rw [val_cons]
    have hm : 19 ≤ m.length := by rw [List.length_cons] at hl; omega
    have hp : 10 ^ 19 ≤ 10 ^ m.length := Nat.pow_le_pow_right (by decide) hm
    have : 1 * 10 ^ m.length ≤ dg c * 10 ^ m.length := Nat.mul_le_mul_right _ hd
    have e : (10 : Nat) ^ 19 = 10000000000000000000 := by decide
    omega
/-- What Number says is wrong. -/
def numE (l : List UInt8) : Int := if lookE l = 0 then (if l = [] then 3 else if valD l ≤ 9223372036854775807 then 0 else 5) else lookE l
def numV (l : List UInt8) : Int := if numE l = 0 then (valD l : Int) else 0
theorem numE_look {l : List UInt8} (h : lookE l ≠ 0) : numE l = lookE l := if_neg h
theorem lookE_nil : lookE [] = 0 := by decide
theorem numE_nil : numE [] = 3 := by decide
theorem numE_big {l : List UInt8} (h : lookE l = 0) (h0 : l ≠ []) (hb : 9223372036854775807 < valD l) : numE l = 5 := by unfold numE; rw [if_pos h, if_neg h0, if_neg (by omega)]
theorem numE_ok {l : List UInt8} (h : lookE l = 0) (h0 : l ≠ []) (hb : valD l ≤ 9223372036854775807) : numE l = 0 := by unfold numE; rw [if_pos h, if_neg h0, if_pos hb]
theorem numV_no {l : List UInt8} (h : numE l ≠ 0) : numV l = 0 := if_neg h
theorem numV_ok {l : List UInt8} (h : numE l = 0) : numV l = (valD l : Int) := if_pos h
theorem numE_zero {l : List UInt8} (h : numE l = 0) : lookE l = 0 ∧ l ≠ [] ∧ valD l ≤ 9223372036854775807 := by
  unfold numE at h
  by_cases h1 : lookE l = 0
  · rw [if_pos h1] at h
    by_cases h2 : l = []
    · rw [if_pos h2] at h; cases h
    · rw [if_neg h2] at h
      by_cases h3 : valD l ≤ 9223372036854775807
      · exact ⟨h1, h2, h3⟩
      · rw [if_neg h3] at h; cases h
  · rw [if_neg h1] at h; exact absurd h h1
/-! ### a number's digits tell it -/
theorem textD_dig (n : Nat) : ∀ w, (textD n w).all isDig = true := fun w => by
  rw [List.all_eq_true]
  intro c hc
  simp only [textD, List.mem_map, List.mem_range] at hc
  obtain ⟨j, _, rfl⟩ := hc
  exact isDig_sg (by omega)
theorem val_textD (n : Nat) : ∀ w, valD (textD n w) = n % 10 ^ w
  | 0 => by simp [textD, valD, Nat.mod_one]
  | w + 1 => by
    rw [textD_succ, val_cons, dg_sg (by omega), length_textD, val_textD n w]
    have h1 := Nat.div_add_mod n (10 ^ w)
    have h3 : n / 10 ^ w % 10 * 10 ^ w + n % 10 ^ w = n % (10 ^ w * 10) := by
      rw [Nat.mod_mul, Nat.mul_comm (10 ^ w), Nat.add_comm]
    rw [h3, Nat.pow_succ]
theorem lookE_textD {n w : Nat} (h : w ≤ 999) : lookE (textD n w) = 0 := lookE_ok.2 ⟨textD_dig n w, by rw [length_textD]; exact h⟩
/-- Noughts ahead change no number. -/
theorem val_noughts (k : Nat) (l : List UInt8) : valD (List.replicate k 48 ++ l) = valD l := by
  induction k with
  | zero => rfl
  | succ k ih => rw [List.replicate_succ, List.cons_append, val_cons, ih]; simp [dg]
end Go.Proofs.YtogpnlfbdhddmaaGreatDoor
namespace Go.Proofs.YtogpnlfbdhddmaaGreatDoor
/-! ### unpacking -/
/-- A byte whose halves are digits. -/
def okB (c : UInt8) : Bool := decide (c.toNat / 16 ≤ 9 ∧ c.toNat % 16 ≤ 9)
theorem okB_iff {c : UInt8} : okB c = true ↔ c.toNat / 16 ≤ 9 ∧ c.toNat % 16 ≤ 9 := by simp [okB]
def unp (l : List UInt8) : List UInt8 := l.flatMap fun c => [sg (c.toNat / 16), sg (c.toNat % 16)]
theorem unp_snoc (l : List UInt8) (c : UInt8) : unp (l ++ [c]) = unp l ++ [sg (c.toNat / 16), sg (c.toNat % 16)] := by simp [unp]
theorem length_unp : ∀ (l : List UInt8), (unp l).length = 2 * l.length
  | [] => rfl
  | c :: l => by
    have := length_unp l
    have e : unp (c :: l) = [sg (c.toNat / 16), sg (c.toNat % 16)] ++ unp l := rfl
    rw [e, List.length_append, this]
    simp only [List.length_cons, List.length_nil]
    omega
/-- What Unpack says is wrong. -/
def unpackE (l : List UInt8) (n : Int) : Int :=
  if n < 0 then 1 else if 999 < n then 2 else if (l.length : Int) < (n + 1) / 2 then 3 else
  if (l.take ((n + 1) / 2).toNat).all okB = false then 4 else
  if n % 2 = 1 ∧ (unp (l.take ((n + 1) / 2).toNat)).head? ≠ some 48 then 4 else 0
/-- The digits that Unpack answers. -/
def unpackS (l : List UInt8) (n : Int) : List UInt8 := if unpackE l n = 0 then (unp (l.take ((n + 1) / 2).toNat)).drop (n % 2).toNat else []
/-- How many bytes they take. -/
def unpackK (l : List UInt8) (n : Int) : Int := if unpackE l n = 0 then (n + 1) / 2 else 0
theorem unpackE_neg {l : List UInt8} {n : Int} (h : n < 0) : unpackE l n = 1 := if_pos h
theorem unpackE_long {l : List UInt8} {n : Int} (h : 999 < n) : unpackE l n = 2 := by unfold unpackE; rw [if_neg (by omega), if_pos h]
theorem unpackE_end {l : List UInt8} {n : Int} (h0 : 0 ≤ n) (h1 : n ≤ 999) (h : (l.length : Int) < (n + 1) / 2) : unpackE l n = 3 := by
  unfold unpackE; rw [if_neg (by omega), if_neg (by omega), if_pos h]
theorem unpackE_form {l : List UInt8} {n : Int} (h0 : 0 ≤ n) (h1 : n ≤ 999) (h : ¬ (l.length : Int) < (n + 1) / 2) (hf : (l.take ((n + 1) / 2).toNat).all okB = false) : unpackE l n = 4 := by
  unfold unpackE; rw [if_neg (by omega), if_neg (by omega), if_neg h, if_pos hf]
theorem unpackE_odd {l : List UInt8} {n : Int} (h0 : 0 ≤ n) (h1 : n ≤ 999) (h : ¬ (l.length : Int) < (n + 1) / 2) (hf : (l.take ((n + 1) / 2).toNat).all okB = true) (h2 : n % 2 = 1 ∧ (unp (l.take ((n + 1) / 2).toNat)).head? ≠ some 48) : unpackE l n = 4 := by
  unfold unpackE; rw [if_neg (by omega), if_neg (by omega), if_neg h, if_neg (by rw [hf]; decide), if_pos h2]
theorem unpackE_ok {l : List UInt8} {n : Int} (h0 : 0 ≤ n) (h1 : n ≤ 999) (h : ¬ (l.length : Int) < (n + 1) / 2) (hf : (l.take ((n + 1) / 2).toNat).all okB = true) (h2 : ¬ (n % 2 = 1 ∧ (unp (l.take ((n + 1) / 2).toNat)).head? ≠ some 48)) : unpackE l n = 0 := by
  unfold unpackE; rw [if_neg (by omega), if_neg (by omega), if_neg h, if_neg (by rw [hf]; decide), if_neg h2]
theorem unpackS_no {l : List UInt8} {n : Int} (h : unpackE l n ≠ 0) : unpackS l n = [] := if_neg h
theorem unpackK_no {l : List UInt8} {n : Int} (h : unpackE l n ≠ 0) : unpackK l n = 0 := if_neg h
theorem unpackS_ok {l : List UInt8} {n : Int} (h : unpackE l n = 0) : unpackS l n = (unp (l.take ((n + 1) / 2).toNat)).drop (n % 2).toNat := if_pos h
theorem unpackK_ok {l : List UInt8} {n : Int} (h : unpackE l n = 0) : unpackK l n = (n + 1) / 2 := if_pos h
end Go.Proofs.YtogpnlfbdhddmaaGreatDoor
namespace Go.Proofs.YtogpnlfbdhddmaaGreatDoor

theorem half_byte {c : UInt8} : UInt8.ofNat (c.toNat / 16 * 16 + c.toNat % 16) = c := by
  rw [show c.toNat / 16 * 16 + c.toNat % 16 = c.toNat by omega]; simp
theorem pairs_unp : ∀ (l : List UInt8), l.all okB = true → pairs (unp l) = l
  | [], _ => rfl
  | c :: l, h => by
    simp only [List.all_cons, Bool.and_eq_true] at h
    have h1 := okB_iff.1 h.1
    have e : unp (c :: l) = sg (c.toNat / 16) :: sg (c.toNat % 16) :: unp l := rfl
    rw [e, pairs, pairs_unp l h.2, dg_sg h1.1, dg_sg h1.2, half_byte]
theorem unp_dig : ∀ (l : List UInt8), l.all okB = true → (unp l).all isDig = true
  | [], _ => rfl
  | c :: l, h => by
    simp only [List.all_cons, Bool.and_eq_true] at h
    have h1 := okB_iff.1 h.1
    have e : unp (c :: l) = sg (c.toNat / 16) :: sg (c.toNat % 16) :: unp l := rfl
    rw [e]
    simp only [List.all_cons, unp_dig l h.2, isDig_sg h1.1, isDig_sg h1.2, Bool.and_self]
theorem pair_nat {a b : Nat} (ha : a ≤ 9) (hb : b ≤ 9) : (UInt8.ofNat (a * 16 + b)).toNat = a * 16 + b := by
  rw [UInt8.toNat_ofNat']; omega
theorem unp_pairs : ∀ (n : Nat) (l : List UInt8), l.length = 2 * n → l.all isDig = true → unp (pairs l) = l ∧ (pairs l).all okB = true
  | 0, l, h, _ => by
    have : l = [] := List.eq_nil_of_length_eq_zero (by omega)
    subst this; exact ⟨rfl, rfl⟩
  | n + 1, a :: b :: l, h, hd => by
    simp only [List.length_cons] at h
    simp only [List.all_cons, Bool.and_eq_true] at hd
    have ha := dg_le hd.1
    have hb := dg_le hd.2.1
    obtain ⟨h1, h2⟩ := unp_pairs n l (by omega) hd.2.2
    have e : unp (pairs (a :: b :: l)) = sg ((UInt8.ofNat (dg a * 16 + dg b)).toNat / 16) :: sg ((UInt8.ofNat (dg a * 16 + dg b)).toNat % 16) :: unp (pairs l) := rfl
    refine ⟨?_, ?_⟩
    · rw [e, h1, pair_nat ha hb, show (dg a * 16 + dg b) / 16 = dg a by omega, show (dg a * 16 + dg b) % 16 = dg b by omega, sg_dg hd.1, sg_dg hd.2.1]
    · simp only [pairs, List.all_cons, h2, Bool.and_true]
      exact okB_iff.2 (by rw [pair_nat ha hb]; omega)
  | n + 1, [a], h, _ => by simp only [List.length_cons, List.length_nil] at h; omega
  | n + 1, [], h, _ => by simp at h

theorem evened_head {l : List UInt8} (h : l.length % 2 = 1) : evened l = 48 :: l := if_pos h
theorem evened_same {l : List UInt8} (h : ¬ l.length % 2 = 1) : evened l = l := if_neg h
theorem evened_drop (l : List UInt8) : (evened l).drop (l.length % 2) = l := by
  by_cases h : l.length % 2 = 1
  · rw [evened_head h, h]; rfl
  · rw [evened_same h, show l.length % 2 = 0 by omega]; rfl

/-- Unpacking what was packed. -/
theorem back_unp {l m : List UInt8} (h : lookE l = 0) : unpackE (packB l ++ m) l.length = 0 ∧ unpackS (packB l ++ m) l.length = l ∧ unpackK (packB l ++ m) l.length = ((packB l).length : Int) := by
  obtain ⟨hd, h9⟩ := lookE_ok.1 h
  have hp := length_packB h
  have ht : (packB l ++ m).take (((l.length : Int) + 1) / 2).toNat = packB l := by
    rw [show (((l.length : Int) + 1) / 2).toNat = (packB l).length by omega, List.take_left']; rfl
  have hpe : packB l = pairs (evened l) := if_pos h
  obtain ⟨h1, h2⟩ := unp_pairs _ (evened l) (length_evened l) (evened_dig hd)
  rw [← hpe] at h1 h2
  have he : unpackE (packB l ++ m) l.length = 0 := by
    refine unpackE_ok (by omega) (by omega) (by rw [List.length_append]; omega) (by rw [ht]; exact h2) ?_
    rw [ht, h1]
    rintro ⟨h3, h4⟩
    rw [evened_head (by omega)] at h4
    exact h4 rfl
  refine ⟨he, ?_, ?_⟩
  · rw [unpackS_ok he, ht, h1, show ((l.length : Int) % 2).toNat = l.length % 2 by omega]
    exact evened_drop l
  · rw [unpackK_ok he]; omega

/-- Packing what was unpacked. -/
theorem back_pack {l : List UInt8} {n : Int} (h : unpackE l n = 0) : lookE (unpackS l n) = 0 ∧ ((unpackS l n).length : Int) = n ∧ 0 ≤ unpackK l n ∧ unpackK l n ≤ l.length ∧ packB (unpackS l n) = l.take (unpackK l n).toNat := by
  by_cases c1 : n < 0
  · rw [unpackE_neg c1] at h; cases h
  by_cases c2 : 999 < n
  · rw [unpackE_long c2] at h; cases h
  by_cases c3 : (l.length : Int) < (n + 1) / 2
  · rw [unpackE_end (by omega) (by omega) c3] at h; cases h
  by_cases c4 : (l.take ((n + 1) / 2).toNat).all okB = false
  · rw [unpackE_form (by omega) (by omega) c3 c4] at h; cases h
  have c4' : (l.take ((n + 1) / 2).toNat).all okB = true := by simpa using c4
  by_cases c5 : n % 2 = 1 ∧ (unp (l.take ((n + 1) / 2).toNat)).head? ≠ some 48
  · rw [unpackE_odd (by omega) (by omega) c3 c4' c5] at h; cases h
  have hS := unpackS_ok h
  have hK := unpackK_ok h
  have hlt : (l.take ((n + 1) / 2).toNat).length = ((n + 1) / 2).toNat := by rw [List.length_take]; omega
  have hu := length_unp (l.take ((n + 1) / 2).toNat)
  rw [hlt] at hu
  have hdg := unp_dig _ c4'
  have hpu := pairs_unp _ c4'
  rw [hS, hK]
  generalize hU : unp (l.take ((n + 1) / 2).toNat) = U at *
  have hlen : ((U.drop (n % 2).toNat).length : Int) = n := by rw [List.length_drop]; omega
  have hdd : (U.drop (n % 2).toNat).all isDig = true := by
    rw [List.all_eq_true] at hdg ⊢
    exact fun c hc => hdg c (List.mem_of_mem_drop hc)
  have hl : lookE (U.drop (n % 2).toNat) = 0 := lookE_ok.2 ⟨hdd, by omega⟩
  refine ⟨hl, hlen, by omega, by omega, ?_⟩
  have hev : evened (U.drop (n % 2).toNat) = U := by
    by_cases hp : n % 2 = 1
    · rw [evened_head (by omega)]
      have h48 : U.head? = some 48 := by
        by_cases q : U.head? = some 48
        · exact q
        · exact absurd ⟨hp, q⟩ c5
      rw [hp]
      cases U with
      | nil => cases h48
      | cons a r =>
        simp only [List.head?_cons, Option.some.injEq] at h48
        subst h48; rfl
    · rw [evened_same (by omega), show (n % 2).toNat = 0 by omega]; rfl
  unfold packB
  rw [if_pos hl, hev, hpu]

/-- A number's text tells it. -/
theorem back_text {n w : Int} (h63 : n ≤ 9223372036854775807) (h : textE n w = 0) : numE (textV n w) = 0 ∧ numV (textV n w) = n ∧ ((textV n w).length : Int) = w ∧ (textV n w).length ≤ 19 := by
  by_cases h1 : n < 0 ∨ w < 1 ∨ 19 < w
  · rw [textE_arg h1] at h; cases h
  have h2 : ¬ 0 < n.toNat / 10 ^ w.toNat := by
    intro h2; rw [textE_num h1 h2] at h; cases h
  have h3 : n.toNat < 10 ^ w.toNat := by
    rcases Nat.lt_or_ge n.toNat (10 ^ w.toNat) with h4 | h4
    · exact h4
    · exact absurd (Nat.div_pos h4 (Nat.pow_pos (by omega : 0 < 10))) h2
  have hv := val_textD n.toNat w.toNat
  rw [Nat.mod_eq_of_lt h3] at hv
  have hlen := length_textD n.toNat w.toNat
  have hne : textD n.toNat w.toNat ≠ [] := by intro e; rw [e] at hlen; simp at hlen; omega
  have hE := numE_ok (lookE_textD (n := n.toNat) (w := w.toNat) (by omega)) hne (by rw [hv]; omega)
  rw [textV_ok h]
  exact ⟨hE, by rw [numV_ok hE, hv]; omega, by omega, by omega⟩
/-- The digits of the value of digits. -/
theorem textD_val : ∀ (l : List UInt8), l.all isDig = true → textD (valD l) l.length = l := by
  intro l
  induction l with
  | nil => intro _; rfl
  | cons c l ih =>
    intro h
    have hc : isDig c = true := by simp at h; exact h.1
    have hl : l.all isDig = true := by simp at h ⊢; exact h.2
    have hlt := val_lt l hl
    have h9 := dg_le hc
    rw [List.length_cons, textD_succ, val_cons]
    have hp : 0 < 10 ^ l.length := Nat.pow_pos (by decide)
    have e1 : (dg c * 10 ^ l.length + valD l) / 10 ^ l.length % 10 = dg c := by
      rw [Nat.mul_comm, Nat.mul_add_div hp, Nat.div_eq_of_lt hlt]; omega
    rw [e1, sg_dg hc]
    congr 1
    have e2 : ∀ (m w : Nat), textD (m * 10 ^ w + valD l) w = textD (valD l) w := by
      intro m w
      unfold textD
      apply List.map_congr_left
      intro j hj
      have hj2 : j < w := by simpa using hj
      congr 1
      have : m * 10 ^ w = 10 ^ (w - 1 - j) * (10 * (m * 10 ^ j)) := by
        have : w = (w - 1 - j) + (1 + j) := by omega
        rw [this]
        simp only [Nat.pow_add, Nat.pow_one]
        rw [show w - 1 - j + (1 + j) - 1 - j = w - 1 - j by omega]
        generalize 10 ^ (w - 1 - j) = x
        generalize 10 ^ j = y
        rw [Nat.mul_comm m, Nat.mul_assoc, Nat.mul_assoc]; congr 1; rw [Nat.mul_comm y]
      rw [this, Nat.mul_add_div (Nat.pow_pos (by decide))]
      omega
    rw [e2]
    exact ih hl
end Go.Proofs.YtogpnlfbdhddmaaGreatDoor
namespace Go.Proofs.YtogpnlfbdhddmaaGreatDoor

/-! ### a number's digits -/
def dec (n : Nat) : List UInt8 := Go.Lib.decDigits n
theorem dec_one {n : Nat} (h : n < 10) : dec n = [sg n] := Go.Lib.decDigits_one h
theorem dec_more {n : Nat} (h : ¬ n < 10) : dec n = dec (n / 10) ++ [sg (n % 10)] := by
  unfold dec
  rw [Go.Lib.decDigits, dif_neg h]
  rfl
end Go.Proofs.YtogpnlfbdhddmaaGreatDoor
namespace Go.Proofs.YtogpnlfbdhddmaaGreatDoor

/-! ### a number's digits -/
theorem dec_dig (n : Nat) : (dec n).all isDig = true := by
  induction n using Nat.strongRecOn with
  | _ n ih =>
    by_cases h : n < 10
    · rw [dec_one h]; simp [isDig_sg (show n ≤ 9 by omega)]
    · rw [dec_more h, List.all_append, ih (n / 10) (by omega)]; simp [isDig_sg (show n % 10 ≤ 9 by omega)]
theorem val_dec (n : Nat) : valD (dec n) = n := by
  induction n using Nat.strongRecOn with
  | _ n ih =>
    by_cases h : n < 10
    · rw [dec_one h]; show 10 * 0 + dg (sg n) = n; rw [dg_sg (by omega)]; omega
    · rw [dec_more h, val_snoc, ih (n / 10) (by omega), dg_sg (by omega)]; omega
theorem dec_ne (n : Nat) : dec n ≠ [] := by
  by_cases h : n < 10
  · rw [dec_one h]; simp
  · rw [dec_more h]; simp
theorem dec_len {n : Nat} (h : n ≤ 999) : (dec n).length ≤ 3 := by
  by_cases h1 : n < 10
  · rw [dec_one h1]; simp
  · rw [dec_more h1]
    by_cases h2 : n / 10 < 10
    · rw [dec_one h2]; simp
    · rw [dec_more h2, dec_one (by omega)]; simp
theorem numE_dec {n : Nat} (h : n ≤ 999) : numE (dec n) = 0 :=
  numE_ok (lookE_ok.2 ⟨dec_dig n, by have := dec_len h; omega⟩) (dec_ne n) (by rw [val_dec]; omega)
theorem numV_dec {n : Nat} (h : n ≤ 999) : numV (dec n) = (n : Int) := by rw [numV_ok (numE_dec h), val_dec]

/-! ### shaped texts -/
def shapedB (l : List UInt8) : Bool := decide (lookE l = 0 ∧ 16 ≤ l.length ∧ l.length ≤ 19)
theorem shapedB_iff {l : List UInt8} : shapedB l = true ↔ lookE l = 0 ∧ 16 ≤ l.length ∧ l.length ≤ 19 := by unfold shapedB; simp
theorem shapedB_no {l : List UInt8} (h : ¬ (lookE l = 0 ∧ 16 ≤ l.length ∧ l.length ≤ 19)) : shapedB l = false := by
  cases e : shapedB l with
  | false => rfl
  | true => exact absurd (shapedB_iff.1 e) h
def binP (l : List UInt8) : List UInt8 := if shapedB l = true then l.take 6 else []
def midP (l : List UInt8) : List UInt8 := if shapedB l = true then (l.drop 6).take (l.length - 10) else []
def lastP (l : List UInt8) : List UInt8 := if shapedB l = true then l.drop (l.length - 4) else []
theorem binP_yes {l : List UInt8} (h : shapedB l = true) : binP l = l.take 6 := if_pos h
theorem midP_yes {l : List UInt8} (h : shapedB l = true) : midP l = (l.drop 6).take (l.length - 10) := if_pos h
theorem lastP_yes {l : List UInt8} (h : shapedB l = true) : lastP l = l.drop (l.length - 4) := if_pos h
theorem binP_no {l : List UInt8} (h : shapedB l = false) : binP l = [] := if_neg (by rw [h]; decide)
theorem midP_no {l : List UInt8} (h : shapedB l = false) : midP l = [] := if_neg (by rw [h]; decide)
theorem lastP_no {l : List UInt8} (h : shapedB l = false) : lastP l = [] := if_neg (by rw [h]; decide)
theorem parts_len {l : List UInt8} (h : shapedB l = true) : (binP l).length = 6 ∧ (midP l).length = l.length - 10 ∧ (lastP l).length = 4 ∧ 16 ≤ l.length ∧ l.length ≤ 19 := by
  obtain ⟨_, h1, h2⟩ := shapedB_iff.1 h
  rw [binP_yes h, midP_yes h, lastP_yes h]
  simp
  omega
theorem parts_all {l : List UInt8} (h : shapedB l = true) : binP l ++ midP l ++ lastP l = l := by
  obtain ⟨_, h1, h2⟩ := shapedB_iff.1 h
  rw [binP_yes h, midP_yes h, lastP_yes h]
  have e : l.drop (l.length - 4) = (l.drop 6).drop (l.length - 10) := by rw [List.drop_drop]; congr 1; omega
  rw [e, List.append_assoc, List.take_append_drop, List.take_append_drop]
theorem lookE_dig {l : List UInt8} (h : lookE l = 0) : l.all isDig = true := (lookE_ok.1 h).1
/-- Whatever digits stand in the middle. -/
theorem shaped_mid {l m : List UInt8} (h : shapedB l = true) (hm : m.all isDig = true) (hl : m.length = (midP l).length) :
    shapedB (binP l ++ m ++ lastP l) = true ∧ binP (binP l ++ m ++ lastP l) = binP l ∧ midP (binP l ++ m ++ lastP l) = m ∧ lastP (binP l ++ m ++ lastP l) = lastP l ∧ (binP l ++ m ++ lastP l).length = l.length := by
  obtain ⟨p1, p2, p3, p4, p5⟩ := parts_len h
  have hd := lookE_dig (shapedB_iff.1 h).1
  rw [← parts_all h, List.all_append, List.all_append] at hd
  simp only [Bool.and_eq_true] at hd
  have hlen : (binP l ++ m ++ lastP l).length = l.length := by simp; omega
  have hs : shapedB (binP l ++ m ++ lastP l) = true := by
    refine shapedB_iff.2 ⟨lookE_ok.2 ⟨?_, by omega⟩, by omega, by omega⟩
    rw [List.all_append, List.all_append, hd.1.1, hm, hd.2]; rfl
  refine ⟨hs, ?_, ?_, ?_, hlen⟩
  · rw [binP_yes hs, List.append_assoc, List.take_append_of_le_length (by omega), List.take_of_length_le (by omega)]
  · rw [midP_yes hs, hlen, List.append_assoc, List.drop_append_of_le_length (by omega), List.drop_of_length_le (by omega), List.nil_append, List.take_append_of_le_length (by omega), List.take_of_length_le (by omega)]
  · rw [lastP_yes hs, hlen, List.drop_append_of_le_length (by simp; omega), List.drop_of_length_le (by simp; omega), List.nil_append]

/-! ### tokens -/
def verB (v : Int) : Bool := decide (1 ≤ v ∧ v ≤ 255)
theorem verB_iff {v : Int} : verB v = true ↔ 1 ≤ v ∧ v ≤ 255 := by unfold verB; simp
def tokE (l : List UInt8) (v : Int) : Int := if shapedB l = true then (if verB v = true then 0 else 1) else 10
def tokS (l : List UInt8) (v : Int) : List UInt8 := if tokE l v = 0 then l ++ 46 :: dec v.toNat else []
theorem tokE_shape {l : List UInt8} {v : Int} (h : shapedB l = false) : tokE l v = 10 := if_neg (by rw [h]; decide)
theorem tokE_ver {l : List UInt8} {v : Int} (h : shapedB l = true) (hv : ¬ (1 ≤ v ∧ v ≤ 255)) : tokE l v = 1 := by
  unfold tokE; rw [if_pos h, if_neg (by rw [verB_iff]; exact hv)]
theorem tokE_ok {l : List UInt8} {v : Int} (h : shapedB l = true) (hv : 1 ≤ v ∧ v ≤ 255) : tokE l v = 0 := by
  unfold tokE; rw [if_pos h, if_pos (verB_iff.2 hv)]
theorem tokE_zero {l : List UInt8} {v : Int} (h : tokE l v = 0) : shapedB l = true ∧ 1 ≤ v ∧ v ≤ 255 := by
  unfold tokE at h
  by_cases hs : shapedB l = true
  · rw [if_pos hs] at h
    by_cases hv : verB v = true
    · exact ⟨hs, verB_iff.1 hv⟩
    · rw [if_neg hv] at h; cases h
  · rw [if_neg hs] at h; cases h
theorem tokS_no {l : List UInt8} {v : Int} (h : tokE l v ≠ 0) : tokS l v = [] := if_neg h
theorem tokS_ok {l : List UInt8} {v : Int} (h : tokE l v = 0) : tokS l v = l ++ 46 :: dec v.toNat := if_pos h
def beforeDot (l : List UInt8) : List UInt8 := l.takeWhile (fun c => c != 46)
def afterDot (l : List UInt8) : List UInt8 := (l.dropWhile (fun c => c != 46)).drop 1
theorem dot_dig {c : UInt8} (h : isDig c = true) : (c != 46) = true := by
  have := isDig_iff.1 h
  simp only [bne_iff_ne, ne_eq]
  intro e; subst e; simp at this
theorem before_app : ∀ (l r : List UInt8), l.all isDig = true → beforeDot (l ++ 46 :: r) = l ∧ afterDot (l ++ 46 :: r) = r
  | [], r, _ => ⟨rfl, rfl⟩
  | c :: l, r, h => by
    have hc : isDig c = true := by simp at h; exact h.1
    obtain ⟨i1, i2⟩ := before_app l r (by simp at h ⊢; exact h.2)
    simp only [beforeDot, afterDot] at i1 i2 ⊢
    rw [List.cons_append, List.takeWhile_cons_of_pos (p := fun c => c != 46) (dot_dig hc), List.dropWhile_cons_of_pos (p := fun c => c != 46) (dot_dig hc), i1, i2]
    exact ⟨rfl, rfl⟩
theorem before_dig : ∀ (l : List UInt8), l.all isDig = true → beforeDot l = l ∧ afterDot l = []
  | [], _ => ⟨rfl, rfl⟩
  | c :: l, h => by
    have hc : isDig c = true := by simp at h; exact h.1
    obtain ⟨i1, i2⟩ := before_dig l (by simp at h ⊢; exact h.2)
    simp only [beforeDot, afterDot] at i1 i2 ⊢
    rw [List.takeWhile_cons_of_pos (p := fun c => c != 46) (dot_dig hc), List.dropWhile_cons_of_pos (p := fun c => c != 46) (dot_dig hc), i1, i2]
    exact ⟨rfl, rfl⟩
def splitOk (l : List UInt8) : Bool := decide (numE (afterDot l) = 0 ∧ tokE (beforeDot l) (numV (afterDot l)) = 0 ∧ tokS (beforeDot l) (numV (afterDot l)) = l)
theorem splitOk_iff {l : List UInt8} : splitOk l = true ↔ numE (afterDot l) = 0 ∧ tokE (beforeDot l) (numV (afterDot l)) = 0 ∧ tokS (beforeDot l) (numV (afterDot l)) = l := by unfold splitOk; simp
theorem splitOk_no {l : List UInt8} (h : ¬ (numE (afterDot l) = 0 ∧ tokE (beforeDot l) (numV (afterDot l)) = 0 ∧ tokS (beforeDot l) (numV (afterDot l)) = l)) : splitOk l = false := by
  cases e : splitOk l with
  | false => rfl
  | true => exact absurd (splitOk_iff.1 e) h
def splE (l : List UInt8) : Int := if splitOk l = true then 0 else 11
def splS (l : List UInt8) : List UInt8 := if splitOk l = true then beforeDot l else []
def splV (l : List UInt8) : Int := if splitOk l = true then numV (afterDot l) else 0
theorem spl_yes {l : List UInt8} (h : splitOk l = true) : splE l = 0 ∧ splS l = beforeDot l ∧ splV l = numV (afterDot l) := ⟨if_pos h, if_pos h, if_pos h⟩
theorem spl_no {l : List UInt8} (h : splitOk l = false) : splE l = 11 ∧ splS l = [] ∧ splV l = 0 :=
  ⟨if_neg (by rw [h]; decide), if_neg (by rw [h]; decide), if_neg (by rw [h]; decide)⟩
/-- A token is split into what it was made of. -/
theorem tok_split {l : List UInt8} {v : Int} (h : tokE l v = 0) : splitOk (tokS l v) = true ∧ beforeDot (tokS l v) = l ∧ numV (afterDot (tokS l v)) = v := by
  obtain ⟨hs, h1, h2⟩ := tokE_zero h
  have hd := lookE_dig (shapedB_iff.1 hs).1
  obtain ⟨i1, i2⟩ := before_app l (dec v.toNat) hd
  have hn := numE_dec (n := v.toNat) (by omega)
  have hv := numV_dec (n := v.toNat) (by omega)
  have hvv : ((v.toNat : Nat) : Int) = v := by omega
  rw [hvv] at hv
  have e := tokS_ok h
  refine ⟨splitOk_iff.2 ?_, by rw [e, i1], by rw [e, i2, hv]⟩
  rw [e, i1, i2, hv]
  exact ⟨hn, h, e⟩
/-- What was split is made again. -/
theorem split_tok {l : List UInt8} (h : splitOk l = true) : tokE (splS l) (splV l) = 0 ∧ tokS (splS l) (splV l) = l := by
  obtain ⟨h1, h2, h3⟩ := splitOk_iff.1 h
  obtain ⟨_, e2, e3⟩ := spl_yes h
  rw [e2, e3]
  exact ⟨h2, h3⟩
theorem shaped_split {l : List UInt8} (h : shapedB l = true) : splitOk l = false := by
  refine splitOk_no fun ⟨h1, _⟩ => ?_
  rw [(before_dig l (lookE_dig (shapedB_iff.1 h).1)).2] at h1
  rw [numE_nil] at h1
  cases h1
theorem split_shaped {l : List UInt8} (h : splitOk l = true) : shapedB (beforeDot l) = true ∧ 1 ≤ numV (afterDot l) ∧ numV (afterDot l) ≤ 255 ∧ l = beforeDot l ++ 46 :: dec (numV (afterDot l)).toNat := by
  obtain ⟨h1, h2, h3⟩ := splitOk_iff.1 h
  obtain ⟨a, b, c⟩ := tokE_zero h2
  exact ⟨a, b, c, by rw [tokS_ok h2] at h3; exact h3.symm⟩

/-! ### masks -/
def starsL (n : Nat) : List UInt8 := List.replicate n 42
def maskOf (l : List UInt8) : List UInt8 := binP l ++ starsL (midP l).length ++ lastP l
def maskS (l : List UInt8) : List UInt8 :=
  if shapedB l = true then maskOf l else if splitOk l = true then maskOf (beforeDot l) ++ 46 :: dec (numV (afterDot l)).toNat else starsL (min l.length 32)
theorem mask_shaped {l : List UInt8} (h : shapedB l = true) : maskS l = maskOf l := if_pos h
theorem mask_split {l : List UInt8} (h : splitOk l = true) : maskS l = maskOf (beforeDot l) ++ 46 :: dec (numV (afterDot l)).toNat := by
  unfold maskS
  rw [if_neg (fun hs => by rw [shaped_split hs] at h; cases h), if_pos h]
theorem mask_none {l : List UInt8} (h : shapedB l = false) (h2 : splitOk l = false) : maskS l = starsL (min l.length 32) := by
  unfold maskS
  rw [if_neg (by rw [h]; decide), if_neg (by rw [h2]; decide)]
theorem maskOf_mid {l m : List UInt8} (h : shapedB l = true) (hm : m.all isDig = true) (hl : m.length = (midP l).length) : maskS (binP l ++ m ++ lastP l) = maskS l := by
  obtain ⟨s1, s2, s3, s4, _⟩ := shaped_mid h hm hl
  rw [mask_shaped s1, mask_shaped h]
  unfold maskOf
  rw [s2, s3, s4, hl]
theorem len_maskOf {l : List UInt8} (h : shapedB l = true) : (maskOf l).length = l.length := by
  obtain ⟨p1, p2, p3, p4, p5⟩ := parts_len h
  unfold maskOf starsL
  simp
  omega
theorem maskOf_at {l : List UInt8} (h : shapedB l = true) {i : Nat} (h6 : 6 ≤ i) (hi : i + 4 < l.length) : (maskOf l)[i]? = some 42 := by
  obtain ⟨p1, p2, p3, p4, p5⟩ := parts_len h
  unfold maskOf starsL
  rw [List.getElem?_append_left (by simp; omega), List.getElem?_append_right (by omega), List.getElem?_replicate, if_pos (by omega)]
theorem maskOf_head {l : List UInt8} (h : shapedB l = true) : (maskOf l).take 6 = binP l ∧ (maskOf l).drop (l.length - 4) = lastP l := by
  obtain ⟨p1, p2, p3, p4, p5⟩ := parts_len h
  unfold maskOf starsL
  refine ⟨?_, ?_⟩
  · rw [List.append_assoc, List.take_append_of_le_length (by omega), List.take_of_length_le (by omega)]
  · rw [List.drop_append_of_le_length (by simp; omega), List.drop_of_length_le (by simp; omega), List.nil_append]

/-! ### card numbers -/
def panB (l : List UInt8) : Bool := shapedB l && validB l
/-- Of ten last digits just one is right. -/
theorem pan_last {l : List UInt8} (h : shapedB l = true) {d : Nat} (hd : d ≤ 9) : panB (l.take (l.length - 1) ++ [sg d]) = decide (d = luhn (l.take (l.length - 1))) := by
  obtain ⟨h0, h1, h2⟩ := shapedB_iff.1 h
  have hdig := lookE_dig h0
  have ht : (l.take (l.length - 1)).all isDig = true := by
    rw [List.all_eq_true] at hdig ⊢
    exact fun x hx => hdig x (List.mem_of_mem_take hx)
  have hlook : lookE (l.take (l.length - 1) ++ [sg d]) = 0 := lookE_ok.2 ⟨by rw [List.all_append, ht]; simp [isDig_sg hd], by simp; omega⟩
  have hs : shapedB (l.take (l.length - 1) ++ [sg d]) = true := shapedB_iff.2 ⟨hlook, by simp; omega, by simp; omega⟩
  unfold panB
  rw [hs, Bool.true_and]
  have hne : l.take (l.length - 1) ++ [sg d] ≠ [] := by simp
  rw [Bool.eq_iff_iff, validB_iff, decide_eq_true_iff]
  rw [luhn_iff _ hd]
  exact ⟨fun a => a.2.2, fun a => ⟨hne, hlook, a⟩⟩
end Go.Proofs.YtogpnlfbdhddmaaGreatDoor
namespace Go.Proofs.YtogpnlfbdhddmaaGreatDoor
namespace Sha

def ror (x n : Nat) : Nat := (x >>> n) ||| (x <<< (32 - n)) % 4294967296
def s0 (x : Nat) : Nat := (ror x 7 ^^^ ror x 18) ^^^ (x >>> 3)
def s1 (x : Nat) : Nat := (ror x 17 ^^^ ror x 19) ^^^ (x >>> 10)
def big0 (x : Nat) : Nat := (ror x 2 ^^^ ror x 13) ^^^ ror x 22
def big1 (x : Nat) : Nat := (ror x 6 ^^^ ror x 11) ^^^ ror x 25
def ch (e f g : Nat) : Nat := g ^^^ (e &&& (f ^^^ g))
def maj (a b c : Nat) : Nat := ((a &&& b) ^^^ (a &&& c)) ^^^ (b &&& c)

theorem lt_or {a b : Nat} (ha : a < 4294967296) (hb : b < 4294967296) : a ||| b < 4294967296 := Nat.or_lt_two_pow (n := 32) ha hb
theorem lt_xor {a b : Nat} (ha : a < 4294967296) (hb : b < 4294967296) : a ^^^ b < 4294967296 := Nat.xor_lt_two_pow (n := 32) ha hb
theorem lt_and {a b : Nat} (hb : b < 4294967296) : a &&& b < 4294967296 := Nat.and_lt_two_pow (n := 32) _ hb
theorem lt_shr {x n : Nat} (h : x < 4294967296) : x >>> n < 4294967296 := by
  rw [Nat.shiftRight_eq_div_pow]; exact Nat.lt_of_le_of_lt (Nat.div_le_self _ _) h
theorem ror_lt {x n : Nat} (h : x < 4294967296) : ror x n < 4294967296 := lt_or (lt_shr h) (Nat.mod_lt _ (by omega))
theorem s0_lt {x : Nat} (h : x < 4294967296) : s0 x < 4294967296 := lt_xor (lt_xor (ror_lt h) (ror_lt h)) (lt_shr h)
theorem s1_lt {x : Nat} (h : x < 4294967296) : s1 x < 4294967296 := lt_xor (lt_xor (ror_lt h) (ror_lt h)) (lt_shr h)
theorem big0_lt {x : Nat} (h : x < 4294967296) : big0 x < 4294967296 := lt_xor (lt_xor (ror_lt h) (ror_lt h)) (ror_lt h)
theorem big1_lt {x : Nat} (h : x < 4294967296) : big1 x < 4294967296 := lt_xor (lt_xor (ror_lt h) (ror_lt h)) (ror_lt h)
theorem ch_lt {e f g : Nat} (hf : f < 4294967296) (hg : g < 4294967296) : ch e f g < 4294967296 := lt_xor hg (lt_and (lt_xor hf hg))
theorem maj_lt {a b c : Nat} (hb : b < 4294967296) (hc : c < 4294967296) : maj a b c < 4294967296 := lt_xor (lt_xor (lt_and hb) (lt_and hc)) (lt_and hc)

/-- The reference's choice, and its majority. -/
theorem ch_ref {e f g : Nat} (he : e < 4294967296) (_hf : f < 4294967296) (hg : g < 4294967296) : (e &&& f) ||| ((4294967295 - e) &&& g) = ch e f g := by
  have hn : 4294967295 - e = 2 ^ 32 - (e + 1) := by omega
  apply Nat.eq_of_testBit_eq
  intro i
  unfold ch
  rw [hn]
  simp only [Nat.testBit_or, Nat.testBit_and, Nat.testBit_xor, Nat.testBit_two_pow_sub_succ (n := 32) he]
  by_cases hi : i < 32
  · simp only [hi, decide_true, Bool.true_and]
    cases e.testBit i <;> cases f.testBit i <;> cases g.testBit i <;> rfl
  · have hg' : g.testBit i = false := Nat.testBit_lt_two_pow (Nat.lt_of_lt_of_le hg (Nat.pow_le_pow_right (n := 2) (by omega) (Nat.le_of_not_lt hi)))
    have he' : e.testBit i = false := Nat.testBit_lt_two_pow (Nat.lt_of_lt_of_le he (Nat.pow_le_pow_right (n := 2) (by omega) (Nat.le_of_not_lt hi)))
    simp [hi, hg', he']
theorem maj_ref (a b c : Nat) : ((a &&& b) ||| (a &&& c)) ||| (b &&& c) = maj a b c := by
  apply Nat.eq_of_testBit_eq
  intro i
  unfold maj
  simp only [Nat.testBit_or, Nat.testBit_and, Nat.testBit_xor]
  cases a.testBit i <;> cases b.testBit i <;> cases c.testBit i <;> rfl

/-- The constants. -/
def K : List Nat := [
  0x428a2f98, 0x71374491, 0xb5c0fbcf, 0xe9b5dba5, 0x3956c25b, 0x59f111f1, 0x923f82a4, 0xab1c5ed5,
  0xd807aa98, 0x12835b01, 0x243185be, 0x550c7dc3, 0x72be5d74, 0x80deb1fe, 0x9bdc06a7, 0xc19bf174,
  0xe49b69c1, 0xefbe4786, 0x0fc19dc6, 0x240ca1cc, 0x2de92c6f, 0x4a7484aa, 0x5cb0a9dc, 0x76f988da,
  0x983e5152, 0xa831c66d, 0xb00327c8, 0xbf597fc7, 0xc6e00bf3, 0xd5a79147, 0x06ca6351, 0x14292967,
  0x27b70a85, 0x2e1b2138, 0x4d2c6dfc, 0x53380d13, 0x650a7354, 0x766a0abb, 0x81c2c92e, 0x92722c85,
  0xa2bfe8a1, 0xa81a664b, 0xc24b8b70, 0xc76c51a3, 0xd192e819, 0xd6990624, 0xf40e3585, 0x106aa070,
  0x19a4c116, 0x1e376c08, 0x2748774c, 0x34b0bcb5, 0x391c0cb3, 0x4ed8aa4a, 0x5b9cca4f, 0x682e6ff3,
  0x748f82ee, 0x78a5636f, 0x84c87814, 0x8cc70208, 0x90befffa, 0xa4506ceb, 0xbef9a3f7, 0xc67178f2]
theorem length_K : K.length = 64 := by decide
theorem K_lt : ∀ t, K.getD t 0 < 4294967296 := by
  intro t
  by_cases h : t < 64
  · have : ∀ t : Fin 64, K.getD t.val 0 < 4294967296 := by decide +kernel
    exact this ⟨t, h⟩
  · rw [List.getD_eq_getElem?_getD, List.getElem?_eq_none (by rw [length_K]; omega)]; simp

structure St where
  a : Nat
  b : Nat
  c : Nat
  d : Nat
  e : Nat
  f : Nat
  g : Nat
  h : Nat


def St.ok (s : St) : Prop := s.a < 4294967296 ∧ s.b < 4294967296 ∧ s.c < 4294967296 ∧ s.d < 4294967296 ∧ s.e < 4294967296 ∧ s.f < 4294967296 ∧ s.g < 4294967296 ∧ s.h < 4294967296
def St.list (s : St) : List Nat := [s.a, s.b, s.c, s.d, s.e, s.f, s.g, s.h]

def start : St := ⟨0x6a09e667, 0xbb67ae85, 0x3c6ef372, 0xa54ff53a, 0x510e527f, 0x9b05688c, 0x1f83d9ab, 0x5be0cd19⟩
theorem start_ok : start.ok := by unfold St.ok start; decide

/-- Word t of a block. -/
def word (b : List UInt8) (t : Nat) : Nat := (b.getD (4 * t) 0).toNat * 16777216 + (b.getD (4 * t + 1) 0).toNat * 65536 + (b.getD (4 * t + 2) 0).toNat * 256 + (b.getD (4 * t + 3) 0).toNat
theorem word_lt (b : List UInt8) (t : Nat) : word b t < 4294967296 := by
  unfold word
  have h1 := (b.getD (4 * t) 0).toNat_lt
  have h2 := (b.getD (4 * t + 1) 0).toNat_lt
  have h3 := (b.getD (4 * t + 2) 0).toNat_lt
  have h4 := (b.getD (4 * t + 3) 0).toNat_lt
  omega
def next (b : List UInt8) (ws : List Nat) (t : Nat) : Nat :=
  if t < 16 then word b t else (ws.getD (t - 16) 0 + s0 (ws.getD (t - 15) 0) + ws.getD (t - 7) 0 + s1 (ws.getD (t - 2) 0)) % 4294967296
/-- The first t words of a block's schedule. -/
def sched (b : List UInt8) : Nat → List Nat
  | 0 => []
  | t + 1 => sched b t ++ [next b (sched b t) t]
theorem length_sched (b : List UInt8) : ∀ t, (sched b t).length = t
  | 0 => rfl
  | t + 1 => by simp [sched, length_sched b t]
theorem next_lt (b : List UInt8) (ws : List Nat) (t : Nat) : next b ws t < 4294967296 := by
  unfold next; split
  · exact word_lt b t
  · exact Nat.mod_lt _ (by omega)
theorem sched_at (b : List UInt8) (t : Nat) : ∀ n, t < n → (sched b n).getD t 0 = next b (sched b t) t
  | 0, h => by omega
  | n + 1, h => by
    simp only [sched]
    rw [List.getD_eq_getElem?_getD]
    rcases Nat.lt_or_ge t n with h' | h'
    · rw [List.getElem?_append_left (by rw [length_sched]; exact h'), ← List.getD_eq_getElem?_getD, sched_at b t n h']
    · have : t = n := by omega
      subst this
      rw [List.getElem?_append_right (by rw [length_sched]; omega), length_sched]
      simp
theorem sched_lt (b : List UInt8) (n t : Nat) : (sched b n).getD t 0 < 4294967296 := by
  by_cases h : t < n
  · rw [sched_at b t n h]; exact next_lt _ _ _
  · rw [List.getD_eq_getElem?_getD, List.getElem?_eq_none (by rw [length_sched]; omega)]; simp

def rx (s : St) (k w : Nat) : Nat := (s.h + big1 s.e + ch s.e s.f s.g + k + w) % 4294967296
def ry (s : St) : Nat := (big0 s.a + maj s.a s.b s.c) % 4294967296
def rnd (s : St) (k w : Nat) : St := ⟨(rx s k w + ry s) % 4294967296, s.a, s.b, s.c, (s.d + rx s k w) % 4294967296, s.e, s.f, s.g⟩
theorem rnd_ok {s : St} (h : s.ok) (k w : Nat) : (rnd s k w).ok := by
  obtain ⟨h1, h2, h3, h4, h5, h6, h7, h8⟩ := h
  exact ⟨Nat.mod_lt _ (by omega), h1, h2, h3, Nat.mod_lt _ (by omega), h5, h6, h7⟩
def rounds (s : St) (ws : List Nat) : Nat → St
  | 0 => s
  | t + 1 => rnd (rounds s ws t) (K.getD t 0) (ws.getD t 0)
theorem rounds_ok {s : St} (h : s.ok) (ws : List Nat) : ∀ t, (rounds s ws t).ok
  | 0 => h
  | t + 1 => rnd_ok (rounds_ok h ws t) _ _
def add (s v : St) : St := ⟨(s.a + v.a) % 4294967296, (s.b + v.b) % 4294967296, (s.c + v.c) % 4294967296, (s.d + v.d) % 4294967296, (s.e + v.e) % 4294967296, (s.f + v.f) % 4294967296, (s.g + v.g) % 4294967296, (s.h + v.h) % 4294967296⟩
theorem add_ok (s v : St) : (add s v).ok := ⟨Nat.mod_lt _ (by omega), Nat.mod_lt _ (by omega), Nat.mod_lt _ (by omega), Nat.mod_lt _ (by omega), Nat.mod_lt _ (by omega), Nat.mod_lt _ (by omega), Nat.mod_lt _ (by omega), Nat.mod_lt _ (by omega)⟩
/-- The state behind a block. -/
def block (s : St) (b : List UInt8) : St := add s (rounds s (sched b 64) 64)
theorem block_ok (s : St) (b : List UInt8) : (block s b).ok := add_ok _ _

/-- The state behind the first n blocks of a text. -/
def blocks (s : St) (l : List UInt8) : Nat → St
  | 0 => s
  | n + 1 => block (blocks s l n) ((l.drop (64 * n)).take 64)
theorem blocks_ok {s : St} (h : s.ok) (l : List UInt8) : ∀ n, (blocks s l n).ok
  | 0 => h
  | _ + 1 => block_ok _ _
/-- The state behind all whole blocks. -/
def run (s : St) (l : List UInt8) : St := blocks s l (l.length / 64)
theorem run_ok {s : St} (h : s.ok) (l : List UInt8) : (run s l).ok := blocks_ok h l _
/-- What does not fill a block. -/
def left (l : List UInt8) : List UInt8 := l.drop (64 * (l.length / 64))
theorem length_left (l : List UInt8) : (left l).length = l.length % 64 := by simp [left]; omega
theorem left_short {l : List UInt8} (h : l.length < 64) : left l = l := by
  unfold left; rw [show l.length / 64 = 0 by omega]; rfl
theorem run_short {s : St} {l : List UInt8} (h : l.length < 64) : run s l = s := by
  unfold run; rw [show l.length / 64 = 0 by omega]; rfl

/-- blocks only reads the first bytes. -/
theorem blocks_prefix (s : St) (l m : List UInt8) : ∀ n, 64 * n ≤ l.length → blocks s (l ++ m) n = blocks s l n
  | 0, _ => rfl
  | n + 1, h => by
    simp only [blocks]
    rw [blocks_prefix s l m n (by omega)]
    congr 1
    rw [List.drop_append_of_le_length (by omega), List.take_append_of_le_length (by simp; omega)]
theorem blocks_from (s : St) (l m : List UInt8) (k : Nat) (h : l.length = 64 * k) : ∀ n, blocks s (l ++ m) (k + n) = blocks (blocks s l k) m n
  | 0 => blocks_prefix s l m k (by omega)
  | n + 1 => by
    rw [← Nat.add_assoc]
    simp only [blocks]
    rw [blocks_from s l m k h n]
    congr 2
    rw [show 64 * (k + n) = l.length + 64 * n by omega, List.drop_append]
    simp
/-- To go on from what is left with more is to go on with all. -/
theorem run_append (s : St) (l m : List UInt8) : run (run s l) (left l ++ m) = run s (l ++ m) := by
  have e : l.take (64 * (l.length / 64)) ++ (left l ++ m) = l ++ m := by
    rw [← List.append_assoc]; unfold left; rw [List.take_append_drop]
  have hl : (l.take (64 * (l.length / 64))).length = 64 * (l.length / 64) := by simp; omega
  have hk := blocks_from s (l.take (64 * (l.length / 64))) (left l ++ m) (l.length / 64) hl ((left l ++ m).length / 64)
  have hp : blocks s (l.take (64 * (l.length / 64))) (l.length / 64) = blocks s l (l.length / 64) := by
    have := blocks_prefix s (l.take (64 * (l.length / 64))) (l.drop (64 * (l.length / 64))) (l.length / 64) (by omega)
    rw [List.take_append_drop] at this
    exact this.symm
  rw [e, hp] at hk
  unfold run
  rw [← hk]
  congr 1
  simp only [List.length_append, length_left]
  omega
theorem left_append (l m : List UInt8) : left (left l ++ m) = left (l ++ m) := by
  have e : l.take (64 * (l.length / 64)) ++ (left l ++ m) = l ++ m := by
    rw [← List.append_assoc]; unfold left; rw [List.take_append_drop]
  have hl : (l.take (64 * (l.length / 64))).length = 64 * (l.length / 64) := by simp; omega
  have h2 : left (l ++ m) = (l.take (64 * (l.length / 64)) ++ (left l ++ m)).drop (64 * ((l ++ m).length / 64)) := by rw [e]; rfl
  rw [h2, List.drop_append, hl, List.drop_of_length_le (by rw [hl]; simp only [List.length_append]; omega), List.nil_append]
  show (left l ++ m).drop _ = _
  congr 1
  simp only [List.length_append, length_left]
  omega
theorem run_nil (s : St) : run s [] = s := rfl
theorem left_nil : left [] = [] := rfl

/-- A number in eight bytes, the highest first. -/
def by8 (n : Int) (s : Nat) : UInt8 := UInt8.ofNat ((n / (2 : Int) ^ s) % 256).toNat
theorem by8_toNat (n : Int) (s : Nat) : ((by8 n s).toNat : Int) = (n / (2 : Int) ^ s) % 256 := by
  unfold by8
  rw [UInt8.toNat_ofNat']
  omega
def eight (n : Int) : List UInt8 := [by8 n 56, by8 n 48, by8 n 40, by8 n 32, by8 n 24, by8 n 16, by8 n 8, by8 n 0]
theorem length_eight (n : Int) : (eight n).length = 8 := rfl
/-- What stands behind a text of n bytes. -/
def pad (n : Nat) : List UInt8 := 128 :: (List.replicate ((119 - n % 64) % 64) 0 ++ eight (8 * (n : Int)))
theorem length_pad (n : Nat) : (n + (pad n).length) % 64 = 0 := by simp [pad, eight]; omega
def out4 (n : Nat) : List UInt8 := [UInt8.ofNat (n >>> 24), UInt8.ofNat (n >>> 16), UInt8.ofNat (n >>> 8), UInt8.ofNat n]
def St.bytes (s : St) : List UInt8 := out4 s.a ++ (out4 s.b ++ (out4 s.c ++ (out4 s.d ++ (out4 s.e ++ (out4 s.f ++ (out4 s.g ++ out4 s.h))))))
theorem length_bytes (s : St) : s.bytes.length = 32 := rfl
theorem bytes_flat (s : St) : s.bytes = s.list.flatMap out4 := by simp [St.bytes, St.list]
theorem flat_next (s : St) (k : Nat) (h : k < 8) : (s.list.take (k + 1)).flatMap out4 = (s.list.take k).flatMap out4 ++ out4 (s.list.getD k 0) := by
  have hl : k < s.list.length := h
  rw [List.take_succ_eq_append_getElem hl, List.flatMap_append]
  simp [List.getD_eq_getElem?_getD, hl]
theorem length_flat (l : List Nat) : (l.flatMap out4).length = 4 * l.length := by
  induction l with
  | nil => rfl
  | cons a r ih => simp only [List.flatMap_cons, List.length_append, ih, List.length_cons]; simp [out4]; omega
theorem eight_next (n : Int) (k : Nat) (h : k < 8) : (eight n).take (k + 1) = (eight n).take k ++ [by8 n (56 - 8 * k)] := by
  match k, h with
  | 0, _ => rfl
  | 1, _ => rfl
  | 2, _ => rfl
  | 3, _ => rfl
  | 4, _ => rfl
  | 5, _ => rfl
  | 6, _ => rfl
  | 7, _ => rfl
theorem list_lt {s : St} (h : s.ok) (k : Nat) : s.list.getD k 0 < 4294967296 := by
  obtain ⟨h0, h1, h2, h3, h4, h5, h6, h7⟩ := h
  match k with
  | 0 => exact h0
  | 1 => exact h1
  | 2 => exact h2
  | 3 => exact h3
  | 4 => exact h4
  | 5 => exact h5
  | 6 => exact h6
  | 7 => exact h7
  | k + 8 => simp [St.list]
theorem left_full {l : List UInt8} (h : l.length % 64 = 0) : left l = [] := List.eq_nil_of_length_eq_zero (by rw [length_left, h])
/-- The digest. -/
def sum (l : List UInt8) : List UInt8 := (run start (l ++ pad l.length)).bytes
theorem length_sum (l : List UInt8) : (sum l).length = 32 := rfl
end Sha

/-! ### the tag -/
/-- A key as a block. -/
def keyBlock (k : List UInt8) : List UInt8 := let k' := if 64 < k.length then Sha.sum k else k; k' ++ List.replicate (64 - k'.length) 0
theorem length_keyBlock (k : List UInt8) : (keyBlock k).length = 64 := by
  unfold keyBlock
  by_cases h : 64 < k.length
  · simp [h, Sha.length_sum]
  · simp [h]; omega
def macB (k b : List UInt8) : List UInt8 := Sha.sum ((keyBlock k).map (· ^^^ 92) ++ Sha.sum ((keyBlock k).map (· ^^^ 54) ++ b))
theorem length_macB (k b : List UInt8) : (macB k b).length = 32 := rfl
def foldB (k : List UInt8) : List (List UInt8) → List UInt8
  | [] => k
  | s :: r => foldB (macB k (Sha.eight s.length ++ s)) r
theorem foldB_append (k : List UInt8) (a b : List (List UInt8)) : foldB k (a ++ b) = foldB (foldB k a) b := by
  induction a generalizing k with
  | nil => rfl
  | cons s r ih => exact ih _
end Go.Proofs.YtogpnlfbdhddmaaGreatDoor
namespace Go.Proofs.YtogpnlfbdhddmaaGreatDoor

/-- A purpose's name. -/
def nameS (p : Int) : ByteArray := if p = 1 then ⟨#[116, 111, 107, 101, 110]⟩ else if p = 2 then ⟨#[115, 116, 111, 114, 101]⟩ else if p = 3 then ⟨#[116, 97, 103]⟩ else if p = 4 then ⟨#[97, 117, 100, 105, 116]⟩ else ⟨#[]⟩
def nameB (p : Int) : Bool := decide (1 ≤ p ∧ p ≤ 4)
theorem nameB_iff {p : Int} : nameB p = true ↔ 1 ≤ p ∧ p ≤ 4 := by unfold nameB; simp
theorem nameB_no {p : Int} (h : ¬ (1 ≤ p ∧ p ≤ 4)) : nameB p = false := by unfold nameB; exact decide_eq_false h
theorem nameS_no {p : Int} (h : ¬ (1 ≤ p ∧ p ≤ 4)) : nameS p = ⟨#[]⟩ := by
  unfold nameS; rw [if_neg (by omega), if_neg (by omega), if_neg (by omega), if_neg (by omega)]
theorem nameS_size (p : Int) : (nameS p).size ≤ 5 := by
  unfold nameS
  split
  · decide
  · split
    · decide
    · split
      · decide
      · split
        · decide
        · decide
def tenantS : ByteArray := ⟨#[116, 101, 110, 97, 110, 116]⟩
def versionS : ByteArray := ⟨#[118, 101, 114, 115, 105, 111, 110]⟩
/-- A tenant's own key. -/
def tenK (m : List UInt8) (t : Nat) : List UInt8 := foldB m [tenantS.data.toList, dec t]
/-- A key of a tenant. -/
def keyB (m : List UInt8) (t : Nat) (p : Int) (v : Nat) : List UInt8 := foldB (tenK m t) [(nameS p).data.toList, versionS.data.toList, dec v]
theorem keyB_flat (m : List UInt8) (t : Nat) (p : Int) (v : Nat) : foldB m [tenantS.data.toList, dec t, (nameS p).data.toList, versionS.data.toList, dec v] = keyB m t p v := by
  unfold keyB tenK
  rw [← foldB_append]
  simp only [List.cons_append, List.nil_append]
def keyOk (t p v : Int) : Bool := decide (1 ≤ t ∧ t ≤ 64 ∧ 1 ≤ p ∧ p ≤ 4 ∧ 1 ≤ v ∧ v ≤ 255)
theorem keyOk_iff {t p v : Int} : keyOk t p v = true ↔ 1 ≤ t ∧ t ≤ 64 ∧ 1 ≤ p ∧ p ≤ 4 ∧ 1 ≤ v ∧ v ≤ 255 := by unfold keyOk; simp
theorem keyOk_no {t p v : Int} (h : ¬ (1 ≤ t ∧ t ≤ 64 ∧ 1 ≤ p ∧ p ≤ 4 ∧ 1 ≤ v ∧ v ≤ 255)) : keyOk t p v = false := decide_eq_false h
theorem length_tenK (m : List UInt8) (t : Nat) : (tenK m t).length = 32 := by unfold tenK; simp only [foldB]; exact length_macB _ _
theorem length_keyB (m : List UInt8) (t : Nat) (p : Int) (v : Nat) : (keyB m t p v).length = 32 := by unfold keyB; simp only [foldB]; exact length_macB _ _
theorem rep4 {α : Type} (a b c d : α) : ∀ n t k, t < n → k < 4 → ((List.replicate n [a, b, c, d]).flatten)[4 * t + k]? = [a, b, c, d][k]?
  | 0, t, k, h, _ => absurd h (by omega)
  | n + 1, t, k, h, hk => by
    rw [List.replicate_succ, List.flatten_cons]
    cases t with
    | zero => rw [List.getElem?_append_left (by simp; omega)]; simp
    | succ t =>
      rw [List.getElem?_append_right (by simp; omega)]
      have := rep4 a b c d n t k (by omega) hk
      rw [← this]
      congr 1
      simp; omega
end Go.Proofs.YtogpnlfbdhddmaaGreatDoor
namespace Go.Proofs.YtogpnlfbdhddmaaGreatDoor

theorem wsum_mid3 (A : List UInt8) (x : UInt8) (B : List UInt8) (b : Nat) :
    wsum (A ++ x :: B) b = wsum A (B.length + 1 + b) + (if (B.length + b) % 2 = 1 then tw (dg x) else dg x) + wsum B b := by
  rw [wsum_append]
  simp only [wsum, List.length_cons]
  omega

theorem tw_mod : ∀ d, d ≤ 9 → ∀ e, e ≤ 9 → tw d % 10 = tw e % 10 → d = e := by
  intro d hd e he
  unfold tw
  split <;> split <;> omega

/-- One digit turned is told. -/
theorem wsum_turned {A B : List UInt8} {x y : UInt8} (hx : isDig x = true) (hy : isDig y = true) (h1 : wsum (A ++ x :: B) 0 % 10 = 0) (h2 : wsum (A ++ y :: B) 0 % 10 = 0) : x = y := by
  rw [wsum_mid3] at h1 h2
  have a := dg_le hx
  have b := dg_le hy
  refine dg_inj hx hy ?_
  by_cases hp : (B.length + 0) % 2 = 1
  · rw [if_pos hp] at h1 h2
    exact tw_mod _ a _ b (by omega)
  · rw [if_neg hp] at h1 h2
    omega

/-- Two neighbours exchanged are told, but for 0 and 9. -/
theorem wsum_swapped {A B : List UInt8} {x y : UInt8} (hx : isDig x = true) (hy : isDig y = true) (h1 : wsum (A ++ x :: y :: B) 0 % 10 = 0) (h2 : wsum (A ++ y :: x :: B) 0 % 10 = 0) :
    x = y ∨ (x = 48 ∧ y = 57) ∨ (x = 57 ∧ y = 48) := by
  have e1 := wsum_append A (x :: y :: B) 0
  have e2 := wsum_append A (y :: x :: B) 0
  simp only [wsum, List.length_cons] at e1 e2
  have a := dg_le hx
  have b := dg_le hy
  have key : dg x = dg y ∨ (dg x = 0 ∧ dg y = 9) ∨ (dg x = 9 ∧ dg y = 0) := by
    have tx : tw (dg x) = 2 * dg x ∧ dg x ≤ 4 ∨ tw (dg x) + 9 = 2 * dg x ∧ 5 ≤ dg x := by unfold tw; split <;> omega
    have ty : tw (dg y) = 2 * dg y ∧ dg y ≤ 4 ∨ tw (dg y) + 9 = 2 * dg y ∧ 5 ≤ dg y := by unfold tw; split <;> omega
    by_cases hp : (B.length + 0) % 2 = 1
    · have hq : ¬ (B.length + 1 + 0) % 2 = 1 := by omega
      rw [if_pos hp, if_neg hq] at e1 e2
      omega
    · have hq : (B.length + 1 + 0) % 2 = 1 := by omega
      rw [if_neg hp, if_pos hq] at e1 e2
      omega
  rcases key with h | ⟨h, k⟩ | ⟨h, k⟩
  · exact .inl (dg_inj hx hy h)
  · refine .inr (.inl ⟨?_, ?_⟩)
    · rw [← sg_dg hx, h]; rfl
    · rw [← sg_dg hy, k]; rfl
  · refine .inr (.inr ⟨?_, ?_⟩)
    · rw [← sg_dg hx, h]; rfl
    · rw [← sg_dg hy, k]; rfl

theorem set_mid (l : List UInt8) (k : Nat) (hk : k < l.length) (y : UInt8) : l.set k y = l.take k ++ y :: l.drop (k + 1) := by
  rw [List.set_eq_take_append_cons_drop]; simp [hk]
theorem self_mid (l : List UInt8) (k : Nat) (hk : k < l.length) : l = l.take k ++ l[k] :: l.drop (k + 1) := by
  rw [← List.drop_eq_getElem_cons hk, List.take_append_drop]

theorem valid_set (l : List UInt8) (k : Nat) (hk : k < l.length) (y : UInt8) (hy : isDig y = true) (hv : validB l = true) (hne : l[k] ≠ y) : validB (l.set k y) = false := by
  rw [Bool.eq_false_iff]
  intro hw
  obtain ⟨_, h1, h2⟩ := validB_iff.1 hv
  obtain ⟨_, _, h4⟩ := validB_iff.1 hw
  have hx : isDig l[k] = true := List.all_eq_true.1 (lookE_ok.1 h1).1 _ (List.getElem_mem hk)
  rw [self_mid l k hk] at h2
  rw [set_mid l k hk] at h4
  exact hne (wsum_turned hx hy h2 h4)

theorem valid_swap (l : List UInt8) (k : Nat) (hk : k + 1 < l.length) (hv : validB l = true) (hne : l[k] ≠ l[k + 1]) (h09 : ¬ (l[k] = 48 ∧ l[k + 1] = 57)) (h90 : ¬ (l[k] = 57 ∧ l[k + 1] = 48)) :
    validB ((l.set k l[k + 1]).set (k + 1) l[k]) = false := by
  rw [Bool.eq_false_iff]
  intro hw
  obtain ⟨_, h1, h2⟩ := validB_iff.1 hv
  obtain ⟨_, _, h4⟩ := validB_iff.1 hw
  have hx : isDig l[k] = true := List.all_eq_true.1 (lookE_ok.1 h1).1 _ (List.getElem_mem _)
  have hy : isDig l[k + 1] = true := List.all_eq_true.1 (lookE_ok.1 h1).1 _ (List.getElem_mem _)
  have e1 : l = l.take k ++ l[k] :: l[k + 1] :: l.drop (k + 2) := by
    conv => lhs; rw [self_mid l k (by omega), List.drop_eq_getElem_cons hk]
  have e2 : (l.set k l[k + 1]).set (k + 1) l[k] = l.take k ++ l[k + 1] :: l[k] :: l.drop (k + 2) := by
    rw [set_mid l k (by omega), List.set_append_right _ _ (by simp; omega)]
    rw [show k + 1 - (l.take k).length = 1 by simp; omega, List.set_cons_succ, List.drop_eq_getElem_cons hk]
    rfl
  rw [e1] at h2
  rw [e2] at h4
  rcases wsum_swapped hx hy h2 h4 with h | h | h
  · exact hne h
  · exact h09 h
  · exact h90 h

/-- With a digit behind it: valid just if that is the check digit. -/
theorem valid_snoc {l : List UInt8} {d : Nat} (h : d ≤ 9) (hl : lookE l = 0) (hlen : l.length < 999) : validB (l ++ [sg d]) = decide (d = luhn l) := by
  rw [Bool.eq_iff_iff, validB_iff, decide_eq_true_iff, ← luhn_iff l h]
  exact ⟨fun h => h.2.2, fun h4 => ⟨by simp, lookE_snoc h hl hlen, h4⟩⟩

/-- Valid is what ends in its check digit. -/
theorem valid_last (l : List UInt8) (c : UInt8) (hlen : l.length < 999) :
    validB (l ++ [c]) = (decide (lookE l = 0) && (decide (48 ≤ c.toNat) && (decide (c.toNat ≤ 57) && decide (luhnV l = (c.toNat : Int) - 48)))) := by
  rw [Bool.eq_iff_iff, validB_iff]
  simp only [Bool.and_eq_true, decide_eq_true_iff]
  constructor
  · rintro ⟨_, h1, h2⟩
    obtain ⟨ha, hb⟩ := lookE_ok.1 h1
    simp only [List.all_append, Bool.and_eq_true, List.all_cons, List.all_nil, Bool.and_true] at ha
    have hc := isDig_iff.1 ha.2
    have h0 : lookE l = 0 := lookE_ok.2 ⟨ha.1, by simp at hb; omega⟩
    refine ⟨h0, hc.1, hc.2, ?_⟩
    rw [← sg_dg ha.2] at h2
    have := (luhn_iff l (dg_le ha.2)).1 h2
    unfold luhnV
    rw [if_pos h0, ← this]
    unfold dg
    omega
  · rintro ⟨h0, h1, h2, h3⟩
    have hc : isDig c = true := isDig_iff.2 ⟨h1, h2⟩
    unfold luhnV at h3
    rw [if_pos h0] at h3
    have hd : dg c = luhn l := by unfold dg; omega
    have := valid_snoc (dg_le hc) h0 hlen
    rw [sg_dg hc, decide_eq_true hd] at this
    exact validB_iff.1 this
end Go.Proofs.YtogpnlfbdhddmaaGreatDoor
