/- PLAIN: the field of 256; AES on rows of bytes. -/
import Derived.Test.YtiijjpjkfiookaaDoorMem
namespace Go.Proofs.YtiijjpjkfiookaaDoor

/-! ### the field -/
/-- A byte times x. -/
def xt (a : UInt8) : UInt8 := UInt8.ofNat (if a.toNat < 128 then 2 * a.toNat else (2 * a.toNat - 256) ^^^ 27)
theorem xor_256 {a b : Nat} (ha : a < 256) (hb : b < 256) : a ^^^ b < 256 := Nat.xor_lt_two_pow (n := 8) ha hb
theorem and_256 {a b : Nat} (hb : b < 256) : a &&& b < 256 := Nat.lt_of_le_of_lt Nat.and_le_right hb
theorem or_256 {a b : Nat} (ha : a < 256) (hb : b < 256) : a ||| b < 256 := Nat.or_lt_two_pow (n := 8) ha hb
theorem u8_of {n : Nat} (h : n < 256) : (UInt8.ofNat n).toNat = n := by rw [UInt8.toNat_ofNat']; exact Nat.mod_eq_of_lt h
theorem xt_toNat (a : UInt8) : (xt a).toNat = if a.toNat < 128 then 2 * a.toNat else (2 * a.toNat - 256) ^^^ 27 := by
  have := a.toNat_lt
  unfold xt
  apply u8_of
  split
  · omega
  · exact xor_256 (by omega) (by omega)
/-- The product, bit by bit. -/
def gm : Nat → UInt8 → UInt8 → UInt8 → UInt8
  | 0, p, _, _ => p
  | k + 1, p, a, b => gm k (if b.toNat % 2 = 1 then p ^^^ a else p) (xt a) (UInt8.ofNat (b.toNat / 2))
def mulG (a b : UInt8) : UInt8 := gm 8 0 a b
theorem gm_zero : ∀ k p a, gm k p a 0 = p
  | 0, _, _ => rfl
  | k + 1, p, a => by
    show gm k (if (0 : Nat) % 2 = 1 then p ^^^ a else p) (xt a) (UInt8.ofNat (0 / 2)) = p
    rw [if_neg (by decide)]
    exact gm_zero k p (xt a)
/-- A power: bit by bit of the exponent. -/
def pwr : Nat → UInt8 → UInt8 → Nat → UInt8
  | 0, p, _, _ => p
  | f + 1, p, a, n => pwr f (if n % 2 = 1 then mulG p a else p) (mulG a a) (n / 2)
theorem pwr_zero : ∀ f p a, pwr f p a 0 = p
  | 0, _, _ => rfl
  | f + 1, p, a => by
    show pwr f (if (0 : Nat) % 2 = 1 then mulG p a else p) (mulG a a) (0 / 2) = p
    rw [if_neg (by decide)]
    exact pwr_zero f p _
theorem pwr_odd {f : Nat} {p a : UInt8} {n : Nat} (h : n % 2 = 1) (hf : n < 2 ^ f) : pwr f p a n = pwr f (mulG p a) a (n - 1) := by
  cases f with
  | zero => simp at hf; omega
  | succ f =>
    show pwr f (if n % 2 = 1 then mulG p a else p) (mulG a a) (n / 2) = pwr f (if (n - 1) % 2 = 1 then mulG (mulG p a) a else mulG p a) (mulG a a) ((n - 1) / 2)
    rw [if_pos h, if_neg (by omega), show (n - 1) / 2 = n / 2 by omega]
theorem pwr_even {f : Nat} {p a : UInt8} {n : Nat} (h : ¬ n % 2 = 1) : pwr (f + 1) p a n = pwr f p (mulG a a) (n / 2) := by
  show pwr f (if n % 2 = 1 then mulG p a else p) (mulG a a) (n / 2) = _
  rw [if_neg h]
def invG (a : UInt8) : UInt8 := pwr 8 1 a 254
/-- Turned to the left by one. -/
def rl1 (a : UInt8) : UInt8 := UInt8.ofNat ((2 * a.toNat) % 256 ||| a.toNat / 128)
theorem rl1_toNat (a : UInt8) : (rl1 a).toNat = (2 * a.toNat) % 256 ||| a.toNat / 128 := by
  have := a.toNat_lt
  exact u8_of (or_256 (by omega) (by omega))
def affG (i : UInt8) : UInt8 := i ^^^ 99 ^^^ rl1 i ^^^ rl1 (rl1 i) ^^^ rl1 (rl1 (rl1 i)) ^^^ rl1 (rl1 (rl1 (rl1 i)))
def boxG (a : UInt8) : UInt8 := affG (invG a)
/-- The map of all bytes in one number. -/
def sbT : Nat := 0x16bb54b00f2d99416842e6bf0d89a18cdf2855cee9871e9b948ed9691198f8e19e1dc186b95735610ef6034866b53e708a8bbd4b1f74dde8c6b4a61c2e2578ba08ae7a65eaf4566ca94ed58d6d37c8e779e4959162acd3c25c2406490a3a32e0db0b5ede14b8ee4688902a22dc4f816073195d643d7ea7c41744975fec130ccdd2f3ff1021dab6bcf5389d928f40a351a89f3c507f02f94585334d43fbaaefd0cf584c4a39becb6a5bb1fc20ed00d153842fe329b3d63b52a05a6e1b1a2c830975b227ebe28012079a059618c323c7041531d871f1e5a534ccf73f362693fdb7c072a49cafa2d4adf04759fa7dc982ca76abd7fe2b670130c56f6bf27b777c63
def sb (a : UInt8) : UInt8 := UInt8.ofNat (sbT >>> (8 * a.toNat))
theorem boxG_tab : ∀ n, n < 256 → boxG (UInt8.ofNat n) = sb (UInt8.ofNat n) := by decide +kernel
theorem boxG_sb (a : UInt8) : boxG a = sb a := by
  have h := boxG_tab a.toNat a.toNat_lt
  rwa [UInt8.ofNat_toNat] at h

/-! ### blocks -/
/-- Two rows by exclusive or. -/
def xorL (a b : List UInt8) : List UInt8 := List.zipWith (· ^^^ ·) a b
theorem length_xorL (a b : List UInt8) : (xorL a b).length = min a.length b.length := by simp [xorL]
theorem getD_xorL (a b : List UInt8) (i : Nat) (ha : i < a.length) (hb : i < b.length) : (xorL a b)[i]? = some (a[i] ^^^ b[i]) := by
  simp [xorL, List.getElem?_zipWith, ha, hb]
/-- Where turning takes byte i from. -/
def trn (i : Nat) : Nat := (i + 4 * (i % 4)) % 16
/-- Each byte mapped, the rows turned to the left. -/
def turnL (b : List UInt8) : List UInt8 := (List.range 16).map fun i => sb (b.getD (trn i) 0)
def mixB (b : List UInt8) (i : Nat) : UInt8 :=
  b.getD i 0 ^^^ ((((b.getD (4 * (i / 4)) 0 ^^^ b.getD (4 * (i / 4) + 1) 0) ^^^ b.getD (4 * (i / 4) + 2) 0) ^^^ b.getD (4 * (i / 4) + 3) 0) ^^^ xt (b.getD i 0 ^^^ b.getD (4 * (i / 4) + (i % 4 + 1) % 4) 0))
/-- The columns mixed. -/
def mixL (b : List UInt8) : List UInt8 := (List.range 16).map (mixB b)
theorem length_turnL (b : List UInt8) : (turnL b).length = 16 := by simp [turnL]
theorem length_mixL (b : List UInt8) : (mixL b).length = 16 := by simp [mixL]
/-- The state behind i rounds of last. -/
def aesAt (ks : List (List UInt8)) (b : List UInt8) : Nat → List UInt8
  | 0 => xorL b (ks.getD 0 [])
  | i + 1 => xorL (if i + 1 < ks.length - 1 then mixL (turnL (aesAt ks b i)) else turnL (aesAt ks b i)) (ks.getD (i + 1) [])
/-- The block encrypted under these round keys. -/
def aesE (ks : List (List UInt8)) (b : List UInt8) : List UInt8 := aesAt ks b (ks.length - 1)
theorem aesAt_last {ks : List (List UInt8)} {b : List UInt8} {i : Nat} (h : ¬ i + 1 < ks.length - 1) : aesAt ks b (i + 1) = xorL (turnL (aesAt ks b i)) (ks.getD (i + 1) []) := by
  show xorL (if _ then _ else _) _ = _
  rw [if_neg h]
theorem aesAt_mid {ks : List (List UInt8)} {b : List UInt8} {i : Nat} (h : i + 1 < ks.length - 1) : aesAt ks b (i + 1) = xorL (mixL (turnL (aesAt ks b i))) (ks.getD (i + 1) []) := by
  show xorL (if _ then _ else _) _ = _
  rw [if_pos h]

/-! ### round keys -/
/-- The round's byte. -/
def rcG : Nat → UInt8
  | 0 => 1
  | k + 1 => mulG (rcG k) 2
/-- What is laid on a word: the word ahead, mapped. -/
def tword (n i : Nat) (t : List UInt8) : List UInt8 :=
  if i % n = 0 then [sb (t.getD 1 0) ^^^ rcG (i / n - 1), sb (t.getD 2 0), sb (t.getD 3 0), sb (t.getD 0 0)] else if n = 8 ∧ i % n = 4 then t.map sb else t
/-- The key and k more words. -/
def kexp (key : List UInt8) : Nat → List UInt8
  | 0 => key
  | k + 1 => kexp key k ++ xorL (tword (key.length / 4) (key.length / 4 + k) (((kexp key k).drop (4 * (key.length / 4 + k) - 4)).take 4)) (((kexp key k).drop (4 * k)).take 4)
theorem length_tword (n i : Nat) {t : List UInt8} (h : t.length = 4) : (tword n i t).length = 4 := by
  unfold tword; split
  · rfl
  · split
    · simp [h]
    · exact h
theorem length_kexp (key : List UInt8) (h : key.length = 16 ∨ key.length = 32) : ∀ k, (kexp key k).length = key.length + 4 * k
  | 0 => rfl
  | k + 1 => by
    have ih := length_kexp key h k
    show (kexp key k ++ xorL _ _).length = _
    rw [List.length_append, length_xorL, length_tword _ _ (by simp [ih]; omega)]
    simp [ih]
    omega
/-- The round keys. -/
def rksOf (key : List UInt8) : List (List UInt8) :=
  (List.range (key.length / 4 + 7)).map fun r => ((kexp key (3 * (key.length / 4) + 28)).drop (16 * r)).take 16
theorem length_rks (key : List UInt8) : (rksOf key).length = key.length / 4 + 7 := by simp [rksOf]
theorem rks_at (key : List UInt8) {r : Nat} (h : r < key.length / 4 + 7) : (rksOf key).getD r [] = ((kexp key (3 * (key.length / 4) + 28)).drop (16 * r)).take 16 := by
  simp [rksOf, List.getD, h]
theorem rks_len (key : List UInt8) (hk : key.length = 16 ∨ key.length = 32) {r : Nat} (h : r < key.length / 4 + 7) : ((rksOf key).getD r []).length = 16 := by
  rw [rks_at key h, List.length_take, List.length_drop, length_kexp key hk]
  omega
theorem length_aesAt {ks : List (List UInt8)} {b : List UInt8} (hb : b.length = 16) (hk : ∀ r, r < ks.length → (ks.getD r []).length = 16) : ∀ i, i < ks.length → (aesAt ks b i).length = 16
  | 0, h => by show (xorL _ _).length = 16; rw [length_xorL, hb, hk 0 h]; rfl
  | i + 1, h => by
    by_cases hm : i + 1 < ks.length - 1
    · rw [aesAt_mid hm, length_xorL, length_mixL, hk _ h]; rfl
    · rw [aesAt_last hm, length_xorL, length_turnL, hk _ h]; rfl
theorem length_aesE {key b : List UInt8} (hb : b.length = 16) (hk : key.length = 16 ∨ key.length = 32) : (aesE (rksOf key) b).length = 16 :=
  length_aesAt hb (fun r hr => rks_len key hk (by rwa [length_rks] at hr)) _ (by rw [length_rks]; omega)

/-! ### rows of blocks -/
def cbcAt (ks : List (List UInt8)) (p : List UInt8) : Nat → List UInt8
  | 0 => List.replicate 16 0
  | k + 1 => aesE ks (xorL (cbcAt ks p k) ((p.drop (16 * k)).take 16))
/-- The block at the end of a row of blocks. -/
def cbc (ks : List (List UInt8)) (p : List UInt8) : List UInt8 := cbcAt ks p (p.length / 16)
theorem length_cbcAt {key : List UInt8} (hk : key.length = 16 ∨ key.length = 32) (p : List UInt8) : ∀ k, 16 * k ≤ p.length → (cbcAt (rksOf key) p k).length = 16
  | 0, _ => by simp [cbcAt]
  | k + 1, h => by
    show (aesE _ _).length = 16
    refine length_aesE ?_ hk
    rw [length_xorL, length_cbcAt hk p k (by omega), List.length_take, List.length_drop]
    omega
end Go.Proofs.YtiijjpjkfiookaaDoor
