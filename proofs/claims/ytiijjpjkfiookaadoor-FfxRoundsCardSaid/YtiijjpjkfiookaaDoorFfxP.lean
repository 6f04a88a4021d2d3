/- PLAIN: digits under a key that stay digits: the masks, the ten rounds, and the way back. -/
import Derived.Test.YtiijjpjkfiookaaDoorAesP
import Derived.Test.YtiijjpjkfiookaaDoorRadRest
import Derived.Test.YtiijjpjkfiookaaDoorRadWid
import Derived.Test.YtiijjpjkfiookaaDoorDigBackP
namespace Go.Proofs.YtiijjpjkfiookaaDoor

/-- A number in k bytes, the highest first. -/
def numB (n k : Nat) : List UInt8 := (List.range k).map fun j => UInt8.ofNat (n / 256 ^ (k - 1 - j))
theorem length_numB (n k : Nat) : (numB n k).length = k := by simp [numB]
/-- How many digits the half has that a round changes. -/
def halfN (n i : Nat) : Nat := (n + i % 2) / 2
/-- How many bytes a value takes. -/
def wdN (n : Nat) : Nat := cntB (10 ^ (n - n / 2) - 1)
/-- How many noughts stand ahead of the round's byte. -/
def padN (t w : Nat) : Nat := (48 - t - (1 + w)) % 16
def ffHead (n : Nat) (tw : List UInt8) : List UInt8 := [1, 2, 1, 0, 0, 10, 10, UInt8.ofNat (n / 2)] ++ numB n 4 ++ numB tw.length 4 ++ tw
def ffTail (i x w : Nat) : List UInt8 := UInt8.ofNat i :: numB x w
def ffIn (n i x : Nat) (tw : List UInt8) : List UInt8 := ffHead n tw ++ (List.replicate (padN tw.length (wdN n)) 0 ++ ffTail i x (wdN n))
/-- What a round adds. -/
def maskV (key tw : List UInt8) (n i x : Nat) : Nat := restD (10 ^ halfN n i) ((cbc (rksOf key) (ffIn n i x tw)).take (4 + (wdN n + 3) / 4 * 4))
theorem wd_le {n : Nat} (h : n ≤ 32) (h6 : 6 ≤ n) : 2 ≤ wdN n ∧ wdN n ≤ 7 := by
  have e : ∀ m, m < 33 → 6 ≤ m → 2 ≤ wdN m ∧ wdN m ≤ 7 := by decide +kernel
  exact e n (by omega) h6
theorem length_ffHead (n : Nat) (tw : List UInt8) : (ffHead n tw).length = 16 + tw.length := by
  unfold ffHead; simp only [List.length_append, length_numB, List.length_cons, List.length_nil]
theorem length_ffTail (i x w : Nat) : (ffTail i x w).length = 1 + w := by simp [ffTail, length_numB]; omega
theorem length_inB (n i x : Nat) (tw : List UInt8) (ht : tw.length ≤ 16) (h : n ≤ 32) (h6 : 6 ≤ n) : (ffIn n i x tw).length % 16 = 0 ∧ (ffIn n i x tw).length ≤ 64 := by
  have hw := wd_le h h6
  unfold ffIn
  rw [List.length_append, length_ffHead, List.length_append, length_ffTail, List.length_replicate]
  unfold padN
  omega
theorem mask_lt (key tw : List UInt8) (n i x : Nat) : maskV key tw n i x < 10 ^ halfN n i := restD_lt (Nat.pow_pos (by decide)) _

/-! ### the rounds -/
/-- The two halves behind i rounds. -/
def encAt (f : Nat → Nat → Nat) (n a b : Nat) : Nat → Nat × Nat
  | 0 => (a, b)
  | i + 1 => ((encAt f n a b i).2, ((encAt f n a b i).1 + f i (encAt f n a b i).2) % 10 ^ halfN n i)
/-- The two halves behind k rounds of the way back, from the last one. -/
def decAt (f : Nat → Nat → Nat) (n a b : Nat) : Nat → Nat × Nat
  | 0 => (a, b)
  | k + 1 => (((decAt f n a b k).2 + 10 ^ halfN n (9 - k) - f (9 - k) (decAt f n a b k).1) % 10 ^ halfN n (9 - k), (decAt f n a b k).1)
/-- In the halves' ranges ahead of round i. -/
def inH (n i : Nat) (p : Nat × Nat) : Prop := p.1 < 10 ^ halfN n i ∧ p.2 < 10 ^ halfN n (i + 1)
theorem half_two (n i : Nat) : halfN n (i + 1 + 1) = halfN n i := by unfold halfN; rw [show (i + 1 + 1) % 2 = i % 2 by omega]
theorem half_par {n i j : Nat} (h : i % 2 = j % 2) : halfN n i = halfN n j := by unfold halfN; rw [h]
theorem half_sum (n i : Nat) : halfN n i + halfN n (i + 1) = n := by unfold halfN; omega
theorem pow_pos' (k : Nat) : 0 < 10 ^ k := Nat.pow_pos (by decide)
theorem enc_in {f : Nat → Nat → Nat} {n a b : Nat} (h : inH n 0 (a, b)) : ∀ i, inH n i (encAt f n a b i)
  | 0 => h
  | i + 1 => by
    have ih := enc_in (f := f) h i
    refine ⟨ih.2, ?_⟩
    rw [half_two]
    exact Nat.mod_lt _ (pow_pos' _)
theorem dec_in {f : Nat → Nat → Nat} {n a b : Nat} (h : inH n 10 (a, b)) : ∀ k, k ≤ 10 → inH n (10 - k) (decAt f n a b k)
  | 0, _ => h
  | k + 1, hk => by
    have ih := dec_in (f := f) h k (by omega)
    refine ⟨?_, ?_⟩
    · rw [half_par (show (10 - (k + 1)) % 2 = (9 - k) % 2 by omega)]; exact Nat.mod_lt _ (pow_pos' _)
    · rw [half_par (show (10 - (k + 1) + 1) % 2 = (10 - k) % 2 by omega)]; exact ih.1
theorem mod_undo {a m p : Nat} (ha : a < p) (hm : m < p) : ((a + m) % p + p - m) % p = a := by
  by_cases h : a + m < p
  · rw [Nat.mod_eq_of_lt h, show a + m + p - m = a + p by omega, Nat.add_mod_right, Nat.mod_eq_of_lt ha]
  · have e : (a + m) % p = a + m - p := by rw [Nat.mod_eq_sub_mod (by omega), Nat.mod_eq_of_lt (by omega)]
    rw [e, show a + m - p + p - m = a by omega, Nat.mod_eq_of_lt ha]
theorem mod_redo {a m p : Nat} (ha : a < p) (hm : m < p) : ((a + p - m) % p + m) % p = a := by
  by_cases h : a < m
  · rw [Nat.mod_eq_of_lt (show a + p - m < p by omega), show a + p - m + m = a + p by omega, Nat.add_mod_right, Nat.mod_eq_of_lt ha]
  · rw [show a + p - m = (a - m) + p by omega, Nat.add_mod_right, Nat.mod_eq_of_lt (show a - m < p by omega), show a - m + m = a by omega, Nat.mod_eq_of_lt ha]
/-- The way back of what was encrypted. -/
theorem dec_enc {f : Nat → Nat → Nat} {n a b : Nat} (hf : ∀ i x, f i x < 10 ^ halfN n i) (h : inH n 0 (a, b)) :
    ∀ k, k ≤ 10 → decAt f n (encAt f n a b 10).1 (encAt f n a b 10).2 k = encAt f n a b (10 - k)
  | 0, _ => rfl
  | k + 1, hk => by
    have ih := dec_enc hf h k (by omega)
    have hi := enc_in (f := f) h (9 - k)
    show ((_ + _ - _) % _, _) = _
    rw [ih, show 10 - k = (9 - k) + 1 by omega, show 10 - (k + 1) = 9 - k by omega]
    show ((((encAt f n a b (9 - k)).1 + f (9 - k) (encAt f n a b (9 - k)).2) % 10 ^ halfN n (9 - k) + 10 ^ halfN n (9 - k) - f (9 - k) (encAt f n a b (9 - k)).2) % 10 ^ halfN n (9 - k), (encAt f n a b (9 - k)).2) = _
    rw [mod_undo hi.1 (hf _ _)]
/-- Encrypting what the way back gave. -/
theorem enc_dec {f : Nat → Nat → Nat} {n a b : Nat} (hf : ∀ i x, f i x < 10 ^ halfN n i) (h : inH n 10 (a, b)) :
    ∀ i, i ≤ 10 → encAt f n (decAt f n a b 10).1 (decAt f n a b 10).2 i = decAt f n a b (10 - i)
  | 0, _ => rfl
  | i + 1, hi => by
    have ih := enc_dec hf h i (by omega)
    have hd := dec_in (f := f) h (9 - i) (by omega)
    show (_, (_ + _) % _) = _
    rw [ih, show 10 - i = (9 - i) + 1 by omega, show 10 - (i + 1) = 9 - i by omega]
    show ((decAt f n a b (9 - i)).1, (((decAt f n a b (9 - i)).2 + 10 ^ halfN n (9 - (9 - i)) - f (9 - (9 - i)) (decAt f n a b (9 - i)).1) % 10 ^ halfN n (9 - (9 - i)) + f i (decAt f n a b (9 - i)).1) % 10 ^ halfN n i) = _
    rw [show 9 - (9 - i) = i by omega, mod_redo ?_ (hf _ _)]
    rw [half_par (show i % 2 = (10 - (9 - i) + 1) % 2 by omega)]
    exact hd.2

/-! ### texts -/
def joinT (n : Nat) (p : Nat × Nat) : List UInt8 := textD p.1 (n / 2) ++ textD p.2 (n - n / 2)
def encT (key tw l : List UInt8) : List UInt8 := joinT l.length (encAt (maskV key tw l.length) l.length (valD (l.take (l.length / 2))) (valD (l.drop (l.length / 2))) 10)
def decT (key tw l : List UInt8) : List UInt8 := joinT l.length (decAt (maskV key tw l.length) l.length (valD (l.take (l.length / 2))) (valD (l.drop (l.length / 2))) 10)
/-- What is wrong with numerals. -/
def nmE (l : List UInt8) : Int := if l.length < 6 ∨ 32 < l.length then 1 else if l.all isDig = true then 0 else 4
theorem nmE_arg {l : List UInt8} (h : l.length < 6 ∨ 32 < l.length) : nmE l = 1 := if_pos h
theorem nmE_ok {l : List UInt8} (h : ¬ (l.length < 6 ∨ 32 < l.length)) (h2 : l.all isDig = true) : nmE l = 0 := by unfold nmE; rw [if_neg h, if_pos h2]
theorem nmE_form {l : List UInt8} (h : ¬ (l.length < 6 ∨ 32 < l.length)) (h2 : l.all isDig = false) : nmE l = 4 := by unfold nmE; rw [if_neg h, if_neg (by rw [h2]; decide)]
theorem nmE_zero {l : List UInt8} (h : nmE l = 0) : 6 ≤ l.length ∧ l.length ≤ 32 ∧ l.all isDig = true := by
  unfold nmE at h
  split at h
  · simp at h
  · split at h
    · refine ⟨by omega, by omega, by assumption⟩
    · simp at h
def encR (key tw l : List UInt8) : List UInt8 := if nmE l = 0 then encT key tw l else []
def decR (key tw l : List UInt8) : List UInt8 := if nmE l = 0 then decT key tw l else []
theorem length_joinT (n : Nat) (p : Nat × Nat) : (joinT n p).length = n := by
  unfold joinT; rw [List.length_append, length_textD, length_textD]; omega
theorem all_joinT (n : Nat) (p : Nat × Nat) : (joinT n p).all isDig = true := by
  unfold joinT; rw [List.all_append, textD_dig, textD_dig]; rfl
theorem half0 (n : Nat) : halfN n 0 = n / 2 := rfl
theorem half1 (n : Nat) : halfN n 1 = n - n / 2 := by unfold halfN; omega
theorem vals_in {l : List UInt8} (h : l.all isDig = true) : inH l.length 0 (valD (l.take (l.length / 2)), valD (l.drop (l.length / 2))) := by
  have h1 := val_lt (l.take (l.length / 2)) (List.all_eq_true.2 fun c hc => List.all_eq_true.1 h c (List.mem_of_mem_take hc))
  have h2 := val_lt (l.drop (l.length / 2)) (List.all_eq_true.2 fun c hc => List.all_eq_true.1 h c (List.mem_of_mem_drop hc))
  rw [List.length_take, Nat.min_eq_left (by omega)] at h1
  rw [List.length_drop] at h2
  exact ⟨h1, by rw [half1]; exact h2⟩
theorem join_vals {n : Nat} {p : Nat × Nat} (h : inH n 0 p) : valD ((joinT n p).take (n / 2)) = p.1 ∧ valD ((joinT n p).drop (n / 2)) = p.2 := by
  unfold joinT
  have e1 := length_textD p.1 (n / 2)
  rw [List.take_append_of_le_length (by omega), List.take_of_length_le (by omega), List.drop_append_of_le_length (by omega), List.drop_of_length_le (by omega), List.nil_append, val_textD, val_textD]
  have h2 := h.2
  rw [half1] at h2
  exact ⟨Nat.mod_eq_of_lt h.1, Nat.mod_eq_of_lt h2⟩
theorem join_back {l : List UInt8} (h : l.all isDig = true) : joinT l.length (valD (l.take (l.length / 2)), valD (l.drop (l.length / 2))) = l := by
  unfold joinT
  have h1 := textD_val (l.take (l.length / 2)) (List.all_eq_true.2 fun c hc => List.all_eq_true.1 h c (List.mem_of_mem_take hc))
  have h2 := textD_val (l.drop (l.length / 2)) (List.all_eq_true.2 fun c hc => List.all_eq_true.1 h c (List.mem_of_mem_drop hc))
  rw [List.length_take, Nat.min_eq_left (by omega)] at h1
  rw [List.length_drop] at h2
  rw [h1, h2, List.take_append_drop]
theorem in_ten {n : Nat} {p : Nat × Nat} : inH n 10 p ↔ inH n 0 p := by
  unfold inH; rw [half_par (show 10 % 2 = 0 % 2 by decide), half_par (show (10 + 1) % 2 = (0 + 1) % 2 by decide)]
theorem nm_join (n : Nat) (p : Nat × Nat) (h6 : 6 ≤ n) (h : n ≤ 32) : nmE (joinT n p) = 0 := nmE_ok (by rw [length_joinT]; omega) (all_joinT n p)
theorem dec_encT (key tw : List UInt8) {l : List UInt8} (h : nmE l = 0) : decT key tw (encT key tw l) = l ∧ nmE (encT key tw l) = 0 ∧ (encT key tw l).length = l.length := by
  obtain ⟨h6, h32, hd⟩ := nmE_zero h
  have hl : (encT key tw l).length = l.length := length_joinT _ _
  have hin := vals_in hd
  have he := (in_ten (n := l.length)).1 (enc_in (f := maskV key tw l.length) hin 10)
  refine ⟨?_, nm_join _ _ h6 h32, hl⟩
  have hv := join_vals he
  unfold decT
  rw [hl, show (encT key tw l).take (l.length / 2) = (joinT l.length (encAt (maskV key tw l.length) l.length (valD (l.take (l.length / 2))) (valD (l.drop (l.length / 2))) 10)).take (l.length / 2) from rfl,
    show (encT key tw l).drop (l.length / 2) = (joinT l.length (encAt (maskV key tw l.length) l.length (valD (l.take (l.length / 2))) (valD (l.drop (l.length / 2))) 10)).drop (l.length / 2) from rfl, hv.1, hv.2, dec_enc (fun i x => mask_lt _ _ _ _ _) hin 10 (by decide)]
  exact join_back hd
theorem enc_decT (key tw : List UInt8) {l : List UInt8} (h : nmE l = 0) : encT key tw (decT key tw l) = l ∧ nmE (decT key tw l) = 0 ∧ (decT key tw l).length = l.length := by
  obtain ⟨h6, h32, hd⟩ := nmE_zero h
  have hl : (decT key tw l).length = l.length := length_joinT _ _
  have hin := (in_ten (n := l.length)).2 (vals_in hd)
  have he := dec_in (f := maskV key tw l.length) hin 10 (by decide)
  refine ⟨?_, nm_join _ _ h6 h32, hl⟩
  have hv := join_vals he
  unfold encT
  rw [hl, show (decT key tw l).take (l.length / 2) = (joinT l.length (decAt (maskV key tw l.length) l.length (valD (l.take (l.length / 2))) (valD (l.drop (l.length / 2))) 10)).take (l.length / 2) from rfl,
    show (decT key tw l).drop (l.length / 2) = (joinT l.length (decAt (maskV key tw l.length) l.length (valD (l.take (l.length / 2))) (valD (l.drop (l.length / 2))) 10)).drop (l.length / 2) from rfl, hv.1, hv.2, enc_dec (fun i x => mask_lt _ _ _ _ _) hin 10 (by decide)]
  exact join_back hd
theorem enc_inj (key tw : List UInt8) {l m : List UInt8} (hl : nmE l = 0) (hm : nmE m = 0) (h : encT key tw l = encT key tw m) : l = m := by
  rw [← (dec_encT key tw hl).1, h, (dec_encT key tw hm).1]
end Go.Proofs.YtiijjpjkfiookaaDoor
