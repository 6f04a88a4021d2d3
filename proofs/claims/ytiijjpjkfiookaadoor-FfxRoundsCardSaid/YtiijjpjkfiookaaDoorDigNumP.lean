/- PLAIN: the number that digits tell. -/
import Derived.Test.YtiijjpjkfiookaaDoorDigPure
namespace Go.Proofs.YtiijjpjkfiookaaDoor

/-- The number of digits. -/
def valD (l : List UInt8) : Nat := l.foldl (fun n c => 10 * n + dg c) 0
theorem val_from (l : List UInt8) : ∀ n, l.foldl (fun n c => 10 * n + dg c) n = n * 10 ^ l.length + valD l := by
  unfold valD
  induction l with
  | nil => intro n; simp
  | cons c l ih =>
    intro n
    simp only [List.foldl_cons, List.length_cons]
    rw [ih (10 * n + dg c), ih (10 * 0 + dg c), Nat.pow_succ, Nat.add_mul, Nat.mul_zero, Nat.zero_add, Nat.mul_comm 10 n, Nat.mul_assoc, Nat.mul_comm 10 (10 ^ l.length), Nat.add_assoc]
theorem val_cons (c : UInt8) (l : List UInt8) : valD (c :: l) = dg c * 10 ^ l.length + valD l := by
  have := val_from l (10 * 0 + dg c)
  simpa [valD] using this
theorem val_snoc (l : List UInt8) (c : UInt8) : valD (l ++ [c]) = 10 * valD l + dg c := by simp [valD]
theorem val_append (l m : List UInt8) : valD (l ++ m) = valD l * 10 ^ m.length + valD m := by
  have := val_from m (valD l)
  simpa [valD] using this
theorem val_lt : ∀ (l : List UInt8), l.all isDig = true → valD l < 10 ^ l.length
  | [], _ => by simp [valD]
  | c :: l, h => by
    simp only [List.all_cons, Bool.and_eq_true] at h
    have h1 := val_lt l h.2
    have h2 := dg_le h.1
    rw [val_cons, List.length_cons, Nat.pow_succ]
    have : dg c * 10 ^ l.length ≤ 9 * 10 ^ l.length := Nat.mul_le_mul_right _ h2
    omega
/-- Without the noughts ahead. -/
def trimZ (l : List UInt8) : List UInt8 := l.dropWhile (· == 48)
theorem trim_all {l : List UInt8} (h : l.all isDig = true) : (trimZ l).all isDig = true := by
  rw [List.all_eq_true] at h ⊢
  exact fun c hc => h c (List.dropWhile_sublist _ |>.subset hc)
theorem val_trim : ∀ (l : List UInt8), valD (trimZ l) = valD l
  | [] => rfl
  | c :: l => by
    unfold trimZ
    rw [List.dropWhile_cons]
    by_cases hc : (c == 48) = true
    · rw [if_pos hc]
      have e : c = 48 := by simpa using hc
      rw [val_cons, e, show dg 48 = 0 from rfl, Nat.zero_mul, Nat.zero_add]
      exact val_trim l
    · rw [if_neg hc]
theorem trim_head {l : List UInt8} {c : UInt8} {m : List UInt8} (h : trimZ l = c :: m) : c ≠ 48 := by
  induction l with
  | nil => simp [trimZ] at h
  | cons x l ih =>
    unfold trimZ at h
    rw [List.dropWhile_cons] at h
    by_cases hx : (x == 48) = true
    · rw [if_pos hx] at h; exact ih h
    · rw [if_neg hx] at h
      injection h with h1 _
      subst h1
      simpa using hx
/-- A long number without noughts ahead is great. -/
theorem trim_big {l : List UInt8} (h : l.all isDig = true) (hl : 19 < (trimZ l).length) : 9223372036854775807 < valD l := by
  rw [← val_trim]
  have ha := trim_all h
  cases ht : trimZ l with
  | nil => rw [ht] at hl; simp at hl
  | cons c m =>
    have hc := trim_head ht
    rw [ht] at ha hl
    simp only [List.all_cons, Bool.and_eq_true] at ha
    have hd : 1 ≤ dg c := by
      have := isDig_iff.1 ha.1
      unfold dg
      have : c.toNat ≠ 48 := fun e => hc (UInt8.toNat_inj.1 e)
      omega
    rw [val_cons]
    have hm : 19 ≤ m.length := by rw [List.length_cons] at hl; omega
    have hp : 10 ^ 19 ≤ 10 ^ m.length := Nat.pow_le_pow_right (by decide) hm
    have : 1 * 10 ^ m.length ≤ dg c * 10 ^ m.length := Nat.mul_le_mul_right _ hd
    have e : (10 : Nat) ^ 19 = 10000000000000000000 := by decide
    omega
/-- What Number says is wrong. -/
def numE (l : List UInt8) : Int := if lookE l = 0 then (if l = [] then 3 else if valD l ≤ 9223372036854775807 then 0 else 5) else lookE l
def numV (l : List UInt8) : Int := if numE l = 0 then (valD l : Int) else 0
theorem numE_look {l : List UInt8} (h : lookE l ≠ 0) : numE l = lookE l := if_neg h
theorem lookE_nil : lookE [] = 0 := by decide
theorem numE_nil : numE [] = 3 := by decide
theorem numE_big {l : List UInt8} (h : lookE l = 0) (h0 : l ≠ []) (hb : 9223372036854775807 < valD l) : numE l = 5 := by unfold numE; rw [if_pos h, if_neg h0, if_neg (by omega)]
theorem numE_ok {l : List UInt8} (h : lookE l = 0) (h0 : l ≠ []) (hb : valD l ≤ 9223372036854775807) : numE l = 0 := by unfold numE; rw [if_pos h, if_neg h0, if_pos hb]
theorem numV_no {l : List UInt8} (h : numE l ≠ 0) : numV l = 0 := if_neg h
theorem numV_ok {l : List UInt8} (h : numE l = 0) : numV l = (valD l : Int) := if_pos h
theorem numE_zero {l : List UInt8} (h : numE l = 0) : lookE l = 0 ∧ l ≠ [] ∧ valD l ≤ 9223372036854775807 := by
  unfold numE at h
  by_cases h1 : lookE l = 0
  · rw [if_pos h1] at h
    by_cases h2 : l = []
    · rw [if_pos h2] at h; cases h
    · rw [if_neg h2] at h
      by_cases h3 : valD l ≤ 9223372036854775807
      · exact ⟨h1, h2, h3⟩
      · rw [if_neg h3] at h; cases h
  · rw [if_neg h1] at h; exact absurd h h1
/-! ### a number's digits tell it -/
theorem textD_dig (n : Nat) : ∀ w, (textD n w).all isDig = true := fun w => by
  rw [List.all_eq_true]
  intro c hc
  simp only [textD, List.mem_map, List.mem_range] at hc
  obtain ⟨j, _, rfl⟩ := hc
  exact isDig_sg (by omega)
theorem val_textD (n : Nat) : ∀ w, valD (textD n w) = n % 10 ^ w
  | 0 => by simp [textD, valD, Nat.mod_one]
  | w + 1 => by
    rw [textD_succ, val_cons, dg_sg (by omega), length_textD, val_textD n w]
    have h1 := Nat.div_add_mod n (10 ^ w)
    have h3 : n / 10 ^ w % 10 * 10 ^ w + n % 10 ^ w = n % (10 ^ w * 10) := by
      rw [Nat.mod_mul, Nat.mul_comm (10 ^ w), Nat.add_comm]
    rw [h3, Nat.pow_succ]
theorem lookE_textD {n w : Nat} (h : w ≤ 999) : lookE (textD n w) = 0 := lookE_ok.2 ⟨textD_dig n w, by rw [length_textD]; exact h⟩
/-- Noughts ahead change no number. -/
theorem val_noughts (k : Nat) (l : List UInt8) : valD (List.replicate k 48 ++ l) = valD l := by
  induction k with
  | zero => rfl
  | succ k ih => rw [List.replicate_succ, List.cons_append, val_cons, ih]; simp [dg]
end Go.Proofs.YtiijjpjkfiookaaDoor
