/- PLAIN: the digest of a text, on numbers below 2^32. -/
namespace Go.Proofs.Ytbjlmodabiadfaa
namespace Sha

def ror (x n : Nat) : Nat := (x >>> n) ||| (x <<< (32 - n)) % 4294967296
def s0 (x : Nat) : Nat := (ror x 7 ^^^ ror x 18) ^^^ (x >>> 3)
def s1 (x : Nat) : Nat := (ror x 17 ^^^ ror x 19) ^^^ (x >>> 10)
def big0 (x : Nat) : Nat := (ror x 2 ^^^ ror x 13) ^^^ ror x 22
def big1 (x : Nat) : Nat := (ror x 6 ^^^ ror x 11) ^^^ ror x 25
def ch (e f g : Nat) : Nat := g ^^^ (e &&& (f ^^^ g))
def maj (a b c : Nat) : Nat := ((a &&& b) ^^^ (a &&& c)) ^^^ (b &&& c)

theorem lt_or {a b : Nat} (ha : a < 4294967296) (hb : b < 4294967296) : a ||| b < 4294967296 := Nat.or_lt_two_pow (n := 32) ha hb
theorem lt_xor {a b : Nat} (ha : a < 4294967296) (hb : b < 4294967296) : a ^^^ b < 4294967296 := Nat.xor_lt_two_pow (n := 32) ha hb
theorem lt_and {a b : Nat} (hb : b < 4294967296) : a &&& b < 4294967296 := Nat.and_lt_two_pow (n := 32) _ hb
theorem lt_shr {x n : Nat} (h : x < 4294967296) : x >>> n < 4294967296 := by
  rw [Nat.shiftRight_eq_div_pow]; exact Nat.lt_of_le_of_lt (Nat.div_le_self _ _) h
theorem ror_lt {x n : Nat} (h : x < 4294967296) : ror x n < 4294967296 := lt_or (lt_shr h) (Nat.mod_lt _ (by omega))
theorem s0_lt {x : Nat} (h : x < 4294967296) : s0 x < 4294967296 := lt_xor (lt_xor (ror_lt h) (ror_lt h)) (lt_shr h)
theorem s1_lt {x : Nat} (h : x < 4294967296) : s1 x < 4294967296 := lt_xor (lt_xor (ror_lt h) (ror_lt h)) (lt_shr h)
theorem big0_lt {x : Nat} (h : x < 4294967296) : big0 x < 4294967296 := lt_xor (lt_xor (ror_lt h) (ror_lt h)) (ror_lt h)
theorem big1_lt {x : Nat} (h : x < 4294967296) : big1 x < 4294967296 := lt_xor (lt_xor (ror_lt h) (ror_lt h)) (ror_lt h)
theorem ch_lt {e f g : Nat} (hf : f < 4294967296) (hg : g < 4294967296) : ch e f g < 4294967296 := lt_xor hg (lt_and (lt_xor hf hg))
theorem maj_lt {a b c : Nat} (hb : b < 4294967296) (hc : c < 4294967296) : maj a b c < 4294967296 := lt_xor (lt_xor (lt_and hb) (lt_and hc)) (lt_and hc)

/-- The reference's choice, and its majority. -/
theorem ch_ref {e f g : Nat} (he : e < 4294967296) (_hf : f < 4294967296) (hg : g < 4294967296) : (e &&& f) ||| ((4294967295 - e) &&& g) = ch e f g := by
  have hn : 4294967295 - e = 2 ^ 32 - (e + 1) := by omega
  apply Nat.eq_of_testBit_eq
  intro i
  unfold ch
  rw [hn]
  simp only [Nat.testBit_or, Nat.testBit_and, Nat.testBit_xor, Nat.testBit_two_pow_sub_succ (n := 32) he]
  by_cases hi : i < 32
  · simp only [hi, decide_true, Bool.true_and]
    cases e.testBit i <;> cases f.testBit i <;> cases g.testBit i <;> rfl
  · have hg' : g.testBit i = false := Nat.testBit_lt_two_pow (Nat.lt_of_lt_of_le hg (Nat.pow_le_pow_right (n := 2) (by omega) (Nat.le_of_not_lt hi)))
    have he' : e.testBit i = false := Nat.testBit_lt_two_pow (Nat.lt_of_lt_of_le he (Nat.pow_le_pow_right (n := 2) (by omega) (Nat.le_of_not_lt hi)))
    simp [hi, hg', he']
theorem maj_ref (a b c : Nat) : ((a &&& b) ||| (a &&& c)) ||| (b &&& c) = maj a b c := by
  apply Nat.eq_of_testBit_eq
  intro i
  unfold maj
  simp only [Nat.testBit_or, Nat.testBit_and, Nat.testBit_xor]
  cases a.testBit i <;> cases b.testBit i <;> cases c.testBit i <;> rfl

/-- The constants. -/
def K : List Nat := [
  0x428a2f98, 0x71374491, 0xb5c0fbcf, 0xe9b5dba5, 0x3956c25b, 0x59f111f1, 0x923f82a4, 0xab1c5ed5,
  0xd807aa98, 0x12835b01, 0x243185be, 0x550c7dc3, 0x72be5d74, 0x80deb1fe, 0x9bdc06a7, 0xc19bf174,
  0xe49b69c1, 0xefbe4786, 0x0fc19dc6, 0x240ca1cc, 0x2de92c6f, 0x4a7484aa, 0x5cb0a9dc, 0x76f988da,
  0x983e5152, 0xa831c66d, 0xb00327c8, 0xbf597fc7, 0xc6e00bf3, 0xd5a79147, 0x06ca6351, 0x14292967,
  0x27b70a85, 0x2e1b2138, 0x4d2c6dfc, 0x53380d13, 0x650a7354, 0x766a0abb, 0x81c2c92e, 0x92722c85,
  0xa2bfe8a1, 0xa81a664b, 0xc24b8b70, 0xc76c51a3, 0xd192e819, 0xd6990624, 0xf40e3585, 0x106aa070,
  0x19a4c116, 0x1e376c08, 0x2748774c, 0x34b0bcb5, 0x391c0cb3, 0x4ed8aa4a, 0x5b9cca4f, 0x682e6ff3,
  0x748f82ee, 0x78a5636f, 0x84c87814, 0x8cc70208, 0x90befffa, 0xa4506ceb, 0xbef9a3f7, 0xc67178f2]
theorem length_K : K.length = 64 := by decide
theorem K_lt : ∀ t, K.getD t 0 < 4294967296 := by
  intro t
  by_cases h : t < 64
  · have : ∀ t : Fin 64, K.getD t.val 0 < 4294967296 := by decide +kernel
    exact this ⟨t, h⟩
  · rw [List.getD_eq_getElem?_getD, List.getElem?_eq_none (by rw [length_K]; omega)]; simp

structure St where
  a : Nat
  b : Nat
  c : Nat
  d : Nat
  e : Nat
  f : Nat
  g : Nat
  h : Nat


def St.ok (s : St) : Prop := s.a < 4294967296 ∧ s.b < 4294967296 ∧ s.c < 4294967296 ∧ s.d < 4294967296 ∧ s.e < 4294967296 ∧ s.f < 4294967296 ∧ s.g < 4294967296 ∧ s.h < 4294967296
def St.list (s : St) : List Nat := [s.a, s.b, s.c, s.d, s.e, s.f, s.g, s.h]

def start : St := ⟨0x6a09e667, 0xbb67ae85, 0x3c6ef372, 0xa54ff53a, 0x510e527f, 0x9b05688c, 0x1f83d9ab, 0x5be0cd19⟩
theorem start_ok : start.ok := by unfold St.ok start; decide

/-- Word t of a block. -/
def word (b : List UInt8) (t : Nat) : Nat := (b.getD (4 * t) 0).toNat * 16777216 + (b.getD (4 * t + 1) 0).toNat * 65536 + (b.getD (4 * t + 2) 0).toNat * 256 + (b.getD (4 * t + 3) 0).toNat
theorem word_lt (b : List UInt8) (t : Nat) : word b t < 4294967296 := by
  unfold word
  have h1 := (b.getD (4 * t) 0).toNat_lt
  have h2 := (b.getD (4 * t + 1) 0).toNat_lt
  have h3 := (b.getD (4 * t + 2) 0).toNat_lt
  have h4 := (b.getD (4 * t + 3) 0).toNat_lt
  omega
def next (b : List UInt8) (ws : List Nat) (t : Nat) : Nat :=
  if t < 16 then word b t else (ws.getD (t - 16) 0 + s0 (ws.getD (t - 15) 0) + ws.getD (t - 7) 0 + s1 (ws.getD (t - 2) 0)) % 4294967296
/-- The first t words of a block's schedule. -/
def sched (b : List UInt8) : Nat → List Nat
  | 0 => []
  | t + 1 => sched b t ++ [next b (sched b t) t]
theorem length_sched (b : List UInt8) : ∀ t, (sched b t).length = t
  | 0 => rfl
  | t + 1 => by simp [sched, length_sched b t]
theorem next_lt (b : List UInt8) (ws : List Nat) (t : Nat) : next b ws t < 4294967296 := by
  unfold next; split
  · exact word_lt b t
  · exact Nat.mod_lt _ (by omega)
theorem sched_at (b : List UInt8) (t : Nat) : ∀ n, t < n → (sched b n).getD t 0 = next b (sched b t) t
  | 0, h => by omega
  | n + 1, h => by
    simp only [sched]
    rw [List.getD_eq_getElem?_getD]
    rcases Nat.lt_or_ge t n with h' | h'
    · rw [List.getElem?_append_left (by rw [length_sched]; exact h'), ← List.getD_eq_getElem?_getD, sched_at b t n h']
    · have : t = n := by omega
      subst this
      rw [List.getElem?_append_right (by rw [length_sched]; omega), length_sched]
      simp
theorem sched_lt (b : List UInt8) (n t : Nat) : (sched b n).getD t 0 < 4294967296 := by
  by_cases h : t < n
  · rw [sched_at b t n h]; exact next_lt _ _ _
  · rw [List.getD_eq_getElem?_getD, List.getElem?_eq_none (by rw [length_sched]; omega)]; simp

def rx (s : St) (k w : Nat) : Nat := (s.h + big1 s.e + ch s.e s.f s.g + k + w) % 4294967296
def ry (s : St) : Nat := (big0 s.a + maj s.a s.b s.c) % 4294967296
def rnd (s : St) (k w : Nat) : St := ⟨(rx s k w + ry s) % 4294967296, s.a, s.b, s.c, (s.d + rx s k w) % 4294967296, s.e, s.f, s.g⟩
theorem rnd_ok {s : St} (h : s.ok) (k w : Nat) : (rnd s k w).ok := by
  obtain ⟨h1, h2, h3, h4, h5, h6, h7, h8⟩ := h
  exact ⟨Nat.mod_lt _ (by omega), h1, h2, h3, Nat.mod_lt _ (by omega), h5, h6, h7⟩
def rounds (s : St) (ws : List Nat) : Nat → St
  | 0 => s
  | t + 1 => rnd (rounds s ws t) (K.getD t 0) (ws.getD t 0)
theorem rounds_ok {s : St} (h : s.ok) (ws : List Nat) : ∀ t, (rounds s ws t).ok
  | 0 => h
  | t + 1 => rnd_ok (rounds_ok h ws t) _ _
def add (s v : St) : St := ⟨(s.a + v.a) % 4294967296, (s.b + v.b) % 4294967296, (s.c + v.c) % 4294967296, (s.d + v.d) % 4294967296, (s.e + v.e) % 4294967296, (s.f + v.f) % 4294967296, (s.g + v.g) % 4294967296, (s.h + v.h) % 4294967296⟩
theorem add_ok (s v : St) : (add s v).ok := ⟨Nat.mod_lt _ (by omega), Nat.mod_lt _ (by omega), Nat.mod_lt _ (by omega), Nat.mod_lt _ (by omega), Nat.mod_lt _ (by omega), Nat.mod_lt _ (by omega), Nat.mod_lt _ (by omega), Nat.mod_lt _ (by omega)⟩
/-- The state behind a block. -/
def block (s : St) (b : List UInt8) : St := add s (rounds s (sched b 64) 64)
theorem block_ok (s : St) (b : List UInt8) : (block s b).ok := add_ok _ _

/-- The state behind the first n blocks of a text. -/
def blocks (s : St) (l : List UInt8) : Nat → St
  | 0 => s
  | n + 1 => block (blocks s l n) ((l.drop (64 * n)).take 64)
theorem blocks_ok {s : St} (h : s.ok) (l : List UInt8) : ∀ n, (blocks s l n).ok
  | 0 => h
  | _ + 1 => block_ok _ _
/-- The state behind all whole blocks. -/
def run (s : St) (l : List UInt8) : St := blocks s l (l.length / 64)
theorem run_ok {s : St} (h : s.ok) (l : List UInt8) : (run s l).ok := blocks_ok h l _
/-- What does not fill a block. -/
def left (l : List UInt8) : List UInt8 := l.drop (64 * (l.length / 64))
theorem length_left (l : List UInt8) : (left l).length = l.length % 64 := by simp [left]; omega
theorem left_short {l : List UInt8} (h : l.length < 64) : left l = l := by
  unfold left; rw [show l.length / 64 = 0 by omega]; rfl
theorem run_short {s : St} {l : List UInt8} (h : l.length < 64) : run s l = s := by
  unfold run; rw [show l.length / 64 = 0 by omega]; rfl

/-- blocks only reads the first bytes. -/
theorem blocks_prefix (s : St) (l m : List UInt8) : ∀ n, 64 * n ≤ l.length → blocks s (l ++ m) n = blocks s l n
  | 0, _ => rfl
  | n + 1, h => by
    simp only [blocks]
    rw [blocks_prefix s l m n (by omega)]
    congr 1
    rw [List.drop_append_of_le_length (by omega), List.take_append_of_le_length (by simp; omega)]
theorem blocks_from (s : St) (l m : List UInt8) (k : Nat) (h : l.length = 64 * k) : ∀ n, blocks s (l ++ m) (k + n) = blocks (blocks s l k) m n
  | 0 => blocks_prefix s l m k (by omega)
  | n + 1 => by
    rw [← Nat.add_assoc]
    simp only [blocks]
    rw [blocks_from s l m k h n]
    congr 2
    rw [show 64 * (k + n) = l.length + 64 * n by omega, List.drop_append]
    simp
/-- To go on from what is left with more is to go on with all. -/
theorem run_append (s : St) (l m : List UInt8) : run (run s l) (left l ++ m) = run s (l ++ m) := by
  have e : l.take (64 * (l.length / 64)) ++ (left l ++ m) = l ++ m := by
    rw [← List.append_assoc]; unfold left; rw [List.take_append_drop]
  have hl : (l.take (64 * (l.length / 64))).length = 64 * (l.length / 64) := by simp; omega
  have hk := blocks_from s (l.take (64 * (l.length / 64))) (left l ++ m) (l.length / 64) hl ((left l ++ m).length / 64)
  have hp : blocks s (l.take (64 * (l.length / 64))) (l.length / 64) = blocks s l (l.length / 64) := by
    have := blocks_prefix s (l.take (64 * (l.length / 64))) (l.drop (64 * (l.length / 64))) (l.length / 64) (by omega)
    rw [List.take_append_drop] at this
    exact this.symm
  rw [e, hp] at hk
  unfold run
  rw [← hk]
  congr 1
  simp only [List.length_append, length_left]
  omega
theorem left_append (l m : List UInt8) : left (left l ++ m) = left (l ++ m) := by
  have e : l.take (64 * (l.length / 64)) ++ (left l ++ m) = l ++ m := by
    rw [← List.append_assoc]; unfold left; rw [List.take_append_drop]
  have hl : (l.take (64 * (l.length / 64))).length = 64 * (l.length / 64) := by simp; omega
  have h2 : left (l ++ m) = (l.take (64 * (l.length / 64)) ++ (left l ++ m)).drop (64 * ((l ++ m).length / 64)) := by rw [e]; rfl
  rw [h2, List.drop_append, hl, List.drop_of_length_le (by rw [hl]; simp only [List.length_append]; omega), List.nil_append]
  show (left l ++ m).drop _ = _
  congr 1
  simp only [List.length_append, length_left]
  omega
theorem run_nil (s : St) : run s [] = s := rfl
theorem left_nil : left [] = [] := rfl

/-- A number in eight bytes, the highest first. -/
def by8 (n : Int) (s : Nat) : UInt8 := UInt8.ofNat ((n / (2 : Int) ^ s) % 256).toNat
theorem by8_toNat (n : Int) (s : Nat) : ((by8 n s).toNat : Int) = (n / (2 : Int) ^ s) % 256 := by
  unfold by8
  rw [UInt8.toNat_ofNat']
  omega
def eight (n : Int) : List UInt8 := [by8 n 56, by8 n 48, by8 n 40, by8 n 32, by8 n 24, by8 n 16, by8 n 8, by8 n 0]
theorem length_eight (n : Int) : (eight n).length = 8 := rfl
/-- What stands behind a text of n bytes. -/
def pad (n : Nat) : List UInt8 := 128 :: (List.replicate ((119 - n % 64) % 64) 0 ++ eight (8 * (n : Int)))
theorem length_pad (n : Nat) : (n + (pad n).length) % 64 = 0 := by simp [pad, eight]; omega
def out4 (n : Nat) : List UInt8 := [UInt8.ofNat (n >>> 24), UInt8.ofNat (n >>> 16), UInt8.ofNat (n >>> 8), UInt8.ofNat n]
def St.bytes (s : St) : List UInt8 := out4 s.a ++ (out4 s.b ++ (out4 s.c ++ (out4 s.d ++ (out4 s.e ++ (out4 s.f ++ (out4 s.g ++ out4 s.h))))))
theorem length_bytes (s : St) : s.bytes.length = 32 := rfl
theorem bytes_flat (s : St) : s.bytes = s.list.flatMap out4 := by simp [St.bytes, St.list]
theorem flat_next (s : St) (k : Nat) (h : k < 8) : (s.list.take (k + 1)).flatMap out4 = (s.list.take k).flatMap out4 ++ out4 (s.list.getD k 0) := by
  have hl : k < s.list.length := h
  rw [List.take_succ_eq_append_getElem hl, List.flatMap_append]
  simp [List.getD_eq_getElem?_getD, hl]
theorem length_flat (l : List Nat) : (l.flatMap out4).length = 4 * l.length := by
  induction l with
  | nil => rfl
  | cons a r ih => simp only [List.flatMap_cons, List.length_append, ih, List.length_cons]; simp [out4]; omega
theorem eight_next (n : Int) (k : Nat) (h : k < 8) : (eight n).take (k + 1) = (eight n).take k ++ [by8 n (56 - 8 * k)] := by
  match k, h with
  | 0, _ => rfl
  | 1, _ => rfl
  | 2, _ => rfl
  | 3, _ => rfl
  | 4, _ => rfl
  | 5, _ => rfl
  | 6, _ => rfl
  | 7, _ => rfl
theorem list_lt {s : St} (h : s.ok) (k : Nat) : s.list.getD k 0 < 4294967296 := by
  obtain ⟨h0, h1, h2, h3, h4, h5, h6, h7⟩ := h
  match k with
  | 0 => exact h0
  | 1 => exact h1
  | 2 => exact h2
  | 3 => exact h3
  | 4 => exact h4
  | 5 => exact h5
  | 6 => exact h6
  | 7 => exact h7
  | k + 8 => simp [St.list]
theorem left_full {l : List UInt8} (h : l.length % 64 = 0) : left l = [] := List.eq_nil_of_length_eq_zero (by rw [length_left, h])
/-- The digest. -/
def sum (l : List UInt8) : List UInt8 := (run start (l ++ pad l.length)).bytes
theorem length_sum (l : List UInt8) : (sum l).length = 32 := rfl
end Sha

/-! ### the tag -/
/-- A key as a block. -/
def keyBlock (k : List UInt8) : List UInt8 := let k' := if 64 < k.length then Sha.sum k else k; k' ++ List.replicate (64 - k'.length) 0
theorem length_keyBlock (k : List UInt8) : (keyBlock k).length = 64 := by
  unfold keyBlock
  by_cases h : 64 < k.length
  · simp [h, Sha.length_sum]
  · simp [h]; omega
def macB (k b : List UInt8) : List UInt8 := Sha.sum ((keyBlock k).map (· ^^^ 92) ++ Sha.sum ((keyBlock k).map (· ^^^ 54) ++ b))
theorem length_macB (k b : List UInt8) : (macB k b).length = 32 := rfl
def foldB (k : List UInt8) : List (List UInt8) → List UInt8
  | [] => k
  | s :: r => foldB (macB k (Sha.eight s.length ++ s)) r
theorem foldB_append (k : List UInt8) (a b : List (List UInt8)) : foldB k (a ++ b) = foldB (foldB k a) b := by
  induction a generalizing k with
  | nil => rfl
  | cons s r ih => exact ih _
end Go.Proofs.Ytbjlmodabiadfaa
