/- PLAIN: digits under a key that stay digits: the masks, the ten rounds, and the way back. THE WALKS of ffx: numbers in bytes, halves. THE WALK of ffx's chain of blocks. bytes.Join of two parts or more, by the shelf's contract, in the words of parts and rows. A cipher of ffx in memory; THE WALK of its mask. THE WALKS of ffx: New, halves, join, Encrypt, Decrypt. THE WALKS of ffx: Decrypt, Mask. -/
import Derived.Test.YtogpnlfbdhddmaaGreatDoorGPlain
import Derived.Test.YtogpnlfbdhddmaaGreatDoorGRad
import Derived.Test.YtogpnlfbdhddmaaGreatDoorGMem
import Derived.Deep.LoopGhost
import Derived.StillTailTactics
import Derived.Test.YtogpnlfbdhddmaaGreatDoorGAes
import Derived.Test.YtogpnlfbdhddmaaGreatDoorShelf
namespace Go.Proofs.YtogpnlfbdhddmaaGreatDoor

/-- A number in k bytes, the highest first. -/
def numB (n k : Nat) : List UInt8 := (List.range k).map fun j => UInt8.ofNat (n / 256 ^ (k - 1 - j))
theorem length_numB (n k : Nat) : (numB n k).length = k := by simp [numB]
/-- How many digits the half has that a round changes. -/
def halfN (n i : Nat) : Nat := (n + i % 2) / 2
/-- How many bytes a value takes. -/
def wdN (n : Nat) : Nat := cntB (10 ^ (n - n / 2) - 1)
/-- How many noughts stand ahead of the round's byte. -/
def padN (t w : Nat) : Nat := (48 - t - (1 + w)) % 16
def ffHead (n : Nat) (tw : List UInt8) : List UInt8 := [1, 2, 1, 0, 0, 10, 10, UInt8.ofNat (n / 2)] ++ numB n 4 ++ numB tw.length 4 ++ tw
def ffTail (i x w : Nat) : List UInt8 := UInt8.ofNat i :: numB x w
def ffIn (n i x : Nat) (tw : List UInt8) : List UInt8 := ffHead n tw ++ (List.replicate (padN tw.length (wdN n)) 0 ++ ffTail i x (wdN n))
/-- What a round adds. -/
def maskV (key tw : List UInt8) (n i x : Nat) : Nat := restD (10 ^ halfN n i) ((cbc (rksOf key) (ffIn n i x tw)).take (4 + (wdN n + 3) / 4 * 4))
theorem wd_le {n : Nat} (h : n ≤ 32) (h6 : 6 ≤ n) : 2 ≤ wdN n ∧ wdN n ≤ 7 := by
  have e : ∀ m, m < 33 → 6 ≤ m → 2 ≤ wdN m ∧ wdN m ≤ 7 := by decide +kernel
  exact e n (by omega) h6
theorem length_ffHead (n : Nat) (tw : List UInt8) : (ffHead n tw).length = 16 + tw.length := by
  unfold ffHead; simp only [List.length_append, length_numB, List.length_cons, List.length_nil]
theorem length_ffTail (i x w : Nat) : (ffTail i x w).length = 1 + w := by simp [ffTail, length_numB]; omega
theorem length_inB (n i x : Nat) (tw : List UInt8) (ht : tw.length ≤ 16) (h : n ≤ 32) (h6 : 6 ≤ n) : (ffIn n i x tw).length % 16 = 0 ∧ (ffIn n i x tw).length ≤ 64 := by
  have hw := wd_le h h6
  unfold ffIn
  rw [List.length_append, length_ffHead, List.length_append, length_ffTail, List.length_replicate]
  unfold padN
  omega
theorem mask_lt (key tw : List UInt8) (n i x : Nat) : maskV key tw n i x < 10 ^ halfN n i := restD_lt (Nat.pow_pos (by decide)) _

/-! ### the rounds -/
/-- The two halves behind i rounds. -/
def encAt (f : Nat → Nat → Nat) (n a b : Nat) : Nat → Nat × Nat
  | 0 => (a, b)
  | i + 1 => ((encAt f n a b i).2, ((encAt f n a b i).1 + f i (encAt f n a b i).2) % 10 ^ halfN n i)
/-- The two halves behind k rounds of the way back, from the last one. -/
def decAt (f : Nat → Nat → Nat) (n a b : Nat) : Nat → Nat × Nat
  | 0 => (a, b)
  | k + 1 => (((decAt f n a b k).2 + 10 ^ halfN n (9 - k) - f (9 - k) (decAt f n a b k).1) % 10 ^ halfN n (9 - k), (decAt f n a b k).1)
/-- In the halves' ranges ahead of round i. -/
def inH (n i : Nat) (p : Nat × Nat) : Prop := p.1 < 10 ^ halfN n i ∧ p.2 < 10 ^ halfN n (i + 1)
theorem half_two (n i : Nat) : halfN n (i + 1 + 1) = halfN n i := by unfold halfN; rw [show (i + 1 + 1) % 2 = i % 2 by omega]
theorem half_par {n i j : Nat} (h : i % 2 = j % 2) : halfN n i = halfN n j := by unfold halfN; rw [h]
theorem half_sum (n i : Nat) : halfN n i + halfN n (i + 1) = n := by unfold halfN; omega
theorem pow_pos' (k : Nat) : 0 < 10 ^ k := Nat.pow_pos (by decide)
theorem enc_in {f : Nat → Nat → Nat} {n a b : Nat} (h : inH n 0 (a, b)) : ∀ i, inH n i (encAt f n a b i)
  | 0 => h
  | i + 1 => by
    have ih := enc_in (f := f) h i
    refine ⟨ih.2, ?_⟩
    rw [half_two]
    exact Nat.mod_lt _ (pow_pos' _)
theorem dec_in {f : Nat → Nat → Nat} {n a b : Nat} (h : inH n 10 (a, b)) : ∀ k, k ≤ 10 → inH n (10 - k) (decAt f n a b k)
  | 0, _ => h
  | k + 1, hk => by
    have ih := dec_in (f := f) h k (by omega)
    refine ⟨?_, ?_⟩
    · rw [half_par (show (10 - (k + 1)) % 2 = (9 - k) % 2 by omega)]; exact Nat.mod_lt _ (pow_pos' _)
    · rw [half_par (show (10 - (k + 1) + 1) % 2 = (10 - k) % 2 by omega)]; exact ih.1
theorem mod_undo {a m p : Nat} (ha : a < p) (hm : m < p) : ((a + m) % p + p - m) % p = a := by
  by_cases h : a + m < p
  · rw [Nat.mod_eq_of_lt h, show a + m + p - m = a + p by omega, Nat.add_mod_right, Nat.mod_eq_of_lt ha]
  · have e : (a + m) % p = a + m - p := by rw [Nat.mod_eq_sub_mod (by omega), Nat.mod_eq_of_lt (by omega)]
    rw [e, show a + m - p + p - m = a by omega, Nat.mod_eq_of_lt ha]
theorem mod_redo {a m p : Nat} (ha : a < p) (hm : m < p) : ((a + p - m) % p + m) % p = a := by
  by_cases h : a < m
  · rw [Nat.mod_eq_of_lt (show a + p - m < p by omega), show a + p - m + m = a + p by omega, Nat.add_mod_right, Nat.mod_eq_of_lt ha]
  · rw [show a + p - m = (a - m) + p by omega, Nat.add_mod_right, Nat.mod_eq_of_lt (show a - m < p by omega), show a - m + m = a by omega, Nat.mod_eq_of_lt ha]
/-- The way back of what was encrypted. -/
theorem dec_enc {f : Nat → Nat → Nat} {n a b : Nat} (hf : ∀ i x, f i x < 10 ^ halfN n i) (h : inH n 0 (a, b)) :
    ∀ k, k ≤ 10 → decAt f n (encAt f n a b 10).1 (encAt f n a b 10).2 k = encAt f n a b (10 - k)
  | 0, _ => rfl
  | k + 1, hk => by
    have ih := dec_enc hf h k (by omega)
    have hi := enc_in (f := f) h (9 - k)
    show ((_ + _ - _) % _, _) = _
    rw [ih, show 10 - k = (9 - k) + 1 by omega, show 10 - (k + 1) = 9 - k by omega]
    show ((((encAt f n a b (9 - k)).1 + f (9 - k) (encAt f n a b (9 - k)).2) % 10 ^ halfN n (9 - k) + 10 ^ halfN n (9 - k) - f (9 - k) (encAt f n a b (9 - k)).2) % 10 ^ halfN n (9 - k), (encAt f n a b (9 - k)).2) = _
    rw [mod_undo hi.1 (hf _ _)]
/-- Encrypting what the way back gave. -/
theorem enc_dec {f : Nat → Nat → Nat} {n a b : Nat} (hf : ∀ i x, f i x < 10 ^ halfN n i) (h : inH n 10 (a, b)) :
    ∀ i, i ≤ 10 → encAt f n (decAt f n a b 10).1 (decAt f n a b 10).2 i = decAt f n a b (10 - i)
  | 0, _ => rfl
  | i + 1, hi => by
    have ih := enc_dec hf h i (by omega)
    have hd := dec_in (f := f) h (9 - i) (by omega)
    show (_, (_ + _) % _) = _
    rw [ih, show 10 - i = (9 - i) + 1 by omega, show 10 - (i + 1) = 9 - i by omega]
    show ((decAt f n a b (9 - i)).1, (((decAt f n a b (9 - i)).2 + 10 ^ halfN n (9 - (9 - i)) - f (9 - (9 - i)) (decAt f n a b (9 - i)).1) % 10 ^ halfN n (9 - (9 - i)) + f i (decAt f n a b (9 - i)).1) % 10 ^ halfN n i) = _
    rw [show 9 - (9 - i) = i by omega, mod_redo ?_ (hf _ _)]
    rw [half_par (show i % 2 = (10 - (9 - i) + 1) % 2 by omega)]
    exact hd.2

/-! ### texts -/
def joinT (n : Nat) (p : Nat × Nat) : List UInt8 := textD p.1 (n / 2) ++ textD p.2 (n - n / 2)
def encT (key tw l : List UInt8) : List UInt8 := joinT l.length (encAt (maskV key tw l.length) l.length (valD (l.take (l.length / 2))) (valD (l.drop (l.length / 2))) 10)
def decT (key tw l : List UInt8) : List UInt8 := joinT l.length (decAt (maskV key tw l.length) l.length (valD (l.take (l.length / 2))) (valD (l.drop (l.length / 2))) 10)
/-- What is wrong with numerals. -/
def nmE (l : List UInt8) : Int := if l.length < 6 ∨ 32 < l.length then 1 else if l.all isDig = true then 0 else 4
theorem nmE_arg {l : List UInt8} (h : l.length < 6 ∨ 32 < l.length) : nmE l = 1 := if_pos h
theorem nmE_ok {l : List UInt8} (h : ¬ (l.length < 6 ∨ 32 < l.length)) (h2 : l.all isDig = true) : nmE l = 0 := by unfold nmE; rw [if_neg h, if_pos h2]
theorem nmE_form {l : List UInt8} (h : ¬ (l.length < 6 ∨ 32 < l.length)) (h2 : l.all isDig = false) : nmE l = 4 := by unfold nmE; rw [if_neg h, if_neg (by rw [h2]; decide)]
theorem nmE_zero {l : List UInt8} (h : nmE l = 0) : 6 ≤ l.length ∧ l.length ≤ 32 ∧ l.all isDig = true := by
  unfold nmE at h
  split at h
  · simp at h
  · split at h
    · refine ⟨by omega, by omega, by assumption⟩
    · simp at h
def encR (key tw l : List UInt8) : List UInt8 := if nmE l = 0 then encT key tw l else []
def decR (key tw l : List UInt8) : List UInt8 := if nmE l = 0 then decT key tw l else []
theorem length_joinT (n : Nat) (p : Nat × Nat) : (joinT n p).length = n := by
  unfold joinT; rw [List.length_append, length_textD, length_textD]; omega
theorem all_joinT (n : Nat) (p : Nat × Nat) : (joinT n p).all isDig = true := by
  unfold joinT; rw [List.all_append, textD_dig, textD_dig]; rfl
theorem half0 (n : Nat) : halfN n 0 = n / 2 := rfl
theorem half1 (n : Nat) : halfN n 1 = n - n / 2 := by unfold halfN; omega
theorem vals_in {l : List UInt8} (h : l.all isDig = true) : inH l.length 0 (valD (l.take (l.length / 2)), valD (l.drop (l.length / 2))) := by
  have h1 := val_lt (l.take (l.length / 2)) (List.all_eq_true.2 fun c hc => List.all_eq_true.1 h c (List.mem_of_mem_take hc))
  have h2 := val_lt (l.drop (l.length / 2)) (List.all_eq_true.2 fun c hc => List.all_eq_true.1 h c (List.mem_of_mem_drop hc))
  rw [List.length_take, Nat.min_eq_left (by omega)] at h1
  rw [List.length_drop] at h2
  exact ⟨h1, by rw [half1]; exact h2⟩
theorem join_vals {n : Nat} {p : Nat × Nat} (h : inH n 0 p) : valD ((joinT n p).take (n / 2)) = p.1 ∧ valD ((joinT n p).drop (n / 2)) = p.2 := by
  unfold joinT
  have e1 := length_textD p.1 (n / 2)
  rw [List.take_append_of_le_length (by omega), List.take_of_length_le (by omega), List.drop_append_of_le_length (by omega), List.drop_of_length_le (by omega), List.nil_append, val_textD, val_textD]
  have h2 := h.2
  rw [half1] at h2
  exact ⟨Nat.mod_eq_of_lt h.1, Nat.mod_eq_of_lt h2⟩
theorem join_back {l : List UInt8} (h : l.all isDig = true) : joinT l.length (valD (l.take (l.length / 2)), valD (l.drop (l.length / 2))) = l := by
  unfold joinT
  have h1 := textD_val (l.take (l.length / 2)) (List.all_eq_true.2 fun c hc => List.all_eq_true.1 h c (List.mem_of_mem_take hc))
  have h2 := textD_val (l.drop (l.length / 2)) (List.all_eq_true.2 fun c hc => List.all_eq_true.1 h c (List.mem_of_mem_drop hc))
  rw [List.length_take, Nat.min_eq_left (by omega)] at h1
  rw [List.length_drop] at h2
  rw [h1, h2, List.take_append_drop]
theorem in_ten {n : Nat} {p : Nat × Nat} : inH n 10 p ↔ inH n 0 p := by
  unfold inH; rw [half_par (show 10 % 2 = 0 % 2 by decide), half_par (show (10 + 1) % 2 = (0 + 1) % 2 by decide)]
theorem nm_join (n : Nat) (p : Nat × Nat) (h6 : 6 ≤ n) (h : n ≤ 32) : nmE (joinT n p) = 0 := nmE_ok (by rw [length_joinT]; omega) (all_joinT n p)
theorem dec_encT (key tw : List UInt8) {l : List UInt8} (h : nmE l = 0) : decT key tw (encT key tw l) = l ∧ nmE (encT key tw l) = 0 ∧ (encT key tw l).length = l.length := by
  obtain ⟨h6, h32, hd⟩ := nmE_zero h
  have hl : (encT key tw l).length = l.length := length_joinT _ _
  have hin := vals_in hd
  have he := (in_ten (n := l.length)).1 (enc_in (f := maskV key tw l.length) hin 10)
  refine ⟨?_, nm_join _ _ h6 h32, hl⟩
  have hv := join_vals he
  unfold decT
  rw [hl, show (encT key tw l).take (l.length / 2) = (joinT l.length (encAt (maskV key tw l.length) l.length (valD (l.take (l.length / 2))) (valD (l.drop (l.length / 2))) 10)).take (l.length / 2) from rfl,
    show (encT key tw l).drop (l.length / 2) = (joinT l.length (encAt (maskV key tw l.length) l.length (valD (l.take (l.length / 2))) (valD (l.drop (l.length / 2))) 10)).drop (l.length / 2) from rfl, hv.1, hv.2, dec_enc (fun i x => mask_lt _ _ _ _ _) hin 10 (by decide)]
  exact join_back hd
theorem enc_decT (key tw : List UInt8) {l : List UInt8} (h : nmE l = 0) : encT key tw (decT key tw l) = l ∧ nmE (decT key tw l) = 0 ∧ (decT key tw l).length = l.length := by
  obtain ⟨h6, h32, hd⟩ := nmE_zero h
  have hl : (decT key tw l).length = l.length := length_joinT _ _
  have hin := (in_ten (n := l.length)).2 (vals_in hd)
  have he := dec_in (f := maskV key tw l.length) hin 10 (by decide)
  refine ⟨?_, nm_join _ _ h6 h32, hl⟩
  have hv := join_vals he
  unfold encT
  rw [hl, show (decT key tw l).take (l.length / 2) = (joinT l.length (decAt (maskV key tw l.length) l.length (valD (l.take (l.length / 2))) (valD (l.drop (l.length / 2))) 10)).take (l.length / 2) from rfl,
    show (decT key tw l).drop (l.length / 2) = (joinT l.length (decAt (maskV key tw l.length) l.length (valD (l.take (l.length / 2))) (valD (l.drop (l.length / 2))) 10)).drop (l.length / 2) from rfl, hv.1, hv.2, enc_dec (fun i x => mask_lt _ _ _ _ _) hin 10 (by decide)]
  exact join_back hd
theorem enc_inj (key tw : List UInt8) {l m : List UInt8} (hl : nmE l = 0) (hm : nmE m = 0) (h : encT key tw l = encT key tw m) : l = m := by
  rw [← (dec_encT key tw hl).1, h, (dec_encT key tw hm).1]
end Go.Proofs.YtogpnlfbdhddmaaGreatDoor
namespace Go.Proofs.YtogpnlfbdhddmaaGreatDoor
open Go.RowKit

theorem numB_succ (n j : Nat) : numB n (j + 1) = UInt8.ofNat (n / 256 ^ j) :: numB n j := by
  unfold numB
  rw [List.range_succ_eq_map, List.map_cons, List.map_map]
  congr 1
  apply List.map_congr_left
  intro t ht
  simp only [Function.comp]
  rw [show j + 1 - 1 - (t + 1) = j - 1 - t by omega]
theorem u8_nat (n : Nat) : ((UInt8.ofNat n).toNat : Int) = ((n % 256 : Nat) : Int) := by rw [UInt8.toNat_ofNat']
/-- Behind j bytes of a number. -/
def NumRel (w : World) (n k : Nat) (s0 i : Value) (gg : Nat) (wr : World) : Prop :=
  ∃ j : Nat, j ≤ k ∧ gg = k - j ∧ i = .int .i64 j ∧ s0 = .int .i64 (n / 256 ^ j : Nat) ∧ Row wr w.heap.size 1 (some ⟨w.heap.size, 0, none⟩) k k (bv (List.replicate (k - j) 0 ++ numB n j)) ∧ Below w.heap.size w wr
theorem num_row {n k j : Nat} (h : j < k) : (bv (List.replicate (k - j) 0 ++ numB n j)).set (k - 1 - j) (.int .u8 (((n / 256 ^ j % 256 : Nat)) : Int)) = bv (List.replicate (k - (j + 1)) 0 ++ numB n (j + 1)) := by
  rw [← u8_nat, ← bv_set, List.set_append_left _ _ (by simp; omega), numB_succ]
  congr 1
  rw [show k - j = (k - (j + 1)) + 1 by omega, List.replicate_succ', List.set_append_right _ _ (by simp; omega), List.append_assoc]
  simp [show k - 1 - j - (k - (j + 1)) = 0 by omega]
set_option maxRecDepth 100000 in
set_option maxHeartbeats 1000000 in
theorem number_any (n k : Nat) (w : World) (hk : k ≤ 8) (hn : n < 9223372036854775808) : Calls Tryz.prog 96 #[.int .i64 n, .int .i64 k] w fun e w' => RowOut (numB n k) w e w' := by
  obtain ⟨i0, hi, hz0, hz1, hz2⟩ := info_parts byte_info
  have hmk := fun W => run_make (P := Tryz.prog) W 27 5 i0 (.int .u8 0) Tryz.underlying27 hi hz0 .i64 .i64 k (k : Int) (by omega) (by omega) (by rw [hz2]; omega) (by omega)
  rw [hz1, show ((k : Int)).toNat = k by omega, Nat.mul_one] at hmk
  have hrow0 := made_row w (.int .u8 0) 5 k k (by omega) (by unfold maxLen; omega)
  have HST : Hid (NumRel w n k (.int .i64 n) (.int .i64 0) k (w.alloc (.cells (madeCells #[.int .u8 0] k) 5))) := Lib.hid ⟨0, by omega, rfl, rfl, by simp, by
    have e : bv (List.replicate (k - 0) 0 ++ numB n 0) = List.replicate k (.int .u8 0) := by simp [numB, bv]
    rw [e]; exact hrow0, (Below.refl _ _).alloc (Nat.le_refl _) _⟩
  clear hrow0 hi hz0 hz1 hz2
  go_enter Tryz.func96, Tryz.ntmps96
  go_wp2_with fail
  go_loopg [0, 6, 11] k (fun gg s0 _ i wr => NumRel w n k s0 i gg wr)
  case atStart => exact HST.out
  case round =>
    clear HST hmk
    obtain ⟨j, hj, hgk, rfl, rfl, hrow, hb⟩ := hrel
    have HGK := Lib.hid hgk
    clear hgk
    by_cases hlt : j < k
    · have hc := (hrow.at_.2.2.1 (k - 1 - j) (by omega))
      obtain ⟨u0, hc0⟩ := Option.isSome_iff_exists.1 hc.1
      have hf0 := hc.2
      rw [Nat.zero_add] at hc0 hf0
      have hs := hrow.set (j := k - 1 - j) (by omega) (.int .u8 (((n / 256 ^ j % 256 : Nat)) : Int))
      rw [num_row hlt, Nat.zero_add] at hs
      have hq : n / 256 ^ j / 256 = n / 256 ^ (j + 1) := by rw [Nat.div_div_eq_div_mul, Nat.pow_succ]
      have hqb : n / 256 ^ j < 9223372036854775808 := Nat.lt_of_le_of_lt (Nat.div_le_self _ _) hn
      have HNE : Hid (NumRel w n k (.int .i64 (n / 256 ^ (j + 1) : Nat)) (.int .i64 ((j : Int) + 1)) (k - (j + 1)) (wr.setCell ⟨w.heap.size, k - 1 - j, none⟩ (.int .u8 (((n / 256 ^ j % 256 : Nat)) : Int)))) := Lib.hid ⟨j + 1, by omega, rfl, by go_num, rfl, hs, hb.setCell (Nat.le_refl _) _⟩
      rw [← hq] at HNE
      clear hs hq hrow hb hc
      generalize n / 256 ^ j = v at HNE hqb
      have g1 : (k : Int) - 1 - (j : Int) = ((k - 1 - j : Nat) : Int) := by omega
      have g2 : ((k - 1 - j : Nat) : Int) < (k : Int) := by omega
      obtain ⟨m, hm⟩ : ∃ m, m = k - 1 - j := ⟨_, rfl⟩
      rw [← hm] at g1 g2 hc0 hf0 HNE
      clear hm
      have g3 : (k : Int) - (1 + (j : Int)) = (m : Int) := by omega
      go_wp2_with fail
      go_roundg (k - (j + 1))
      case measure => have := HGK.out; omega
      case rel => exact HNE.out
    · obtain rfl : j = k := by omega
      rw [Nat.sub_self, List.replicate_zero, List.nil_append] at hrow
      have HROW := Lib.hid hrow
      have HB := Lib.hid hb
      clear hrow hb
      go_wp2_with fail
      go_ret
      have hl := length_numB n j
      refine ⟨_, j, by rw [hl]; rfl, ?_, HB.out⟩
      rw [hl]; exact HROW.out
/-- Halves. -/
theorem half_any (n i : Nat) (w : World) (hn : n ≤ 64) (hi : i ≤ 64) : Calls Tryz.prog 64 #[.int .i64 n, .int .i64 i] w fun e w' => e = .returned (.int .i64 (halfN n i : Nat)) ∧ w = w' := by
  have h1 : ((i : Nat) : Int).tmod 2 = ((i % 2 : Nat) : Int) := by rw [Int.tmod_eq_emod_of_nonneg (by omega)]; omega
  obtain ⟨m, hm⟩ : ∃ m, m = i % 2 := ⟨_, rfl⟩
  have hm2 : m ≤ 1 := by omega
  have HH := Lib.hid (show halfN n i = (n + m) / 2 by rw [hm]; rfl)
  rw [← hm] at h1
  have h2 : (i : Int) % 2 = (m : Int) := by omega
  clear hm
  go_enter Tryz.func64, Tryz.ntmps64
  go_wp2_with fail
  go_ret
  exact ⟨by rw [HH.out]; show Ending.returned (.int .i64 _) = _; congr 2, rfl⟩
def fmayB (n : Int) : Bool := decide (6 ≤ n ∧ n ≤ 32)
theorem may_any (n : Int) (w : World) : Calls Tryz.prog 91 #[.int .i64 n] w fun e w' => e = .returned (.bool (fmayB n)) ∧ w = w' := by
  by_cases h1 : 6 ≤ n
  · by_cases h2 : n ≤ 32
    · have HH := Lib.hid (show fmayB n = true from decide_eq_true ⟨h1, h2⟩)
      go_enter Tryz.func91, Tryz.ntmps91
      go_wp2_with fail
      go_ret
      exact ⟨by rw [HH.out]; rfl, rfl⟩
    · have HH := Lib.hid (show fmayB n = false from decide_eq_false (by omega))
      go_enter Tryz.func91, Tryz.ntmps91
      go_wp2_with fail
      go_ret
      exact ⟨by rw [HH.out]; rfl, rfl⟩
  · have HH := Lib.hid (show fmayB n = false from decide_eq_false (by omega))
    go_enter Tryz.func91, Tryz.ntmps91
    go_wp2_with fail
    go_ret
    exact ⟨by rw [HH.out]; rfl, rfl⟩
end Go.Proofs.YtogpnlfbdhddmaaGreatDoor
namespace Go.Proofs.YtogpnlfbdhddmaaGreatDoor
open Go.RowKit

theorem cbc_succ (ks : List (List UInt8)) (p : List UInt8) (k : Nat) : cbcAt ks p (k + 1) = aesE ks (xorL (cbcAt ks p k) ((p.drop (16 * k)).take 16)) := rfl
/-- Ahead of block k. -/
def ChRel (w : World) (kb B : Nat) (X : Nat → Prop) (key p : List UInt8) (s1 s5 : Value) (gg : Nat) (wr : World) : Prop :=
  ∃ (k : Nat) (PA : Option Addr) (pc : Nat) (A : Option Addr) (c : Nat) (X2 : Nat → Prop), 16 * k ≤ p.length ∧ gg = p.length / 16 - k ∧ s1 = .slice PA (p.length - 16 * k) pc ∧ p.length - 16 * k ≤ pc ∧ pc ≤ 9223372036854775807 ∧ Reads wr B 1 PA (p.length - 16 * k) (bv (p.drop (16 * k))) ∧ (∀ ad, PA = some ad → 0 < p.length - 16 * k → ad.block < w.heap.size ∧ ad.block ≠ kb) ∧
    s5 = .slice A 16 c ∧ Row wr (w.heap.size + 1) 1 A 16 c (bv (cbcAt (rksOf key) p k)) ∧ (∀ ad, A = some ad → ¬ X2 ad.block ∧ ad.block ≠ kb) ∧ KeyAt wr kb X2 key ∧ (∀ j, X2 j → (X j ∧ j < w.heap.size) ∨ w.heap.size ≤ j) ∧ Grew (· = kb) w wr ∧ wr.cell? ⟨w.heap.size, 0, none⟩ = some (.pointer (some ⟨kb, 0, none⟩))
/-- Behind j bytes of a block. -/
def XoRel (w : World) (kb B : Nat) (X2 : Nat → Prop) (key q s t : List UInt8) (PA : Option Addr) (g o c : Nat) (i : Value) (gg : Nat) (wr : World) : Prop :=
  ∃ j : Nat, j ≤ 16 ∧ gg = 16 - j ∧ i = .int .i64 j ∧ Row wr (w.heap.size + 1) 1 (some ⟨g, o, none⟩) 16 c (bv (setsTo (fun i => s.getD i 0 ^^^ t.getD i 0) s j)) ∧ Reads wr B 1 PA q.length (bv q) ∧ KeyAt wr kb X2 key ∧ Grew (· = kb) w wr ∧ wr.cell? ⟨w.heap.size, 0, none⟩ = some (.pointer (some ⟨kb, 0, none⟩))
theorem XoRel.drew {w wr : World} {kb B g o c gg : Nat} {X2 : Nat → Prop} {key q s t : List UInt8} {PA : Option Addr} {i : Value} (h : XoRel w kb B X2 key q s t PA g o c i gg wr) : XoRel w kb B X2 key q s t PA g o c i gg wr.drew := by
  obtain ⟨j, h1, h2, h3, h4, h5, h6, h7, h8⟩ := h
  exact ⟨j, h1, h2, h3, h4.drew, h5.drew, h6.below (B := wr.heap.size) (Below.refl _ _).drew (Nat.le_refl _), h7.drew, h8⟩
/-- The chain's answer. -/
def ChainOut (kb : Nat) (X : Nat → Prop) (key out : List UInt8) (w : World) (e : Ending) (w' : World) : Prop :=
  ∃ X2 : Nat → Prop, (∀ k, X2 k → (X k ∧ k < w.heap.size) ∨ w.heap.size ≤ k) ∧ KeyAt w' kb X2 key ∧ Grew (· = kb) w w' ∧ ∃ A c, e = .returned (.slice A 16 c) ∧ Row w' w.heap.size 1 A 16 c (bv out)
theorem zeros_row (w : World) (t : TypeId) (ks : List (List UInt8)) (p : List UInt8) : Row (w.alloc (.cells (bv (zeros' 16)).toArray t)) w.heap.size 1 (some ⟨w.heap.size, 0, none⟩) 16 16 (bv (cbcAt ks p 0)) :=
  Row.lit w (bv (zeros' 16)).toArray t rfl (Nat.le_refl _) (by decide)
theorem make16' (w : World) : (Instr.makeSlice 27 (.int .i64 16) (.int .i64 16)).run Tryz.prog w = .ok (.slice (some ⟨w.heap.size, 0, none⟩) 16 16) (w.alloc (.cells (bv (zeros' 16)).toArray 5)) := by kernel_rfl
set_option maxRecDepth 100000 in
set_option maxHeartbeats 8000000 in
theorem chain_any (kb B : Nat) (X : Nat → Prop) (key p : List UInt8) (PA : Option Addr) (pc : Nat) (w : World) (h : KeyAt w kb X key) (hk : key.length = 16 ∨ key.length = 32) (hr : Reads w B 1 PA p.length (bv p)) (hB : B ≤ w.heap.size) (hpa : ∀ ad, PA = some ad → ad.block ≠ kb) (hpc : p.length ≤ pc) (hpm : pc ≤ 9223372036854775807) (h16 : p.length % 16 = 0) :
    Calls Tryz.prog 97 #[.agg #[.pointer (some ⟨kb, 0, none⟩)], .slice PA p.length pc] w (ChainOut kb X key (cbc (rksOf key) p) w) := by
  have hkl := h.lt
  have hmk := make16'
  have HK := Lib.hid hk
  have H16 := Lib.hid h16
  obtain ⟨w1, hw1⟩ : ∃ w1, w1 = w.alloc (.cells #[.pointer (some ⟨kb, 0, none⟩)] 139) := ⟨_, rfl⟩
  obtain ⟨w2, hw2⟩ : ∃ w2, w2 = w1.alloc (.cells (bv (zeros' 16)).toArray 5) := ⟨_, rfl⟩
  have hs1 : w1.heap.size = w.heap.size + 1 := by rw [hw1]; simp
  have hg1 : Below w.heap.size w w1 := by rw [hw1]; exact (Below.refl _ _).alloc (Nat.le_refl _) _
  have hg2 : Below w.heap.size w w2 := by rw [hw2]; exact hg1.alloc (by omega) _
  have hst : ChRel w kb B X key p (.slice PA p.length pc) (.slice (some ⟨w.heap.size + 1, 0, none⟩) 16 16) (p.length / 16) w2 := by
    refine ⟨0, PA, pc, _, 16, fun j => X j ∧ j < w.heap.size, by omega, rfl, rfl, hpc, hpm, hr.below (hg2.mono hB), fun ad e h0 => ?_, rfl, ?_, fun ad e => ?_, ?_, fun j hj => .inl hj, Grew.of_new hg2, by rw [hw2, hw1]; exact (World.cell?_alloc_lt _ _ _ (by simp)).trans (cell?_new _ _ _ 0)⟩
    · obtain ⟨b, o, e2, hb, _⟩ := hr.2 (by simpa using h0)
      have hne := hpa ad e
      rw [e] at e2; cases e2; exact ⟨by show b < _; omega, hne⟩
    · rw [hw2, ← hs1]
      exact zeros_row w1 _ _ _
    · cases e
      exact ⟨fun hx => by have := hx.2; show False; simp at this; omega, by show w.heap.size + 1 ≠ kb; omega⟩
    · exact h.within.below hg2 (Nat.le_refl _)
  have HST := Lib.hid hst
  have HPA := Lib.hid hpa
  have HW := Lib.hid hw1
  have HW2 := Lib.hid hw2
  clear h hk hr hpa hst hg1 hg2 h16 hs1 hw1 hw2
  go_enter Tryz.func97, Tryz.ntmps97
  go_wp2_with fail
  rw [show (w.alloc (.cells #[.pointer (some ⟨kb, 0, none⟩)] 139)).alloc (.cells (bv (zeros' 16)).toArray 5) = w2 by rw [HW2.out, HW.out]]
  go_loopg [1, 5] (p.length / 16) (fun gg s1 s5 wx => ChRel w kb B X key p s1 s5 gg wx)
  case atStart => exact HST.out
  case round =>
    clear HST hmk
    obtain ⟨k, PA2, pc2, A, c, X2, hk16, hgg, rfl, hpc2, hpm2, hrd, hpb, rfl, hrow, hax, hkey, hx2, hgw, hcell⟩ := hrel
    obtain ⟨og, hog⟩ : ∃ og, og = gk := ⟨_, rfl⟩
    have HOG := Lib.hid hog
    have HGG := Lib.hid hgg
    clear hog hgg
    obtain ⟨q, hq⟩ : ∃ q, p.drop (16 * k) = q := ⟨_, rfl⟩
    have hql : q.length = p.length - 16 * k := by rw [← hq, List.length_drop]
    rw [← hql] at hrd hpc2 hpb ⊢
    rw [hq] at hrd
    have HQ := Lib.hid hq
    have HQL := Lib.hid hql
    clear hq hql
    by_cases h0 : 0 < q.length
    · have hq16 : 16 ≤ q.length := by have := HQL.out; have := H16.out; omega
      obtain ⟨pg, po, rfl, hpg, hpcell⟩ := hrd.2 h0
      obtain ⟨g, o, hA⟩ : ∃ g o, A = some ⟨g, o, none⟩ := by
        cases A with
        | none => have := hrow.2.2.2.1 rfl; have := hrow.2.1; omega
        | some ad => obtain ⟨g, o, rfl, _⟩ := hrow.2.2.2.2 _ rfl; exact ⟨g, o, rfl⟩
      subst hA
      have hgl := hrow.at_.1
      have hgx := (hax _ rfl).1
      have hgk := (hax _ rfl).2
      have hpgw := (hpb _ rfl h0).1
      have hpgk := (hpb _ rfl h0).2
      simp only at hpgw hpgk hgx hgk
      have hc16 := hrow.2.1
      have hcm := hrow.2.2.1
      unfold maxLen at hcm
      obtain ⟨s, hs⟩ : ∃ s, cbcAt (rksOf key) p k = s := ⟨_, rfl⟩
      have HS := Lib.hid hs
      have hsl : s.length = 16 := by rw [← hs]; exact length_cbcAt HK.out p k hk16
      have HSL := Lib.hid hsl
      have HTL := Lib.hid (show (q.take 16).length = 16 by rw [List.length_take]; omega)
      rw [hs] at hrow
      have HST2 : Hid (XoRel w kb B X2 key q s (q.take 16) (some ⟨pg, po, none⟩) g o c (.int .i64 0) 16 wr) := Lib.hid ⟨0, by omega, rfl, rfl, hrow, hrd, hkey, hgw, hcell⟩
      have HX2 := Lib.hid hx2
      clear hrd hrow hkey hx2 hgw hcell hax hs hsl hpb hpcell
      have hgl2 : g < wr.heap.size := HST2.out.choose_spec.2.2.2.1.at_.2.1
      go_wp2_with fail
      go_loopg [6, 15] 16 (fun gg _ s15 wx => XoRel w kb B X2 key q s (q.take 16) (some ⟨pg, po, none⟩) g o c s15 gg wx)
      case atStart => exact HST2.out
      case round =>
        clear HST2
        obtain ⟨j, hj, hgg, rfl, hrow, hrd, hkey, hgw, hcell⟩ := hrel
        have HGJ := Lib.hid hgg
        clear hgg
        by_cases hj16 : j < 16
        · have c1 : wr.cell? ⟨g, o + j, none⟩ = some (u8v (s.getD j 0)) := by
            refine hrow.cell (j := j) ?_
            rw [bv_at _ j (by rw [length_setsTo, HSL.out]; exact hj16)]
            congr 3
            have := getD_setsTo_at (f := fun i => s.getD i 0 ^^^ (q.take 16).getD i 0) (l := s) (j := j)
            rw [← this, List.getD_eq_getElem?_getD, List.getElem?_eq_getElem (by rw [length_setsTo, HSL.out]; exact hj16)]
            rfl
          obtain ⟨pg2, po2, e2, _, hpcell⟩ := hrd.2 h0
          cases e2
          have c2 : wr.cell? ⟨pg, po + j, none⟩ = some (u8v ((q.take 16).getD j 0)) := by
            refine hpcell j _ ?_
            rw [bv_at _ j (by omega)]
            congr 3
            rw [List.getD_eq_getElem?_getD, List.getElem?_take, if_pos hj16, List.getElem?_eq_getElem (by omega)]
            rfl
          have f1 : wr.frozen? ⟨g, o + j, none⟩ = false := hrow.free (by omega)
          have hcell2 : (wr.setCell ⟨g, o + j, none⟩ (u8v (s.getD j 0 ^^^ (q.take 16).getD j 0))).cell? ⟨w.heap.size, 0, none⟩ = some (.pointer (some ⟨kb, 0, none⟩)) := (World.cell?_setCell_far _ _ _ _ (by show g ≠ w.heap.size; omega)).trans hcell
          have hg9 : Grew (· = g) wr (wr.setCell ⟨g, o + j, none⟩ (u8v (s.getD j 0 ^^^ (q.take 16).getD j 0))) := (Grew.refl (· = g) wr).set (p := ⟨g, o + j, none⟩) (.inl rfl) _
          have hset := hrow.set (j := j) (by omega) (u8v (s.getD j 0 ^^^ (q.take 16).getD j 0))
          rw [← bv_set] at hset
          have hne : XoRel w kb B X2 key q s (q.take 16) (some ⟨pg, po, none⟩) g o c (.int .i64 ((j : Int) + 1)) (15 - j) (wr.setCell ⟨g, o + j, none⟩ (u8v (s.getD j 0 ^^^ (q.take 16).getD j 0))) :=
            ⟨j + 1, by omega, by omega, by go_num, hset, hrd.setCell (by show B ≤ g; omega) _, hkey.grew hg9 (fun e => hgk e.symm) (fun k hk e => by subst e; exact hgx hk), hgw.then_ hg9 (fun k hk e => by have e2 : k = g := e; omega), hcell2⟩
          have HNE := Lib.hid hne
          have e1 := bx_xor (s.getD j 0) ((q.take 16).getD j 0)
          have hqj : (j : Int) < (q.length : Int) := by omega
          clear hne hset hg9 hcell2 hcell hgw hkey hrd hrow hpcell
          unfold u8v at c1 c2 HNE
          generalize ((s.getD j 0 ^^^ (q.take 16).getD j 0).toNat : Int) = Z at e1 HNE
          generalize ((s.getD j 0).toNat : Int) = Y1 at c1 e1
          generalize (((q.take 16).getD j 0).toNat : Int) = Y2 at c2 e1
          go_wp2_with fail
          go_region
          go_wp2_with fail
          go_roundg (15 - j)
          case measure => have := HGJ.out; omega
          case rel => exact HNE.out.drew
        · obtain rfl : j = 16 := by omega
          rw [setsTo_all _ _ HSL.out, map_xorL HSL.out HTL.out] at hrow
          have hxl : (xorL s (q.take 16)).length = 16 := by rw [length_xorL, HSL.out, HTL.out]; rfl
          have HE := Lib.hid (Encrypt_any kb X2 key (xorL s (q.take 16)) g o c wr hkey HK.out hxl hrow.reads hgk)
          have HRD := Lib.hid hrd
          have HGW := Lib.hid hgw
          have hkk : kb ≠ w.heap.size := by omega
          have hwl : w.heap.size < wr.heap.size := by have := hrow.at_.2.1; omega
          clear hkey hrow hrd hgw
          go_wp2_with fail
          refine HE.out.mono ?_
          rintro e w5 ⟨X3, hx3, hkey5, hg5, A5, c5, rfl, hrow5, ha5⟩
          have hcell5 := (hg5.cell (a := ⟨w.heap.size, 0, none⟩) hwl (fun e => hkk e.symm)).trans hcell
          have hnx : cbcAt (rksOf key) p (k + 1) = aesE (rksOf key) (xorL s (q.take 16)) := by rw [cbc_succ, HS.out, HQ.out]
          rw [← hnx] at hrow5
          have hrd5 : Reads w5 B 1 (some ⟨pg, po, none⟩) q.length (bv q) := ⟨HRD.out.1, fun h6 => by
            obtain ⟨b', o', e6, h7, h8⟩ := HRD.out.2 h6
            cases e6
            exact ⟨pg, po, rfl, h7, fun j u hu => (hg5.cell (a := ⟨pg, po + j, none⟩) (by show pg < wr.heap.size; omega) hpgk).trans (h8 j u hu)⟩⟩
          have HREL : ∀ PA' pc', (q.length - 16 ≤ pc') → pc' ≤ 9223372036854775807 → (0 < q.length - 16 → PA' = some ⟨pg, po + 16, none⟩) → Hid (ChRel w kb B X key p (.slice PA' (q.length - 16) pc') (.slice A5 16 c5) (og - 1) w5) := fun PA' pc' h1 h2 h3 => Lib.hid (by
            have hql := HQL.out
            have hgq := HGG.out
            have hoq := HOG.out
            have hp16 := H16.out
            have e1 : q.length - 16 = p.length - 16 * (k + 1) := by omega
            have e2 : q.drop 16 = p.drop (16 * (k + 1)) := by rw [← HQ.out, List.drop_drop, show 16 * k + 16 = 16 * (k + 1) by omega]
            refine ⟨k + 1, PA', pc', A5, c5, X3, by omega, by omega, by rw [e1], by omega, h2, ?_, fun ad ea h0' => ?_, rfl, hrow5.mono (by omega), ha5, hkey5, fun j hj => ?_, HGW.out.trans hg5, hcell5⟩
            · rw [← e1, ← e2]
              have h5 := hrd5.cut (k := 16) (cap := pc2) hq16 (by omega)
              rw [Nat.mul_one, ← bv_drop] at h5
              by_cases h6 : 0 < q.length - 16
              · rw [if_neg (by omega)] at h5
                rw [h3 h6]
                rwa [Option.map_some, add_plain] at h5
              · refine ⟨h5.1, fun h7 => absurd h7 h6⟩
            · rw [h3 (by omega)] at ea; cases ea; exact ⟨hpgw, hpgk⟩
            · rcases hx3 j hj with h6 | h6
              · exact HX2.out j h6.1
              · exact .inr (by omega))
          have HREL2 := Lib.hid HREL
          have HRW5 := Lib.hid hrow5
          clear HREL hrow5 hkey5 hg5 ha5 hx3 hnx hrd5 hcell
          by_cases hp16 : pc2 = 16
          · subst hp16
            have hq17 : q.length - 16 = 0 := by omega
            have HF := HREL2.out (some ⟨pg, po, none⟩) 0 (by omega) (by omega) (fun h => absurd h (by omega))
            rw [hq17] at HF
            clear hq17
            go_wp2_with fail
            go_roundg (og - 1)
            case measure => have := HGG.out; have := HOG.out; have := HQL.out; omega
            case rel => exact HF.out
          · have hp17 : ¬ pc2 = 16 := hp16
            have HF := HREL2.out (some ⟨pg, po + 16, none⟩) (pc2 - 16) (by omega) (by omega) (fun _ => rfl)
            go_wp2_with fail
            go_roundg (og - 1)
            case measure => have := HGG.out; have := HOG.out; have := HQL.out; omega
            case rel => exact HF.out
    · have hqe : 16 * k = p.length := by have := HQL.out; omega
      have HCE := Lib.hid (show cbcAt (rksOf key) p k = cbc (rksOf key) p by unfold cbc; congr 1; omega)
      rw [HCE.out] at hrow
      have HROW := Lib.hid hrow
      have HKEY := Lib.hid hkey
      have HGW := Lib.hid hgw
      have HX2 := Lib.hid hx2
      have hq0 : ¬ (0 : Int) < (q.length : Int) := by omega
      clear hrow hkey hgw hx2 hrd hqe hax hpb
      go_wp2_with fail
      go_ret
      exact ⟨X2, HX2.out, HKEY.out, HGW.out, A, c, rfl, HROW.out.mono (by omega)⟩
end Go.Proofs.YtogpnlfbdhddmaaGreatDoor
namespace Go.Proofs.YtogpnlfbdhddmaaGreatDoor
open Go.RowKit

theorem holds_part {w : World} {R : Nat → Prop} {v : Value} {l : List UInt8} (h : Part w R v l) : Lib.HoldsBytes w v l := by
  obtain ⟨A, n, c, rfl, hl, -, -, hc⟩ := h
  subst hl
  refine ⟨A, c, rfl, fun e => ?_, fun a ha i x hi => ?_⟩
  · by_cases h0 : 0 < l.length
    · obtain ⟨b, o, e2, _⟩ := hc h0; rw [e] at e2; cases e2
    · exact List.eq_nil_of_length_eq_zero (by omega)
  · have hil := (List.getElem?_eq_some_iff.1 hi).1
    obtain ⟨b, o, e2, _, hcell⟩ := hc (by omega)
    rw [ha] at e2
    cases e2
    rw [add_plain]
    refine hcell i _ ?_
    rw [bv_at l i hil]
    rw [(List.getElem?_eq_some_iff.1 hi).2]
theorem fresh_row {B : Nat} {w' : World} {v : Value} {l : List UInt8} (h : Lib.FreshBytes B w' v l) (h0 : 0 < l.length) : ∃ A c, v = .slice A l.length c ∧ Row w' B 1 A l.length c (bv l) := by
  obtain ⟨g, cap, zs, rfl, hB, hlc, hcm, hz, h256, hb, hc, hf⟩ := h
  refine ⟨_, cap, rfl, by rw [length_bv]; omega, hlc, hcm, (fun e => by cases e), fun ad e => ?_⟩
  cases e
  refine ⟨g, 0, rfl, hB, ?_, fun j hj => ?_, fun j u hu => ?_⟩
  · have h1 := hc 0 (by omega)
    unfold World.cell? at h1
    by_cases hg : g < w'.heap.size
    · exact hg
    · simp [Array.getElem?_eq_none (show w'.heap.size ≤ g by omega)] at h1
  · rw [Nat.zero_add]
    exact ⟨by rw [hc j (by omega)]; rfl, hf j (by omega)⟩
  · have hjl : j < l.length := by have := (List.getElem?_eq_some_iff.1 hu).1; rwa [length_bv] at this
    rw [bv_at l j hjl] at hu
    rw [Nat.zero_add, hc j (by omega), ← hu]
    congr 2
    have hx := h256 (zs.getD j 0) (by
      rw [List.getD_eq_getElem?_getD, List.getElem?_eq_getElem (by omega)]
      exact List.getElem_mem _)
    have e : l[j] = UInt8.ofNat (zs.getD j 0).toNat := by
      have e2 : l[j]? = some (UInt8.ofNat (zs.getD j 0).toNat) := by
        rw [← hb]
        simp [Lib.bytesOf, hjl, List.getElem?_eq_getElem (show j < zs.length by omega)]
      rw [List.getElem?_eq_getElem hjl] at e2
      exact Option.some.inj e2
    rw [e, UInt8.toNat_ofNat']
    omega
theorem Join_any (L : List (List UInt8)) (A : Option Addr) (c : Nat) (R : Nat → Prop) (w : World) (hp : Parts w R A L) (h2 : 2 ≤ L.length) (hc : L.length ≤ c) (hlen : L.length ≤ 100) (h0 : 0 < L.flatten.length) (hsum : L.flatten.length ≤ 100000) :
    Calls Tryz.prog 95 #[.slice A L.length c, .slice none 0 0] w (RowOut L.flatten w) := by
  obtain ⟨b, o, rfl, -, hcell⟩ := hp (by omega)
  have hlens : Lib.lens L = L.flatten.length := by unfold Lib.lens; rw [List.length_flatten]
  have hj : Lib.join L [] = L.flatten := by
    match L, h2 with
    | x :: r, _ => rw [Lib.join_cons]; simp [Lib.joinTail]
  have hP : Lib.PartsAt w ⟨b, o, none⟩ ((List.range L.length).map fun i => (w.cell? ⟨b, o + i, none⟩).getD undef) L := by
    refine ⟨by simp, fun i v hv => ?_, fun i v l hv hl => ?_⟩
    · have hi : i < L.length := by have := (List.getElem?_eq_some_iff.1 hv).1; simpa using this
      obtain ⟨v', h1, _⟩ := hcell i hi
      rw [add_plain, h1]
      simp [hi, h1] at hv
      rw [hv]
    · have hi : i < L.length := by have := (List.getElem?_eq_some_iff.1 hv).1; simpa using this
      obtain ⟨v', h1, hpart⟩ := hcell i hi
      simp [hi, h1] at hv
      rw [← hv]
      rw [List.getElem?_eq_getElem hi] at hl
      rw [← Option.some.inj hl]
      exact holds_part hpart
  refine (Tryz.bytes_Join_many b o L.length c _ L (.slice none 0 0) [] w rfl h2 hP hc ⟨none, 0, rfl, fun _ => rfl, fun a e => by cases e⟩ (by omega) (by rw [hlens, List.length_nil, Nat.zero_mul]; omega)).mono ?_
  rintro e w' ⟨v', rfl, hf, hb⟩
  rw [hj] at hf
  obtain ⟨A, c2, rfl, hr⟩ := fresh_row hf h0
  exact ⟨A, c2, rfl, hr, hb⟩
end Go.Proofs.YtogpnlfbdhddmaaGreatDoor
namespace Go.Proofs.YtogpnlfbdhddmaaGreatDoor
open Go.RowKit

/-- A cipher at block cb; what it owns lies in blocks of X. -/
def CipAt (w : World) (cb : Nat) (X : Nat → Prop) (key tw : List UInt8) : Prop :=
  ∃ (kb : Nat) (A : Option Addr) (c : Nat), Blk w cb 141 #[.pointer (some ⟨kb, 0, none⟩), .slice A tw.length c] ∧ Row w 0 1 A tw.length c (bv tw) ∧ (∀ ad, A = some ad → X ad.block ∧ ad.block ≠ cb ∧ ad.block ≠ kb) ∧ KeyAt w kb X key ∧ X kb ∧ kb ≠ cb
section
variable {w w' : World} {cb : Nat} {X X' : Nat → Prop} {key tw : List UInt8}
theorem CipAt.lt (h : CipAt w cb X key tw) : cb < w.heap.size := by obtain ⟨_, _, _, hb, _⟩ := h; exact hb.lt
theorem CipAt.grew {S : Nat → Prop} (h : CipAt w cb X key tw) (hg : Grew S w w') (h1 : ¬ S cb) (h2 : ∀ k, X k → ¬ S k) : CipAt w' cb X key tw := by
  obtain ⟨kb, A, c, hb, hr, ha, hk, hx, hne⟩ := h
  exact ⟨kb, A, c, hb.grew hg h1, hr.grew hg (fun ad e => h2 _ (ha ad e).1), ha, hk.grew hg (h2 _ hx) h2, hx, hne⟩
theorem CipAt.mono (h : CipAt w cb X key tw) (hx : ∀ k, k < w.heap.size → X k → X' k) : CipAt w cb X' key tw := by
  obtain ⟨kb, A, c, hb, hr, ha, hk, hx2, hne⟩ := h
  exact ⟨kb, A, c, hb, hr, fun ad e => ⟨hx _ (hr.lt ad e).2 (ha ad e).1, (ha ad e).2⟩, hk.mono hx, hx _ hk.lt hx2, hne⟩
theorem CipAt.within (h : CipAt w cb X key tw) : CipAt w cb (fun k => X k ∧ k < w.heap.size) key tw := h.mono fun _ hk hx => ⟨hx, hk⟩
theorem CipAt.below {B : Nat} (h : CipAt w cb X key tw) (hb : Below B w w') (hB : w.heap.size ≤ B) : CipAt w' cb X key tw :=
  (h.within.grew (Grew.of_below (S := fun k => w.heap.size ≤ k) hb fun k hk hk2 => by omega) (by have := h.lt; omega) (fun k hk => by omega)).mono fun _ _ hx => hx.1
end
/-- A cipher behind work: only blocks of its own have turned. -/
def CipOut (cb : Nat) (X : Nat → Prop) (key tw : List UInt8) (w w' : World) : Prop :=
  ∃ X2 : Nat → Prop, (∀ k, X2 k → (X k ∧ k < w.heap.size) ∨ w.heap.size ≤ k) ∧ CipAt w' cb X2 key tw ∧ Grew X w w'
/-- The value lists these parts, with room. -/
def ListC (L : List (List UInt8)) (v : Value) (w : World) : Prop := ∃ A c B, v = .slice A L.length c ∧ L.length ≤ c ∧ B ≤ w.heap.size ∧ Parts w (· < B) A L
theorem ListC.grows {L : List (List UInt8)} {v : Value} {w w' : World} (h : ListC L v w) (g : Grows w w') : ListC L v w' := by
  obtain ⟨A, c, B, e, hc, hB, hp⟩ := h
  exact ⟨A, c, B, e, hc, Nat.le_trans hB (show Below _ _ _ from g).size, hp.keep fun k hk => (show Below _ _ _ from g).block k (by omega)⟩
theorem st_listc (L : List (List UInt8)) : Stable (ListC L) := fun _ _ _ h g => h.grows g
theorem ListC.lit {L : List (List UInt8)} {w : World} {t : TypeId} {cs : Array Value} (h : ∀ i (hi : i < L.length), ∃ v, cs[i]? = some v ∧ BytesV L[i] v w) (hm : ∀ l ∈ L, l.length ≤ 1000) : ListC L (.slice (some ⟨w.heap.size, 0, none⟩) L.length L.length) (w.alloc (.cells cs t)) :=
  ⟨_, L.length, w.heap.size + 1, rfl, Nat.le_refl _, by simp, (Parts.lit (R := (· < w.heap.size)) (fun i hi => by
    obtain ⟨v, h1, h2⟩ := h i hi
    exact ⟨v, h1, h2.part (Nat.le_trans (hm _ (List.getElem_mem hi)) (by decide))⟩) (fun k hk => hk)).mono fun k hk => by rcases hk with hk | hk <;> omega⟩
theorem join_v (L : List (List UInt8)) (v : Value) (w : World) (h : ListC L v w) (h2 : 2 ≤ L.length) (hlen : L.length ≤ 100) (h0 : 0 < L.flatten.length) (hsum : L.flatten.length ≤ 100000) :
    Calls Tryz.prog 95 #[v, .slice none 0 0] w (RowOut L.flatten w) := by
  obtain ⟨A, c, B, rfl, hc, -, hp⟩ := h
  exact Join_any L A c _ w hp h2 hc hlen h0 hsum
def h8 (n : Nat) : List UInt8 := [1, 2, 1, 0, 0, 10, 10, UInt8.ofNat (n / 2)]
theorem ffHead_eq (n : Nat) (tw : List UInt8) : [h8 n, numB n 4, numB tw.length 4, tw].flatten = ffHead n tw := by simp [h8, ffHead]
theorem ffIn_eq (n i x : Nat) (tw : List UInt8) : [ffHead n tw, List.replicate (padN tw.length (wdN n)) 0, ffTail i x (wdN n)].flatten = ffIn n i x tw := by simp [ffIn]
theorem andNot3 {m : Nat} (h : m ≤ 10) : bits .andNot .i64 (m : Int) 3 = ((m / 4 * 4 : Nat) : Int) := by
  have e : ∀ m : Nat, m < 11 → bits .andNot .i64 (m : Int) 3 = ((m / 4 * 4 : Nat) : Int) := by decide +kernel
  exact e m (by omega)
/-- The value is a row of its own from N on that reads these bytes. -/
def RowV (N : Nat) (l : List UInt8) (v : Value) (w : World) : Prop := ∃ A c, v = .slice A l.length c ∧ Row w N 1 A l.length c (bv l)
theorem st_rowv (N : Nat) (l : List UInt8) : Stable (RowV N l) := fun _ _ _ h g => by
  obtain ⟨A, c, e, hr⟩ := h
  exact ⟨A, c, e, hr.below g (Nat.le_refl _)⟩
/-- What mask answers. -/
def MaskOut (cb : Nat) (X : Nat → Prop) (key tw : List UInt8) (n i x : Nat) (w : World) (e : Ending) (w' : World) : Prop := e = .returned (.int .i64 (maskV key tw n i x : Nat)) ∧ CipOut cb X key tw w w'
set_option maxRecDepth 100000 in
set_option maxHeartbeats 8000000 in
theorem mask_any (cb : Nat) (X : Nat → Prop) (key tw : List UInt8) (n i x : Nat) (w : World) (h : CipAt w cb X key tw) (hk : key.length = 16 ∨ key.length = 32) (ht : tw.length ≤ 16) (h6 : 6 ≤ n) (h32 : n ≤ 32) (hi : i ≤ 9) (hx : x < 9223372036854775808) :
    Calls Tryz.prog 63 #[.pointer (some ⟨cb, 0, none⟩), .int .i64 n, .int .i64 i, .int .i64 x] w (MaskOut cb X key tw n i x w) := by
  obtain ⟨kb, A, c, hb, hr, ha, hkey, hxk, hne⟩ := h
  have hcl := hb.lt
  have hrc := hr.2.1
  have hrm := hr.2.2.1
  unfold maxLen at hrm
  obtain ⟨u, hu⟩ : ∃ u, u = n / 2 := ⟨_, rfl⟩
  have hu16 : u ≤ 16 := by omega
  have q0 : ((n : Nat) : Int).tdiv 2 = (u : Int) := by rw [Int.tdiv_eq_ediv_of_nonneg (by omega)]; omega
  have q1 : (n : Int) / 2 = (u : Int) := by omega
  have q2 : (n : Int) - (u : Int) = ((n - u : Nat) : Int) := by omega
  have HWD := Lib.hid (fun w => Width_any ((n - u : Nat) : Int) w)
  rw [widV_ok (show 1 ≤ n - u by omega) (show n - u ≤ 16 by omega), show cntB (10 ^ (n - u) - 1) = wdN n by rw [hu]; rfl] at HWD
  obtain ⟨wd, hwd⟩ : ∃ wd, wd = wdN n := ⟨_, rfl⟩
  have hw27 := wd_le h32 h6
  rw [← hwd] at HWD hw27
  obtain ⟨t, htl⟩ : ∃ t, t = tw.length := ⟨_, rfl⟩
  rw [← htl] at ht hr hrc hb
  have HU := Lib.hid hu
  have HWDE := Lib.hid hwd
  have HTL := Lib.hid htl
  have HB := Lib.hid hb
  have HR := Lib.hid hr
  have HA := Lib.hid ha
  have HKEY := Lib.hid hkey
  have HK := Lib.hid hk
  have HH8 := Lib.hid (show (UInt8.ofNat (n / 2)).toNat = u by rw [← hu]; exact u8_of (by omega))
  have hub : (u : Int) % 256 = (u : Int) := by omega
  have c0 : w.cell? ⟨cb, 0, none⟩ = some (.pointer (some ⟨kb, 0, none⟩)) := hb.cell 0
  have c1 : w.cell? ⟨cb, 1, none⟩ = some (.slice A t c) := hb.cell 1
  clear hb hr ha hkey hk hu hwd htl
  go_enter Tryz.func63, Tryz.ntmps63
  go_wp2_with fail
  refine (HWD.out _).mono ?_
  rintro e w1 ⟨rfl, hb1⟩
  have HB1 := Lib.hid hb1
  have hs1 := hb1.size
  have d1 : w1.cell? ⟨cb, 1, none⟩ = some (.slice A t c) := (hb1.cell (p := ⟨cb, 1, none⟩) hcl).trans c1
  have hcl1 : cb < w1.heap.size := by omega
  clear hb1 c0 c1
  go_wp2_with fail
  have hg0 : Below w1.heap.size w1 w1.drew := (Below.refl _ _).drew
  obtain ⟨F, hF⟩ : ∃ F, F = nthF [eqv (.int .i64 n), eqv (.int .i64 u), eqv (.int .u8 u), BytesV (h8 n), eqv (.int .i64 n), BytesV (numB n 4), eqv (.pointer (some ⟨cb, 0, none⟩)), eqv (.pointer (some ⟨cb, 0, none⟩)), eqv (.pointer (some ⟨cb, 1, none⟩)), eqv (.slice A t c), eqv (.int .i64 t), BytesV (numB t 4), eqv (.pointer (some ⟨cb, 0, none⟩)), eqv (.pointer (some ⟨cb, 0, none⟩)), eqv (.pointer (some ⟨cb, 1, none⟩)), eqv (.slice A t c), ListC [h8 n, numB n 4, numB t 4, tw], BytesV (ffHead n tw), BytesV (ffHead n tw)] := ⟨_, rfl⟩
  have E0 := Lib.hid (show F 0 = eqv (.int .i64 n) by rw [hF]; rfl)
  have E1 := Lib.hid (show F 1 = eqv (.int .i64 u) by rw [hF]; rfl)
  have E2 := Lib.hid (show F 2 = eqv (.int .u8 u) by rw [hF]; rfl)
  have E3 := Lib.hid (show F 3 = BytesV (h8 n) by rw [hF]; rfl)
  have E4 := Lib.hid (show F 4 = eqv (.int .i64 n) by rw [hF]; rfl)
  have E5 := Lib.hid (show F 5 = BytesV (numB n 4) by rw [hF]; rfl)
  have E6 := Lib.hid (show F 6 = eqv (.pointer (some ⟨cb, 0, none⟩)) by rw [hF]; rfl)
  have E7 := Lib.hid (show F 7 = eqv (.pointer (some ⟨cb, 0, none⟩)) by rw [hF]; rfl)
  have E8 := Lib.hid (show F 8 = eqv (.pointer (some ⟨cb, 1, none⟩)) by rw [hF]; rfl)
  have E9 := Lib.hid (show F 9 = eqv (.slice A t c) by rw [hF]; rfl)
  have E10 := Lib.hid (show F 10 = eqv (.int .i64 t) by rw [hF]; rfl)
  have E11 := Lib.hid (show F 11 = BytesV (numB t 4) by rw [hF]; rfl)
  have E12 := Lib.hid (show F 12 = eqv (.pointer (some ⟨cb, 0, none⟩)) by rw [hF]; rfl)
  have E13 := Lib.hid (show F 13 = eqv (.pointer (some ⟨cb, 0, none⟩)) by rw [hF]; rfl)
  have E14 := Lib.hid (show F 14 = eqv (.pointer (some ⟨cb, 1, none⟩)) by rw [hF]; rfl)
  have E15 := Lib.hid (show F 15 = eqv (.slice A t c) by rw [hF]; rfl)
  have E16 := Lib.hid (show F 16 = ListC [h8 n, numB n 4, numB t 4, tw] by rw [hF]; rfl)
  have E17 := Lib.hid (show F 17 = BytesV (ffHead n tw) by rw [hF]; rfl)
  have E18 := Lib.hid (show F 18 = BytesV (ffHead n tw) by rw [hF]; rfl)
  have hst : ∀ j v w w', F j v w → Grows w w' → F j v w' := by rw [hF]; exact nth_stable (by repeat (first | exact st_nil | exact st_eqv _ | exact st_any | exact st_bytes _ | exact st_listc _ | refine st_cons ?_ ?_))
  have HST0 := Lib.hid hst
  clear hF hst
  refine wp_region_facts F Grows (fun _ => True) (by kernel_rfl) (by kernel_rfl) grows_refl grows_trans HST0.out (trivial) ?_ ?_
  · intro V; refine ⟨?_, ?_, ?_, ?_, ?_, ?_, ?_, ?_, ?_, ?_, ?_, ?_, ?_, ?_, ?_, ?_, ?_, ?_, ?_, trivial⟩
    · intro wx hg hJ hdep
      clear hdep
      clear hg
      go_wp2_with fail
      exact ⟨rfl, grows_refl _, trivial, by rw [E0.out]; rfl⟩
    · intro wx hg hJ hdep
      have v0 : V 0 = (.int .i64 n) := by have h := hdep 0 rfl; rw [E0.out] at h; exact h
      clear hdep
      clear hg
      go_wp2_with fail
      exact ⟨rfl, grows_refl _, trivial, by rw [E1.out]; rfl⟩
    · intro wx hg hJ hdep
      have v1 : V 1 = (.int .i64 u) := by have h := hdep 1 rfl; rw [E1.out] at h; exact h
      clear hdep
      clear hg
      go_wp2_with fail
      exact ⟨rfl, grows_refl _, trivial, by rw [E2.out]; rfl⟩
    · intro wx hg hJ hdep
      have v2 : V 2 = (.int .u8 u) := by have h := hdep 2 rfl; rw [E2.out] at h; exact h
      clear hdep
      clear hg
      go_wp2_with fail
      have hb8 : bv (h8 n) = [.int .u8 1, .int .u8 2, .int .u8 1, .int .u8 0, .int .u8 0, .int .u8 10, .int .u8 10, .int .u8 u] := by unfold h8 bv; simp [HH8.out]
      have hrow := Row.lit wx #[.int .u8 1, .int .u8 2, .int .u8 1, .int .u8 0, .int .u8 0, .int .u8 10, .int .u8 10, .int .u8 u] 5 (n := 8) (size := 1) (base := wx.heap.size) rfl (Nat.le_refl _) (by decide)
      exact ⟨rfl, (Below.refl _ _).alloc (Nat.le_refl _) _, trivial, by rw [E3.out]; refine BytesV.of_row (base := wx.heap.size) ?_; rw [hb8]; exact hrow⟩
    · intro wx hg hJ hdep
      clear hdep
      clear hg
      go_wp2_with fail
      exact ⟨rfl, grows_refl _, trivial, by rw [E4.out]; rfl⟩
    · intro wx hg hJ hdep
      have v4 : V 4 = (.int .i64 n) := by have h := hdep 4 rfl; rw [E4.out] at h; exact h
      clear hdep
      clear hg
      go_wp2_with fail
      refine (number_any n 4 wx (by decide) (by omega)).mono ?_
      rintro e w2 ⟨A5, c5, rfl, hv5, hb5⟩
      have HV5 := Lib.hid hv5
      have HG5 := Lib.hid hb5
      clear hv5 hb5
      go_wp2_with fail
      exact ⟨rfl, HG5.out, trivial, by rw [E5.out]; exact BytesV.of_row HV5.out⟩
    · intro wx hg hJ hdep
      clear hdep
      clear hg
      go_wp2_with fail
      exact ⟨rfl, grows_refl _, trivial, by rw [E6.out]; rfl⟩
    · intro wx hg hJ hdep
      have v6 : V 6 = (.pointer (some ⟨cb, 0, none⟩)) := by have h := hdep 6 rfl; rw [E6.out] at h; exact h
      clear hdep
      clear hg
      go_wp2_with fail
      exact ⟨rfl, grows_refl _, trivial, by rw [E7.out]; rfl⟩
    · intro wx hg hJ hdep
      have v7 : V 7 = (.pointer (some ⟨cb, 0, none⟩)) := by have h := hdep 7 rfl; rw [E7.out] at h; exact h
      clear hdep
      clear hg
      go_wp2_with fail
      exact ⟨rfl, grows_refl _, trivial, by rw [E8.out]; rfl⟩
    · intro wx hg hJ hdep
      have v8 : V 8 = (.pointer (some ⟨cb, 1, none⟩)) := by have h := hdep 8 rfl; rw [E8.out] at h; exact h
      clear hdep
      have k1 := ((hg0.trans hg).cell (p := ⟨cb, 1, none⟩) hcl1).trans d1
      clear hg
      go_wp2_with fail
      exact ⟨rfl, grows_refl _, trivial, by rw [E9.out]; rfl⟩
    · intro wx hg hJ hdep
      have v9 : V 9 = (.slice A t c) := by have h := hdep 9 rfl; rw [E9.out] at h; exact h
      clear hdep
      clear hg
      go_wp2_with fail
      exact ⟨rfl, grows_refl _, trivial, by rw [E10.out]; rfl⟩
    · intro wx hg hJ hdep
      have v10 : V 10 = (.int .i64 t) := by have h := hdep 10 rfl; rw [E10.out] at h; exact h
      clear hdep
      clear hg
      go_wp2_with fail
      refine (number_any t 4 wx (by decide) (by omega)).mono ?_
      rintro e w2 ⟨A5, c5, rfl, hv5, hb5⟩
      have HV5 := Lib.hid hv5
      have HG5 := Lib.hid hb5
      clear hv5 hb5
      go_wp2_with fail
      exact ⟨rfl, HG5.out, trivial, by rw [E11.out]; exact BytesV.of_row HV5.out⟩
    · intro wx hg hJ hdep
      clear hdep
      clear hg
      go_wp2_with fail
      exact ⟨rfl, grows_refl _, trivial, by rw [E12.out]; rfl⟩
    · intro wx hg hJ hdep
      have v12 : V 12 = (.pointer (some ⟨cb, 0, none⟩)) := by have h := hdep 12 rfl; rw [E12.out] at h; exact h
      clear hdep
      clear hg
      go_wp2_with fail
      exact ⟨rfl, grows_refl _, trivial, by rw [E13.out]; rfl⟩
    · intro wx hg hJ hdep
      have v13 : V 13 = (.pointer (some ⟨cb, 0, none⟩)) := by have h := hdep 13 rfl; rw [E13.out] at h; exact h
      clear hdep
      clear hg
      go_wp2_with fail
      exact ⟨rfl, grows_refl _, trivial, by rw [E14.out]; rfl⟩
    · intro wx hg hJ hdep
      have v14 : V 14 = (.pointer (some ⟨cb, 1, none⟩)) := by have h := hdep 14 rfl; rw [E14.out] at h; exact h
      clear hdep
      have k1 := ((hg0.trans hg).cell (p := ⟨cb, 1, none⟩) hcl1).trans d1
      clear hg
      go_wp2_with fail
      exact ⟨rfl, grows_refl _, trivial, by rw [E15.out]; rfl⟩
    · intro wx hg hJ hdep
      have h3 : (BytesV (h8 n)) (V 3) wx := by have h := hdep 3 rfl; rw [E3.out] at h; exact h
      have h5 : (BytesV (numB n 4)) (V 5) wx := by have h := hdep 5 rfl; rw [E5.out] at h; exact h
      have h11 : (BytesV (numB t 4)) (V 11) wx := by have h := hdep 11 rfl; rw [E11.out] at h; exact h
      have v15 : V 15 = (.slice A t c) := by have h := hdep 15 rfl; rw [E15.out] at h; exact h
      clear hdep
      have htw : BytesV tw (.slice A t c) wx := BytesV.of_row ((HR.out.below HB1.out (Nat.le_refl _)).below (hg0.trans hg) (Nat.le_refl _))
      have HL := Lib.hid (fun (t' : TypeId) => ListC.lit (L := [h8 n, numB n 4, numB t 4, tw]) (w := wx) (t := t') (cs := #[V 3, V 5, V 11, .slice A t c]) (fun i hi => by
        have h4 : i < 4 := hi
        have : i = 0 ∨ i = 1 ∨ i = 2 ∨ i = 3 := by omega
        rcases this with rfl | rfl | rfl | rfl
        · exact ⟨_, rfl, h3⟩
        · exact ⟨_, rfl, h5⟩
        · exact ⟨_, rfl, h11⟩
        · exact ⟨_, rfl, htw⟩) (by
        intro l hl
        simp at hl
        rcases hl with rfl | rfl | rfl | rfl
        · simp [h8]
        · rw [length_numB]; decide
        · rw [length_numB]; decide
        · have := HTL.out; omega))
      obtain ⟨A3, n3, c3, e3⟩ := h3.form
      obtain ⟨A5, n5, c5, e5⟩ := h5.form
      obtain ⟨A11, n11, c11, e11⟩ := h11.form
      rw [e3, e5, e11] at HL
      rw [e3, e5, e11]
      clear hg h3 h5 h11 htw
      go_wp2_with fail
      exact ⟨rfl, (Below.refl _ _).alloc (Nat.le_refl _) _, trivial, by rw [E16.out]; exact HL.out _⟩
    · intro wx hg hJ hdep
      have h16 : (ListC [h8 n, numB n 4, numB t 4, tw]) (V 16) wx := by have h := hdep 16 rfl; rw [E16.out] at h; exact h
      clear hdep
      have hl : [h8 n, numB n 4, numB t 4, tw].flatten = ffHead n tw := by rw [HTL.out]; exact ffHead_eq n tw
      have hll := length_ffHead n tw
      have htt := HTL.out
      have hm := join_v [h8 n, numB n 4, numB t 4, tw] (V 16) wx h16 (show 2 ≤ 4 by decide) (show 4 ≤ 100 by decide) (by rw [hl]; omega) (by rw [hl]; omega)
      rw [hl] at hm
      have HM := Lib.hid hm
      obtain ⟨A16, c16, B16, e16, _⟩ := h16
      have e16' : V 16 = .slice A16 4 c16 := e16
      rw [e16'] at HM
      rw [e16']
      clear hg hm hl hll htt
      go_wp2_with fail
      refine HM.out.mono ?_
      rintro e w2 ⟨A5, c5, rfl, hv5, hb5⟩
      have HV5 := Lib.hid hv5
      have HG5 := Lib.hid hb5
      clear hv5 hb5
      go_wp2_with fail
      exact ⟨rfl, HG5.out, trivial, by rw [E17.out]; exact BytesV.of_row HV5.out⟩
    · intro wx hg hJ hdep
      have h17 : (BytesV (ffHead n tw)) (V 17) wx := by have h := hdep 17 rfl; rw [E17.out] at h; exact h
      clear hdep
      have H17 := Lib.hid h17
      obtain ⟨A17, n17, c17, e17⟩ := h17.form
      rw [e17] at H17
      rw [e17]
      clear hg h17
      go_wp2_with fail
      exact ⟨rfl, grows_refl _, trivial, by rw [E18.out]; exact H17.out⟩
  · intro V wx hg hJ hall
    have v0 : V 0 = (.int .i64 n) := by have h := hall 0 (by decide); rw [E0.out] at h; exact h
    have v1 : V 1 = (.int .i64 u) := by have h := hall 1 (by decide); rw [E1.out] at h; exact h
    have v2 : V 2 = (.int .u8 u) := by have h := hall 2 (by decide); rw [E2.out] at h; exact h
    have h3 : (BytesV (h8 n)) (V 3) wx := by have h := hall 3 (by decide); rw [E3.out] at h; exact h
    have v4 : V 4 = (.int .i64 n) := by have h := hall 4 (by decide); rw [E4.out] at h; exact h
    have h5 : (BytesV (numB n 4)) (V 5) wx := by have h := hall 5 (by decide); rw [E5.out] at h; exact h
    have v6 : V 6 = (.pointer (some ⟨cb, 0, none⟩)) := by have h := hall 6 (by decide); rw [E6.out] at h; exact h
    have v7 : V 7 = (.pointer (some ⟨cb, 0, none⟩)) := by have h := hall 7 (by decide); rw [E7.out] at h; exact h
    have v8 : V 8 = (.pointer (some ⟨cb, 1, none⟩)) := by have h := hall 8 (by decide); rw [E8.out] at h; exact h
    have v9 : V 9 = (.slice A t c) := by have h := hall 9 (by decide); rw [E9.out] at h; exact h
    have v10 : V 10 = (.int .i64 t) := by have h := hall 10 (by decide); rw [E10.out] at h; exact h
    have h11 : (BytesV (numB t 4)) (V 11) wx := by have h := hall 11 (by decide); rw [E11.out] at h; exact h
    have v12 : V 12 = (.pointer (some ⟨cb, 0, none⟩)) := by have h := hall 12 (by decide); rw [E12.out] at h; exact h
    have v13 : V 13 = (.pointer (some ⟨cb, 0, none⟩)) := by have h := hall 13 (by decide); rw [E13.out] at h; exact h
    have v14 : V 14 = (.pointer (some ⟨cb, 1, none⟩)) := by have h := hall 14 (by decide); rw [E14.out] at h; exact h
    have v15 : V 15 = (.slice A t c) := by have h := hall 15 (by decide); rw [E15.out] at h; exact h
    have h16 : (ListC [h8 n, numB n 4, numB t 4, tw]) (V 16) wx := by have h := hall 16 (by decide); rw [E16.out] at h; exact h
    have h17 : (BytesV (ffHead n tw)) (V 17) wx := by have h := hall 17 (by decide); rw [E17.out] at h; exact h
    have h18 : (BytesV (ffHead n tw)) (V 18) wx := by have h := hall 18 (by decide); rw [E18.out] at h; exact h
    clear hall
    simp only [fillTo, Act.put, List.setIfInBounds_toArray, List.set_cons_succ, List.set_cons_zero, Nat.reduceAdd, Nat.zero_add, v0, v1, v2, v4, v6, v7, v8, v9, v10, v12, v13, v14, v15]
    clear v0 v1 v2 v4 v6 v7 v8 v9 v10 v12 v13 v14 v15
    obtain ⟨A10, n10, c10, hv10⟩ := h18.form
    have hbx := hg0.trans hg
    have HBY10 := Lib.hid h18
    have HBX := Lib.hid (HB1.out.trans (hbx.mono hs1))
    have hsx := hbx.size
    rw [hv10] at HBY10
    rw [hv10]
    have d1x := (hbx.cell (p := ⟨cb, 1, none⟩) hcl1).trans d1
    clear hg h3 h5 h11 h16 h17 h18 hbx hv10 d1 HWD q0 q1 q2
    have hcx : cb < wx.heap.size := by omega
    obtain ⟨i0, hi0, hz0, hz1, hz2⟩ := info_parts byte_info
    have hib : (i : Int) % 256 = (i : Int) := by omega
    have HN := Lib.hid (fun w => number_any x wd w (by omega) hx)
    go_wp2_with fail
    refine (HN.out _).mono ?_
    rintro e w3 ⟨A3, c3, rfl, hr3, hb3⟩
    rw [length_numB] at hr3
    rw [length_numB]
    have hlit := (Row.lit wx #[.int .u8 i] 5 (n := 1) (size := 1) (base := wx.heap.size) rfl (Nat.le_refl _) (by decide)).below hb3 (Nat.le_refl _)
    have HLIT := Lib.hid hlit
    have HR3 := Lib.hid hr3
    have HB3 := Lib.hid (((Below.refl wx.heap.size wx).alloc (Nat.le_refl _) (.cells #[.int .u8 i] 5)).trans (hb3.mono (by simp)))
    clear hlit hr3 hb3 HN
    have hsx3 := HB3.out.size
    go_upto_region 4 with (at_builtin; refine wpList_append_row rfl (.tmp 41) (.tmp 44) rfl Tryz.underlying27 hi0 hz0 hz1 hz2 rfl (by decide) rfl HLIT.out rfl HR3.out.reads (bv_one _) (by unfold maxLen; omega) (by omega) (by omega) ?_; intro A11 c11 w4 hrow4 hgr4 hat4)
    have hb4 : Below wx.heap.size wx w4 := HB3.out.grown hgr4 hsx3 (fun j hj => by have e : wx.heap.size = j := Option.some.inj hj; omega)
    have HB4 := Lib.hid hb4
    have hrow4' : Row w4 wx.heap.size 1 A11 (1 + wd) c11 (bv (ffTail i x wd)) := by
      have e : bv (ffTail i x wd) = [.int .u8 i] ++ bv (numB x wd) := by
        unfold ffTail
        rw [show (UInt8.ofNat i :: numB x wd) = [UInt8.ofNat i] ++ numB x wd from rfl, bv_append]
        congr 1
        simp only [bv, List.map_cons, List.map_nil]
        rw [u8_of (show i < 256 by omega)]
      rw [e]; exact hrow4
    have HR4 := Lib.hid hrow4'
    have hs4 := hb4.size
    have d4 := (hb4.cell (p := ⟨cb, 1, none⟩) hcx).trans d1x
    obtain ⟨pd, hpd⟩ : ∃ pd, pd = padN t wd := ⟨_, rfl⟩
    have HPD := Lib.hid hpd
    have hpl : pd < 16 := by rw [hpd]; exact Nat.mod_lt _ (by decide)
    have hpi : ((48 : Int) - (t : Int) - (1 + (wd : Int))) % 16 = (pd : Int) := by rw [hpd]; unfold padN; omega
    have hpt : ((48 : Int) - (t : Int) - (1 + (wd : Int))).tmod 16 = (pd : Int) := by rw [Int.tmod_eq_emod_of_nonneg (by omega)]; exact hpi
    have hmk := fun W => run_make (P := Tryz.prog) W 27 5 i0 (.int .u8 0) Tryz.underlying27 hi0 hz0 .i64 .i64 pd (pd : Int) (by omega) (by omega) (by rw [hz2]; omega) (by omega)
    rw [hz1, show ((pd : Int)).toNat = pd by omega, Nat.mul_one] at hmk
    have hrowF := made_row w4 (.int .u8 0) 5 pd pd (by omega) (by unfold maxLen; omega)
    clear hpd hrow4 hrow4' hgr4 hat4 hb4 hi0 hz0 hz1 hz2 HLIT HR3 d1x HB3
    obtain ⟨w5, hw5⟩ : ∃ w5, w5 = w4.alloc (.cells (madeCells #[.int .u8 0] pd) 5) := ⟨_, rfl⟩
    have HW5 := Lib.hid hw5
    rw [← hw5] at hrowF
    have HRF := Lib.hid hrowF
    have hb5 : Below w4.heap.size w4 w5 := by rw [hw5]; exact (Below.refl _ _).alloc (Nat.le_refl _) _
    have HB5 := Lib.hid hb5
    have hs5 := hb5.size
    have c50 : w5.cell? ⟨cb, 0, none⟩ = some (.pointer (some ⟨kb, 0, none⟩)) := by
      refine (hb5.cell (p := ⟨cb, 0, none⟩) (by show cb < w4.heap.size; omega)).trans ((HB4.out.cell (p := ⟨cb, 0, none⟩) hcx).trans ((HBX.out.cell (p := ⟨cb, 0, none⟩) hcl).trans (HB.out.cell 0)))
    clear hw5 hrowF hb5
    go_wp2_with fail
    rw [show w4.alloc (.cells (madeCells #[.int .u8 0] pd) 5) = w5 from HW5.out.symm]
    have hg5 : Below w5.heap.size w5 w5.drew := (Below.refl _ _).drew
    have hcx5 : cb < w5.heap.size := by omega
    clear hmk hpi hpt d4
    skip
    obtain ⟨F, hF⟩ : ∃ F, F = nthF [eqv (.pointer (some ⟨cb, 0, none⟩)), eqv (.pointer (some ⟨cb, 0, none⟩)), eqv (.pointer (some ⟨cb, 0, none⟩)), eqv (.agg #[.pointer (some ⟨kb, 0, none⟩)]), eqv (.slice A10 n10 c10), eqv (.slice (some ⟨w4.heap.size, 0, none⟩) pd pd), eqv (.slice A11 (1 + wd) c11), ListC [ffHead n tw, List.replicate pd 0, ffTail i x wd], RowV w5.heap.size (ffIn n i x tw)] := ⟨_, rfl⟩
    have E0 := Lib.hid (show F 0 = eqv (.pointer (some ⟨cb, 0, none⟩)) by rw [hF]; rfl)
    have E1 := Lib.hid (show F 1 = eqv (.pointer (some ⟨cb, 0, none⟩)) by rw [hF]; rfl)
    have E2 := Lib.hid (show F 2 = eqv (.pointer (some ⟨cb, 0, none⟩)) by rw [hF]; rfl)
    have E3 := Lib.hid (show F 3 = eqv (.agg #[.pointer (some ⟨kb, 0, none⟩)]) by rw [hF]; rfl)
    have E4 := Lib.hid (show F 4 = eqv (.slice A10 n10 c10) by rw [hF]; rfl)
    have E5 := Lib.hid (show F 5 = eqv (.slice (some ⟨w4.heap.size, 0, none⟩) pd pd) by rw [hF]; rfl)
    have E6 := Lib.hid (show F 6 = eqv (.slice A11 (1 + wd) c11) by rw [hF]; rfl)
    have E7 := Lib.hid (show F 7 = ListC [ffHead n tw, List.replicate pd 0, ffTail i x wd] by rw [hF]; rfl)
    have E8 := Lib.hid (show F 8 = RowV w5.heap.size (ffIn n i x tw) by rw [hF]; rfl)
    have hst : ∀ j v w w', F j v w → Grows w w' → F j v w' := by rw [hF]; exact nth_stable (by repeat (first | exact st_nil | exact st_eqv _ | exact st_any | exact st_bytes _ | exact st_listc _ | exact st_rowv _ _ | refine st_cons ?_ ?_))
    have HST0 := Lib.hid hst
    clear hF hst
    refine wp_region_facts_tail 9 F Grows (fun _ => True) (by kernel_rfl) (by kernel_rfl) (by kernel_rfl) (by decide) grows_refl grows_trans HST0.out (trivial) ?_ ?_
    · intro V; refine ⟨?_, ?_, ?_, ?_, ?_, ?_, ?_, ?_, ?_, trivial⟩
      · intro wx hg hJ hdep
        clear hdep
        clear hg
        go_wp2_with fail
        exact ⟨rfl, grows_refl _, trivial, by rw [E0.out]; rfl⟩
      · intro wx hg hJ hdep
        have v0 : V 0 = (.pointer (some ⟨cb, 0, none⟩)) := by have h := hdep 0 rfl; rw [E0.out] at h; exact h
        clear hdep
        clear hg
        go_wp2_with fail
        exact ⟨rfl, grows_refl _, trivial, by rw [E1.out]; rfl⟩
      · intro wx hg hJ hdep
        have v1 : V 1 = (.pointer (some ⟨cb, 0, none⟩)) := by have h := hdep 1 rfl; rw [E1.out] at h; exact h
        clear hdep
        clear hg
        go_wp2_with fail
        exact ⟨rfl, grows_refl _, trivial, by rw [E2.out]; rfl⟩
      · intro wx hg hJ hdep
        have v2 : V 2 = (.pointer (some ⟨cb, 0, none⟩)) := by have h := hdep 2 rfl; rw [E2.out] at h; exact h
        clear hdep
        have k1 := ((hg5.trans hg).cell (p := ⟨cb, 0, none⟩) hcx5).trans c50
        clear hg
        go_wp2_with fail
        exact ⟨rfl, grows_refl _, trivial, by rw [E3.out]; rfl⟩
      · intro wx hg hJ hdep
        clear hdep
        clear hg
        go_wp2_with fail
        exact ⟨rfl, grows_refl _, trivial, by rw [E4.out]; rfl⟩
      · intro wx hg hJ hdep
        clear hdep
        clear hg
        go_wp2_with fail
        exact ⟨rfl, grows_refl _, trivial, by rw [E5.out]; rfl⟩
      · intro wx hg hJ hdep
        clear hdep
        clear hg
        go_wp2_with fail
        exact ⟨rfl, grows_refl _, trivial, by rw [E6.out]; rfl⟩
      · intro wx hg hJ hdep
        have v4 : V 4 = (.slice A10 n10 c10) := by have h := hdep 4 rfl; rw [E4.out] at h; exact h
        have v5 : V 5 = (.slice (some ⟨w4.heap.size, 0, none⟩) pd pd) := by have h := hdep 5 rfl; rw [E5.out] at h; exact h
        have v6 : V 6 = (.slice A11 (1 + wd) c11) := by have h := hdep 6 rfl; rw [E6.out] at h; exact h
        clear hdep
        have hbw := hg5.trans hg
        have hh1 : BytesV (ffHead n tw) (.slice A10 n10 c10) wx := ((HBY10.out.grows HB4.out).grows HB5.out).grows hbw
        have hh2 : BytesV (List.replicate pd 0) (.slice (some ⟨w4.heap.size, 0, none⟩) pd pd) wx := by
          have h9 := HRF.out.below hbw (Nat.le_refl _)
          refine BytesV.of_row (base := w4.heap.size) ?_
          have e : bv (List.replicate pd 0) = List.replicate pd (.int .u8 0) := by simp [bv]
          rw [e]; exact h9
        have hh3 : BytesV (ffTail i x wd) (.slice A11 (1 + wd) c11) wx := BytesV.of_row ((HR4.out.below HB5.out (Nat.le_refl _)).below hbw (Nat.le_refl _))
        have HL := Lib.hid (fun (t' : TypeId) => ListC.lit (L := [ffHead n tw, List.replicate pd 0, ffTail i x wd]) (w := wx) (t := t') (cs := #[.slice A10 n10 c10, .slice (some ⟨w4.heap.size, 0, none⟩) pd pd, .slice A11 (1 + wd) c11]) (fun j hj => by
          have h4 : j < 3 := hj
          have : j = 0 ∨ j = 1 ∨ j = 2 := by omega
          rcases this with rfl | rfl | rfl
          · exact ⟨_, rfl, hh1⟩
          · exact ⟨_, rfl, hh2⟩
          · exact ⟨_, rfl, hh3⟩) (by
          intro l hl
          simp at hl
          rcases hl with rfl | rfl | rfl
          · rw [length_ffHead]; have := HTL.out; omega
          · simp; omega
          · rw [length_ffTail]; omega))
        clear hg hh1 hh2 hh3 hbw
        go_wp2_with fail
        exact ⟨rfl, (Below.refl _ _).alloc (Nat.le_refl _) _, trivial, by rw [E7.out]; exact HL.out _⟩
      · intro wx hg hJ hdep
        have h7 : (ListC [ffHead n tw, List.replicate pd 0, ffTail i x wd]) (V 7) wx := by have h := hdep 7 rfl; rw [E7.out] at h; exact h
        clear hdep
        have hl : [ffHead n tw, List.replicate pd 0, ffTail i x wd].flatten = ffIn n i x tw := by rw [HPD.out, HTL.out, HWDE.out]; exact ffIn_eq n i x tw
        have htt := HTL.out
        have hll := length_inB n i x tw (by omega) h32 h6
        have hll2 : 0 < (ffIn n i x tw).length := by unfold ffIn; rw [List.length_append, length_ffHead]; omega
        have hm := join_v [ffHead n tw, List.replicate pd 0, ffTail i x wd] (V 7) wx h7 (show 2 ≤ 3 by decide) (show 3 ≤ 100 by decide) (by rw [hl]; exact hll2) (by rw [hl]; omega)
        rw [hl] at hm
        have HM := Lib.hid hm
        obtain ⟨A16, c16, B16, e16, _⟩ := h7
        have e16' : V 7 = .slice A16 3 c16 := e16
        have hsz := (hg5.trans hg).size
        rw [e16'] at HM
        rw [e16']
        clear hg hm hl hll hll2 htt
        go_wp2_with fail
        refine HM.out.mono ?_
        rintro e w6 ⟨A5, c5, rfl, hv5, hb5⟩
        have HV5 := Lib.hid hv5
        have HG5 := Lib.hid hb5
        clear hv5 hb5
        go_wp2_with fail
        exact ⟨rfl, HG5.out, trivial, by rw [E8.out]; exact ⟨_, _, rfl, HV5.out.mono hsz⟩⟩
    · intro V wx hg hJ hall
      have v0 : V 0 = (.pointer (some ⟨cb, 0, none⟩)) := by have h := hall 0 (by decide); rw [E0.out] at h; exact h
      have v1 : V 1 = (.pointer (some ⟨cb, 0, none⟩)) := by have h := hall 1 (by decide); rw [E1.out] at h; exact h
      have v2 : V 2 = (.pointer (some ⟨cb, 0, none⟩)) := by have h := hall 2 (by decide); rw [E2.out] at h; exact h
      have v3 : V 3 = (.agg #[.pointer (some ⟨kb, 0, none⟩)]) := by have h := hall 3 (by decide); rw [E3.out] at h; exact h
      have v4 : V 4 = (.slice A10 n10 c10) := by have h := hall 4 (by decide); rw [E4.out] at h; exact h
      have v5 : V 5 = (.slice (some ⟨w4.heap.size, 0, none⟩) pd pd) := by have h := hall 5 (by decide); rw [E5.out] at h; exact h
      have v6 : V 6 = (.slice A11 (1 + wd) c11) := by have h := hall 6 (by decide); rw [E6.out] at h; exact h
      have h7 : (ListC [ffHead n tw, List.replicate pd 0, ffTail i x wd]) (V 7) wx := by have h := hall 7 (by decide); rw [E7.out] at h; exact h
      have h8 : (RowV w5.heap.size (ffIn n i x tw)) (V 8) wx := by have h := hall 8 (by decide); rw [E8.out] at h; exact h
      clear hall
      simp only [List.take_succ_cons, List.take_zero, List.drop_succ_cons, List.drop_zero, fillTo, Act.put, List.setIfInBounds_toArray, List.set_cons_succ, List.set_cons_zero, Nat.reduceAdd, Nat.zero_add, v0, v1, v2, v3, v4, v5, v6]
      clear v0 v1 v2 v3 v4 v5 v6
      obtain ⟨A8, c8, hv8, hrow8⟩ := h8
      have hbz := hg5.trans hg
      have hsz := hbz.size
      have hin := length_inB n i x tw (by have := HTL.out; omega) h32 h6
      have hkz := (((HKEY.out.below HBX.out (Nat.le_refl _)).below HB4.out (Nat.le_refl _)).below HB5.out (Nat.le_refl _)).below hbz (Nat.le_refl _)
      have hkbl : kb < w.heap.size := HKEY.out.lt
      have HCH := Lib.hid (chain_any kb wx.heap.size X key (ffIn n i x tw) A8 c8 wx hkz HK.out hrow8.reads (Nat.le_refl _) (fun ad e => by have := (hrow8.lt ad e).1; omega) hrow8.2.1 hrow8.2.2.1 hin.1)
      have HBZ := Lib.hid ((((HBX.out.trans (HB4.out.mono (by omega))).trans (HB5.out.mono (by omega)))).trans (hbz.mono (by omega)))
      rw [hv8]
      clear hg h7 hrow8 hbz hkz hv8 hin
      go_wp2_with fail
      refine HCH.out.mono ?_
      rintro e w6 ⟨X2, hx2, hkey6, hg6, A13, c13, rfl, hrow13⟩
      have hcip : CipOut cb X key tw w w6 := by
        refine ⟨fun k => X2 k ∨ (X k ∧ k < w.heap.size), fun k hk => ?_, ⟨kb, A, c, ?_, ?_, fun ad e => ⟨.inr ⟨(HA.out ad e).1, (HR.out.lt ad e).2⟩, (HA.out ad e).2⟩, hkey6.mono fun k _ hk => .inl hk, .inr ⟨hxk, hkbl⟩, hne⟩, ?_⟩
        · rcases hk with hk | hk
          · rcases hx2 k hk with h1 | h1
            · by_cases hkw : k < w.heap.size
              · exact .inl ⟨h1.1, hkw⟩
              · exact .inr (by omega)
            · exact .inr (by omega)
          · exact .inl hk
        · rw [← HTL.out]; exact (HB.out.below HBZ.out hcl).grew hg6 (fun e => hne e.symm)
        · rw [← HTL.out]; exact (HR.out.below HBZ.out (Nat.le_refl _)).grew hg6 (fun ad e => (HA.out ad e).2.2)
        · exact (Grew.of_new HBZ.out).then_ hg6 (fun k _ e => by have e2 : k = kb := e; rw [e2]; exact hxk)
      have HCIP := Lib.hid hcip
      have HR13 := Lib.hid hrow13
      have hc13 := hrow13.2.1
      have hm13 := hrow13.2.2.1
      unfold maxLen at hm13
      clear hx2 hkey6 hg6 hrow13 hcip HCH
      go_wp2_with fail
      clear hsz hm13 hc13 c50 hcx5 hg5 hcx hs4 hsx3 hsx
      have hc13 := HR13.out.2.1
      have hm13 := HR13.out.2.2.1
      unfold maxLen at hm13
      obtain ⟨D, hD⟩ : ∃ D, D = 4 + (wd + 3) / 4 * 4 := ⟨_, rfl⟩
      have hD16 : D ≤ 16 := by omega
      have HDD := Lib.hid hD
      have hd1 : bits .andNot .i64 ((wd : Int) + 3) 3 = (((wd + 3) / 4 * 4 : Nat) : Int) := by
        have := andNot3 (m := wd + 3) (by omega)
        rwa [show ((wd + 3 : Nat) : Int) = (wd : Int) + 3 by omega] at this
      obtain ⟨D4, hD4⟩ : ∃ D4, D4 = (wd + 3) / 4 * 4 := ⟨_, rfl⟩
      rw [← hD4] at hd1 hD
      have hd2 : (4 : Int) + (D4 : Int) = (D : Int) := by omega
      have hd3 : (D : Int) ≤ (c13 : Int) := by omega
      have hd4 : (0 : Int) ≤ (D : Int) := by omega
      obtain ⟨hf, hhf⟩ : ∃ hf, hf = halfN n i := ⟨_, rfl⟩
      have HHF := Lib.hid (fun w => half_any n i w (by omega) (by omega))
      rw [← hhf] at HHF
      have hfr : 1 ≤ hf ∧ hf ≤ 16 := by rw [hhf]; unfold halfN; omega
      have HHE := Lib.hid hhf
      have hg7 : Below w6.heap.size w6 w6.drew := (Below.refl _ _).drew
      obtain ⟨rs, hrs⟩ : ∃ rs, rs = restD (10 ^ hf) ((cbc (rksOf key) (ffIn n i x tw)).take D) := ⟨_, rfl⟩
      have HRS := Lib.hid hrs
      clear hhf hD hD4 hrs
      obtain ⟨F, hF⟩ : ∃ F, F = nthF [eqv (.slice A13 16 c13), eqv (.int .i64 wd), eqv (.int .i64 ((wd : Int) + 3)), eqv (.int .i64 D4), eqv (.int .i64 D), eqv (.slice A13 D c13), eqv (.int .i64 n), eqv (.int .i64 i), eqv (.int .i64 hf), eqv (.tuple #[.int .i64 rs, .int .i64 0]), eqv (.tuple #[.int .i64 rs, .int .i64 0]), eqv (.int .i64 rs), eqv (.int .i64 0), eqv (.int .i64 rs), eqv (.int .i64 0)] := ⟨_, rfl⟩
      have E0 := Lib.hid (show F 0 = eqv (.slice A13 16 c13) by rw [hF]; rfl)
      have E1 := Lib.hid (show F 1 = eqv (.int .i64 wd) by rw [hF]; rfl)
      have E2 := Lib.hid (show F 2 = eqv (.int .i64 ((wd : Int) + 3)) by rw [hF]; rfl)
      have E3 := Lib.hid (show F 3 = eqv (.int .i64 D4) by rw [hF]; rfl)
      have E4 := Lib.hid (show F 4 = eqv (.int .i64 D) by rw [hF]; rfl)
      have E5 := Lib.hid (show F 5 = eqv (.slice A13 D c13) by rw [hF]; rfl)
      have E6 := Lib.hid (show F 6 = eqv (.int .i64 n) by rw [hF]; rfl)
      have E7 := Lib.hid (show F 7 = eqv (.int .i64 i) by rw [hF]; rfl)
      have E8 := Lib.hid (show F 8 = eqv (.int .i64 hf) by rw [hF]; rfl)
      have E9 := Lib.hid (show F 9 = eqv (.tuple #[.int .i64 rs, .int .i64 0]) by rw [hF]; rfl)
      have E10 := Lib.hid (show F 10 = eqv (.tuple #[.int .i64 rs, .int .i64 0]) by rw [hF]; rfl)
      have E11 := Lib.hid (show F 11 = eqv (.int .i64 rs) by rw [hF]; rfl)
      have E12 := Lib.hid (show F 12 = eqv (.int .i64 0) by rw [hF]; rfl)
      have E13 := Lib.hid (show F 13 = eqv (.int .i64 rs) by rw [hF]; rfl)
      have E14 := Lib.hid (show F 14 = eqv (.int .i64 0) by rw [hF]; rfl)
      have hst : ∀ j v w w', F j v w → Grows w w' → F j v w' := by rw [hF]; exact nth_stable (by repeat (first | exact st_nil | exact st_eqv _ | exact st_any | refine st_cons ?_ ?_))
      have HST0 := Lib.hid hst
      clear hF hst
      refine wp_region_facts F Grows (fun _ => True) (by kernel_rfl) (by kernel_rfl) grows_refl grows_trans HST0.out (trivial) ?_ ?_
      · intro V; refine ⟨?_, ?_, ?_, ?_, ?_, ?_, ?_, ?_, ?_, ?_, ?_, ?_, ?_, ?_, ?_, trivial⟩
        · intro wx hg hJ hdep
          clear hdep
          clear hg
          go_wp2_with fail
          exact ⟨rfl, grows_refl _, trivial, by rw [E0.out]; rfl⟩
        · intro wx hg hJ hdep
          clear hdep
          clear hg
          go_wp2_with fail
          exact ⟨rfl, grows_refl _, trivial, by rw [E1.out]; rfl⟩
        · intro wx hg hJ hdep
          have v1 : V 1 = (.int .i64 wd) := by have h := hdep 1 rfl; rw [E1.out] at h; exact h
          clear hdep
          clear hg
          go_wp2_with fail
          exact ⟨rfl, grows_refl _, trivial, by rw [E2.out]; rfl⟩
        · intro wx hg hJ hdep
          have v2 : V 2 = (.int .i64 ((wd : Int) + 3)) := by have h := hdep 2 rfl; rw [E2.out] at h; exact h
          clear hdep
          clear hg
          go_wp2_with fail
          exact ⟨rfl, grows_refl _, trivial, by rw [E3.out]; rfl⟩
        · intro wx hg hJ hdep
          have v3 : V 3 = (.int .i64 D4) := by have h := hdep 3 rfl; rw [E3.out] at h; exact h
          clear hdep
          clear hg
          go_wp2_with fail
          exact ⟨rfl, grows_refl _, trivial, by rw [E4.out]; rfl⟩
        · intro wx hg hJ hdep
          have v0 : V 0 = (.slice A13 16 c13) := by have h := hdep 0 rfl; rw [E0.out] at h; exact h
          have v4 : V 4 = (.int .i64 D) := by have h := hdep 4 rfl; rw [E4.out] at h; exact h
          clear hdep
          clear hg
          go_wp2_with fail
          exact ⟨rfl, grows_refl _, trivial, by rw [E5.out]; rfl⟩
        · intro wx hg hJ hdep
          clear hdep
          clear hg
          go_wp2_with fail
          exact ⟨rfl, grows_refl _, trivial, by rw [E6.out]; rfl⟩
        · intro wx hg hJ hdep
          clear hdep
          clear hg
          go_wp2_with fail
          exact ⟨rfl, grows_refl _, trivial, by rw [E7.out]; rfl⟩
        · intro wx hg hJ hdep
          have v6 : V 6 = (.int .i64 n) := by have h := hdep 6 rfl; rw [E6.out] at h; exact h
          have v7 : V 7 = (.int .i64 i) := by have h := hdep 7 rfl; rw [E7.out] at h; exact h
          clear hdep
          clear hg
          go_wp2_with fail
          refine (HHF.out _).mono ?_
          rintro e w8 ⟨rfl, rfl⟩
          go_wp2_with fail
          exact ⟨rfl, grows_refl _, trivial, by rw [E8.out]; rfl⟩
        · intro wx hg hJ hdep
          have v5 : V 5 = (.slice A13 D c13) := by have h := hdep 5 rfl; rw [E5.out] at h; exact h
          have v8 : V 8 = (.int .i64 hf) := by have h := hdep 8 rfl; rw [E8.out] at h; exact h
          clear hdep
          have hrd := (HR13.out.below (hg7.trans hg) (Nat.le_refl _)).reads.take (k := D) hD16
          rw [Nat.mul_one, ← bv_take] at hrd
          have hlen : ((cbc (rksOf key) (ffIn n i x tw)).take D).length ≤ 64 := by rw [List.length_take]; omega
          have hm := Rest_any A13 D c13 wx.heap.size ((cbc (rksOf key) (ffIn n i x tw)).take D) (hf : Int) wx hrd (Nat.le_refl _) (by omega)
          rw [restR_ok (powV_ok hfr.1 hfr.2) (Nat.pow_pos (by decide)) (by omega), ← HRS.out] at hm
          have HM := Lib.hid hm
          clear hg hm hrd hlen
          go_wp2_with fail
          refine HM.out.mono ?_
          rintro e w8 ⟨rfl, hb8⟩
          have HB8 := Lib.hid hb8
          clear hb8
          go_wp2_with fail
          exact ⟨rfl, HB8.out, trivial, by rw [E9.out]; rfl⟩
        · intro wx hg hJ hdep
          have v9 : V 9 = (.tuple #[.int .i64 rs, .int .i64 0]) := by have h := hdep 9 rfl; rw [E9.out] at h; exact h
          clear hdep
          clear hg
          go_wp2_with fail
          exact ⟨rfl, grows_refl _, trivial, by rw [E10.out]; rfl⟩
        · intro wx hg hJ hdep
          have v10 : V 10 = (.tuple #[.int .i64 rs, .int .i64 0]) := by have h := hdep 10 rfl; rw [E10.out] at h; exact h
          clear hdep
          clear hg
          go_wp2_with fail
          exact ⟨rfl, grows_refl _, trivial, by rw [E11.out]; rfl⟩
        · intro wx hg hJ hdep
          have v10 : V 10 = (.tuple #[.int .i64 rs, .int .i64 0]) := by have h := hdep 10 rfl; rw [E10.out] at h; exact h
          clear hdep
          clear hg
          go_wp2_with fail
          exact ⟨rfl, grows_refl _, trivial, by rw [E12.out]; rfl⟩
        · intro wx hg hJ hdep
          have v11 : V 11 = (.int .i64 rs) := by have h := hdep 11 rfl; rw [E11.out] at h; exact h
          clear hdep
          clear hg
          go_wp2_with fail
          exact ⟨rfl, grows_refl _, trivial, by rw [E13.out]; rfl⟩
        · intro wx hg hJ hdep
          have v12 : V 12 = (.int .i64 0) := by have h := hdep 12 rfl; rw [E12.out] at h; exact h
          clear hdep
          clear hg
          go_wp2_with fail
          exact ⟨rfl, grows_refl _, trivial, by rw [E14.out]; rfl⟩
      · intro V wx hg hJ hall
        have v0 : V 0 = (.slice A13 16 c13) := by have h := hall 0 (by decide); rw [E0.out] at h; exact h
        have v1 : V 1 = (.int .i64 wd) := by have h := hall 1 (by decide); rw [E1.out] at h; exact h
        have v2 : V 2 = (.int .i64 ((wd : Int) + 3)) := by have h := hall 2 (by decide); rw [E2.out] at h; exact h
        have v3 : V 3 = (.int .i64 D4) := by have h := hall 3 (by decide); rw [E3.out] at h; exact h
        have v4 : V 4 = (.int .i64 D) := by have h := hall 4 (by decide); rw [E4.out] at h; exact h
        have v5 : V 5 = (.slice A13 D c13) := by have h := hall 5 (by decide); rw [E5.out] at h; exact h
        have v6 : V 6 = (.int .i64 n) := by have h := hall 6 (by decide); rw [E6.out] at h; exact h
        have v7 : V 7 = (.int .i64 i) := by have h := hall 7 (by decide); rw [E7.out] at h; exact h
        have v8 : V 8 = (.int .i64 hf) := by have h := hall 8 (by decide); rw [E8.out] at h; exact h
        have v9 : V 9 = (.tuple #[.int .i64 rs, .int .i64 0]) := by have h := hall 9 (by decide); rw [E9.out] at h; exact h
        have v10 : V 10 = (.tuple #[.int .i64 rs, .int .i64 0]) := by have h := hall 10 (by decide); rw [E10.out] at h; exact h
        have v11 : V 11 = (.int .i64 rs) := by have h := hall 11 (by decide); rw [E11.out] at h; exact h
        have v12 : V 12 = (.int .i64 0) := by have h := hall 12 (by decide); rw [E12.out] at h; exact h
        have v13 : V 13 = (.int .i64 rs) := by have h := hall 13 (by decide); rw [E13.out] at h; exact h
        have v14 : V 14 = (.int .i64 0) := by have h := hall 14 (by decide); rw [E14.out] at h; exact h
        clear hall
        simp only [fillTo, Act.put, List.setIfInBounds_toArray, List.set_cons_succ, List.set_cons_zero, Nat.reduceAdd, Nat.zero_add, v0, v1, v2, v3, v4, v5, v6, v7, v8, v9, v10, v11, v12, v13, v14]
        clear v0 v1 v2 v3 v4 v5 v6 v7 v8 v9 v10 v11 v12 v13 v14
        have HBW := Lib.hid (hg7.trans hg)
        clear hg
        go_wp2_with fail
        go_ret
        refine ⟨by unfold maskV; rw [HRS.out, HHE.out, HDD.out, HWDE.out]; rfl, ?_⟩
        obtain ⟨X3, q1, q2, q3⟩ := HCIP.out
        exact ⟨X3, q1, q2.below HBW.out (Nat.le_refl _), q3.trans (Grew.of_new HBW.out)⟩
end Go.Proofs.YtogpnlfbdhddmaaGreatDoor
namespace Go.Proofs.YtogpnlfbdhddmaaGreatDoor
open Go.RowKit

theorem CipOut.next {cb : Nat} {X : Nat → Prop} {key tw : List UInt8} {w w1 : World} (h : CipOut cb X key tw w w1) : ∃ X2 : Nat → Prop, CipAt w1 cb X2 key tw ∧ ∀ w2, CipOut cb X2 key tw w1 w2 → CipOut cb X key tw w w2 := by
  obtain ⟨X2, h1, h2, h3⟩ := h
  refine ⟨X2, h2, fun w2 ⟨X3, k1, k2, k3⟩ => ⟨X3, fun k hk => ?_, k2, h3.then_ k3 fun k hk hx => ?_⟩⟩
  · have hs := h3.size
    rcases k1 k hk with h4 | h4
    · rcases h1 k h4.1 with h5 | h5
      · exact .inl h5
      · exact .inr h5
    · exact .inr (by omega)
  · rcases h1 k hx with h5 | h5
    · exact h5.1
    · omega
theorem CipOut.refl_ {cb : Nat} {X : Nat → Prop} {key tw : List UInt8} {w : World} (h : CipAt w cb X key tw) : CipOut cb X key tw w w := ⟨fun k => X k ∧ k < w.heap.size, fun _ hk => .inl hk, h.within, Grew.refl _ _⟩
theorem CipOut.more {cb : Nat} {X : Nat → Prop} {key tw : List UInt8} {w w1 w2 : World} (h : CipOut cb X key tw w w1) (hb : Below w1.heap.size w1 w2) : CipOut cb X key tw w w2 := by
  obtain ⟨X2, h1, h2, h3⟩ := h
  exact ⟨X2, h1, h2.below hb (Nat.le_refl _), h3.trans (Grew.of_new hb)⟩

/-! ### New -/
def cipE (key tw : List UInt8) : Int := if key.length = 16 ∨ key.length = 32 then (if tw.length ≤ 16 then 0 else 2) else 1
theorem cipE_key {key tw : List UInt8} (h : ¬ (key.length = 16 ∨ key.length = 32)) : cipE key tw = 1 := if_neg h
theorem cipE_long {key tw : List UInt8} (h : key.length = 16 ∨ key.length = 32) (h2 : ¬ tw.length ≤ 16) : cipE key tw = 2 := by unfold cipE; rw [if_pos h, if_neg h2]
theorem cipE_ok {key tw : List UInt8} (h : key.length = 16 ∨ key.length = 32) (h2 : tw.length ≤ 16) : cipE key tw = 0 := by unfold cipE; rw [if_pos h, if_pos h2]
theorem cipE_zero {key tw : List UInt8} (h : cipE key tw = 0) : (key.length = 16 ∨ key.length = 32) ∧ tw.length ≤ 16 := by
  unfold cipE at h
  split at h
  · split at h
    · exact ⟨by assumption, by assumption⟩
    · simp at h
  · simp at h
/-- A new cipher, in new blocks, or what is wrong. -/
def NewCip (key tw : List UInt8) (w : World) (e : Ending) (w' : World) : Prop :=
  Below w.heap.size w w' ∧ ((cipE key tw ≠ 0 ∧ e = .returned (.tuple #[.pointer none, .int .i64 (cipE key tw)])) ∨
    (cipE key tw = 0 ∧ ∃ cb, e = .returned (.tuple #[.pointer (some ⟨cb, 0, none⟩), .int .i64 0]) ∧ w.heap.size ≤ cb ∧ CipAt w' cb (fun k => w.heap.size ≤ k) key tw))
set_option maxRecDepth 100000 in
set_option maxHeartbeats 4000000 in
theorem New_cip (key tw : List UInt8) (A : Option Addr) (n c : Nat) (T : Option Addr) (m d B : Nat) (w : World) (hr : Reads w B 1 A n (bv key)) (ht : Reads w B 1 T m (bv tw)) (hB : B ≤ w.heap.size) (hm : m ≤ 140737488355328) : Calls Tryz.prog 59 #[.slice A n c, .slice T m d] w (NewCip key tw w) := by
  have hn : key.length = n := by have := hr.1; rw [length_bv] at this; omega
  have hml : tw.length = m := by have := ht.1; rw [length_bv] at this; omega
  by_cases hk : key.length = 16 ∨ key.length = 32
  · have HNK := Lib.hid (aNew_key key A n c B w hr hB hk)
    have HT := Lib.hid ht
    have HML := Lib.hid hml
    by_cases h16 : m ≤ 16
    · have hd : decide ((16 : Int) < (m : Int)) = false := decide_eq_false (by omega)
      have HE := Lib.hid (cipE_ok hk (by omega : tw.length ≤ 16))
      clear hr ht hn hml hk
      go_enter Tryz.func59, Tryz.ntmps59
      go_wp2_with fail
      refine HNK.out.mono ?_
      rintro e w1 ⟨kb, rfl, hkb, hkey, hb1⟩
      have hs1 := hb1.size
      have HCL := Lib.hid (bClone_any T m d B tw w1 (HT.out.below (hb1.mono hB)) (by omega) (by omega))
      have HKEY := Lib.hid hkey
      have HB1 := Lib.hid hb1
      clear hkey hb1
      go_wp2_with fail
      refine HCL.out.mono ?_
      rintro e w2 ⟨A2, c2, rfl, hrow, hb2⟩
      have HROW := Lib.hid hrow
      have HB2 := Lib.hid hb2
      have hs2 := hb2.size
      clear hrow hb2
      go_wp2_with fail
      go_ret2
      have hkl := HKEY.out.lt
      have hk2 := (HKEY.out.below HB2.out (Nat.le_refl _)).within
      refine ⟨(HB1.out.trans (HB2.out.mono hs1)).alloc (by omega) _, .inr ⟨HE.out, w2.heap.size, by rfl, by omega, kb, A2, c2, Blk.new _ _ _, (HROW.out.mono (Nat.zero_le _)).alloc _, fun ad e => ?_, (hk2.below ((Below.refl w2.heap.size w2).alloc (Nat.le_refl _) _) (Nat.le_refl _)).mono fun k _ hx => hx.1, hkb, by omega⟩⟩
      have := HROW.out.lt ad e
      exact ⟨by omega, by omega, by omega⟩
    · have hd : decide ((16 : Int) < (m : Int)) = true := decide_eq_true (by omega)
      have HE := Lib.hid (cipE_long hk (by omega : ¬ tw.length ≤ 16))
      clear hr ht hn hml hk
      go_enter Tryz.func59, Tryz.ntmps59
      go_wp2_with fail
      refine HNK.out.mono ?_
      rintro e w1 ⟨kb, rfl, hkb, hkey, hb1⟩
      have HB1 := Lib.hid hb1
      clear hkey hb1
      go_wp2_with fail
      go_ret2
      exact ⟨HB1.out, .inl ⟨by rw [HE.out]; decide, by rw [HE.out]; rfl⟩⟩
  · have HNK := Lib.hid (aNew_no key A n c w hn hk)
    have HE := Lib.hid (cipE_key (tw := tw) hk)
    clear hr ht hn hml hk
    go_enter Tryz.func59, Tryz.ntmps59
    go_wp2_with fail
    refine HNK.out.mono ?_
    rintro e w1 ⟨rfl, rfl⟩
    go_wp2_with fail
    go_ret2
    exact ⟨Below.refl _ _, .inl ⟨by rw [HE.out]; decide, by rw [HE.out]; rfl⟩⟩

/-! ### halves, join -/
theorem numR_dig {l : List UInt8} (h : l.all isDig = true) (h1 : 1 ≤ l.length) (h16 : l.length ≤ 16) : valR l = .returned (.tuple #[.int .i64 (valD l), .int .i64 0]) := by
  have hl : lookE l = 0 := lookE_ok.2 ⟨h, by omega⟩
  have hv := val_lt l h
  have hp : 10 ^ l.length ≤ 10 ^ 16 := Nat.pow_le_pow_right (by decide) h16
  have e16 : (10 : Nat) ^ 16 = 10000000000000000 := by decide
  have hne : l ≠ [] := by intro e; rw [e] at h1; simp at h1
  rw [valR_num hne (by omega)]
  unfold numR
  have he := numE_ok hl hne (by omega)
  rw [numV_ok he, he]
theorem numR_bad {l : List UInt8} (h : l.all isDig = false) (h1 : 1 ≤ l.length) (h16 : l.length ≤ 16) : valR l = .returned (.tuple #[.int .i64 0, .int .i64 4]) := by
  have hl := lookE_form h
  have hne : l ≠ [] := by intro e; rw [e] at h1; simp at h1
  rw [valR_num hne (by omega)]
  unfold numR
  have he : numE l = 4 := by rw [numE_look (by rw [hl]; decide), hl]
  rw [numV_no (by rw [he]; decide), he]
/-- What halves answers. -/
def HalvesOut (l : List UInt8) (e : Ending) : Prop := ∃ a b : Int, e = .returned (.tuple #[.int .i64 a, .int .i64 b, .int .i64 (nmE l)]) ∧ (nmE l = 0 → a = (valD (l.take (l.length / 2)) : Nat) ∧ b = (valD (l.drop (l.length / 2)) : Nat))
set_option maxRecDepth 100000 in
set_option maxHeartbeats 2000000 in
theorem fhalves_any (s : ByteArray) (w : World) (hs : s.size ≤ maxLen) : Calls Tryz.prog 61 #[.string s] w fun e w' => HalvesOut s.data.toList e ∧ w = w' := by
  have hsz : s.data.toList.length = s.size := size_toList s
  by_cases hl : s.size < 6 ∨ 32 < s.size
  · have HE := Lib.hid (nmE_arg (l := s.data.toList) (by omega))
    have hm : fmayB (s.size : Int) = false := decide_eq_false (by omega)
    have HM := Lib.hid (fun w => may_any (s.size : Int) w)
    rw [hm] at HM
    clear hm hsz
    go_enter Tryz.func61, Tryz.ntmps61
    go_wp2_with fail
    refine (HM.out _).mono ?_
    rintro e w1 ⟨rfl, rfl⟩
    go_wp2_with fail
    go_ret3
    exact ⟨⟨0, 0, by rw [HE.out]; rfl, fun h => by rw [HE.out] at h; cases h⟩, rfl⟩
  · have hm : fmayB (s.size : Int) = true := decide_eq_true (by omega)
    have HM := Lib.hid (fun w => may_any (s.size : Int) w)
    rw [hm] at HM
    obtain ⟨u, hu⟩ : ∃ u, u = s.size / 2 := ⟨_, rfl⟩
    have q0 : ((s.size : Nat) : Int).tdiv 2 = (u : Int) := by rw [Int.tdiv_eq_ediv_of_nonneg (by omega)]; omega
    have q1 : (s.size : Int) / 2 = (u : Int) := by omega
    have q2 : (u : Int) ≤ (s.size : Int) := by omega
    have q3 : (0 : Int) ≤ (u : Int) := by omega
    obtain ⟨sa, hsa⟩ : ∃ sa, sa = s.extract 0 u := ⟨_, rfl⟩
    obtain ⟨sb', hsb⟩ : ∃ sb', sb' = s.extract u s.size := ⟨_, rfl⟩
    have hda : sa.data.toList = s.data.toList.take (s.data.toList.length / 2) := by
      rw [hsa, hsz, ← hu]; simp [ByteArray.data_extract, Array.toList_extract, List.extract]
    have hdb : sb'.data.toList = s.data.toList.drop (s.data.toList.length / 2) := by
      rw [hsb, hsz, ← hu]; simp [ByteArray.data_extract, Array.toList_extract, List.extract]
      rw [List.take_of_length_le (by simp [hsz])]
    have hla : (s.data.toList.take (s.data.toList.length / 2)).length = u := by rw [List.length_take]; omega
    have hlb : (s.data.toList.drop (s.data.toList.length / 2)).length = s.size - u := by rw [List.length_drop]; omega
    have hall : s.data.toList.all isDig = ((s.data.toList.take (s.data.toList.length / 2)).all isDig && (s.data.toList.drop (s.data.toList.length / 2)).all isDig) := by
      rw [← List.all_append, List.take_append_drop]
    have hza : sa.size ≤ maxLen := by rw [← size_toList, hda, hla]; omega
    have hzb : sb'.size ≤ maxLen := by rw [← size_toList, hdb, hlb]; omega
    have hV1 := fun w => Value_any sa w hza
    have hV2 := fun w => Value_any sb' w hzb
    rw [hda] at hV1
    rw [hdb] at hV2
    have HA := Lib.hid hsa
    have HB := Lib.hid hsb
    cases h1 : (s.data.toList.take (s.data.toList.length / 2)).all isDig with
    | true =>
      rw [numR_dig h1 (by omega) (by omega)] at hV1
      cases h2 : (s.data.toList.drop (s.data.toList.length / 2)).all isDig with
      | true =>
        rw [numR_dig h2 (by omega) (by omega)] at hV2
        have HE := Lib.hid (nmE_ok (l := s.data.toList) (by omega) (by rw [hall, h1, h2]; rfl))
        rw [hsa] at hV1
        rw [hsb] at hV2
        obtain ⟨va, hva⟩ : ∃ va, va = valD (s.data.toList.take (s.data.toList.length / 2)) := ⟨_, rfl⟩
        rw [← hva] at hV1
        obtain ⟨vb, hvb⟩ : ∃ vb, vb = valD (s.data.toList.drop (s.data.toList.length / 2)) := ⟨_, rfl⟩
        rw [← hvb] at hV2
        have HVA := Lib.hid hva
        have HVB := Lib.hid hvb
        have HV1 := Lib.hid hV1
        have HV2 := Lib.hid hV2
        clear hall h1 h2 hda hdb hla hlb hza hzb hV1 hV2 hsz hm hsa hsb hu hva hvb
        go_enter Tryz.func61, Tryz.ntmps61
        go_wp2_with fail
        refine (HM.out _).mono ?_
        rintro e w1 ⟨rfl, rfl⟩
        go_wp2_with fail
        refine (HV1.out _).mono ?_
        rintro e w1 ⟨rfl, rfl⟩
        go_wp2_with fail
        refine (HV2.out _).mono ?_
        rintro e w1 ⟨rfl, rfl⟩
        go_wp2_with fail
        go_ret3
        exact ⟨⟨va, vb, by rw [HE.out]; rfl, fun _ => ⟨by rw [HVA.out], by rw [HVB.out]⟩⟩, rfl⟩
      | false =>
        rw [numR_bad h2 (by omega) (by omega)] at hV2
        have HE := Lib.hid (nmE_form (l := s.data.toList) (by omega) (by rw [hall, h1, h2]; rfl))
        rw [hsa] at hV1
        rw [hsb] at hV2
        obtain ⟨va, hva⟩ : ∃ va, va = valD (s.data.toList.take (s.data.toList.length / 2)) := ⟨_, rfl⟩
        rw [← hva] at hV1
        have HV1 := Lib.hid hV1
        have HV2 := Lib.hid hV2
        clear hall h1 h2 hda hdb hla hlb hza hzb hV1 hV2 hsz hm hsa hsb hu hva
        go_enter Tryz.func61, Tryz.ntmps61
        go_wp2_with fail
        refine (HM.out _).mono ?_
        rintro e w1 ⟨rfl, rfl⟩
        go_wp2_with fail
        refine (HV1.out _).mono ?_
        rintro e w1 ⟨rfl, rfl⟩
        go_wp2_with fail
        refine (HV2.out _).mono ?_
        rintro e w1 ⟨rfl, rfl⟩
        go_wp2_with fail
        go_ret3
        exact ⟨⟨va, 0, by rw [HE.out]; rfl, fun h => by rw [HE.out] at h; cases h⟩, rfl⟩
    | false =>
      rw [numR_bad h1 (by omega) (by omega)] at hV1
      cases h2 : (s.data.toList.drop (s.data.toList.length / 2)).all isDig with
      | true =>
        rw [numR_dig h2 (by omega) (by omega)] at hV2
        have HE := Lib.hid (nmE_form (l := s.data.toList) (by omega) (by rw [hall, h1, h2]; rfl))
        rw [hsa] at hV1
        rw [hsb] at hV2
        obtain ⟨vb, hvb⟩ : ∃ vb, vb = valD (s.data.toList.drop (s.data.toList.length / 2)) := ⟨_, rfl⟩
        rw [← hvb] at hV2
        have HV1 := Lib.hid hV1
        have HV2 := Lib.hid hV2
        clear hall h1 h2 hda hdb hla hlb hza hzb hV1 hV2 hsz hm hsa hsb hu hvb
        go_enter Tryz.func61, Tryz.ntmps61
        go_wp2_with fail
        refine (HM.out _).mono ?_
        rintro e w1 ⟨rfl, rfl⟩
        go_wp2_with fail
        refine (HV1.out _).mono ?_
        rintro e w1 ⟨rfl, rfl⟩
        go_wp2_with fail
        refine (HV2.out _).mono ?_
        rintro e w1 ⟨rfl, rfl⟩
        go_wp2_with fail
        go_ret3
        exact ⟨⟨0, vb, by rw [HE.out]; rfl, fun h => by rw [HE.out] at h; cases h⟩, rfl⟩
      | false =>
        rw [numR_bad h2 (by omega) (by omega)] at hV2
        have HE := Lib.hid (nmE_form (l := s.data.toList) (by omega) (by rw [hall, h1, h2]; rfl))
        rw [hsa] at hV1
        rw [hsb] at hV2
        have HV1 := Lib.hid hV1
        have HV2 := Lib.hid hV2
        clear hall h1 h2 hda hdb hla hlb hza hzb hV1 hV2 hsz hm hsa hsb hu
        go_enter Tryz.func61, Tryz.ntmps61
        go_wp2_with fail
        refine (HM.out _).mono ?_
        rintro e w1 ⟨rfl, rfl⟩
        go_wp2_with fail
        refine (HV1.out _).mono ?_
        rintro e w1 ⟨rfl, rfl⟩
        go_wp2_with fail
        refine (HV2.out _).mono ?_
        rintro e w1 ⟨rfl, rfl⟩
        go_wp2_with fail
        go_ret3
        exact ⟨⟨0, 0, by rw [HE.out]; rfl, fun h => by rw [HE.out] at h; cases h⟩, rfl⟩
theorem textV_nat {v m : Nat} (h1 : 1 ≤ m) (h2 : m ≤ 16) (h : v < 10 ^ m) : digR (v : Int) (m : Int) = .returned (.tuple #[.string ⟨(textD v m).toArray⟩, .int .i64 0]) := by
  have hp := powV_ok h1 h2
  have hp16 : 10 ^ m ≤ 10 ^ 16 := Nat.pow_le_pow_right (by decide) h2
  have e16 : (10 : Nat) ^ 16 = 10000000000000000 := by decide
  have hin : inB (v : Int) (m : Int) = true := by unfold inB; rw [hp]; exact decide_eq_true ⟨by omega, by exact_mod_cast h⟩
  have hte : textE (v : Int) (m : Int) = 0 := textE_ok (by omega) (by
    rw [Int.toNat_natCast, Int.toNat_natCast, Nat.div_eq_of_lt h]; decide)
  rw [digR_ok hin, textV_ok hte, hte, Int.toNat_natCast, Int.toNat_natCast]
theorem str_add (a b : List UInt8) : (⟨a.toArray⟩ : ByteArray) ++ (⟨b.toArray⟩ : ByteArray) = ⟨(a ++ b).toArray⟩ := by
  apply ByteArray.ext
  simp
set_option maxRecDepth 100000 in
set_option maxHeartbeats 2000000 in
theorem join_any (n : Nat) (p : Nat × Nat) (w : World) (h6 : 6 ≤ n) (h32 : n ≤ 32) (hp : inH n 0 p) : Calls Tryz.prog 65 #[.int .i64 n, .int .i64 p.1, .int .i64 p.2] w fun e w' => e = .returned (.string ⟨(joinT n p).toArray⟩) ∧ Below w.heap.size w w' := by
  obtain ⟨u, hu⟩ : ∃ u, u = n / 2 := ⟨_, rfl⟩
  obtain ⟨v, hv⟩ : ∃ v, v = n - n / 2 := ⟨_, rfl⟩
  have q0 : ((n : Nat) : Int).tdiv 2 = (u : Int) := by rw [Int.tdiv_eq_ediv_of_nonneg (by omega)]; omega
  have q1 : (n : Int) / 2 = (u : Int) := by omega
  have q2 : (n : Int) - (u : Int) = (v : Int) := by omega
  have h1 := hp.1
  have h2 := hp.2
  rw [half0, ← hu] at h1
  rw [half1, ← hv] at h2
  have hb16 : ∀ m x : Nat, m ≤ 16 → x < 10 ^ m → (x : Int) ≤ 9223372036854775807 := fun m x hm hx => by
    have hp16 : 10 ^ m ≤ 10 ^ 16 := Nat.pow_le_pow_right (by decide) hm
    have e16 : (10 : Nat) ^ 16 = 10000000000000000 := by decide
    omega
  have hD1 := fun w => Digits_any (p.1 : Int) (u : Int) w (hb16 u _ (by omega) h1)
  have hD2 := fun w => Digits_any (p.2 : Int) (v : Int) w (hb16 v _ (by omega) h2)
  rw [textV_nat (by omega) (by omega) h1] at hD1
  rw [textV_nat (by omega) (by omega) h2] at hD2
  have HJ := Lib.hid (show joinT n p = textD p.1 u ++ textD p.2 v by rw [hu, hv]; rfl)
  obtain ⟨sA, hsA⟩ : ∃ sA : ByteArray, sA = ⟨(textD p.1 u).toArray⟩ := ⟨_, rfl⟩
  obtain ⟨sB, hsB⟩ : ∃ sB : ByteArray, sB = ⟨(textD p.2 v).toArray⟩ := ⟨_, rfl⟩
  have hzA : sA.size ≤ 16 := by rw [hsA, show (⟨(textD p.1 u).toArray⟩ : ByteArray).size = (textD p.1 u).length from by simp [ByteArray.size], length_textD]; omega
  have hzB : sB.size ≤ 16 := by rw [hsB, show (⟨(textD p.2 v).toArray⟩ : ByteArray).size = (textD p.2 v).length from by simp [ByteArray.size], length_textD]; omega
  rw [← hsA] at hD1
  rw [← hsB] at hD2
  have HD1 := Lib.hid hD1
  have HD2 := Lib.hid hD2
  have HSA := Lib.hid hsA
  have HSB := Lib.hid hsB
  clear hD1 hD2 h1 h2 hb16 hp hu hv hsA hsB
  go_enter Tryz.func65, Tryz.ntmps65
  go_wp2_with fail
  refine (HD1.out _).mono ?_
  rintro e w1 ⟨rfl, hb1⟩
  have HB1 := Lib.hid hb1
  clear hb1
  go_wp2_with fail
  refine (HD2.out _).mono ?_
  rintro e w2 ⟨rfl, hb2⟩
  have HB2 := Lib.hid hb2
  clear hb2
  go_wp2_with fail
  go_ret
  exact ⟨by rw [HJ.out, ← str_add, ← HSA.out, ← HSB.out]; rfl, thenB HB1.out HB2.out⟩

/-! ### Encrypt, Decrypt -/
/-- Behind i rounds. -/
def FRoundRel (w : World) (cb : Nat) (X : Nat → Prop) (key tw l : List UInt8) (s6 s7 s22 : Value) (gg : Nat) (wr : World) : Prop :=
  ∃ i : Nat, i ≤ 10 ∧ gg = 10 - i ∧ s22 = .int .i64 i ∧ s6 = .int .i64 ((encAt (maskV key tw l.length) l.length (valD (l.take (l.length / 2))) (valD (l.drop (l.length / 2))) i).1 : Nat) ∧ s7 = .int .i64 ((encAt (maskV key tw l.length) l.length (valD (l.take (l.length / 2))) (valD (l.drop (l.length / 2))) i).2 : Nat) ∧ CipOut cb X key tw w wr
/-- Behind k rounds of the way back. -/
def BackRel (w : World) (cb : Nat) (X : Nat → Prop) (key tw l : List UInt8) (s6 s7 s10 : Value) (gg : Nat) (wr : World) : Prop :=
  ∃ k : Nat, k ≤ 10 ∧ gg = 10 - k ∧ s10 = .int .i64 (9 - (k : Int)) ∧ s6 = .int .i64 ((decAt (maskV key tw l.length) l.length (valD (l.take (l.length / 2))) (valD (l.drop (l.length / 2))) k).1 : Nat) ∧ s7 = .int .i64 ((decAt (maskV key tw l.length) l.length (valD (l.take (l.length / 2))) (valD (l.drop (l.length / 2))) k).2 : Nat) ∧ CipOut cb X key tw w wr
theorem pow_half {n i : Nat} (h32 : n ≤ 32) : 10 ^ halfN n i ≤ 10000000000000000 := by
  have hp16 : 10 ^ halfN n i ≤ 10 ^ 16 := Nat.pow_le_pow_right (by decide) (by unfold halfN; omega)
  have e16 : (10 : Nat) ^ 16 = 10000000000000000 := by decide
  omega
theorem half_powV {n i : Nat} (h6 : 6 ≤ n) (h32 : n ≤ 32) : powV (halfN n i : Nat) = ((10 ^ halfN n i : Nat) : Int) := powV_ok (by unfold halfN; omega) (by unfold halfN; omega)
theorem add_half {n i a m : Nat} (h6 : 6 ≤ n) (h32 : n ≤ 32) (ha : a < 10 ^ halfN n i) (hm : m < 10 ^ halfN n i) : addR (a : Int) (m : Int) (halfN n i : Nat) = .returned (.tuple #[.int .i64 (((a + m) % 10 ^ halfN n i : Nat) : Int), .int .i64 0]) := by
  have hp := half_powV (i := i) h6 h32
  rw [addR_yes (bothB_mk (by omega) (by rw [hp]; exact_mod_cast ha) (by omega) (by rw [hp]; exact_mod_cast hm))]
  unfold addV
  rw [hp]
  simp
theorem sub_half {n i a m : Nat} (h6 : 6 ≤ n) (h32 : n ≤ 32) (ha : a < 10 ^ halfN n i) (hm : m < 10 ^ halfN n i) : subR (a : Int) (m : Int) (halfN n i : Nat) = .returned (.tuple #[.int .i64 (((a + 10 ^ halfN n i - m) % 10 ^ halfN n i : Nat) : Int), .int .i64 0]) := by
  have hp := half_powV (i := i) h6 h32
  rw [subR_yes (bothB_mk (by omega) (by rw [hp]; exact_mod_cast ha) (by omega) (by rw [hp]; exact_mod_cast hm))]
  unfold subV
  rw [hp]
  generalize 10 ^ halfN n i = P at ha hm
  rw [show (a : Int) - (m : Int) + (P : Int) = ((a + P - m : Nat) : Int) by omega]
  rfl
/-- What Encrypt answers. -/
def EncR (cb : Nat) (X : Nat → Prop) (key tw l out : List UInt8) (w : World) (e : Ending) (w' : World) : Prop := e = .returned (.tuple #[.string ⟨out.toArray⟩, .int .i64 (nmE l)]) ∧ CipOut cb X key tw w w'
set_option maxRecDepth 100000 in
set_option maxHeartbeats 4000000 in
theorem FEncrypt_any (cb : Nat) (X : Nat → Prop) (key tw : List UInt8) (s : ByteArray) (w : World) (h : CipAt w cb X key tw) (hk : key.length = 16 ∨ key.length = 32) (ht : tw.length ≤ 16) (hs : s.size ≤ maxLen) :
    Calls Tryz.prog 34 #[.pointer (some ⟨cb, 0, none⟩), .string s] w (EncR cb X key tw s.data.toList (encR key tw s.data.toList) w) := by
  have hsz : s.data.toList.length = s.size := size_toList s
  have HH := Lib.hid (fun w => fhalves_any s w hs)
  have H := Lib.hid h
  have HK := Lib.hid hk
  clear h hk
  obtain ⟨l, hl⟩ : ∃ l, l = s.data.toList := ⟨_, rfl⟩
  rw [← hl] at hsz HH ⊢
  clear hl
  by_cases hne : nmE l = 0
  · obtain ⟨h6, h32, hd⟩ := nmE_zero hne
    have HNE := Lib.hid hne
    have HV := Lib.hid (vals_in hd)
    have HSZ := Lib.hid hsz
    have hs6 : 6 ≤ s.size := by omega
    have hs32 : s.size ≤ 32 := by omega
    clear hne hd hsz
    go_enter Tryz.func34, Tryz.ntmps34
    go_wp2_with fail
    refine (HH.out _).mono ?_
    rintro e w1 ⟨⟨a, b, rfl, hab⟩, rfl⟩
    obtain ⟨rfl, rfl⟩ := hab HNE.out
    rw [HNE.out]
    have HST : Hid (FRoundRel w cb X key tw l (.int .i64 ((valD (l.take (l.length / 2)) : Nat) : Int)) (.int .i64 ((valD (l.drop (l.length / 2)) : Nat) : Int)) (.int .i64 0) 10 w) := Lib.hid ⟨0, by omega, rfl, rfl, rfl, rfl, CipOut.refl_ H.out⟩
    clear hab
    generalize hva : valD (l.take (l.length / 2)) = va at HST ⊢
    generalize hvb : valD (l.drop (l.length / 2)) = vb at HST ⊢
    have HVA := Lib.hid hva
    have HVB := Lib.hid hvb
    clear hva hvb
    go_wp2_with fail
    go_loopg [6, 7, 10, 22] 10 (fun gg s6 s7 _ s22 wx => FRoundRel w cb X key tw l s6 s7 s22 gg wx)
    case atStart => exact HST.out
    case round =>
      clear HST
      obtain ⟨i, hi, hgg, rfl, rfl, rfl, hco⟩ := hrel
      have HGG := Lib.hid hgg
      clear hgg
      have hin := enc_in (f := maskV key tw l.length) HV.out i
      obtain ⟨q, hq⟩ : ∃ q, q = encAt (maskV key tw l.length) l.length (valD (l.take (l.length / 2))) (valD (l.drop (l.length / 2))) i := ⟨_, rfl⟩
      rw [← hq] at hin ⊢
      have HQ := Lib.hid hq
      have HIN := Lib.hid hin
      clear hq hin
      by_cases hlt : i < 10
      · obtain ⟨X2, hc2, hnx⟩ := hco.next
        have hm2 := pow_half (n := l.length) (i := i + 1) h32
        have hq2 := HIN.out.2
        obtain ⟨mv, hmv⟩ : ∃ mv, mv = maskV key tw l.length i q.2 := ⟨_, rfl⟩
        have HMV := Lib.hid hmv
        have HMK := Lib.hid (show Calls Tryz.prog 63 #[.pointer (some ⟨cb, 0, none⟩), .int .i64 (s.size : Nat), .int .i64 i, .int .i64 (q.2 : Nat)] wr (fun e w' => e = .returned (.int .i64 mv) ∧ CipOut cb X2 key tw wr w') from by
          rw [← HSZ.out, hmv]
          exact mask_any cb X2 key tw l.length i q.2 wr hc2 HK.out ht h6 h32 (by omega) (by omega))
        have HNX := Lib.hid hnx
        have HHF := Lib.hid (fun w => half_any l.length i w (by omega) (by omega))
        have HAD := Lib.hid (fun w => Add_any (q.1 : Int) (maskV key tw l.length i q.2 : Nat) (halfN l.length i : Nat) w)
        rw [add_half h6 h32 HIN.out.1 (mask_lt _ _ _ _ _), ← hmv, HSZ.out] at HAD
        rw [HSZ.out] at HHF
        clear hc2 hnx hco hm2 hq2 hmv
        go_wp2_with fail
        refine HMK.out.mono ?_
        rintro e w2 ⟨rfl, hc3⟩
        have HC3 := Lib.hid (HNX.out _ hc3)
        clear hc3
        obtain ⟨hv, hhv⟩ : ∃ hv, hv = halfN s.size i := ⟨_, rfl⟩
        rw [← hhv] at HAD HHF
        obtain ⟨av, hav⟩ : ∃ av, av = (q.1 + mv) % 10 ^ hv := ⟨_, rfl⟩
        rw [← hav] at HAD
        have HAV := Lib.hid (show av = (q.1 + maskV key tw l.length i q.2) % 10 ^ halfN l.length i by rw [hav, HMV.out, hhv, HSZ.out])
        clear hav hhv
        go_wp2_with fail
        refine (HHF.out _).mono ?_
        rintro e w3 ⟨rfl, rfl⟩
        go_wp2_with fail
        refine (HAD.out _).mono ?_
        rintro e w4 ⟨rfl, hb4⟩
        have HNE2 : Hid (FRoundRel w cb X key tw l (.int .i64 (q.2 : Nat)) (.int .i64 (av : Nat)) (.int .i64 ((i : Int) + 1)) (9 - i) w4) := Lib.hid ⟨i + 1, by omega, by omega, by go_num, by rw [HQ.out]; rfl, by rw [HAV.out, HQ.out]; rfl, HC3.out.more hb4⟩
        clear hb4
        go_wp2_with fail
        go_roundg (9 - i)
        case measure => have := HGG.out; omega
        case rel => exact HNE2.out
      · obtain rfl : i = 10 := by omega
        have HCO := Lib.hid hco
        have HJ := Lib.hid (fun w => join_any l.length q w h6 h32 (in_ten.1 HIN.out))
        rw [HSZ.out] at HJ
        have HER := Lib.hid (show encR key tw l = joinT s.size q by unfold encR encT; rw [if_pos HNE.out, ← HQ.out, HSZ.out])
        clear hco
        go_wp2_with fail
        refine (HJ.out _).mono ?_
        rintro e w2 ⟨rfl, hb2⟩
        have HB2 := Lib.hid hb2
        clear hb2
        go_wp2_with fail
        go_ret2
        exact ⟨by rw [HER.out, HNE.out]; rfl, HCO.out.more HB2.out⟩
  · have HER := Lib.hid (show encR key tw l = [] from if_neg hne)
    obtain ⟨er, her⟩ : ∃ er, er = nmE l := ⟨_, rfl⟩
    have hne2 : ¬ er = 0 := by rw [her]; exact hne
    have HE := Lib.hid her
    clear hne her hsz
    go_enter Tryz.func34, Tryz.ntmps34
    go_wp2_with fail
    refine (HH.out _).mono ?_
    rintro e w1 ⟨⟨a, b, rfl, _⟩, rfl⟩
    rw [← HE.out]
    go_wp2_with fail
    go_ret2
    exact ⟨by rw [HER.out, HE.out]; rfl, CipOut.refl_ H.out⟩
end Go.Proofs.YtogpnlfbdhddmaaGreatDoor
namespace Go.Proofs.YtogpnlfbdhddmaaGreatDoor
open Go.RowKit

set_option maxRecDepth 100000 in
set_option maxHeartbeats 4000000 in
theorem FDecrypt_any (cb : Nat) (X : Nat → Prop) (key tw : List UInt8) (s : ByteArray) (w : World) (h : CipAt w cb X key tw) (hk : key.length = 16 ∨ key.length = 32) (ht : tw.length ≤ 16) (hs : s.size ≤ maxLen) :
    Calls Tryz.prog 46 #[.pointer (some ⟨cb, 0, none⟩), .string s] w (EncR cb X key tw s.data.toList (decR key tw s.data.toList) w) := by
  have hsz : s.data.toList.length = s.size := size_toList s
  have HH := Lib.hid (fun w => fhalves_any s w hs)
  have H := Lib.hid h
  have HK := Lib.hid hk
  clear h hk
  obtain ⟨l, hl⟩ : ∃ l, l = s.data.toList := ⟨_, rfl⟩
  rw [← hl] at hsz HH ⊢
  clear hl
  by_cases hne : nmE l = 0
  · obtain ⟨h6, h32, hd⟩ := nmE_zero hne
    have HNE := Lib.hid hne
    have HV := Lib.hid (vals_in hd)
    have HSZ := Lib.hid hsz
    have hs6 : 6 ≤ s.size := by omega
    have hs32 : s.size ≤ 32 := by omega
    clear hne hd hsz
    go_enter Tryz.func46, Tryz.ntmps46
    go_wp2_with fail
    refine (HH.out _).mono ?_
    rintro e w1 ⟨⟨a, b, rfl, hab⟩, rfl⟩
    obtain ⟨rfl, rfl⟩ := hab HNE.out
    rw [HNE.out]
    have HST : Hid (BackRel w cb X key tw l (.int .i64 ((valD (l.take (l.length / 2)) : Nat) : Int)) (.int .i64 ((valD (l.drop (l.length / 2)) : Nat) : Int)) (.int .i64 9) 10 w) := Lib.hid ⟨0, by omega, rfl, rfl, rfl, rfl, CipOut.refl_ H.out⟩
    clear hab
    generalize hva : valD (l.take (l.length / 2)) = va at HST ⊢
    generalize hvb : valD (l.drop (l.length / 2)) = vb at HST ⊢
    have HVA := Lib.hid hva
    have HVB := Lib.hid hvb
    clear hva hvb
    go_wp2_with fail
    go_loopg [6, 7, 10] 10 (fun gg s6 s7 s10 wx => BackRel w cb X key tw l s6 s7 s10 gg wx)
    case atStart => exact HST.out
    case round =>
      clear HST
      obtain ⟨i, hi, hgg, rfl, rfl, rfl, hco⟩ := hrel
      have HGG := Lib.hid hgg
      clear hgg
      have hin := dec_in (f := maskV key tw l.length) (in_ten.2 HV.out) i hi
      obtain ⟨q, hq⟩ : ∃ q, q = decAt (maskV key tw l.length) l.length (valD (l.take (l.length / 2))) (valD (l.drop (l.length / 2))) i := ⟨_, rfl⟩
      rw [← hq] at hin ⊢
      have HQ := Lib.hid hq
      have HIN := Lib.hid hin
      clear hq hin
      by_cases hlt : i < 10
      · obtain ⟨X2, hc2, hnx⟩ := hco.next
        have hm2 := pow_half (n := l.length) (i := 10 - i) h32
        have hq2 := HIN.out.1
        have hpa : 10 ^ halfN l.length (10 - i + 1) = 10 ^ halfN l.length (9 - i) := by rw [half_par (show (10 - i + 1) % 2 = (9 - i) % 2 by omega)]
        have hq1 : q.2 < 10 ^ halfN l.length (9 - i) := by rw [← hpa]; exact HIN.out.2
        obtain ⟨j9, hj9⟩ : ∃ j9, j9 = 9 - i := ⟨_, rfl⟩
        have hji : (9 : Int) - (i : Int) = (j9 : Int) := by omega
        obtain ⟨mv, hmv⟩ : ∃ mv, mv = maskV key tw l.length (9 - i) q.1 := ⟨_, rfl⟩
        have HMV := Lib.hid hmv
        have HMK := Lib.hid (show Calls Tryz.prog 63 #[.pointer (some ⟨cb, 0, none⟩), .int .i64 (s.size : Nat), .int .i64 (j9 : Nat), .int .i64 (q.1 : Nat)] wr (fun e w' => e = .returned (.int .i64 mv) ∧ CipOut cb X2 key tw wr w') from by
          rw [← HSZ.out, hmv]
          rw [hj9]; exact mask_any cb X2 key tw l.length (9 - i) q.1 wr hc2 HK.out ht h6 h32 (by omega) (by omega))
        have HNX := Lib.hid hnx
        have HHF := Lib.hid (fun w => half_any l.length j9 w (by omega) (by omega))
        have HAD := Lib.hid (fun w => Sub_any (q.2 : Int) (maskV key tw l.length (9 - i) q.1 : Nat) (halfN l.length (9 - i) : Nat) w)
        rw [sub_half h6 h32 hq1 (mask_lt _ _ _ _ _), ← hmv, HSZ.out, ← hj9] at HAD
        rw [HSZ.out] at HHF
        have HJ9 := Lib.hid hj9
        rw [hji]
        clear hc2 hnx hco hm2 hq2 hmv hpa hq1 hj9
        go_wp2_with fail
        refine HMK.out.mono ?_
        rintro e w2 ⟨rfl, hc3⟩
        have HC3 := Lib.hid (HNX.out _ hc3)
        clear hc3
        obtain ⟨hv, hhv⟩ : ∃ hv, hv = halfN s.size j9 := ⟨_, rfl⟩
        rw [← hhv] at HAD HHF
        obtain ⟨av, hav⟩ : ∃ av, av = (q.2 + 10 ^ hv - mv) % 10 ^ hv := ⟨_, rfl⟩
        rw [← hav] at HAD
        have HAV := Lib.hid (show av = (q.2 + 10 ^ halfN l.length (9 - i) - maskV key tw l.length (9 - i) q.1) % 10 ^ halfN l.length (9 - i) by rw [hav, HMV.out, hhv, HSZ.out, HJ9.out])
        clear hav hhv
        go_wp2_with fail
        refine (HHF.out _).mono ?_
        rintro e w3 ⟨rfl, rfl⟩
        go_wp2_with fail
        refine (HAD.out _).mono ?_
        rintro e w4 ⟨rfl, hb4⟩
        have HNE2 : Hid (BackRel w cb X key tw l (.int .i64 (av : Nat)) (.int .i64 (q.1 : Nat)) (.int .i64 ((j9 : Int) - 1)) (9 - i) w4) := Lib.hid ⟨i + 1, by omega, by omega, by congr 1; omega, by rw [HAV.out, HQ.out]; rfl, by rw [HQ.out]; rfl, HC3.out.more hb4⟩
        clear hb4
        go_wp2_with fail
        go_roundg (9 - i)
        case measure => have := HGG.out; omega
        case rel => exact HNE2.out
      · obtain rfl : i = 10 := by omega
        have HCO := Lib.hid hco
        have HJ := Lib.hid (fun w => join_any l.length q w h6 h32 (by have h := HIN.out; exact h))
        rw [HSZ.out] at HJ
        have HER := Lib.hid (show decR key tw l = joinT s.size q by unfold decR decT; rw [if_pos HNE.out, ← HQ.out, HSZ.out])
        clear hco
        go_wp2_with fail
        refine (HJ.out _).mono ?_
        rintro e w2 ⟨rfl, hb2⟩
        have HB2 := Lib.hid hb2
        clear hb2
        go_wp2_with fail
        go_ret2
        exact ⟨by rw [HER.out, HNE.out]; rfl, HCO.out.more HB2.out⟩
  · have HER := Lib.hid (show decR key tw l = [] from if_neg hne)
    obtain ⟨er, her⟩ : ∃ er, er = nmE l := ⟨_, rfl⟩
    have hne2 : ¬ er = 0 := by rw [her]; exact hne
    have HE := Lib.hid her
    clear hne her hsz
    go_enter Tryz.func46, Tryz.ntmps46
    go_wp2_with fail
    refine (HH.out _).mono ?_
    rintro e w1 ⟨⟨a, b, rfl, _⟩, rfl⟩
    rw [← HE.out]
    go_wp2_with fail
    go_ret2
    exact ⟨by rw [HER.out, HE.out]; rfl, CipOut.refl_ H.out⟩
end Go.Proofs.YtogpnlfbdhddmaaGreatDoor
