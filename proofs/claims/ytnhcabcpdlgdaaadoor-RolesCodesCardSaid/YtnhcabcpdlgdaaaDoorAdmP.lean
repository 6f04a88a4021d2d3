/- PLAIN: what roles may ask; what is asked, in bytes; notes. -/
import Derived.Test.YtnhcabcpdlgdaaaDoorShaPure
import Derived.Test.YtnhcabcpdlgdaaaDoorPanP
namespace Go.Proofs.YtnhcabcpdlgdaaaDoor

/-- What is asked. -/
structure Adm where
  role : Int
  op : Int
  ten : Int
  num : Int
  text : ByteArray
  ticks : Int
  times : Int
  sum : Int
  once : Int
def Adm.val (a : Adm) : Value := .agg #[.int .i64 a.role, .int .i64 a.op, .int .i64 a.ten, .int .i64 a.num, .string a.text, .int .i64 a.ticks, .int .i64 a.times, .int .i64 a.sum, .int .i64 a.once]
def Adm.none : Adm := ⟨0, 0, 0, 0, ⟨#[]⟩, 0, 0, 0, 0⟩
/-- A number that fits. -/
def fits (n : Int) : Prop := -9223372036854775808 ≤ n ∧ n ≤ 9223372036854775807
structure Adm.Wf (a : Adm) : Prop where
  role : fits a.role
  op : fits a.op
  ten : fits a.ten
  num : fits a.num
  ticks : fits a.ticks
  times : fits a.times
  sum : fits a.sum
  once : fits a.once
  text : a.text.size ≤ 140737488351232
def admMay (r o : Int) : Bool :=
  decide ((r = 1 ∧ (o = 1 ∨ o = 2 ∨ o = 6 ∨ o = 9)) ∨ (r = 2 ∧ (o = 3 ∨ o = 4 ∨ o = 5 ∨ o = 6 ∨ o = 7 ∨ o = 8 ∨ o = 9)) ∨ (r = 3 ∧ (o = 9 ∨ o = 10)))
theorem admMay_iff {r o : Int} : admMay r o = true ↔ ((r = 1 ∧ (o = 1 ∨ o = 2 ∨ o = 6 ∨ o = 9)) ∨ (r = 2 ∧ (o = 3 ∨ o = 4 ∨ o = 5 ∨ o = 6 ∨ o = 7 ∨ o = 8 ∨ o = 9)) ∨ (r = 3 ∧ (o = 9 ∨ o = 10))) := by
  unfold admMay; simp
theorem admMay_range {r o : Int} (h : admMay r o = true) : 1 ≤ r ∧ r ≤ 3 ∧ 1 ≤ o ∧ o ≤ 10 := by
  rw [admMay_iff] at h; omega
/-- What is asked without what its op does not name. -/
def Adm.bare (a : Adm) : Adm :=
  if a.op = 4 then ⟨a.role, a.op, a.ten, a.num, a.text, 0, 0, 0, 0⟩
  else if a.op = 5 ∨ a.op = 8 then ⟨a.role, a.op, a.ten, 0, a.text, 0, 0, 0, 0⟩
  else if a.op = 3 then ⟨a.role, a.op, a.ten, 0, ⟨#[]⟩, a.ticks, a.times, a.sum, a.once⟩
  else ⟨a.role, a.op, a.ten, 0, ⟨#[]⟩, 0, 0, 0, 0⟩
/-- Nothing is asked that its op does not name. -/
def Adm.plain (a : Adm) : Prop :=
  (a.num = 0 ∨ a.op = 4) ∧ (a.text.size = 0 ∨ a.op = 4 ∨ a.op = 5 ∨ a.op = 8) ∧ ((a.ticks = 0 ∧ a.times = 0 ∧ a.sum = 0 ∧ a.once = 0) ∨ a.op = 3)
def Adm.fine (a : Adm) : Prop := a.plain ∧ 1 ≤ a.ten ∧ a.ten ≤ 64 ∧ a.text.size ≤ 32
instance (a : Adm) : Decidable a.plain := by unfold Adm.plain; exact inferInstance
instance (a : Adm) : Decidable a.fine := by unfold Adm.fine; exact inferInstance
def Adm.err (a : Adm) : Int := if admMay a.role a.op = true then (if a.fine then 0 else 1) else 40
theorem err_role {a : Adm} (h : admMay a.role a.op = false) : a.err = 40 := if_neg (by rw [h]; decide)
theorem err_arg {a : Adm} (h : admMay a.role a.op = true) (hf : ¬ a.fine) : a.err = 1 := by unfold Adm.err; rw [if_pos h, if_neg hf]
theorem err_ok {a : Adm} (h : admMay a.role a.op = true) (hf : a.fine) : a.err = 0 := by unfold Adm.err; rw [if_pos h, if_pos hf]
theorem err_zero {a : Adm} (h : a.err = 0) : admMay a.role a.op = true ∧ a.fine := by
  unfold Adm.err at h
  by_cases h1 : admMay a.role a.op = true
  · rw [if_pos h1] at h
    by_cases h2 : a.fine
    · exact ⟨h1, h2⟩
    · rw [if_neg h2] at h; omega
  · rw [if_neg h1] at h; omega
theorem size_zero {s : ByteArray} (h : s.size = 0) : s = ⟨#[]⟩ := by
  obtain ⟨⟨l⟩⟩ := s
  have : l.length = 0 := h
  rw [List.length_eq_zero_iff.1 this]
theorem bare_is (a : Adm) : a.bare = a ↔ a.plain := by
  obtain ⟨r, o, t, n, s, p, q, u, v⟩ := a
  have hs : s.size = 0 ↔ s = ⟨#[]⟩ := ⟨size_zero, fun h => by rw [h]; rfl⟩
  unfold Adm.bare Adm.plain
  simp only [hs]
  by_cases h4 : o = 4
  · simp only [h4, if_true]
    constructor
    · intro h; injection h; subst_vars; simp
    · rintro ⟨-, -, h | h⟩
      · obtain ⟨rfl, rfl, rfl, rfl⟩ := h; rfl
      · omega
  · rw [if_neg h4]
    by_cases h5 : o = 5 ∨ o = 8
    · rw [if_pos h5]
      constructor
      · intro h; injection h; subst_vars; simp; omega
      · rintro ⟨h1, -, h | h⟩
        · obtain ⟨rfl, rfl, rfl, rfl⟩ := h
          obtain rfl : n = 0 := by omega
          rfl
        · omega
    · rw [if_neg h5]
      by_cases h3 : o = 3
      · rw [if_pos h3]
        constructor
        · intro h; injection h; subst_vars; simp
        · rintro ⟨h1, h2, -⟩
          obtain rfl : n = 0 := by omega
          obtain rfl : s = ⟨#[]⟩ := by rcases h2 with h | h; exact h; omega
          rfl
      · rw [if_neg h3]
        constructor
        · intro h; injection h; subst_vars; simp
        · rintro ⟨h1, h2, h | h⟩
          · obtain ⟨rfl, rfl, rfl, rfl⟩ := h
            obtain rfl : n = 0 := by omega
            obtain rfl : s = ⟨#[]⟩ := by rcases h2 with h | h; exact h; omega
            rfl
          · omega

/-! ### numbers of eight bytes -/
/-- A number without a sign, of bytes. -/
def big (l : List UInt8) : Nat := l.foldl (fun n c => n * 256 + c.toNat) 0
/-- As a number with a sign, of 64 bits. -/
def sig (n : Int) : Int := (n + 9223372036854775808) % 18446744073709551616 - 9223372036854775808
theorem sig_fits (n : Int) : fits (sig n) := by unfold sig fits; omega
theorem sig_id {n : Int} (h : fits n) : sig n = n := by unfold sig fits at *; omega
def numS (l : List UInt8) : Int := sig (big l)
theorem big_snoc (l : List UInt8) (c : UInt8) : big (l ++ [c]) = big l * 256 + c.toNat := by unfold big; rw [List.foldl_append]; rfl
/-- One byte more. -/
theorem numS_snoc (l : List UInt8) (c : UInt8) : numS (l ++ [c]) = sig (numS l * 256 + c.toNat) := by
  unfold numS sig
  rw [big_snoc]
  have e : ((big l * 256 + c.toNat : Nat) : Int) = (big l : Int) * 256 + (c.toNat : Int) := by omega
  rw [e]
  generalize (big l : Int) = x
  generalize (c.toNat : Int) = y
  omega
theorem u8_lt (c : UInt8) : c.toNat < 256 := c.toNat_lt
theorem big_cons8 (a b c d e f g i : UInt8) : ((big [a, b, c, d, e, f, g, i] : Nat) : Int) = (((((((((a.toNat : Int) * 256 + b.toNat) * 256 + c.toNat) * 256 + d.toNat) * 256 + e.toNat) * 256 + f.toNat) * 256 + g.toNat) * 256 + i.toNat)) := by
  have h : big [a, b, c, d, e, f, g, i] = (((((((0 * 256 + a.toNat) * 256 + b.toNat) * 256 + c.toNat) * 256 + d.toNat) * 256 + e.toNat) * 256 + f.toNat) * 256 + g.toNat) * 256 + i.toNat := rfl
  rw [h]
  generalize a.toNat = a
  generalize b.toNat = b
  generalize c.toNat = c
  generalize d.toNat = d
  generalize e.toNat = e
  generalize f.toNat = f
  generalize g.toNat = g
  generalize i.toNat = i
  omega
theorem split8 (n a b c d e f g i : Int) (h7 : a = n / 72057594037927936 % 256) (h6 : b = n / 281474976710656 % 256) (h5 : c = n / 1099511627776 % 256) (h4 : d = n / 4294967296 % 256) (h3 : e = n / 16777216 % 256) (h2 : f = n / 65536 % 256) (h1 : g = n / 256 % 256) (h0 : i = n % 256) :
    (((((((a * 256 + b) * 256 + c) * 256 + d) * 256 + e) * 256 + f) * 256 + g) * 256 + i) = n % 18446744073709551616 := by omega
theorem eight_num {n : Int} (h : fits n) : numS (Sha.eight n) = n := by
  have b7 := Sha.by8_toNat n 56
  have b6 := Sha.by8_toNat n 48
  have b5 := Sha.by8_toNat n 40
  have b4 := Sha.by8_toNat n 32
  have b3 := Sha.by8_toNat n 24
  have b2 := Sha.by8_toNat n 16
  have b1 := Sha.by8_toNat n 8
  have b0 := Sha.by8_toNat n 0
  have e := big_cons8 (Sha.by8 n 56) (Sha.by8 n 48) (Sha.by8 n 40) (Sha.by8 n 32) (Sha.by8 n 24) (Sha.by8 n 16) (Sha.by8 n 8) (Sha.by8 n 0)
  rw [split8 n _ _ _ _ _ _ _ _ b7 b6 b5 b4 b3 b2 b1 (by rw [b0]; congr 1; exact Int.ediv_one n)] at e
  unfold numS Sha.eight
  rw [e]
  unfold fits at h
  unfold sig
  omega
theorem back8 (N : Int) (a b c d e f g i : Nat) (ha : a < 256) (hb : b < 256) (hc : c < 256) (hd : d < 256) (he : e < 256) (hf : f < 256) (hg : g < 256) (hi : i < 256)
    (hN : N = (((((((((a : Int) * 256 + b) * 256 + c) * 256 + d) * 256 + e) * 256 + f) * 256 + g) * 256 + i)) ∨ N = (((((((((a : Int) * 256 + b) * 256 + c) * 256 + d) * 256 + e) * 256 + f) * 256 + g) * 256 + i)) - 18446744073709551616) :
    N / 72057594037927936 % 256 = a ∧ N / 281474976710656 % 256 = b ∧ N / 1099511627776 % 256 = c ∧ N / 4294967296 % 256 = d ∧ N / 16777216 % 256 = e ∧ N / 65536 % 256 = f ∧ N / 256 % 256 = g ∧ N % 256 = i := by
  refine ⟨?_, ?_, ?_, ?_, ?_, ?_, ?_, ?_⟩ <;> omega
theorem num_eight {l : List UInt8} (h : l.length = 8) : Sha.eight (numS l) = l := by
  match l, h with
  | [a, b, c, d, e, f, g, i], _ =>
    have hv := big_cons8 a b c d e f g i
    obtain ⟨N, hN⟩ : ∃ N, numS [a, b, c, d, e, f, g, i] = N := ⟨_, rfl⟩
    have hb := back8 N a.toNat b.toNat c.toNat d.toNat e.toNat f.toNat g.toNat i.toNat (u8_lt a) (u8_lt b) (u8_lt c) (u8_lt d) (u8_lt e) (u8_lt f) (u8_lt g) (u8_lt i) (by
      rw [← hN]
      unfold numS sig
      rw [hv]
      have ha := u8_lt a
      have hb := u8_lt b
      have hc := u8_lt c
      have hd := u8_lt d
      have he := u8_lt e
      have hf := u8_lt f
      have hg := u8_lt g
      have hi := u8_lt i
      clear hN hv
      generalize a.toNat = a at *
      generalize b.toNat = b at *
      generalize c.toNat = c at *
      generalize d.toNat = d at *
      generalize e.toNat = e at *
      generalize f.toNat = f at *
      generalize g.toNat = g at *
      generalize i.toNat = i at *
      omega)
    rw [hN]
    clear hv hN
    obtain ⟨h7, h6, h5, h4, h3, h2, h1, h0⟩ := hb
    have key : ∀ (s : Nat) (x : UInt8), (N / (2 : Int) ^ s) % 256 = (x.toNat : Int) → Sha.by8 N s = x := fun s x hx => by
      apply UInt8.toNat_inj.1
      have := Sha.by8_toNat N s
      rw [hx] at this
      omega
    unfold Sha.eight
    rw [key 56 a h7, key 48 b h6, key 40 c h5, key 32 d h4, key 24 e h3, key 16 f h2, key 8 g h1, key 0 i (by rw [← h0]; congr 1; exact Int.ediv_one N)]

/-! ### what is asked, in bytes -/
def Adm.bytes (a : Adm) : List UInt8 := [UInt8.ofNat a.role.toNat, UInt8.ofNat a.op.toNat, UInt8.ofNat a.ten.toNat] ++ (Sha.eight a.num ++ (Sha.eight a.ticks ++ (Sha.eight a.times ++ (Sha.eight a.sum ++ (Sha.eight a.once ++ a.text.data.toList)))))
def at8 (l : List UInt8) (k : Nat) : Int := numS ((l.drop (3 + 8 * k)).take 8)
def admOf (l : List UInt8) : Adm :=
  ⟨(l.getD 0 0).toNat, (l.getD 1 0).toNat, (l.getD 2 0).toNat, at8 l 0, ⟨(l.drop 43).toArray⟩, at8 l 1, at8 l 2, at8 l 3, at8 l 4⟩
/-- What bytes mean, and whether they may stand there. -/
def parE (l : List UInt8) : Int := if 43 ≤ l.length ∧ (admOf l).err = 0 then 0 else 4
def parA (l : List UInt8) : Adm := if 43 ≤ l.length ∧ (admOf l).err = 0 then admOf l else Adm.none
theorem admOf_bytes {a : Adm} (hw : a.Wf) (h : a.err = 0) : admOf a.bytes = a ∧ 43 ≤ a.bytes.length := by
  obtain ⟨hm, hf⟩ := err_zero h
  obtain ⟨m1, m2, m3, m4⟩ := admMay_range hm
  obtain ⟨_, t1, t2, t3⟩ := hf
  obtain ⟨r, o, t, n, s, p, q, u, v⟩ := a
  simp only at m1 m2 m3 m4 t1 t2 t3
  have hn := eight_num hw.num
  have hp := eight_num hw.ticks
  have hq := eight_num hw.times
  have hu := eight_num hw.sum
  have hv := eight_num hw.once
  simp only at hn hp hq hu hv
  have hb : ∀ x : Int, 1 ≤ x → x ≤ 64 → ((UInt8.ofNat x.toNat).toNat : Int) = x := fun x h1 h2 => by rw [UInt8.toNat_ofNat']; omega
  refine ⟨?_, by unfold Adm.bytes; simp [Sha.length_eight]; omega⟩
  unfold admOf at8 Adm.bytes
  simp only [Adm.mk.injEq]
  refine ⟨hb r m1 (by omega), hb o m3 (by omega), hb t t1 t2, hn, rfl, hp, hq, hu, hv⟩
theorem list8 (l : List UInt8) : l = l.take 8 ++ l.drop 8 := (List.take_append_drop 8 l).symm
theorem bytes_admOf {l : List UInt8} (h : 43 ≤ l.length) : (admOf l).bytes = l := by
  match l, h with
  | a :: b :: c :: r, h =>
    have hl : 40 ≤ r.length := by simp at h; omega
    have hk : ∀ k, k < 5 → ((r.drop (8 * k)).take 8).length = 8 := fun k hk => by simp; omega
    have hd : ∀ k, ((a :: b :: c :: r).drop (3 + 8 * k)).take 8 = (r.drop (8 * k)).take 8 := fun k => by rw [show 3 + 8 * k = 8 * k + 1 + 1 + 1 by omega]; rfl
    unfold admOf at8 Adm.bytes
    simp only [hd]
    rw [num_eight (hk 0 (by omega)), num_eight (hk 1 (by omega)), num_eight (hk 2 (by omega)), num_eight (hk 3 (by omega)), num_eight (hk 4 (by omega))]
    have hb : ∀ x : UInt8, UInt8.ofNat (x.toNat : Int).toNat = x := fun x => by rw [Int.toNat_natCast]; exact UInt8.ofNat_toNat
    simp only [List.getD_cons_zero, List.getD_cons_succ, hb]
    have hr : r = (r.drop (8 * 0)).take 8 ++ ((r.drop (8 * 1)).take 8 ++ ((r.drop (8 * 2)).take 8 ++ ((r.drop (8 * 3)).take 8 ++ ((r.drop (8 * 4)).take 8 ++ r.drop 40)))) := by
      have h1 := fun k => List.take_append_drop 8 (r.drop (8 * k))
      have h2 : ∀ k, (r.drop (8 * k)).drop 8 = r.drop (8 * (k + 1)) := fun k => by rw [List.drop_drop]; congr 1
      have e4 := h1 4
      have e3 := h1 3
      have e2 := h1 2
      have e1 := h1 1
      have e0 := h1 0
      rw [h2] at e0 e1 e2 e3 e4
      simp only [Nat.zero_add, Nat.reduceAdd] at e0 e1 e2 e3 e4
      rw [show r.drop 40 = r.drop (8 * 5) from rfl, e4, e3, e2, e1, e0]
      rfl
    show a :: b :: c :: _ = a :: b :: c :: r
    congr 3
    exact hr.symm
theorem parse_bytes {a : Adm} (hw : a.Wf) (h : a.err = 0) : parE a.bytes = 0 ∧ parA a.bytes = a := by
  obtain ⟨h1, h2⟩ := admOf_bytes hw h
  unfold parE parA
  rw [h1]
  simp [h2, h]
theorem bytes_parse {l : List UInt8} (h : parE l = 0) : (parA l).err = 0 ∧ (parA l).bytes = l ∧ parA l = admOf l ∧ 43 ≤ l.length := by
  unfold parE at h
  by_cases hh : 43 ≤ l.length ∧ (admOf l).err = 0
  · unfold parA
    rw [if_pos hh]
    exact ⟨hh.2, bytes_admOf hh.1, rfl, hh.1⟩
  · rw [if_neg hh] at h; omega
theorem admOf_wf {l : List UInt8} (h : l.length ≤ 140737488351232) : (admOf l).Wf := by
  have hb : ∀ x : UInt8, fits (x.toNat : Int) := fun x => by have := u8_lt x; unfold fits; omega
  refine ⟨hb _, hb _, hb _, sig_fits _, sig_fits _, sig_fits _, sig_fits _, sig_fits _, ?_⟩
  show (l.drop 43).length ≤ _
  simp; omega

/-! ### notes -/
def headS : List UInt8 := [97, 100, 109, 105, 110, 32]
def noteL (a : Adm) : List UInt8 :=
  headS ++ (dec a.role.toNat ++ (32 :: (dec a.op.toNat ++ (if a.text.size = 0 then [] else 32 :: (if a.op = 8 then maskS a.text.data.toList else a.text.data.toList)))))
/-! ### what a note hides -/
theorem hide_split {l : List UInt8} {d : UInt8} (h : l.all isDig = true) (hl : l.length = 16) (hd : isDig d = true) (h0 : d ≠ 48) : splitOk (l ++ [46, d]) = true ∧ beforeDot (l ++ [46, d]) = l ∧ afterDot (l ++ [46, d]) = [d] ∧ shapedB l = true := by
  have hs : shapedB l = true := shapedB_iff.2 ⟨lookE_ok.2 ⟨h, by omega⟩, by omega, by omega⟩
  obtain ⟨b1, b2⟩ := before_app l [d] h
  have hdr : 48 < d.toNat ∧ d.toNat ≤ 57 := by
    have hne : d.toNat ≠ 48 := fun e => h0 (UInt8.toNat_inj.1 e)
    have h2 := isDig_iff.1 hd
    have e1 : (48 : UInt8).toNat = 48 := rfl
    omega
  obtain ⟨k, hk1, hk9, rfl⟩ : ∃ k, 1 ≤ k ∧ k ≤ 9 ∧ d = sg k := ⟨d.toNat - 48, by omega, by omega, by
    apply UInt8.toNat_inj.1
    unfold sg
    rw [UInt8.toNat_ofNat']
    omega⟩
  have hdec : [sg k] = dec k := (dec_one (by omega)).symm
  rw [hdec] at b1 b2
  have htE : tokE l (k : Int) = 0 := tokE_ok hs (by omega)
  have hsp := tok_split htE
  rw [tokS_ok htE, Int.toNat_natCast] at hsp
  have e : l ++ [46, sg k] = l ++ 46 :: dec k := by rw [← hdec]
  rw [e]
  exact ⟨hsp.1, b1, by rw [b2, hdec], hs⟩
theorem hide_mask {p q r : List UInt8} {s t : List UInt8} {d : UInt8} (hp : p.length = 6) (hq : q.length = 6) (hr : r.length = 6) (ht : t.length = 4) (h1 : (p ++ q ++ t).all isDig = true) (h2 : (p ++ r ++ t).all isDig = true) (hd : isDig d = true) (h0 : d ≠ 48) (_ : s = []) :
    maskS ((p ++ q ++ t) ++ [46, d]) = maskS ((p ++ r ++ t) ++ [46, d]) := by
  obtain ⟨a1, a2, a3, a4⟩ := hide_split h1 (by simp; omega) hd h0
  obtain ⟨c1, c2, c3, c4⟩ := hide_split h2 (by simp; omega) hd h0
  rw [mask_split a1, mask_split c1, a2, c2, a3, c3]
  congr 1
  have hb : ∀ x : List UInt8, x.length = 6 → shapedB (p ++ x ++ t) = true → maskOf (p ++ x ++ t) = p ++ starsL 6 ++ t := fun x hx hs => by
    unfold maskOf
    rw [binP_yes hs, midP_yes hs, lastP_yes hs]
    have e1 : (p ++ x ++ t).take 6 = p := by rw [List.append_assoc, List.take_append_of_le_length (by omega), ← hp, List.take_length]
    have e2 : (p ++ x ++ t).drop ((p ++ x ++ t).length - 4) = t := by
      rw [show (p ++ x ++ t).length - 4 = (p ++ x).length by simp; omega, List.drop_left]
    have e3 : (((p ++ x ++ t).drop 6).take ((p ++ x ++ t).length - 10)).length = 6 := by simp; omega
    rw [e1, e2, e3]
  rw [hb q hq a4, hb r hr c4]
end Go.Proofs.YtnhcabcpdlgdaaaDoor
