/- PLAIN: card numbers, their parts and masks; tokens. -/
import Derived.Test.YtnhcabcpdlgdaaaDoorDigNumP
import Derived.Test.YtnhcabcpdlgdaaaDoorDecP
namespace Go.Proofs.YtnhcabcpdlgdaaaDoor

/-! ### a number's digits -/
theorem dec_dig (n : Nat) : (dec n).all isDig = true := by
  induction n using Nat.strongRecOn with
  | _ n ih =>
    by_cases h : n < 10
    · rw [dec_one h]; simp [isDig_sg (show n ≤ 9 by omega)]
    · rw [dec_more h, List.all_append, ih (n / 10) (by omega)]; simp [isDig_sg (show n % 10 ≤ 9 by omega)]
theorem val_dec (n : Nat) : valD (dec n) = n := by
  induction n using Nat.strongRecOn with
  | _ n ih =>
    by_cases h : n < 10
    · rw [dec_one h]; show 10 * 0 + dg (sg n) = n; rw [dg_sg (by omega)]; omega
    · rw [dec_more h, val_snoc, ih (n / 10) (by omega), dg_sg (by omega)]; omega
theorem dec_ne (n : Nat) : dec n ≠ [] := by
  by_cases h : n < 10
  · rw [dec_one h]; simp
  · rw [dec_more h]; simp
theorem dec_len {n : Nat} (h : n ≤ 999) : (dec n).length ≤ 3 := by
  by_cases h1 : n < 10
  · rw [dec_one h1]; simp
  · rw [dec_more h1]
    by_cases h2 : n / 10 < 10
    · rw [dec_one h2]; simp
    · rw [dec_more h2, dec_one (by omega)]; simp
theorem numE_dec {n : Nat} (h : n ≤ 999) : numE (dec n) = 0 :=
  numE_ok (lookE_ok.2 ⟨dec_dig n, by have := dec_len h; omega⟩) (dec_ne n) (by rw [val_dec]; omega)
theorem numV_dec {n : Nat} (h : n ≤ 999) : numV (dec n) = (n : Int) := by rw [numV_ok (numE_dec h), val_dec]

/-! ### shaped texts -/
def shapedB (l : List UInt8) : Bool := decide (lookE l = 0 ∧ 16 ≤ l.length ∧ l.length ≤ 19)
theorem shapedB_iff {l : List UInt8} : shapedB l = true ↔ lookE l = 0 ∧ 16 ≤ l.length ∧ l.length ≤ 19 := by unfold shapedB; simp
theorem shapedB_no {l : List UInt8} (h : ¬ (lookE l = 0 ∧ 16 ≤ l.length ∧ l.length ≤ 19)) : shapedB l = false := by
  cases e : shapedB l with
  | false => rfl
  | true => exact absurd (shapedB_iff.1 e) h
def binP (l : List UInt8) : List UInt8 := if shapedB l = true then l.take 6 else []
def midP (l : List UInt8) : List UInt8 := if shapedB l = true then (l.drop 6).take (l.length - 10) else []
def lastP (l : List UInt8) : List UInt8 := if shapedB l = true then l.drop (l.length - 4) else []
theorem binP_yes {l : List UInt8} (h : shapedB l = true) : binP l = l.take 6 := if_pos h
theorem midP_yes {l : List UInt8} (h : shapedB l = true) : midP l = (l.drop 6).take (l.length - 10) := if_pos h
theorem lastP_yes {l : List UInt8} (h : shapedB l = true) : lastP l = l.drop (l.length - 4) := if_pos h
theorem binP_no {l : List UInt8} (h : shapedB l = false) : binP l = [] := if_neg (by rw [h]; decide)
theorem midP_no {l : List UInt8} (h : shapedB l = false) : midP l = [] := if_neg (by rw [h]; decide)
theorem lastP_no {l : List UInt8} (h : shapedB l = false) : lastP l = [] := if_neg (by rw [h]; decide)
theorem parts_len {l : List UInt8} (h : shapedB l = true) : (binP l).length = 6 ∧ (midP l).length = l.length - 10 ∧ (lastP l).length = 4 ∧ 16 ≤ l.length ∧ l.length ≤ 19 := by
  obtain ⟨_, h1, h2⟩ := shapedB_iff.1 h
  rw [binP_yes h, midP_yes h, lastP_yes h]
  simp
  omega
theorem parts_all {l : List UInt8} (h : shapedB l = true) : binP l ++ midP l ++ lastP l = l := by
  obtain ⟨_, h1, h2⟩ := shapedB_iff.1 h
  rw [binP_yes h, midP_yes h, lastP_yes h]
  have e : l.drop (l.length - 4) = (l.drop 6).drop (l.length - 10) := by rw [List.drop_drop]; congr 1; omega
  rw [e, List.append_assoc, List.take_append_drop, List.take_append_drop]
theorem lookE_dig {l : List UInt8} (h : lookE l = 0) : l.all isDig = true := (lookE_ok.1 h).1
/-- Whatever digits stand in the middle. -/
theorem shaped_mid {l m : List UInt8} (h : shapedB l = true) (hm : m.all isDig = true) (hl : m.length = (midP l).length) :
    shapedB (binP l ++ m ++ lastP l) = true ∧ binP (binP l ++ m ++ lastP l) = binP l ∧ midP (binP l ++ m ++ lastP l) = m ∧ lastP (binP l ++ m ++ lastP l) = lastP l ∧ (binP l ++ m ++ lastP l).length = l.length := by
  obtain ⟨p1, p2, p3, p4, p5⟩ := parts_len h
  have hd := lookE_dig (shapedB_iff.1 h).1
  rw [← parts_all h, List.all_append, List.all_append] at hd
  simp only [Bool.and_eq_true] at hd
  have hlen : (binP l ++ m ++ lastP l).length = l.length := by simp; omega
  have hs : shapedB (binP l ++ m ++ lastP l) = true := by
    refine shapedB_iff.2 ⟨lookE_ok.2 ⟨?_, by omega⟩, by omega, by omega⟩
    rw [List.all_append, List.all_append, hd.1.1, hm, hd.2]; rfl
  refine ⟨hs, ?_, ?_, ?_, hlen⟩
  · rw [binP_yes hs, List.append_assoc, List.take_append_of_le_length (by omega), List.take_of_length_le (by omega)]
  · rw [midP_yes hs, hlen, List.append_assoc, List.drop_append_of_le_length (by omega), List.drop_of_length_le (by omega), List.nil_append, List.take_append_of_le_length (by omega), List.take_of_length_le (by omega)]
  · rw [lastP_yes hs, hlen, List.drop_append_of_le_length (by simp; omega), List.drop_of_length_le (by simp; omega), List.nil_append]

/-! ### tokens -/
def verB (v : Int) : Bool := decide (1 ≤ v ∧ v ≤ 255)
theorem verB_iff {v : Int} : verB v = true ↔ 1 ≤ v ∧ v ≤ 255 := by unfold verB; simp
def tokE (l : List UInt8) (v : Int) : Int := if shapedB l = true then (if verB v = true then 0 else 1) else 10
def tokS (l : List UInt8) (v : Int) : List UInt8 := if tokE l v = 0 then l ++ 46 :: dec v.toNat else []
theorem tokE_shape {l : List UInt8} {v : Int} (h : shapedB l = false) : tokE l v = 10 := if_neg (by rw [h]; decide)
theorem tokE_ver {l : List UInt8} {v : Int} (h : shapedB l = true) (hv : ¬ (1 ≤ v ∧ v ≤ 255)) : tokE l v = 1 := by
  unfold tokE; rw [if_pos h, if_neg (by rw [verB_iff]; exact hv)]
theorem tokE_ok {l : List UInt8} {v : Int} (h : shapedB l = true) (hv : 1 ≤ v ∧ v ≤ 255) : tokE l v = 0 := by
  unfold tokE; rw [if_pos h, if_pos (verB_iff.2 hv)]
theorem tokE_zero {l : List UInt8} {v : Int} (h : tokE l v = 0) : shapedB l = true ∧ 1 ≤ v ∧ v ≤ 255 := by
  unfold tokE at h
  by_cases hs : shapedB l = true
  · rw [if_pos hs] at h
    by_cases hv : verB v = true
    · exact ⟨hs, verB_iff.1 hv⟩
    · rw [if_neg hv] at h; cases h
  · rw [if_neg hs] at h; cases h
theorem tokS_no {l : List UInt8} {v : Int} (h : tokE l v ≠ 0) : tokS l v = [] := if_neg h
theorem tokS_ok {l : List UInt8} {v : Int} (h : tokE l v = 0) : tokS l v = l ++ 46 :: dec v.toNat := if_pos h
def beforeDot (l : List UInt8) : List UInt8 := l.takeWhile (fun c => c != 46)
def afterDot (l : List UInt8) : List UInt8 := (l.dropWhile (fun c => c != 46)).drop 1
theorem dot_dig {c : UInt8} (h : isDig c = true) : (c != 46) = true := by
  have := isDig_iff.1 h
  simp only [bne_iff_ne, ne_eq]
  intro e; subst e; simp at this
theorem before_app : ∀ (l r : List UInt8), l.all isDig = true → beforeDot (l ++ 46 :: r) = l ∧ afterDot (l ++ 46 :: r) = r
  | [], r, _ => ⟨rfl, rfl⟩
  | c :: l, r, h => by
    have hc : isDig c = true := by simp at h; exact h.1
    obtain ⟨i1, i2⟩ := before_app l r (by simp at h ⊢; exact h.2)
    simp only [beforeDot, afterDot] at i1 i2 ⊢
    rw [List.cons_append, List.takeWhile_cons_of_pos (p := fun c => c != 46) (dot_dig hc), List.dropWhile_cons_of_pos (p := fun c => c != 46) (dot_dig hc), i1, i2]
    exact ⟨rfl, rfl⟩
theorem before_dig : ∀ (l : List UInt8), l.all isDig = true → beforeDot l = l ∧ afterDot l = []
  | [], _ => ⟨rfl, rfl⟩
  | c :: l, h => by
    have hc : isDig c = true := by simp at h; exact h.1
    obtain ⟨i1, i2⟩ := before_dig l (by simp at h ⊢; exact h.2)
    simp only [beforeDot, afterDot] at i1 i2 ⊢
    rw [List.takeWhile_cons_of_pos (p := fun c => c != 46) (dot_dig hc), List.dropWhile_cons_of_pos (p := fun c => c != 46) (dot_dig hc), i1, i2]
    exact ⟨rfl, rfl⟩
def splitOk (l : List UInt8) : Bool := decide (numE (afterDot l) = 0 ∧ tokE (beforeDot l) (numV (afterDot l)) = 0 ∧ tokS (beforeDot l) (numV (afterDot l)) = l)
theorem splitOk_iff {l : List UInt8} : splitOk l = true ↔ numE (afterDot l) = 0 ∧ tokE (beforeDot l) (numV (afterDot l)) = 0 ∧ tokS (beforeDot l) (numV (afterDot l)) = l := by unfold splitOk; simp
theorem splitOk_no {l : List UInt8} (h : ¬ (numE (afterDot l) = 0 ∧ tokE (beforeDot l) (numV (afterDot l)) = 0 ∧ tokS (beforeDot l) (numV (afterDot l)) = l)) : splitOk l = false := by
  cases e : splitOk l with
  | false => rfl
  | true => exact absurd (splitOk_iff.1 e) h
def splE (l : List UInt8) : Int := if splitOk l = true then 0 else 11
def splS (l : List UInt8) : List UInt8 := if splitOk l = true then beforeDot l else []
def splV (l : List UInt8) : Int := if splitOk l = true then numV (afterDot l) else 0
theorem spl_yes {l : List UInt8} (h : splitOk l = true) : splE l = 0 ∧ splS l = beforeDot l ∧ splV l = numV (afterDot l) := ⟨if_pos h, if_pos h, if_pos h⟩
theorem spl_no {l : List UInt8} (h : splitOk l = false) : splE l = 11 ∧ splS l = [] ∧ splV l = 0 :=
  ⟨if_neg (by rw [h]; decide), if_neg (by rw [h]; decide), if_neg (by rw [h]; decide)⟩
/-- A token is split into what it was made of. -/
theorem tok_split {l : List UInt8} {v : Int} (h : tokE l v = 0) : splitOk (tokS l v) = true ∧ beforeDot (tokS l v) = l ∧ numV (afterDot (tokS l v)) = v := by
  obtain ⟨hs, h1, h2⟩ := tokE_zero h
  have hd := lookE_dig (shapedB_iff.1 hs).1
  obtain ⟨i1, i2⟩ := before_app l (dec v.toNat) hd
  have hn := numE_dec (n := v.toNat) (by omega)
  have hv := numV_dec (n := v.toNat) (by omega)
  have hvv : ((v.toNat : Nat) : Int) = v := by omega
  rw [hvv] at hv
  have e := tokS_ok h
  refine ⟨splitOk_iff.2 ?_, by rw [e, i1], by rw [e, i2, hv]⟩
  rw [e, i1, i2, hv]
  exact ⟨hn, h, e⟩
/-- What was split is made again. -/
theorem split_tok {l : List UInt8} (h : splitOk l = true) : tokE (splS l) (splV l) = 0 ∧ tokS (splS l) (splV l) = l := by
  obtain ⟨h1, h2, h3⟩ := splitOk_iff.1 h
  obtain ⟨_, e2, e3⟩ := spl_yes h
  rw [e2, e3]
  exact ⟨h2, h3⟩
theorem shaped_split {l : List UInt8} (h : shapedB l = true) : splitOk l = false := by
  refine splitOk_no fun ⟨h1, _⟩ => ?_
  rw [(before_dig l (lookE_dig (shapedB_iff.1 h).1)).2] at h1
  rw [numE_nil] at h1
  cases h1
theorem split_shaped {l : List UInt8} (h : splitOk l = true) : shapedB (beforeDot l) = true ∧ 1 ≤ numV (afterDot l) ∧ numV (afterDot l) ≤ 255 ∧ l = beforeDot l ++ 46 :: dec (numV (afterDot l)).toNat := by
  obtain ⟨h1, h2, h3⟩ := splitOk_iff.1 h
  obtain ⟨a, b, c⟩ := tokE_zero h2
  exact ⟨a, b, c, by rw [tokS_ok h2] at h3; exact h3.symm⟩

/-! ### masks -/
def starsL (n : Nat) : List UInt8 := List.replicate n 42
def maskOf (l : List UInt8) : List UInt8 := binP l ++ starsL (midP l).length ++ lastP l
def maskS (l : List UInt8) : List UInt8 :=
  if shapedB l = true then maskOf l else if splitOk l = true then maskOf (beforeDot l) ++ 46 :: dec (numV (afterDot l)).toNat else starsL (min l.length 32)
theorem mask_shaped {l : List UInt8} (h : shapedB l = true) : maskS l = maskOf l := if_pos h
theorem mask_split {l : List UInt8} (h : splitOk l = true) : maskS l = maskOf (beforeDot l) ++ 46 :: dec (numV (afterDot l)).toNat := by
  unfold maskS
  rw [if_neg (fun hs => by rw [shaped_split hs] at h; cases h), if_pos h]
theorem mask_none {l : List UInt8} (h : shapedB l = false) (h2 : splitOk l = false) : maskS l = starsL (min l.length 32) := by
  unfold maskS
  rw [if_neg (by rw [h]; decide), if_neg (by rw [h2]; decide)]
theorem maskOf_mid {l m : List UInt8} (h : shapedB l = true) (hm : m.all isDig = true) (hl : m.length = (midP l).length) : maskS (binP l ++ m ++ lastP l) = maskS l := by
  obtain ⟨s1, s2, s3, s4, _⟩ := shaped_mid h hm hl
  rw [mask_shaped s1, mask_shaped h]
  unfold maskOf
  rw [s2, s3, s4, hl]
theorem len_maskOf {l : List UInt8} (h : shapedB l = true) : (maskOf l).length = l.length := by
  obtain ⟨p1, p2, p3, p4, p5⟩ := parts_len h
  unfold maskOf starsL
  simp
  omega
theorem maskOf_at {l : List UInt8} (h : shapedB l = true) {i : Nat} (h6 : 6 ≤ i) (hi : i + 4 < l.length) : (maskOf l)[i]? = some 42 := by
  obtain ⟨p1, p2, p3, p4, p5⟩ := parts_len h
  unfold maskOf starsL
  rw [List.getElem?_append_left (by simp; omega), List.getElem?_append_right (by omega), List.getElem?_replicate, if_pos (by omega)]
theorem maskOf_head {l : List UInt8} (h : shapedB l = true) : (maskOf l).take 6 = binP l ∧ (maskOf l).drop (l.length - 4) = lastP l := by
  obtain ⟨p1, p2, p3, p4, p5⟩ := parts_len h
  unfold maskOf starsL
  refine ⟨?_, ?_⟩
  · rw [List.append_assoc, List.take_append_of_le_length (by omega), List.take_of_length_le (by omega)]
  · rw [List.drop_append_of_le_length (by simp; omega), List.drop_of_length_le (by simp; omega), List.nil_append]

/-! ### card numbers -/
def panB (l : List UInt8) : Bool := shapedB l && validB l
/-- Of ten last digits just one is right. -/
theorem pan_last {l : List UInt8} (h : shapedB l = true) {d : Nat} (hd : d ≤ 9) : panB (l.take (l.length - 1) ++ [sg d]) = decide (d = luhn (l.take (l.length - 1))) := by
  obtain ⟨h0, h1, h2⟩ := shapedB_iff.1 h
  have hdig := lookE_dig h0
  have ht : (l.take (l.length - 1)).all isDig = true := by
    rw [List.all_eq_true] at hdig ⊢
    exact fun x hx => hdig x (List.mem_of_mem_take hx)
  have hlook : lookE (l.take (l.length - 1) ++ [sg d]) = 0 := lookE_ok.2 ⟨by rw [List.all_append, ht]; simp [isDig_sg hd], by simp; omega⟩
  have hs : shapedB (l.take (l.length - 1) ++ [sg d]) = true := shapedB_iff.2 ⟨hlook, by simp; omega, by simp; omega⟩
  unfold panB
  rw [hs, Bool.true_and]
  have hne : l.take (l.length - 1) ++ [sg d] ≠ [] := by simp
  rw [Bool.eq_iff_iff, validB_iff, decide_eq_true_iff]
  rw [luhn_iff _ hd]
  exact ⟨fun a => a.2.2, fun a => ⟨hne, hlook, a⟩⟩
end Go.Proofs.YtnhcabcpdlgdaaaDoor
