/- PLAIN: what the laws of digits say of the check digit: one digit turned, two exchanged, the last one. -/
import Derived.Test.YtiijjpjkfiookaaGreatDoorGPlain
namespace Go.Proofs.YtiijjpjkfiookaaGreatDoor

theorem wsum_mid3 (A : List UInt8) (x : UInt8) (B : List UInt8) (b : Nat) :
    wsum (A ++ x :: B) b = wsum A (B.length + 1 + b) + (if (B.length + b) % 2 = 1 then tw (dg x) else dg x) + wsum B b := by
  rw [wsum_append]
  simp only [wsum, List.length_cons]
  omega

theorem tw_mod : ∀ d, d ≤ 9 → ∀ e, e ≤ 9 → tw d % 10 = tw e % 10 → d = e := by
  intro d hd e he
  unfold tw
  split <;> split <;> omega

/-- One digit turned is told. -/
theorem wsum_turned {A B : List UInt8} {x y : UInt8} (hx : isDig x = true) (hy : isDig y = true) (h1 : wsum (A ++ x :: B) 0 % 10 = 0) (h2 : wsum (A ++ y :: B) 0 % 10 = 0) : x = y := by
  rw [wsum_mid3] at h1 h2
  have a := dg_le hx
  have b := dg_le hy
  refine dg_inj hx hy ?_
  by_cases hp : (B.length + 0) % 2 = 1
  · rw [if_pos hp] at h1 h2
    exact tw_mod _ a _ b (by omega)
  · rw [if_neg hp] at h1 h2
    omega

/-- Two neighbours exchanged are told, but for 0 and 9. -/
theorem wsum_swapped {A B : List UInt8} {x y : UInt8} (hx : isDig x = true) (hy : isDig y = true) (h1 : wsum (A ++ x :: y :: B) 0 % 10 = 0) (h2 : wsum (A ++ y :: x :: B) 0 % 10 = 0) :
    x = y ∨ (x = 48 ∧ y = 57) ∨ (x = 57 ∧ y = 48) := by
  have e1 := wsum_append A (x :: y :: B) 0
  have e2 := wsum_append A (y :: x :: B) 0
  simp only [wsum, List.length_cons] at e1 e2
  have a := dg_le hx
  have b := dg_le hy
  have key : dg x = dg y ∨ (dg x = 0 ∧ dg y = 9) ∨ (dg x = 9 ∧ dg y = 0) := by
    have tx : tw (dg x) = 2 * dg x ∧ dg x ≤ 4 ∨ tw (dg x) + 9 = 2 * dg x ∧ 5 ≤ dg x := by unfold tw; split <;> omega
    have ty : tw (dg y) = 2 * dg y ∧ dg y ≤ 4 ∨ tw (dg y) + 9 = 2 * dg y ∧ 5 ≤ dg y := by unfold tw; split <;> omega
    by_cases hp : (B.length + 0) % 2 = 1
    · have hq : ¬ (B.length + 1 + 0) % 2 = 1 := by omega
      rw [if_pos hp, if_neg hq] at e1 e2
      omega
    · have hq : (B.length + 1 + 0) % 2 = 1 := by omega
      rw [if_neg hp, if_pos hq] at e1 e2
      omega
  rcases key with h | ⟨h, k⟩ | ⟨h, k⟩
  · exact .inl (dg_inj hx hy h)
  · refine .inr (.inl ⟨?_, ?_⟩)
    · rw [← sg_dg hx, h]; rfl
    · rw [← sg_dg hy, k]; rfl
  · refine .inr (.inr ⟨?_, ?_⟩)
    · rw [← sg_dg hx, h]; rfl
    · rw [← sg_dg hy, k]; rfl

theorem set_mid (l : List UInt8) (k : Nat) (hk : k < l.length) (y : UInt8) : l.set k y = l.take k ++ y :: l.drop (k + 1) := by
  rw [List.set_eq_take_append_cons_drop]; simp [hk]
theorem self_mid (l : List UInt8) (k : Nat) (hk : k < l.length) : l = l.take k ++ l[k] :: l.drop (k + 1) := by
  rw [← List.drop_eq_getElem_cons hk, List.take_append_drop]

theorem valid_set (l : List UInt8) (k : Nat) (hk : k < l.length) (y : UInt8) (hy : isDig y = true) (hv : validB l = true) (hne : l[k] ≠ y) : validB (l.set k y) = false := by
  rw [Bool.eq_false_iff]
  intro hw
  obtain ⟨_, h1, h2⟩ := validB_iff.1 hv
  obtain ⟨_, _, h4⟩ := validB_iff.1 hw
  have hx : isDig l[k] = true := List.all_eq_true.1 (lookE_ok.1 h1).1 _ (List.getElem_mem hk)
  rw [self_mid l k hk] at h2
  rw [set_mid l k hk] at h4
  exact hne (wsum_turned hx hy h2 h4)

theorem valid_swap (l : List UInt8) (k : Nat) (hk : k + 1 < l.length) (hv : validB l = true) (hne : l[k] ≠ l[k + 1]) (h09 : ¬ (l[k] = 48 ∧ l[k + 1] = 57)) (h90 : ¬ (l[k] = 57 ∧ l[k + 1] = 48)) :
    validB ((l.set k l[k + 1]).set (k + 1) l[k]) = false := by
  rw [Bool.eq_false_iff]
  intro hw
  obtain ⟨_, h1, h2⟩ := validB_iff.1 hv
  obtain ⟨_, _, h4⟩ := validB_iff.1 hw
  have hx : isDig l[k] = true := List.all_eq_true.1 (lookE_ok.1 h1).1 _ (List.getElem_mem _)
  have hy : isDig l[k + 1] = true := List.all_eq_true.1 (lookE_ok.1 h1).1 _ (List.getElem_mem _)
  have e1 : l = l.take k ++ l[k] :: l[k + 1] :: l.drop (k + 2) := by
    conv => lhs; rw [self_mid l k (by omega), List.drop_eq_getElem_cons hk]
  have e2 : (l.set k l[k + 1]).set (k + 1) l[k] = l.take k ++ l[k + 1] :: l[k] :: l.drop (k + 2) := by
    rw [set_mid l k (by omega), List.set_append_right _ _ (by simp; omega)]
    rw [show k + 1 - (l.take k).length = 1 by simp; omega, List.set_cons_succ, List.drop_eq_getElem_cons hk]
    rfl
  rw [e1] at h2
  rw [e2] at h4
  rcases wsum_swapped hx hy h2 h4 with h | h | h
  · exact hne h
  · exact h09 h
  · exact h90 h

/-- With a digit behind it: valid just if that is the check digit. -/
theorem valid_snoc {l : List UInt8} {d : Nat} (h : d ≤ 9) (hl : lookE l = 0) (hlen : l.length < 999) : validB (l ++ [sg d]) = decide (d = luhn l) := by
  rw [Bool.eq_iff_iff, validB_iff, decide_eq_true_iff, ← luhn_iff l h]
  exact ⟨fun h => h.2.2, fun h4 => ⟨by simp, lookE_snoc h hl hlen, h4⟩⟩

/-- Valid is what ends in its check digit. -/
theorem valid_last (l : List UInt8) (c : UInt8) (hlen : l.length < 999) :
    validB (l ++ [c]) = (decide (lookE l = 0) && (decide (48 ≤ c.toNat) && (decide (c.toNat ≤ 57) && decide (luhnV l = (c.toNat : Int) - 48)))) := by
  rw [Bool.eq_iff_iff, validB_iff]
  simp only [Bool.and_eq_true, decide_eq_true_iff]
  constructor
  · rintro ⟨_, h1, h2⟩
    obtain ⟨ha, hb⟩ := lookE_ok.1 h1
    simp only [List.all_append, Bool.and_eq_true, List.all_cons, List.all_nil, Bool.and_true] at ha
    have hc := isDig_iff.1 ha.2
    have h0 : lookE l = 0 := lookE_ok.2 ⟨ha.1, by simp at hb; omega⟩
    refine ⟨h0, hc.1, hc.2, ?_⟩
    rw [← sg_dg ha.2] at h2
    have := (luhn_iff l (dg_le ha.2)).1 h2
    unfold luhnV
    rw [if_pos h0, ← this]
    unfold dg
    omega
  · rintro ⟨h0, h1, h2, h3⟩
    have hc : isDig c = true := isDig_iff.2 ⟨h1, h2⟩
    unfold luhnV at h3
    rw [if_pos h0] at h3
    have hd : dg c = luhn l := by unfold dg; omega
    have := valid_snoc (dg_le hc) h0 hlen
    rw [sg_dg hc, decide_eq_true hd] at this
    exact validB_iff.1 this
end Go.Proofs.YtiijjpjkfiookaaGreatDoor
