/- PLAIN: names of purposes, keys of a ring. -/
import Derived.Test.YtdjpiccehloaiaaDoorShaPure
import Derived.Test.YtdjpiccehloaiaaDoorDecP
namespace Go.Proofs.YtdjpiccehloaiaaDoor

/-- A purpose's name. -/
def nameS (p : Int) : ByteArray := if p = 1 then ⟨#[116, 111, 107, 101, 110]⟩ else if p = 2 then ⟨#[115, 116, 111, 114, 101]⟩ else if p = 3 then ⟨#[116, 97, 103]⟩ else if p = 4 then ⟨#[97, 117, 100, 105, 116]⟩ else ⟨#[]⟩
def nameB (p : Int) : Bool := decide (1 ≤ p ∧ p ≤ 4)
theorem nameB_iff {p : Int} : nameB p = true ↔ 1 ≤ p ∧ p ≤ 4 := by unfold nameB; simp
theorem nameB_no {p : Int} (h : ¬ (1 ≤ p ∧ p ≤ 4)) : nameB p = false := by unfold nameB; exact decide_eq_false h
theorem nameS_no {p : Int} (h : ¬ (1 ≤ p ∧ p ≤ 4)) : nameS p = ⟨#[]⟩ := by
  unfold nameS; rw [if_neg (by omega), if_neg (by omega), if_neg (by omega), if_neg (by omega)]
theorem nameS_size (p : Int) : (nameS p).size ≤ 5 := by
  unfold nameS
  split
  · decide
  · split
    · decide
    · split
      · decide
      · split
        · decide
        · decide
def tenantS : ByteArray := ⟨#[116, 101, 110, 97, 110, 116]⟩
def versionS : ByteArray := ⟨#[118, 101, 114, 115, 105, 111, 110]⟩
/-- A tenant's own key. -/
def tenK (m : List UInt8) (t : Nat) : List UInt8 := foldB m [tenantS.data.toList, dec t]
/-- A key of a tenant. -/
def keyB (m : List UInt8) (t : Nat) (p : Int) (v : Nat) : List UInt8 := foldB (tenK m t) [(nameS p).data.toList, versionS.data.toList, dec v]
theorem keyB_flat (m : List UInt8) (t : Nat) (p : Int) (v : Nat) : foldB m [tenantS.data.toList, dec t, (nameS p).data.toList, versionS.data.toList, dec v] = keyB m t p v := by
  unfold keyB tenK
  rw [← foldB_append]
  simp only [List.cons_append, List.nil_append]
def keyOk (t p v : Int) : Bool := decide (1 ≤ t ∧ t ≤ 64 ∧ 1 ≤ p ∧ p ≤ 4 ∧ 1 ≤ v ∧ v ≤ 255)
theorem keyOk_iff {t p v : Int} : keyOk t p v = true ↔ 1 ≤ t ∧ t ≤ 64 ∧ 1 ≤ p ∧ p ≤ 4 ∧ 1 ≤ v ∧ v ≤ 255 := by unfold keyOk; simp
theorem keyOk_no {t p v : Int} (h : ¬ (1 ≤ t ∧ t ≤ 64 ∧ 1 ≤ p ∧ p ≤ 4 ∧ 1 ≤ v ∧ v ≤ 255)) : keyOk t p v = false := decide_eq_false h
theorem length_tenK (m : List UInt8) (t : Nat) : (tenK m t).length = 32 := by unfold tenK; simp only [foldB]; exact length_macB _ _
theorem length_keyB (m : List UInt8) (t : Nat) (p : Int) (v : Nat) : (keyB m t p v).length = 32 := by unfold keyB; simp only [foldB]; exact length_macB _ _
theorem rep4 {α : Type} (a b c d : α) : ∀ n t k, t < n → k < 4 → ((List.replicate n [a, b, c, d]).flatten)[4 * t + k]? = [a, b, c, d][k]?
  | 0, t, k, h, _ => absurd h (by omega)
  | n + 1, t, k, h, hk => by
    rw [List.replicate_succ, List.flatten_cons]
    cases t with
    | zero => rw [List.getElem?_append_left (by simp; omega)]; simp
    | succ t =>
      rw [List.getElem?_append_right (by simp; omega)]
      have := rep4 a b c d n t k (by omega) hk
      rw [← this]
      congr 1
      simp; omega
end Go.Proofs.YtdjpiccehloaiaaDoor
