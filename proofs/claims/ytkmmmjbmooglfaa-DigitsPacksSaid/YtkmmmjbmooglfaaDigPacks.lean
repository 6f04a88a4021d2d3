/- THE WALK of the law DigitsPacks. -/
import Derived.Test.YtkmmmjbmooglfaaDigRPack
namespace Go.Proofs.Ytkmmmjbmooglfaa
open Go.RowKit

theorem Reads.lt_ {w : World} {B size n : Nat} {A : Option Addr} {xs : List Value} (h : Reads w B size A n xs) {g o : Nat} (hA : A = some ⟨g, o, none⟩) (hn : 0 < n) : g < B := by
  obtain ⟨b, o', e, hb, _⟩ := h.2 hn
  rw [hA] at e
  simp only [Option.some.injEq, Addr.mk.injEq, and_true] at e
  omega
/-- Two rows in other blocks, listed in a new block: their owner may write over them. -/
theorem owned_two {w : World} {t : TypeId} {base1 base2 : Nat} {A1 A2 : Option Addr} {n1 c1 n2 c2 : Nat} {xs ys : List Value}
    (h1 : Row w base1 1 A1 n1 c1 xs) (h2 : Row w base2 1 A2 n2 c2 ys) (hd : ∀ a b, A1 = some a → A2 = some b → a.block ≠ b.block) :
    OwnedRows (w.alloc (.cells #[.slice A1 n1 c1, .slice A2 n2 c2] t)) w.heap.size [(A1, n1, c1), (A2, n2, c2)] where
  cell := fun i x hx => by
    rw [cell?_new]
    match i, hx with
    | 0, hx => simp at hx; subst hx; rfl
    | 1, hx => simp at hx; subst hx; rfl
    | i + 2, hx => simp at hx
  row := fun x hx => by
    simp only [List.mem_cons, List.not_mem_nil, or_false] at hx
    rcases hx with rfl | rfl
    · exact ⟨_, _, h1.alloc _⟩
    · exact ⟨_, _, h2.alloc _⟩
  apart := fun i j x y a b hx hy hij ha hb _ _ => by
    match i, j, hx, hy with
    | 0, 0, _, _ => exact absurd rfl hij
    | 1, 1, _, _ => exact absurd rfl hij
    | 0, 1, hx, hy => simp at hx hy; subst hx hy; exact hd a b ha hb
    | 1, 0, hx, hy => simp at hx hy; subst hx hy; exact fun e => hd b a hb ha e.symm
    | i + 2, _, hx, _ => simp at hx
    | _, j + 2, _, hy => simp at hy
  outer := by
    rintro ⟨x, hx, a, ha, _, he⟩
    simp only [List.mem_cons, List.not_mem_nil, or_false] at hx
    rcases hx with rfl | rfl
    · have := (h1.lt a ha).2; omega
    · have := (h2.lt a ha).2; omega

set_option maxRecDepth 100000 in
set_option maxHeartbeats 4000000 in
theorem DigitsPacks_walk (s : ByteArray) (A : Option Addr) (n c : Nat) (l : List UInt8) (k : Int) (w : World) (hs : s.size ≤ maxLen) (hr : Reads w w.heap.size 1 A n (bv l)) (hc : n ≤ c ∧ c ≤ 140737488351232) (_hk : (Lit.int .i64 k).wf = true) :
    Calls Try.prog 7 #[.string s, .slice A n c, .int .i64 k] w fun e w' => e = .returned (.bool true) ∧ Below w.heap.size w w' := by
  obtain ⟨hnc, hcc⟩ := hc
  go_enter Try.func7, Try.ntmps7
  go_wp2_with fail
  refine (small01_any _).mono ?_
  rintro e w1 ⟨rfl, hb1⟩
  have hr1 := hr.below hb1
  go_wp2_with fail
  refine (Lent_any A n c _ l w1 hr1 hb1.size (by omega)).mono ?_
  rintro e w2 ⟨rfl, hin2, hb2⟩
  have hr2 := hr1.below (hb2.mono hb1.size)
  go_wp2_with fail
  refine (Pack_any s w2 hs).mono ?_
  rintro e w3 ⟨Ap, np, cp, rfl, hp3, hb3⟩
  have hin3 := hin2.below hb3 (Nat.le_refl _)
  have hr3 := hr2.below (hb3.mono (by have := hb1.size; have := hb2.size; omega))
  have hin3' := hin3.take (k := n) (by omega)
  rw [Nat.mul_one, bv_append, List.take_append_of_le_length (by have := hr.1; omega), List.take_of_length_le (by have := hr.1; omega)] at hin3'
  go_wp2_with fail
  refine (Unpack_any (some ⟨w1.heap.size, 0, none⟩) n (n + 1) w3.heap.size l k w3 hin3'.reads (Nat.le_refl _) (by omega) (by omega)).mono ?_
  unfold unpackR
  rintro e w4 ⟨rfl, hb4⟩
  have hp4 := hp3.below hb4 (Nat.le_refl _)
  have hin4 := hin3.below hb4 (Nat.le_refl _)
  have hr4 := hr3.below (hb4.mono (by have := hb1.size; have := hb2.size; have := hb3.size; omega))
  go_wp2_with fail
  refine (rPack_any s w4 hs).mono ?_
  rintro e w5 ⟨Aq, nq, cq, rfl, hq5, hb5⟩
  have hp5 := hp4.below hb5 (Nat.le_refl _)
  have hin5 := hin4.below hb5 (Nat.le_refl _)
  have hr5 := hr4.below (hb5.mono (by have := hb1.size; have := hb2.size; have := hb3.size; have := hb4.size; omega))
  have hB5 : w.heap.size ≤ w5.heap.size := by have := hb1.size; have := hb2.size; have := hb3.size; have := hb4.size; have := hb5.size; omega
  go_wp2_with fail
  refine (rUnpack_any A n c w.heap.size l k w5 hr5 hB5 hnc (by omega)).mono ?_
  unfold unpackR
  rintro e w6 ⟨rfl, hb6⟩
  have hp6 := hp5.below hb6 (Nat.le_refl _)
  have hq6 := hq5.below hb6 (Nat.le_refl _)
  have hin6 := hin5.below hb6 (Nat.le_refl _)
  have hr6 := hr5.below (hb6.mono hB5)
  have hcv1 := run_conv_bytes (P := Try.prog) Try.underlying27 Try.underlying5 Try.underlying9 (cap := cp) hp6.reads
  have hcv2 := run_conv_bytes (P := Try.prog) Try.underlying27 Try.underlying5 Try.underlying9 (cap := cq) hq6.reads
  have hown := owned_two (t := 27) hp6 (hin6.take (k := n) (by omega)) (fun a b ha hb => by
    have h1 := (hp6.lt a ha).1
    simp only [Option.some.injEq] at hb
    rw [← hb]
    have h2 := (hin2.lt _ rfl).2
    show a.block ≠ w1.heap.size
    simp only at h2
    omega)
  have hB6 : w1.heap.size ≤ w6.heap.size := by have := hb2.size; have := hb3.size; have := hb4.size; have := hb5.size; have := hb6.size; omega
  go_wp2_with fail
  refine (Kept_yes A n c _ _ w1.heap.size l w6 hin6.reads hr6 (by omega)).mono ?_
  rintro e w' ⟨rfl, rfl⟩
  go_wp2_with fail
  refine (Owned_any w6.heap.size 2 _ _ hown (by simp)).mono ?_
  rintro e w7 ⟨rfl, ho7⟩
  go_wp2_with fail
  go_ret
  refine ⟨rfl, ?_⟩
  have hb16 : Below w.heap.size w w6 := thenB hb1 (thenB hb2 (thenB hb3 (thenB hb4 (thenB hb5 hb6))))
  refine (hb16.alloc hb16.size _).trans (ho7.below ?_)
  rintro g ⟨x, hx, a, ha, _, he⟩
  have hs1 := hb1.size
  have hs2 := hb2.size
  simp only [List.mem_cons, List.not_mem_nil, or_false] at hx
  rcases hx with rfl | rfl
  · have := (hp6.lt a ha).1; omega
  · simp only [Option.some.injEq] at ha
    rw [he, ← ha]
    exact hs1
end Go.Proofs.Ytkmmmjbmooglfaa
