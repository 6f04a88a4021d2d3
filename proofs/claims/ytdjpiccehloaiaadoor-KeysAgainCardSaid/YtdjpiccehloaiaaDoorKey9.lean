/- THE WALK of the law KeysAgain. -/
import Derived.Test.YtdjpiccehloaiaaDoorKey8
namespace Go.Proofs.YtdjpiccehloaiaaDoor
open Go.RowKit

def keyL (m : List UInt8) (t p v : Int) : List UInt8 := if keyOk t p v then keyB m t.toNat p v.toNat else []
def keyE (t p v : Int) : Int := if keyOk t p v then 0 else 1
/-- What Key answers, whatever it is asked. -/
def KeyAny (rb : Nat) (X : Nat → Prop) (m : List UInt8) (t p v : Int) (w : World) (e : Ending) (w' : World) : Prop :=
  ∃ (X2 : Nat → Prop) (A : Option Addr) (c : Nat), e = .returned (.tuple #[.slice A (keyL m t p v).length c, .int .i64 (keyE t p v)]) ∧ (∀ k, X2 k → X k ∨ w.heap.size ≤ k) ∧ RingAt w' rb X2 m ∧ Grew (· = rb) w w' ∧
    Row w' w.heap.size 1 A (keyL m t p v).length c (bv (keyL m t p v))
theorem Key_any (rb : Nat) (X : Nat → Prop) (m : List UInt8) (t p v : Int) (w : World) (h : RingAt w rb X m) (hm : m.length ≤ 64) (htab : Tab w) :
    Calls Tryd.prog 15 #[.pointer (some ⟨rb, 0, none⟩), .int .i64 t, .int .i64 p, .int .i64 v] w (KeyAny rb X m t p v w) := by
  cases hk : keyOk t p v with
  | false =>
    refine (Key_no rb X m t p v w h hk).mono ?_
    rintro e w' ⟨X2, h1, h2, h3, ⟨_, rfl⟩ | ⟨h0, _⟩⟩
    · have hl : keyL m t p v = [] := by simp [keyL, hk]
      have he : keyE t p v = 1 := by simp [keyE, hk]
      refine ⟨X2, none, 0, ?_, h1, h2, h3, ?_⟩
      · rw [hl, he]; rfl
      · rw [hl]; exact Row.nil_ _ _ _
    · rw [hk] at h0; cases h0
  | true =>
    have hh := keyOk_iff.1 hk
    obtain ⟨t', rfl⟩ : ∃ t' : Nat, t = t' := ⟨t.toNat, by omega⟩
    obtain ⟨v', rfl⟩ : ∃ v' : Nat, v = v' := ⟨v.toNat, by omega⟩
    refine (Key_yes rb X m t' p v' w h hm hk htab).mono ?_
    rintro e w' ⟨X2, h1, h2, h3, ⟨h0, _⟩ | ⟨_, A, c, rfl, hr, _⟩⟩
    · rw [hk] at h0; cases h0
    · have hl : keyL m t' p v' = keyB m (t' : Int).toNat p (v' : Int).toNat := by simp [keyL, hk]
      have he : keyE t' p v' = 0 := by simp [keyE, hk]
      have hn : (keyL m t' p v').length = 32 := by rw [hl]; exact length_keyB _ _ _ _
      refine ⟨X2, A, c, ?_, h1, h2, h3, ?_⟩
      · rw [hn, he]
      · rw [hn, hl]; exact hr

set_option maxRecDepth 100000 in
set_option maxHeartbeats 4000000 in
theorem KeysAgain_no (A : Option Addr) (n c : Nat) (t p v : Int) (A2 : Option Addr) (n2 c2 : Nat) (w : World) (hno : n < 16 ∨ 64 < n) (ht : Tab w) :
    Calls Tryd.prog 5 #[.slice A n c, .int .i64 t, .int .i64 p, .int .i64 v, .slice A2 n2 c2] w fun e w' => e = .returned (.bool true) ∧ Below w.heap.size w w' := by
  have HNO := Lib.hid (fun A c w => New_no A n c w hno)
  clear hno
  go_enter Tryd.func5, Tryd.ntmps5
  go_wp2_with fail
  refine (small13_any _ ht).mono ?_
  rintro e w1 ⟨rfl, hb1⟩
  go_wp2_with fail
  refine (HNO.out _ _ _).mono ?_
  rintro e w3 ⟨rfl, rfl⟩
  go_wp2_with fail
  refine (HNO.out _ _ _).mono ?_
  rintro e w3 ⟨rfl, rfl⟩
  go_wp2_with fail
  go_ret
  exact ⟨rfl, hb1⟩

/-- Some keys were asked of the first ring. -/
def AgainRel (w : World) (N rb sb : Nat) (m : List UInt8) (n : Nat) (i : Value) (wr : World) : Prop :=
  ∃ (X : Nat → Prop) (k : Nat), i = .int .i64 k ∧ k ≤ 6 ∧ k ≤ n ∧ RingAt wr rb X m ∧ RingAt wr sb (fun j => N ≤ j) m ∧ Below w.heap.size w wr
theorem again_next {w wr w5 : World} {N rb sb : Nat} {m : List UInt8} {n k : Nat} {X : Nat → Prop} (hk : k < 6) (hn : k < n) (h1 : RingAt w5 rb X m) (h2 : RingAt wr sb (fun j => N ≤ j) m) (hb : Below w.heap.size w wr) (hg : Grew (· = rb) wr w5) (hr : w.heap.size ≤ rb) (hrN : rb < N) (hsN : N ≤ sb) :
    AgainRel w N rb sb m n (.int .i64 (k + 1)) w5 :=
  ⟨X, k + 1, by congr 1, by omega, by omega, h1, h2.grew hg (by omega) (fun j hj e => by omega), hb.trans (hg.below (B := w.heap.size) hb.size fun j _ hj => by omega)⟩

set_option maxRecDepth 100000 in
set_option maxHeartbeats 8000000 in
theorem KeysAgain_yes (A : Option Addr) (n c : Nat) (m : List UInt8) (t p v : Int) (A2 : Option Addr) (n2 c2 : Nat) (zs : List Int) (w : World) (hr : Reads w w.heap.size 1 A n (bv m)) (hn1 : 16 ≤ n) (hn2 : n ≤ 64)
    (ha : Reads w w.heap.size 1 A2 n2 (zs.map (Value.int .i64))) (ht : Tab w) :
    Calls Tryd.prog 5 #[.slice A n c, .int .i64 t, .int .i64 p, .int .i64 v, .slice A2 n2 c2] w fun e w' => e = .returned (.bool true) ∧ Below w.heap.size w w' := by
  have HL := Lib.hid (show m.length ≤ 64 by have := hr.1; rw [length_bv] at this; omega)
  have HR := Lib.hid hr
  have HA := Lib.hid ha
  obtain ⟨kl, hkl⟩ : ∃ kl, kl = keyL m t p v := ⟨_, rfl⟩
  obtain ⟨ke, hke⟩ : ∃ ke, ke = keyE t p v := ⟨_, rfl⟩
  have HKA := Lib.hid (fun rb X w h htab => Key_any rb X m t p v w h HL.out htab)
  unfold KeyAny at HKA
  rw [← hkl, ← hke] at HKA
  clear hr ha hkl hke
  go_enter Tryd.func5, Tryd.ntmps5
  go_wp2_with fail
  refine (small13_any _ ht).mono ?_
  rintro e w1 ⟨rfl, hb1⟩
  go_wp2_with fail
  refine (New_ring m A n c _ w1 (HR.out.below hb1) hb1.size hn1 hn2).mono ?_
  rintro e w3 ⟨rb, rfl, hrb, hring, hb3⟩
  have HRING := Lib.hid hring
  have HB3 := Lib.hid (thenB hb1 hb3)
  have hl3 := hring.lt
  have hs1 := hb1.size
  clear hring hb3
  go_wp2_with fail
  refine (New_ring m A n c _ w3 (HR.out.below HB3.out) HB3.out.size hn1 hn2).mono ?_
  rintro e w4 ⟨sb, rfl, hsb, hring2, hb4⟩
  have HS4 := Lib.hid (show AgainRel w w3.heap.size rb sb m n2 (.int .i64 0) w4 from ⟨_, 0, rfl, by omega, by omega, HRING.out.new hb4, hring2, thenB HB3.out hb4⟩)
  clear hring2 hb4 HRING
  go_wp2_with fail
  go_loopw [16] (fun i wr => AgainRel w w3.heap.size rb sb m n2 i wr) (fun i _ => 6 - (intOf i).toNat)
  case atStart => exact HS4.out
  case round =>
    clear HS4
    obtain ⟨X, k, rfl, hk6, hkn, hx, hy, hbr⟩ := hrel
    have HX := Lib.hid hx
    have HY := Lib.hid hy
    have HBR := Lib.hid hbr
    have hsr := hbr.size
    clear hx hy hbr
    by_cases hgo : k < n2 ∧ k < 6
    · obtain ⟨hg1, hg2⟩ := hgo
      obtain ⟨b, o, rfl, hbl, hc⟩ := (HA.out.below HBR.out).2 (by omega)
      have hzl : k < zs.length := by have := HA.out.1; simp at this; omega
      have hcell := hc k (.int .i64 zs[k]) (by simp [hzl])
      generalize zs[k] = z at hcell
      have hki : (k : Int) < n2 := by omega
      clear hc
      go_wp2_with fail
      refine (Key_any rb X m _ _ _ wr HX.out HL.out (ht.below HBR.out)).mono ?_
      rintro e w5 ⟨X2, A5, c5, rfl, _, hr5, hg5, _⟩
      have HN := Lib.hid (again_next (n := n2) hg2 hg1 hr5 HY.out HBR.out hg5 (by omega) hl3 hsb)
      clear hr5 hg5
      go_wp2_with fail
      go_roundw
      case rel => exact HN.out
      case measure => simp [intOf]; omega
    · obtain hs | ⟨hs, rfl⟩ : ¬ (k : Int) < n2 ∨ ((k : Int) < n2 ∧ k = 6) := by omega
      all_goals
        go_wp2_with fail
        refine (HKA.out rb X wr HX.out (ht.below HBR.out)).mono ?_
        rintro e w5 ⟨X2, A5, c5, rfl, _, _, hg5, hrow5⟩
        have HY5 := Lib.hid (HY.out.grew hg5 (by omega) (fun j hj e => by omega))
        have HB5 := Lib.hid (HBR.out.trans (hg5.below (B := w.heap.size) hsr fun j _ hj => by omega))
        have HW5 := Lib.hid hrow5
        have hs5 := hg5.size
        have hlsr := HY.out.lt
        clear hg5 hrow5
        go_wp2_with fail
        refine (HKA.out sb _ w5 HY5.out (ht.below HB5.out)).mono ?_
        rintro e w6 ⟨X3, A6, c6, rfl, _, _, hg6, hrow6⟩
        have HB6 := Lib.hid (HB5.out.trans (hg6.below (B := w.heap.size) HB5.out.size fun j _ hj => by omega))
        have hcv1 := fold_conv (c := c5) (HW5.out.grew hg6 (fun ad e h => by have := (HW5.out.lt ad e).1; omega)).reads
        have hcv2 := fold_conv (c := c6) hrow6.reads
        clear hg6 hrow6
        go_wp2_with fail
        go_ret
        exact ⟨by simp, HB6.out⟩
theorem KeysAgain_walk (A : Option Addr) (n c : Nat) (m : List UInt8) (t p v : Int) (A2 : Option Addr) (n2 c2 : Nat) (zs : List Int) (w : World) (hr : Reads w w.heap.size 1 A n (bv m)) (_hc : n ≤ c ∧ c ≤ 140737488351232) (_h1 : (Lit.int .i64 t).wf = true) (_h2 : (Lit.int .i64 p).wf = true) (_h3 : (Lit.int .i64 v).wf = true)
    (ha : Reads w w.heap.size 1 A2 n2 (zs.map (Value.int .i64))) (_hc2 : n2 ≤ c2 ∧ c2 ≤ 140737488351232) (ht : Tab w) :
    Calls Tryd.prog 5 #[.slice A n c, .int .i64 t, .int .i64 p, .int .i64 v, .slice A2 n2 c2] w fun e w' => e = .returned (.bool true) ∧ Below w.heap.size w w' := by
  by_cases hn : 16 ≤ n ∧ n ≤ 64
  · exact KeysAgain_yes A n c m t p v A2 n2 c2 zs w hr hn.1 hn.2 ha ht
  · exact KeysAgain_no A n c t p v A2 n2 c2 w (by omega) ht
end Go.Proofs.YtdjpiccehloaiaaDoor
