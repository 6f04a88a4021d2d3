/- THE WALK of the law FfxAgain. -/
import Derived.Test.YtiijjpjkfiookaaDoorFfxBack
import Derived.Test.YtiijjpjkfiookaaDoorStrs
namespace Go.Proofs.YtiijjpjkfiookaaDoor
open Go.RowKit

/-- Behind j texts. -/
def AgRel (w2 : World) (cb : Nat) (X : Nat → Prop) (key tw : List UInt8) (N : Nat) (i : Value) (gg : Nat) (wr : World) : Prop :=
  ∃ j : Nat, j ≤ N ∧ j ≤ 6 ∧ gg = 6 - j ∧ i = .int .i64 j ∧ CipOut cb X key tw w2 wr
set_option maxRecDepth 100000 in
set_option maxHeartbeats 8000000 in
theorem FfxAgain_no (A : Option Addr) (n c : Nat) (key : List UInt8) (T : Option Addr) (m d : Nat) (tw : List UInt8) (R : Option Addr) (p q : Nat) (s : ByteArray) (w : World) (hrk : Reads w w.heap.size 1 A n (bv key)) (hrt : Reads w w.heap.size 1 T m (bv tw)) (hd : m ≤ 140737488355328) (hbad : ¬ cipE key tw = 0) :
    Calls Tryd.prog 10 #[.slice A n c, .slice T m d, .slice R p q, .string s] w fun e w' => e = .returned (.bool true) ∧ Below w.heap.size w w' := by
  have HNW := Lib.hid (fun w1 (hb : Below w.heap.size w w1) => New_cip key tw A n c T m d w.heap.size w1 (hrk.below hb) (hrt.below hb) hb.size hd)
  have HBAD := Lib.hid hbad
  obtain ⟨er, her⟩ : ∃ er, er = cipE key tw := ⟨_, rfl⟩
  have he0 : ¬ er = 0 := by rw [her]; exact hbad
  have HER := Lib.hid her
  clear hrk hrt hbad her
  go_enter Tryd.func10, Tryd.ntmps10
  go_wp2_with fail
  refine (small10_any _).mono ?_
  rintro e w1 ⟨rfl, hb1⟩
  have HB1 := Lib.hid hb1
  have HN2 := Lib.hid (HNW.out w1 hb1)
  clear hb1
  go_wp2_with fail
  refine HN2.out.mono ?_
  rintro e w2 ⟨hb2, ⟨_, rfl⟩ | ⟨h0, _⟩⟩
  rotate_left
  · exact absurd h0 HBAD.out
  have HB2 := Lib.hid (thenB HB1.out hb2)
  clear hb2
  rw [← HER.out]
  go_wp2_with fail
  go_ret
  exact ⟨rfl, HB2.out⟩
set_option maxRecDepth 100000 in
set_option maxHeartbeats 8000000 in
theorem FfxAgain_yes (A : Option Addr) (n c : Nat) (key : List UInt8) (T : Option Addr) (m d : Nat) (tw : List UInt8) (R : Option Addr) (q : Nat) (L : List ByteArray) (s : ByteArray) (w : World) (hrk : Reads w w.heap.size 1 A n (bv key)) (hrt : Reads w w.heap.size 1 T m (bv tw)) (hd : m ≤ 140737488355328) (hok : cipE key tw = 0) (hs : s.size ≤ maxLen)
    (hR : Strs w (· < w.heap.size) R L) (hq : L.length ≤ 140737488355328) (hL : ∀ s ∈ L, s.size ≤ maxLen) :
    Calls Tryd.prog 10 #[.slice A n c, .slice T m d, .slice R L.length q, .string s] w fun e w' => e = .returned (.bool true) ∧ Below w.heap.size w w' := by
  have HNW := Lib.hid (fun w1 (hb : Below w.heap.size w w1) => New_cip key tw A n c T m d w.heap.size w1 (hrk.below hb) (hrt.below hb) hb.size hd)
  obtain ⟨hk, h16⟩ := cipE_zero hok
  have HOK := Lib.hid hok
  have HENC := Lib.hid (fun cb X s w h hs => FEncrypt_any cb X key tw s w h hk h16 hs)
  have HDEC := Lib.hid (fun cb X s w h hs => FDecrypt_any cb X key tw s w h hk h16 hs)
  have HS := Lib.hid hs
  have HR := Lib.hid hR
  have HL := Lib.hid hL
  obtain ⟨xs, hxs⟩ : ∃ xs : ByteArray, xs = ⟨(encR key tw s.data.toList).toArray⟩ := ⟨_, rfl⟩
  obtain ⟨fs, hfs⟩ : ∃ fs, fs = nmE s.data.toList := ⟨_, rfl⟩
  have HXS := Lib.hid hxs
  have HFS := Lib.hid hfs
  have hbx : (xs.toList == xs.toList) = true := by simp
  clear hrk hrt hok hk h16 hs hR hL hxs hfs
  go_enter Tryd.func10, Tryd.ntmps10
  go_wp2_with fail
  refine (small10_any _).mono ?_
  rintro e w1 ⟨rfl, hb1⟩
  have HB1 := Lib.hid hb1
  have HN2 := Lib.hid (HNW.out w1 hb1)
  clear hb1
  go_wp2_with fail
  refine HN2.out.mono ?_
  rintro e w2 ⟨hb2, ⟨hno, _⟩ | ⟨_, cb, rfl, hcb, hcip⟩⟩
  · exact absurd HOK.out hno
  have HB2 := Lib.hid (thenB HB1.out hb2)
  have hs1 := HB1.out.size
  have hs2 := HB2.out.size
  have HC3 := Lib.hid (HENC.out cb _ s w2 hcip HS.out)
  clear hb2 hcip
  go_wp2_with fail
  refine HC3.out.mono ?_
  rintro e w3 ⟨rfl, hco⟩
  rw [← HXS.out, ← HFS.out]
  have HST : Hid (AgRel w2 cb (fun k => w1.heap.size ≤ k) key tw L.length (.int .i64 0) 6 w3) := Lib.hid ⟨0, by omega, by omega, rfl, rfl, hco⟩
  clear hco
  go_wp2_with fail
  go_loopg [14] 6 (fun gg i wx => AgRel w2 cb (fun k => w1.heap.size ≤ k) key tw L.length i gg wx)
  case atStart => exact HST.out
  case round =>
    clear HST
    obtain ⟨j, hjl, hj6, hgg, rfl, hco⟩ := hrel
    have HGG := Lib.hid hgg
    clear hgg
    obtain ⟨X4, hc4, hnx⟩ := hco.next
    have HNX := Lib.hid hnx
    by_cases hlt : j < L.length ∧ j < 6
    · obtain ⟨h1, h2⟩ := hlt
      obtain ⟨b, o, rfl, hbw, hcell⟩ := HR.out (by omega)
      have hg3 : Grew (fun k => w1.heap.size ≤ k) w2 wr := by obtain ⟨_, _, _, h⟩ := hco; exact h
      have c1 : wr.cell? ⟨b, o + j, none⟩ = some (.string L[j]) := (hg3.cell (a := ⟨b, o + j, none⟩) (by show b < w2.heap.size; omega) (by show ¬ w1.heap.size ≤ b; omega)).trans ((HB2.out.cell (p := ⟨b, o + j, none⟩) hbw).trans (hcell j h1))
      have HE := Lib.hid (HENC.out cb X4 L[j] wr hc4 (HL.out _ (List.getElem_mem h1)))
      have HLJ := Lib.hid (HL.out _ (List.getElem_mem h1))
      have h1' : (j : Int) < (L.length : Int) := by omega
      have h2' : (j : Int) < 6 := by omega
      have HCELL := Lib.hid (show ∀ wz, CipOut cb (fun k => w1.heap.size ≤ k) key tw w2 wz → wz.cell? ⟨b, o + j, none⟩ = some (.string L[j]) from fun wz hz => by
        obtain ⟨_, _, _, hg⟩ := hz
        exact (hg.cell (a := ⟨b, o + j, none⟩) (by show b < w2.heap.size; omega) (by show ¬ w1.heap.size ≤ b; omega)).trans ((HB2.out.cell (p := ⟨b, o + j, none⟩) hbw).trans (hcell j h1)))
      clear hcell hg3 hc4 hnx hco
      obtain ⟨lj, hlj⟩ : ∃ lj, lj = L[j] := ⟨_, rfl⟩
      rw [← hlj] at c1 HE HLJ HCELL
      clear hlj
      go_wp2_with fail
      refine HE.out.mono ?_
      rintro e w5 ⟨rfl, hco5⟩
      have hac := HNX.out w5 hco5
      have c2 := HCELL.out w5 hac
      obtain ⟨X5, hc5, hnx5⟩ := hac.next
      have HNX5 := Lib.hid hnx5
      have HD := Lib.hid (HDEC.out cb X5 lj w5 hc5 HLJ.out)
      clear hco5 hac hc5 hnx5
      generalize encR key tw lj.data.toList = z1
      generalize nmE lj.data.toList = z2 at HD ⊢
      go_wp2_with fail
      refine HD.out.mono ?_
      rintro e w6 ⟨rfl, hco6⟩
      have HNE : Hid (AgRel w2 cb (fun k => w1.heap.size ≤ k) key tw L.length (.int .i64 ((j : Int) + 1)) (5 - j) w6) := Lib.hid ⟨j + 1, by omega, by omega, by omega, by go_num, HNX5.out w6 hco6⟩
      clear hco6
      go_wp2_with fail
      go_roundg (5 - j)
      case measure => have := HGG.out; omega
      case rel => exact HNE.out
    · have HE := Lib.hid (HENC.out cb X4 s wr hc4 HS.out)
      have hor : ¬ j < L.length ∨ ¬ j < 6 := by omega
      clear hc4 hnx hco hlt
      rcases hor with h1 | h1
      · have h1' : ¬ (j : Int) < (L.length : Int) := by omega
        go_wp2_with fail
        refine HE.out.mono ?_
        rintro e w5 ⟨rfl, hco5⟩
        obtain ⟨_, _, _, hg⟩ := HNX.out w5 hco5
        have HBF := Lib.hid (HB2.out.trans (hg.below (B := w.heap.size) (by omega) (fun k _ hx => by have h9 : w1.heap.size ≤ k := hx; omega)))
        rw [← HXS.out, ← HFS.out]
        clear hco5 hg
        go_wp2_with fail
        go_ret
        exact ⟨by simp, HBF.out⟩
      · have h1' : ¬ (j : Int) < 6 := by omega
        go_wp2_with fail
        all_goals
          refine HE.out.mono ?_
          rintro e w5 ⟨rfl, hco5⟩
          obtain ⟨_, _, _, hg⟩ := HNX.out w5 hco5
          have HBF := Lib.hid (HB2.out.trans (hg.below (B := w.heap.size) (by omega) (fun k _ hx => by have h9 : w1.heap.size ≤ k := hx; omega)))
          rw [← HXS.out, ← HFS.out]
          clear hco5 hg
          go_wp2_with fail
          go_ret
          exact ⟨by simp, HBF.out⟩
theorem FfxAgain_walk (A : Option Addr) (n c : Nat) (key : List UInt8) (T : Option Addr) (m d : Nat) (tw : List UInt8) (R : Option Addr) (p q : Nat) (L : List ByteArray) (s : ByteArray) (w : World) (hrk : Reads w w.heap.size 1 A n (bv key)) (_hc : n ≤ c ∧ c ≤ 140737488351232) (hrt : Reads w w.heap.size 1 T m (bv tw)) (hd : m ≤ d ∧ d ≤ 140737488351232)
    (hl : L.length = p) (hR : Strs w (· < w.heap.size) R L) (hq : p ≤ q ∧ q ≤ 140737488351232 ∧ ∀ s ∈ L, s.size ≤ 140737488351232) (hs : s.size ≤ maxLen) :
    Calls Tryd.prog 10 #[.slice A n c, .slice T m d, .slice R p q, .string s] w fun e w' => e = .returned (.bool true) ∧ Below w.heap.size w w' := by
  subst hl
  by_cases h : cipE key tw = 0
  · exact FfxAgain_yes A n c key T m d tw R q L s w hrk hrt (by omega) h hs hR (by omega) (fun s hs => by have := hq.2.2 s hs; unfold maxLen; omega)
  · exact FfxAgain_no A n c key T m d tw R L.length q s w hrk hrt (by omega) h
end Go.Proofs.YtiijjpjkfiookaaDoor
