/- The law VaultPlays: contracts of both vaults beside one another. -/
import Derived.Test.YtogpnlfbdhddmaaGreatDoorHVauPlay1
namespace Go.Proofs.YtogpnlfbdhddmaaGreatDoor
open Go.RowKit

section
variable {w wr w' : World} {vb xb B U t now nv nr c : Nat} {m : List UInt8} {X : Nat → Prop} {A : Option Addr} {Y : List ByteArray}
theorem PW.tab (h : PW w vb xb B U m t X nv nr A c Y wr) (ht : Tab w) : Tab wr := ht.below h.2.2.2.2.2.2.2
theorem pvToken (h : PW w vb xb B U m t X now nr A c Y wr) (hv : VOk m t now) (ht : Tab w) (s : ByteArray) (hs : s.size ≤ maxLen) :
    Calls Tryz.prog 12 #[.pointer (some ⟨vb, 0, none⟩), .string s] wr fun e w' => e = vtR m t now s.data.toList ∧ ∃ X2, PW w vb xb B U m t X2 now nr A c Y w' :=
  (VToken_any vb t now X m s wr h.1 hv (h.tab ht) hs).mono fun _ _ ⟨he, hp⟩ => ⟨he, h.vau hp.1⟩
theorem pvBack (h : PW w vb xb B U m t X now nr A c Y wr) (hv : VOk m t now) (ht : Tab w) (s : ByteArray) (hs : s.size ≤ maxLen) :
    Calls Tryz.prog 21 #[.pointer (some ⟨vb, 0, none⟩), .string s] wr fun e w' => e = vbR m t now s.data.toList ∧ ∃ X2, PW w vb xb B U m t X2 now nr A c Y w' :=
  (VBack_any vb t now X m s wr h.1 hv (h.tab ht) hs).mono fun _ _ ⟨he, hp⟩ => ⟨he, h.vau hp.1⟩
theorem pvRenew (h : PW w vb xb B U m t X now nr A c Y wr) (hv : VOk m t now) (ht : Tab w) (s : ByteArray) (hs : s.size ≤ maxLen) :
    Calls Tryz.prog 24 #[.pointer (some ⟨vb, 0, none⟩), .string s] wr fun e w' => e = vnR m t now s.data.toList ∧ ∃ X2, PW w vb xb B U m t X2 now nr A c Y w' :=
  (VRenew_any vb t now X m s wr h.1 hv (h.tab ht) hs).mono fun _ _ ⟨he, hp⟩ => ⟨he, h.vau hp.1⟩
theorem pxToken (h : PW w vb xb B U m t X nv now A c Y wr) (hv : VOk m t now) (s : ByteArray) (hs : s.size ≤ maxLen) :
    Calls Tryz.prog 20 #[.pointer (some ⟨xb, 0, none⟩), .string s] wr fun e w' => e = vtR m t now s.data.toList ∧ PW w vb xb B U m t X nv now A c Y w' :=
  (rvToken_any xb B U m t now s wr h.2.1 hv hs).mono fun _ _ ⟨he, hp⟩ => ⟨he, h.new hp⟩
theorem pxBack (h : PW w vb xb B U m t X nv now A c Y wr) (hv : VOk m t now) (s : ByteArray) (hs : s.size ≤ maxLen) :
    Calls Tryz.prog 22 #[.pointer (some ⟨xb, 0, none⟩), .string s] wr fun e w' => e = vbR m t now s.data.toList ∧ PW w vb xb B U m t X nv now A c Y w' :=
  (rvBack_any xb B U m t now s wr h.2.1 hv hs).mono fun _ _ ⟨he, hp⟩ => ⟨he, h.new hp⟩
theorem pxRenew (h : PW w vb xb B U m t X nv now A c Y wr) (hv : VOk m t now) (s : ByteArray) (hs : s.size ≤ maxLen) :
    Calls Tryz.prog 25 #[.pointer (some ⟨xb, 0, none⟩), .string s] wr fun e w' => e = vnR m t now s.data.toList ∧ PW w vb xb B U m t X nv now A c Y w' :=
  (rvRenew_any xb B U m t now s wr h.2.1 hv hs).mono fun _ _ ⟨he, hp⟩ => ⟨he, h.new hp⟩
theorem pvRot_yes (h : PW w vb xb B U m t X now nr A c Y wr) (hn : now < 255) :
    Calls Tryz.prog 10 #[.pointer (some ⟨vb, 0, none⟩)] wr fun e w' => e = .returned (.tuple #[.int .i64 (now + 1 : Nat), .int .i64 0]) ∧ PW w vb xb B U m t X (now + 1) nr A c Y w' :=
  (Rotate_yes vb X m t now wr h.1 hn).mono fun _ _ ⟨he, hp, hg⟩ => ⟨he, h.rotV hp hg⟩
theorem pxRot_yes (h : PW w vb xb B U m t X nv now A c Y wr) (hn : now < 255) :
    Calls Tryz.prog 23 #[.pointer (some ⟨xb, 0, none⟩)] wr fun e w' => e = .returned (.tuple #[.int .i64 (now + 1 : Nat), .int .i64 0]) ∧ PW w vb xb B U m t X nv (now + 1) A c Y w' :=
  (rRotate_yes xb B U m t now wr h.2.1 hn).mono fun _ _ ⟨he, hp, hg⟩ => ⟨he, h.rotR hp hg⟩
theorem pvRot_no (h : PW w vb xb B U m t X now nr A c Y wr) (hn : now = 255) :
    Calls Tryz.prog 10 #[.pointer (some ⟨vb, 0, none⟩)] wr fun e w' => e = .returned (.tuple #[.int .i64 0, .int .i64 14]) ∧ wr = w' := Rotate_no vb X m t now wr h.1 hn
theorem pxRot_no (h : PW w vb xb B U m t X nv now A c Y wr) (hn : now = 255) :
    Calls Tryz.prog 23 #[.pointer (some ⟨xb, 0, none⟩)] wr fun e w' => e = .returned (.tuple #[.int .i64 0, .int .i64 14]) ∧ wr = w' := rRotate_no xb B U m t now wr h.2.1 hn
theorem PW.verQ (h : PW w vb xb B U m t X now nr A c Y wr) (n : Nat) :
    Calls Tryz.prog 11 #[.pointer (some ⟨vb, 0, none⟩)] (wr.drewN n) fun e w' => e = .returned (.int .i64 now) ∧ w' = wr.drewN n :=
  (Version_any vb X m t now _ (h.1.new (below_drewN (Below.refl _ _) n))).mono fun _ _ ⟨he, hw⟩ => ⟨he, hw.symm⟩
theorem PW.cellV (h : PW w vb xb B U m t X nv now A c Y wr) : wr.cell? ⟨xb, 2, none⟩ = some (.int .i64 now) := by
  obtain ⟨_, _, _, MA, mc, h4, _, _⟩ := h.2.1
  exact h4.cell 2
theorem vtR_ex (m : List UInt8) (t now : Nat) (l : List UInt8) (h1 : 1 ≤ now) (h2 : now ≤ 255) : ∃ (xs : ByteArray) (er : Int), vtR m t now l = .returned (.tuple #[.string xs, .int .i64 er]) ∧ (er = 0 → xs.size ≤ 30) := by
  refine ⟨_, _, rfl, fun he => ?_⟩
  rw [len_arr]
  cases hp : panB l with
  | true => exact tok_len hp h1 h2
  | false => rw [vtE_no hp] at he; cases he
theorem vbR_ex (m : List UInt8) (t now : Nat) (l : List UInt8) : ∃ (xs : ByteArray) (er : Int), vbR m t now l = .returned (.tuple #[.string xs, .int .i64 er]) := ⟨_, _, rfl⟩
theorem vnR_ex (m : List UInt8) (t now : Nat) (l : List UInt8) : ∃ (xs : ByteArray) (er : Int), vnR m t now l = .returned (.tuple #[.string xs, .int .i64 er]) := ⟨_, _, rfl⟩
end
theorem vp_and {a : Int} {m : Nat} (hm : m < 4294967296) : ∃ q : Nat, q ≤ m ∧ bits .and .i64 a (m : Int) = (q : Int) := by
  have h1 : (BitVec.ofInt 64 (m : Int)).toNat = m := by rw [BitVec.ofInt_natCast, BitVec.toNat_ofNat]; exact Nat.mod_eq_of_lt (by omega)
  have h2 : (BitVec.ofInt 64 a &&& BitVec.ofInt 64 (m : Int)).toNat ≤ m := by rw [BitVec.toNat_and, h1]; exact Nat.and_le_right
  refine ⟨(BitVec.ofInt 64 a &&& BitVec.ofInt 64 (m : Int)).toNat, h2, ?_⟩
  show IntKind.i64.wrap ((BitVec.ofInt 64 a &&& BitVec.ofInt 64 (m : Int)).toNat : Int) = _
  exact IntWalk.i64_in _ (by omega)
/-- The made token that an act names. -/
theorem made_at {w : World} {U c : Nat} {A : Option Addr} {Y : List ByteArray} (hrow : Row w U 1 A Y.length c (Y.map Value.string)) (hl : 0 < Y.length) (hY : Y.length ≤ 40) (hys : ∀ y ∈ Y, y.size ≤ 30) (nm : Int) :
    ∃ (yb yo i : Nat) (x : ByteArray), A = some ⟨yb, yo, none⟩ ∧ i < Y.length ∧ wrap64 ((Y.length : Int) - 1 - (bits .and .i64 nm 1023).tmod (Y.length : Int)) = (i : Int) ∧ w.cell? ⟨yb, yo + i, none⟩ = some (.string x) ∧ x.size ≤ 30 := by
  obtain ⟨q, hq, he⟩ := vp_and (a := nm) (m := 1023) (by decide)
  obtain ⟨_, hrd⟩ := hrow.reads
  obtain ⟨yb, yo, e, _, hc⟩ := hrd hl
  have hr : q % Y.length < Y.length := Nat.mod_lt _ hl
  have hi : Y.length - 1 - q % Y.length < Y.length := by omega
  refine ⟨yb, yo, Y.length - 1 - q % Y.length, Y[Y.length - 1 - q % Y.length], e, hi, ?_, hc _ _ (by rw [List.getElem?_map, List.getElem?_eq_getElem hi]; rfl), hys _ (List.getElem_mem _)⟩
  rw [show ((1023 : Int)) = ((1023 : Nat) : Int) from rfl, he, Int.tmod_eq_emod_of_nonneg (by omega), ← Int.natCast_emod]
  unfold wrap64
  omega
end Go.Proofs.YtogpnlfbdhddmaaGreatDoor
