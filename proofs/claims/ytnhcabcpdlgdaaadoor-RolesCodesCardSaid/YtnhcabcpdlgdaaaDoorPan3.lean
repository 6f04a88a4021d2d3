/- THE WALKS of pan: splitting tokens, masks. -/
import Derived.Test.YtnhcabcpdlgdaaaDoorPan2
namespace Go.Proofs.YtnhcabcpdlgdaaaDoor
open Go.RowKit

/-! ### cutting at the first dot -/
theorem index_dot : ∀ (l : List UInt8), (Lib.indexByte l 46 = -1 ∧ beforeDot l = l ∧ afterDot l = []) ∨
    (∃ i : Nat, i < l.length ∧ Lib.indexByte l 46 = i ∧ beforeDot l = l.take i ∧ afterDot l = l.drop (i + 1))
  | [] => .inl ⟨rfl, rfl, rfl⟩
  | c :: l => by
    by_cases hc : c = 46
    · subst hc
      exact .inr ⟨0, by simp, rfl, rfl, rfl⟩
    · have hb : (c == 46) = false := by simpa using hc
      have hn : (c != 46) = true := by simpa using hc
      have e1 : beforeDot (c :: l) = c :: beforeDot l := by simp only [beforeDot]; rw [List.takeWhile_cons_of_pos (p := fun c => c != 46) hn]
      have e2 : afterDot (c :: l) = afterDot l := by simp only [afterDot]; rw [List.dropWhile_cons_of_pos (p := fun c => c != 46) hn]
      have e3 : Lib.indexByte (c :: l) 46 = if Lib.indexByte l 46 == -1 then -1 else Lib.indexByte l 46 + 1 := by
        show (if c == 46 then (0 : Int) else if Lib.indexByte l 46 == -1 then -1 else Lib.indexByte l 46 + 1) = _
        rw [hb]; rfl
      rcases index_dot l with ⟨h1, h2, h3⟩ | ⟨i, h0, h1, h2, h3⟩
      · exact .inl ⟨by rw [e3, h1]; rfl, by rw [e1, h2], by rw [e2, h3]⟩
      · refine .inr ⟨i + 1, by simp; omega, ?_, by rw [e1, h2]; rfl, by rw [e2, h3]; rfl⟩
        rw [e3, h1, if_neg (by simp)]; rfl

/-- What strings.Cut answers at a dot, but for whether there is one. -/
def CutOut (l : List UInt8) (w : World) (e : Ending) (w' : World) : Prop := ∃ q : Bool, e = .returned (.tuple #[.string ⟨(beforeDot l).toArray⟩, .string ⟨(afterDot l).toArray⟩, .bool q]) ∧ Below w.heap.size w w'
set_option maxHeartbeats 1000000 in
theorem liteCut_any (s : ByteArray) (w : World) (hs : s.size ≤ maxLen) : Calls Tryd.prog 63 #[.string s, .string ⟨#[46]⟩] w (CutOut s.data.toList w) := by
  have hix := Tryd.stringslite_Index_one s 46 w
  rcases index_dot s.data.toList with ⟨h1, h2, h3⟩ | ⟨i, h0, h1, h2, h3⟩
  · rw [h1] at hix
    have HIX := Lib.hid hix
    have H2 := Lib.hid h2
    have H3 := Lib.hid h3
    clear hix h1 h2 h3
    go_enter Tryd.func63, Tryd.ntmps63
    go_wp2_with fail
    refine HIX.out.mono ?_
    rintro e w1 ⟨rfl, rfl⟩
    go_wp2_with fail
    refine bodyPost_ret (v := .tuple #[.string s, .string ⟨#[]⟩, .bool false]) (by simp [results, Tryd.results63, go_sem]) rfl ⟨false, ?_, Below.refl _ _⟩
    rw [H2.out, H3.out, ← str_is]
  · rw [h1] at hix
    rw [size_toList] at h0
    have HIX := Lib.hid hix
    have H2 := Lib.hid (sub_str s 0 i (beforeDot s.data.toList) (by rw [h2]; rfl))
    have H3 := Lib.hid (sub_str s (i + 1) s.size (afterDot s.data.toList) (by rw [h3, List.take_of_length_le (by simp)]))
    have hl1 : (⟨#[46]⟩ : ByteArray).size = 1 := rfl
    clear hix h1 h2 h3
    unfold maxLen at hs
    go_enter Tryd.func63, Tryd.ntmps63
    go_wp2_with fail
    refine HIX.out.mono ?_
    rintro e w1 ⟨rfl, rfl⟩
    go_wp2_with fail
    go_region
    go_wp2_with fail
    refine bodyPost_ret (v := .tuple #[.string (s.extract 0 i), .string (s.extract (i + 1) s.size), .bool true]) (by simp [results, Tryd.results63, go_sem]) rfl ⟨true, ?_, (Below.refl _ _).drew⟩
    rw [H2.out, H3.out]
theorem sCut_any (s : ByteArray) (w : World) (hs : s.size ≤ maxLen) : Calls Tryd.prog 48 #[.string s, .string ⟨#[46]⟩] w (CutOut s.data.toList w) := by
  have HC := Lib.hid (liteCut_any s w hs)
  generalize s.data.toList = l at HC
  go_enter Tryd.func48, Tryd.ntmps48
  go_wp2_with fail
  refine HC.out.mono ?_
  rintro e w1 ⟨q, rfl, hb1⟩
  generalize ha : (⟨(beforeDot l).toArray⟩ : ByteArray) = a
  generalize hb : (⟨(afterDot l).toArray⟩ : ByteArray) = b
  have HA := Lib.hid ha
  have HB := Lib.hid hb
  clear ha hb
  go_wp2_with fail
  refine bodyPost_ret (v := .tuple #[.string a, .string b, .bool q]) (by simp [results, Tryd.results48, go_sem]) rfl ⟨q, ?_, hb1⟩
  rw [HA.out, HB.out]

/-! ### Split -/
def splR (l : List UInt8) : Ending := .returned (.tuple #[.string ⟨(splS l).toArray⟩, .int .i64 (splV l), .int .i64 (splE l)])
theorem splR_no {l : List UInt8} (h : splitOk l = false) : splR l = .returned (.tuple #[.string ⟨#[]⟩, .int .i64 0, .int .i64 11]) := by
  obtain ⟨h1, h2, h3⟩ := spl_no h
  unfold splR; rw [h1, h2, h3]
theorem splR_yes {l : List UInt8} (h : splitOk l = true) : splR l = .returned (.tuple #[.string ⟨(beforeDot l).toArray⟩, .int .i64 (numV (afterDot l)), .int .i64 0]) := by
  obtain ⟨h1, h2, h3⟩ := spl_yes h
  unfold splR; rw [h1, h2, h3]
theorem dots_le (l : List UInt8) : (beforeDot l).length ≤ l.length ∧ (afterDot l).length ≤ l.length := by
  constructor
  · exact (List.takeWhile_sublist _).length_le
  · unfold afterDot; rw [List.length_drop]; have := (List.dropWhile_sublist (l := l) (fun c => c != 46)).length_le; omega

set_option maxHeartbeats 2000000 in
theorem Split_any (s : ByteArray) (w : World) (hs : s.size ≤ maxLen) (ht : Tab w) : Calls Tryd.prog 23 #[.string s] w fun e w' => e = splR s.data.toList ∧ Below w.heap.size w w' := by
  obtain ⟨hl1, hl2⟩ := dots_le s.data.toList
  rw [size_toList] at hl1 hl2
  have HC := Lib.hid (sCut_any s w hs)
  unfold CutOut at HC
  obtain ⟨x, hx⟩ : ∃ x : ByteArray, x = ⟨(beforeDot s.data.toList).toArray⟩ := ⟨_, rfl⟩
  obtain ⟨y, hy⟩ : ∃ y : ByteArray, y = ⟨(afterDot s.data.toList).toArray⟩ := ⟨_, rfl⟩
  have hxd : x.data.toList = beforeDot s.data.toList := by rw [hx]
  have hyd : y.data.toList = afterDot s.data.toList := by rw [hy]
  have hxs : x.size ≤ maxLen := by rw [← size_toList, hxd]; omega
  have hys : y.size ≤ maxLen := by rw [← size_toList, hyd]; omega
  have HN := Lib.hid (fun w => Number_any y w hys)
  have HT := Lib.hid (fun w (h : Tab w) => Token_any x (numV y.data.toList) w hxs h)
  unfold numR at HN
  unfold tokR at HT
  rw [← hx, ← hy] at HC
  have hok : splitOk s.data.toList = true ↔ numE y.data.toList = 0 ∧ tokE x.data.toList (numV y.data.toList) = 0 ∧ tokS x.data.toList (numV y.data.toList) = s.data.toList := by rw [splitOk_iff, hxd, hyd]
  have hys2 : splitOk s.data.toList = true → splR s.data.toList = .returned (.tuple #[.string x, .int .i64 (numV y.data.toList), .int .i64 0]) := fun h => by rw [splR_yes h, hx, hyd]
  have hno2 : splitOk s.data.toList = false → splR s.data.toList = .returned (.tuple #[.string ⟨#[]⟩, .int .i64 0, .int .i64 11]) := splR_no
  generalize splR s.data.toList = R at hys2 hno2 ⊢
  generalize splitOk s.data.toList = ok at hok hys2 hno2
  generalize numE y.data.toList = eN at hok HN
  generalize numV y.data.toList = vN at hok HN HT hys2
  generalize tokE x.data.toList vN = eT at hok HT
  obtain ⟨u, hu⟩ : ∃ u : ByteArray, u = ⟨(tokS x.data.toList vN).toArray⟩ := ⟨_, rfl⟩
  have hud : tokS x.data.toList vN = u.data.toList := by rw [hu]
  rw [← hu] at HT
  rw [hud] at hok
  clear hl1 hl2 hx hy hxd hyd hu hud
  by_cases h1 : eN = 0
  · by_cases h2 : eT = 0
    · by_cases h3 : u.data.toList = s.data.toList
      · have HE := Lib.hid (hys2 (hok.2 ⟨h1, h2, h3⟩))
        have hus : u = s := by rw [str_is u, h3, ← str_is]
        subst h1; subst h2; subst hus
        clear hok hys2 hno2 h3
        go_enter Tryd.func23, Tryd.ntmps23
        go_wp2_with fail
        refine HC.out.mono ?_
        rintro e w1 ⟨q, rfl, hb1⟩
        go_wp2_with fail
        refine (HN.out _).mono ?_
        rintro e w2 ⟨rfl, rfl⟩
        go_wp2_with fail
        refine (HT.out _ (ht.below hb1)).mono ?_
        rintro e w3 ⟨rfl, hb3⟩
        go_wp2_with fail
        go_ret3
        exact ⟨HE.out.symm, thenB hb1 hb3⟩
      · have hb : ok = false := by cases ok with
          | false => rfl
          | true => exact absurd (hok.1 rfl).2.2 h3
        have HE := Lib.hid (hno2 hb)
        have hne : (u.toList == s.toList) = false := by rw [Lib.toList_data, Lib.toList_data]; simpa using h3
        subst h1; subst h2
        clear hok hys2 hno2 h3 hb
        go_enter Tryd.func23, Tryd.ntmps23
        go_wp2_with fail
        refine HC.out.mono ?_
        rintro e w1 ⟨q, rfl, hb1⟩
        go_wp2_with fail
        refine (HN.out _).mono ?_
        rintro e w2 ⟨rfl, rfl⟩
        go_wp2_with fail
        refine (HT.out _ (ht.below hb1)).mono ?_
        rintro e w3 ⟨rfl, hb3⟩
        go_wp2_with fail
        go_ret3
        exact ⟨HE.out.symm, thenB hb1 hb3⟩
    · have hb : ok = false := by cases ok with
        | false => rfl
        | true => exact absurd (hok.1 rfl).2.1 h2
      have HE := Lib.hid (hno2 hb)
      have hne : (eT != 0) = true := by simpa using h2
      subst h1
      clear hok hys2 hno2 h2 hb
      go_enter Tryd.func23, Tryd.ntmps23
      go_wp2_with fail
      refine HC.out.mono ?_
      rintro e w1 ⟨q, rfl, hb1⟩
      go_wp2_with fail
      refine (HN.out _).mono ?_
      rintro e w2 ⟨rfl, rfl⟩
      go_wp2_with fail
      refine (HT.out _ (ht.below hb1)).mono ?_
      rintro e w3 ⟨rfl, hb3⟩
      go_wp2_with fail
      go_ret3
      exact ⟨HE.out.symm, thenB hb1 hb3⟩
  · have hb : ok = false := by cases ok with
      | false => rfl
      | true => exact absurd (hok.1 rfl).1 h1
    have HE := Lib.hid (hno2 hb)
    have hne : (eN != 0) = true := by simpa using h1
    clear hok hys2 hno2 h1 hb
    go_enter Tryd.func23, Tryd.ntmps23
    go_wp2_with fail
    refine HC.out.mono ?_
    rintro e w1 ⟨q, rfl, hb1⟩
    go_wp2_with fail
    refine (HN.out _).mono ?_
    rintro e w2 ⟨rfl, rfl⟩
    go_wp2_with fail
    refine (HT.out _ (ht.below hb1)).mono ?_
    rintro e w3 ⟨rfl, hb3⟩
    go_wp2_with fail
    go_ret3
    exact ⟨HE.out.symm, thenB hb1 hb3⟩
end Go.Proofs.YtnhcabcpdlgdaaaDoor
