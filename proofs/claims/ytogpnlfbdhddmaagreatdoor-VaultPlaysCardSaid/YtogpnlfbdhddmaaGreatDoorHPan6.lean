/- THE WALKS of pan's reference: tokens, masks. -/
import Derived.Test.YtogpnlfbdhddmaaGreatDoorGPan
namespace Go.Proofs.YtogpnlfbdhddmaaGreatDoor
open Go.RowKit

set_option maxHeartbeats 1000000 in
theorem rToken_any (s : ByteArray) (v : Int) (w : World) (hs : s.size ≤ maxLen) : Calls Tryz.prog 44 #[.string s, .int .i64 v] w fun e w' => e = tokR s.data.toList v ∧ Below w.heap.size w w' := by
  have HSH := Lib.hid (fun w => (rShaped_any s w hs))
  cases h : shapedB s.data.toList with
  | false =>
    rw [h] at HSH
    have HE := Lib.hid (tokR_shape (v := v) h)
    clear h
    go_enter Tryz.func44, Tryz.ntmps44
    go_wp2_with fail
    refine (HSH.out _).mono ?_
    rintro e w1 ⟨rfl, hb1⟩
    go_wp2_with fail
    go_ret2
    exact ⟨HE.out.symm, hb1⟩
  | true =>
    rw [h] at HSH
    have hsz := (shapedB_iff.1 h).2.2
    rw [size_toList] at hsz
    by_cases h1 : v < 1
    · have HE := Lib.hid (tokR_ver (v := v) h (by omega))
      clear h
      go_enter Tryz.func44, Tryz.ntmps44
      go_wp2_with fail
      refine (HSH.out _).mono ?_
      rintro e w1 ⟨rfl, hb1⟩
      go_wp2_with fail
      go_ret2
      exact ⟨HE.out.symm, hb1⟩
    by_cases h2 : 255 < v
    · have HE := Lib.hid (tokR_ver (v := v) h (by omega))
      clear h
      go_enter Tryz.func44, Tryz.ntmps44
      go_wp2_with fail
      refine (HSH.out _).mono ?_
      rintro e w1 ⟨rfl, hb1⟩
      go_wp2_with fail
      go_ret2
      exact ⟨HE.out.symm, hb1⟩
    obtain ⟨n, rfl⟩ : ∃ n : Nat, v = n := ⟨v.toNat, by omega⟩
    have HE := Lib.hid (tokR_ok (n := n) h (by omega))
    have hdl := dec_len (n := n) (by omega)
    clear h
    go_enter Tryz.func44, Tryz.ntmps44
    go_wp2_with fail
    refine (HSH.out _).mono ?_
    rintro e w1 ⟨rfl, hb1⟩
    go_wp2_with fail
    refine (rtext_any n _ (by omega)).mono ?_
    rintro e w2 ⟨rfl, hb2⟩
    have hd2 : (⟨(dec n).toArray⟩ : ByteArray).size ≤ 3 := by rw [len_str]; exact hdl
    generalize (⟨(dec n).toArray⟩ : ByteArray) = d at hd2 HE ⊢
    go_wp2_with fail
    go_ret2
    exact ⟨HE.out.symm, thenB hb1 hb2⟩

theorem no_dot {l : List UInt8} (h : ∀ j (hj : j < l.length), l[j] ≠ 46) : afterDot l = [] := by
  rcases index_dot l with ⟨_, _, h3⟩ | ⟨i, h0, h1, _, _⟩
  · exact h3
  · exfalso
    have hb : ∀ (l : List UInt8) (i : Nat), Lib.indexByte l 46 = (i : Int) → ∃ h : i < l.length, l[i] = 46 := by
      intro l
      induction l with
      | nil => intro i h; change (-1 : Int) = _ at h; omega
      | cons c l ih =>
        intro i h
        by_cases hc : c = 46
        · subst hc
          have : (0 : Int) = i := h
          obtain rfl : i = 0 := by omega
          exact ⟨by simp, rfl⟩
        · have hb : (c == 46) = false := by simpa using hc
          have e3 : Lib.indexByte (c :: l) 46 = if Lib.indexByte l 46 == -1 then -1 else Lib.indexByte l 46 + 1 := by
            show (if c == 46 then (0 : Int) else if Lib.indexByte l 46 == -1 then -1 else Lib.indexByte l 46 + 1) = _
            rw [hb]; rfl
          rw [e3] at h
          split at h
          · omega
          · have h0 := Lib.indexByte_ge l 46
            rename_i hne
            have hne' : Lib.indexByte l 46 ≠ -1 := by simpa using hne
            obtain ⟨j, rfl⟩ : ∃ j, i = j + 1 := ⟨i - 1, by omega⟩
            obtain ⟨hj, e⟩ := ih j (by omega)
            exact ⟨by simp; omega, by simpa using e⟩
    obtain ⟨hi, e⟩ := hb l i h1
    exact h i hi e
theorem first_dot {l : List UInt8} {k : Nat} (hk : k < l.length) (h : ∀ j (hj : j < l.length), j < k → l[j] ≠ 46) (h46 : l[k] = 46) : beforeDot l = l.take k ∧ afterDot l = l.drop (k + 1) := by
  have e : l = l.take k ++ 46 :: l.drop (k + 1) := by
    conv => lhs; rw [← List.take_append_drop k l]
    congr 1
    rw [List.drop_eq_getElem_cons hk, h46]
  have hall : ∀ c ∈ l.take k, (c != 46) = true := by
    intro c hc
    obtain ⟨j, hj, ej⟩ := List.getElem_of_mem hc
    rw [List.length_take] at hj
    rw [List.getElem_take] at ej
    rw [← ej]
    simpa using h j (by omega) (by omega)
  have t1 : beforeDot (l.take k ++ 46 :: l.drop (k + 1)) = l.take k := by
    unfold beforeDot
    rw [List.takeWhile_append_of_pos hall]
    rw [List.takeWhile_cons_of_neg (by simp), List.append_nil]
  have t2 : afterDot (l.take k ++ 46 :: l.drop (k + 1)) = l.drop (k + 1) := by
    unfold afterDot
    rw [List.dropWhile_append_of_pos hall]
    rw [List.dropWhile_cons_of_neg (by simp)]
    rfl
  rw [← e] at t1 t2
  exact ⟨t1, t2⟩

def NoDot (s : ByteArray) (w : World) (i : Value) (wr : World) : Prop := ∃ k : Nat, k ≤ s.size ∧ i = .int .i64 k ∧ (∀ j (hj : j < s.data.toList.length), j < k → s.data.toList[j] ≠ 46) ∧ wr = w
set_option maxRecDepth 100000 in
set_option maxHeartbeats 4000000 in
theorem rSplit_any (s : ByteArray) (w : World) (hs : s.size ≤ maxLen) : Calls Tryz.prog 47 #[.string s] w fun e w' => e = splR s.data.toList ∧ Below w.heap.size w w' := by
  unfold maxLen at hs
  go_enter Tryz.func47, Tryz.ntmps47
  go_wp2_with fail
  go_loopw [5] (fun i wr => NoDot s w i wr) (fun i _ => s.size - (intOf i).toNat)
  case atStart => exact ⟨0, by omega, rfl, fun j _ hj => by omega, rfl⟩
  case round =>
    obtain ⟨k, hk, rfl, hno, rfl⟩ := hrel
    have HNO := Lib.hid hno
    clear hno
    by_cases hlt : k < s.size
    · by_cases h46 : s[k].toNat = 46
      · have hlen : k < s.data.toList.length := by rw [size_toList]; exact hlt
        have h46' : s.data.toList[k] = 46 := by rw [byte_at s k hlt]; exact UInt8.toNat_inj.1 h46
        obtain ⟨hbd, had⟩ := first_dot hlen (fun j hj h => HNO.out j hj h) h46'
        have heq : ((s[k].toNat : Int) != 46) = false := by simp; omega
        have hx : s.extract 0 k = ⟨(beforeDot s.data.toList).toArray⟩ := sub_str s 0 k _ (by rw [hbd]; rfl)
        have hy : s.extract (k + 1) s.size = ⟨(afterDot s.data.toList).toArray⟩ := sub_str s (k + 1) s.size _ (by rw [had, List.take_of_length_le (by simp)])
        obtain ⟨x, hxe⟩ : ∃ x : ByteArray, x = s.extract 0 k := ⟨_, rfl⟩
        obtain ⟨y, hye⟩ : ∃ y : ByteArray, y = s.extract (k + 1) s.size := ⟨_, rfl⟩
        have hxd : x.data.toList = beforeDot s.data.toList := by rw [hxe, hx]
        have hyd : y.data.toList = afterDot s.data.toList := by rw [hye, hy]
        have hxs : x.size ≤ maxLen := by have := (dots_le s.data.toList).1; rw [size_toList] at this; rw [← size_toList, hxd]; unfold maxLen; omega
        have hys : y.size ≤ maxLen := by have := (dots_le s.data.toList).2; rw [size_toList] at this; rw [← size_toList, hyd]; unfold maxLen; omega
        have HN := Lib.hid (fun w => rNumber_any y w hys)
        have HT := Lib.hid (fun w => rToken_any x (numV y.data.toList) w hxs)
        unfold numR at HN
        unfold tokR at HT
        have hok : splitOk s.data.toList = true ↔ numE y.data.toList = 0 ∧ tokE x.data.toList (numV y.data.toList) = 0 ∧ tokS x.data.toList (numV y.data.toList) = s.data.toList := by rw [splitOk_iff, hxd, hyd]
        have hys2 : splitOk s.data.toList = true → splR s.data.toList = .returned (.tuple #[.string x, .int .i64 (numV y.data.toList), .int .i64 0]) := fun h => by rw [splR_yes h, hxe, hx, hyd]
        have hno2 : splitOk s.data.toList = false → splR s.data.toList = .returned (.tuple #[.string ⟨#[]⟩, .int .i64 0, .int .i64 11]) := splR_no
        generalize splitOk s.data.toList = ok at hok hys2 hno2
        generalize numE y.data.toList = eN at hok HN
        generalize numV y.data.toList = vN at hok HN HT hys2
        generalize tokE x.data.toList vN = eT at hok HT
        obtain ⟨u, hu⟩ : ∃ u : ByteArray, u = ⟨(tokS x.data.toList vN).toArray⟩ := ⟨_, rfl⟩
        have hud : tokS x.data.toList vN = u.data.toList := by rw [hu]
        rw [← hu] at HT
        rw [hud] at hok
        have HX := Lib.hid hxe
        have HY := Lib.hid hye
        clear hbd had hx hy hxd hyd hu hud h46 h46' hxe hye
        by_cases h1 : eN = 0
        · by_cases h2 : eT = 0
          · by_cases h3 : u.data.toList = s.data.toList
            · have HE := Lib.hid (hys2 (hok.2 ⟨h1, h2, h3⟩))
              have hus : u = s := by rw [str_is u, h3, ← str_is]
              subst h1; subst h2; subst hus
              clear hok hys2 hno2 h3
              go_wp2_with fail
              rw [← HY.out]
              refine (HN.out _).mono ?_
              rintro e w2 ⟨rfl, rfl⟩
              go_wp2_with fail
              rw [← HX.out]
              refine (HT.out _).mono ?_
              rintro e w3 ⟨rfl, hb3⟩
              go_wp2_with fail
              go_ret3
              exact ⟨by rw [HE.out, HX.out]; rfl, hb3⟩
            · have hb : ok = false := by cases ok with
                | false => rfl
                | true => exact absurd (hok.1 rfl).2.2 h3
              have HE := Lib.hid (hno2 hb)
              have hne : (u.toList == s.toList) = false := by rw [Lib.toList_data, Lib.toList_data]; simpa using h3
              subst h1; subst h2
              clear hok hys2 hno2 h3 hb
              go_wp2_with fail
              rw [← HY.out]
              refine (HN.out _).mono ?_
              rintro e w2 ⟨rfl, rfl⟩
              go_wp2_with fail
              rw [← HX.out]
              refine (HT.out _).mono ?_
              rintro e w3 ⟨rfl, hb3⟩
              go_wp2_with fail
              go_ret3
              exact ⟨HE.out.symm, hb3⟩
          · have hb : ok = false := by cases ok with
              | false => rfl
              | true => exact absurd (hok.1 rfl).2.1 h2
            have HE := Lib.hid (hno2 hb)
            have hne : (eT == 0) = false := by simpa using h2
            subst h1
            clear hok hys2 hno2 h2 hb
            go_wp2_with fail
            rw [← HY.out]
            refine (HN.out _).mono ?_
            rintro e w2 ⟨rfl, rfl⟩
            go_wp2_with fail
            rw [← HX.out]
            refine (HT.out _).mono ?_
            rintro e w3 ⟨rfl, hb3⟩
            go_wp2_with fail
            go_ret3
            exact ⟨HE.out.symm, hb3⟩
        · have hb : ok = false := by cases ok with
            | false => rfl
            | true => exact absurd (hok.1 rfl).1 h1
          have HE := Lib.hid (hno2 hb)
          have hne : (eN == 0) = false := by simpa using h1
          clear hok hys2 hno2 h1 hb
          go_wp2_with fail
          rw [← HY.out]
          refine (HN.out _).mono ?_
          rintro e w2 ⟨rfl, rfl⟩
          go_wp2_with fail
          rw [← HX.out]
          refine (HT.out _).mono ?_
          rintro e w3 ⟨rfl, hb3⟩
          go_wp2_with fail
          go_ret3
          exact ⟨HE.out.symm, hb3⟩
      · have hne : ((s[k].toNat : Int) != 46) = true := by simp; omega
        have HN := Lib.hid (show ∀ j (hj : j < s.data.toList.length), j < k + 1 → s.data.toList[j] ≠ 46 from fun j hj hjk => by
          rcases Nat.lt_or_ge j k with h | h
          · exact HNO.out j hj h
          · obtain rfl : j = k := by omega
            rw [byte_at s j hlt]
            intro e
            rw [e] at h46
            exact h46 rfl)
        go_wp2_with fail
        go_roundw
        case rel => exact ⟨k + 1, by omega, by go_num, HN.out, rfl⟩
        case measure => simp [intOf]; omega
    · have HE := Lib.hid (splR_no (splitOk_no (l := s.data.toList) fun ⟨h, _⟩ => by
        rw [no_dot fun j hj => HNO.out j hj (by rw [size_toList] at hj; omega), numE_nil] at h; cases h))
      go_wp2_with fail
      go_ret3
      exact ⟨HE.out.symm, Below.refl _ _⟩
end Go.Proofs.YtogpnlfbdhddmaaGreatDoor
