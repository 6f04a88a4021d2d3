/- The vault of the reference: THE WALKS of Token, Back, Renew. -/
import Derived.Test.YtogpnlfbdhddmaaGreatDoorHRVau1
namespace Go.Proofs.YtogpnlfbdhddmaaGreatDoor
open Go.RowKit

/-! ### Token -/
set_option maxRecDepth 100000 in
set_option maxHeartbeats 4000000 in
theorem rvToken_no (xb : Nat) (s : ByteArray) (w : World) (hs : s.size ≤ maxLen) (hp : panB s.data.toList = false) :
    Calls Tryz.prog 20 #[.pointer (some ⟨xb, 0, none⟩), .string s] w fun e w' => e = .returned (.tuple #[.string ⟨#[]⟩, .int .i64 10]) ∧ Below w.heap.size w w' := by
  have HI := Lib.hid (rIs_any s w hs)
  have HP := Lib.hid hp
  clear hp
  go_enter Tryz.func20, Tryz.ntmps20
  go_wp2_with fail
  refine HI.out.mono ?_
  rw [HP.out]
  rintro e w1 ⟨rfl, hb1⟩
  have HB1 := Lib.hid hb1
  clear hb1
  go_wp2_with fail
  go_ret2
  exact ⟨rfl, HB1.out⟩
set_option maxRecDepth 100000 in
set_option maxHeartbeats 4000000 in
theorem rvToken_yes (xb B U : Nat) (m : List UInt8) (t now : Nat) (s : ByteArray) (w : World) (h : RVauAt w xb B U m t now) (hv : VOk m t now) (hs : s.size ≤ maxLen) (hp : panB s.data.toList = true) :
    Calls Tryz.prog 20 #[.pointer (some ⟨xb, 0, none⟩), .string s] w fun e w' => e = tokR (hidS (vKey m t now) s.data.toList) now ∧ Below w.heap.size w w' := by
  have HI := Lib.hid (rIs_any s w hs)
  have HP := Lib.hid hp
  obtain ⟨hm, _, _, hn1, _⟩ := id hv
  have hsh := pan_shaped hp
  have HTU := Lib.hid (fun w1 (h1 : RVauAt w1 xb B U m t now) => rturn_any xb B U m t now now s false w1 h1 hm (hv.key hn1 (Nat.le_refl _)) hsh)
  unfold turnS at HTU
  rw [if_neg (by decide)] at HTU
  have hln := (hid_parts hsh (vKey m t now)).2.2.2.2
  have h19 := (shapedB_iff.1 hsh).2.2
  obtain ⟨p, hpp⟩ : ∃ p : ByteArray, p = ⟨(hidS (vKey m t now) s.data.toList).toArray⟩ := ⟨_, rfl⟩
  have hpl : p.size ≤ maxLen := by rw [hpp, len_arr]; unfold maxLen; omega
  have HTK := Lib.hid (fun w1 => rToken_any p now w1 hpl)
  have hpd : p.data.toList = hidS (vKey m t now) s.data.toList := by rw [hpp]
  rw [hpd] at HTK
  rw [← hpp] at HTU
  obtain ⟨xs, er, hE⟩ : ∃ xs er, tokR (hidS (vKey m t now) s.data.toList) now = .returned (.tuple #[.string xs, .int .i64 er]) := ⟨_, _, rfl⟩
  rw [hE] at HTK ⊢
  have HX := Lib.hid h
  obtain ⟨_, _, _, MA, mc, h4, _, _⟩ := h
  have hlt := h4.lt
  have HC := Lib.hid (fun w1 (hb : Below w.heap.size w w1) => show w1.cell? ⟨xb, 2, none⟩ = some (.int .i64 now) from (h4.below hb hlt).cell 2)
  clear h4 hp hm hsh hln h19 hpp hpd hE hv hn1
  go_enter Tryz.func20, Tryz.ntmps20
  go_wp2_with fail
  refine HI.out.mono ?_
  rw [HP.out]
  rintro e w1 ⟨rfl, hb1⟩
  have c2 := HC.out w1 hb1
  have HB1 := Lib.hid hb1
  have HT1 := Lib.hid (HTU.out w1.drew (HX.out.new hb1.drew))
  clear hb1
  go_wp2_with fail
  go_region_held3 (fun w' => w'.cell? ⟨xb, 2, none⟩ = some (.int .i64 now))
    (go_keep)
    (first
      | (go_at_call 45; refine HT1.out.mono ?_; rintro e w2 ⟨rfl, hb2⟩; have HB2 := Lib.hid (show Below w.heap.size w w2 from thenB HB1.out.drew hb2); have d2 := HC.out w2 HB2.out; clear hb2)
      | (go_at_call 44; refine (HTK.out _).mono ?_; rintro e w3 ⟨rfl, hb3⟩; have HB3 := Lib.hid (show Below w.heap.size w w3 from thenB HB2.out hb3); have d3 := HC.out w3 HB3.out; clear hb3))
  go_wp2_with fail
  go_ret2
  exact ⟨rfl, HB3.out⟩
theorem rvToken_any (xb B U : Nat) (m : List UInt8) (t now : Nat) (s : ByteArray) (w : World) (h : RVauAt w xb B U m t now) (hv : VOk m t now) (hs : s.size ≤ maxLen) :
    Calls Tryz.prog 20 #[.pointer (some ⟨xb, 0, none⟩), .string s] w fun e w' => e = vtR m t now s.data.toList ∧ Below w.heap.size w w' := by
  cases hp : panB s.data.toList with
  | false => exact (rvToken_no xb s w hs hp).mono fun e w' ⟨he, hb⟩ => ⟨he.trans (vtR_no hp).symm, hb⟩
  | true => exact (rvToken_yes xb B U m t now s w h hv hs hp).mono fun e w' ⟨he, hb⟩ => ⟨he.trans (vtR_yes hp hv.2.2.2.1 hv.2.2.2.2).symm, hb⟩
/-! ### Back -/
set_option maxRecDepth 100000 in
set_option maxHeartbeats 4000000 in
theorem rvBack_split (xb : Nat) (s : ByteArray) (w : World) (hs : s.size ≤ maxLen) (hp : splitOk s.data.toList = false) :
    Calls Tryz.prog 22 #[.pointer (some ⟨xb, 0, none⟩), .string s] w fun e w' => e = .returned (.tuple #[.string ⟨#[]⟩, .int .i64 11]) ∧ Below w.heap.size w w' := by
  have HI := Lib.hid (rSplit_any s w hs)
  have HP := Lib.hid (splR_no hp)
  clear hp
  go_enter Tryz.func22, Tryz.ntmps22
  go_wp2_with fail
  refine HI.out.mono ?_
  rw [HP.out]
  rintro e w1 ⟨rfl, hb1⟩
  have HB1 := Lib.hid hb1
  clear hb1
  go_wp2_with fail
  go_ret2
  exact ⟨rfl, HB1.out⟩
set_option maxRecDepth 100000 in
set_option maxHeartbeats 4000000 in
theorem rvBack_ver (xb B U : Nat) (m : List UInt8) (t now : Nat) (s p : ByteArray) (n : Nat) (w : World) (h : RVauAt w xb B U m t now) (hs : s.size ≤ maxLen) (hp : splR s.data.toList = .returned (.tuple #[.string p, .int .i64 n, .int .i64 0])) (hn : now < n) :
    Calls Tryz.prog 22 #[.pointer (some ⟨xb, 0, none⟩), .string s] w fun e w' => e = .returned (.tuple #[.string ⟨#[]⟩, .int .i64 12]) ∧ Below w.heap.size w w' := by
  have HI := Lib.hid (rSplit_any s w hs)
  have HP := Lib.hid hp
  obtain ⟨_, _, _, MA, mc, h4, _, _⟩ := h
  have hlt := h4.lt
  have HC := Lib.hid (fun w1 (hb : Below w.heap.size w w1) => show w1.cell? ⟨xb, 2, none⟩ = some (.int .i64 now) from (h4.below hb hlt).cell 2)
  have t1 : decide ((now : Int) < (n : Int)) = true := decide_eq_true (by omega)
  have t2 : decide (now < n) = true := decide_eq_true (by omega)
  clear hp h4
  go_enter Tryz.func22, Tryz.ntmps22
  go_wp2_with fail
  refine HI.out.mono ?_
  rw [HP.out]
  rintro e w1 ⟨rfl, hb1⟩
  have c2 := HC.out w1 hb1
  have HB1 := Lib.hid hb1
  clear hb1
  go_wp2_with fail
  go_ret2
  exact ⟨rfl, HB1.out⟩
set_option maxRecDepth 100000 in
set_option maxHeartbeats 4000000 in
theorem rvBack_mid (xb B U : Nat) (m : List UInt8) (t now : Nat) (s p : ByteArray) (n : Nat) (w : World) (h : RVauAt w xb B U m t now) (hv : VOk m t now) (hs : s.size ≤ maxLen) (hp : splR s.data.toList = .returned (.tuple #[.string p, .int .i64 n, .int .i64 0])) (hsh : shapedB p.data.toList = true) (hn0 : 1 ≤ n) (hn : n ≤ now) :
    Calls Tryz.prog 22 #[.pointer (some ⟨xb, 0, none⟩), .string s] w fun e w' => e = vmR (vKey m t n) p.data.toList ∧ Below w.heap.size w w' := by
  have HI := Lib.hid (rSplit_any s w hs)
  have HP := Lib.hid hp
  obtain ⟨hm, _, _, hn1, _⟩ := id hv
  have HTU := Lib.hid (fun w1 (h1 : RVauAt w1 xb B U m t now) => rturn_any xb B U m t now n p true w1 h1 hm (hv.key hn0 hn) hsh)
  unfold turnS at HTU
  rw [if_pos rfl] at HTU
  have hln := (sho_parts hsh (vKey m t n)).2.2.2.2
  have h19 := (shapedB_iff.1 hsh).2.2
  unfold vmR
  obtain ⟨q, hqq⟩ : ∃ q : ByteArray, q = ⟨(shoS (vKey m t n) p.data.toList).toArray⟩ := ⟨_, rfl⟩
  have hpl : q.size ≤ maxLen := by rw [hqq, len_arr]; unfold maxLen; omega
  have HIS := Lib.hid (fun w1 => rIs_any q w1 hpl)
  have hqd : q.data.toList = shoS (vKey m t n) p.data.toList := by rw [hqq]
  rw [hqd] at HIS
  rw [← hqq] at HTU ⊢
  obtain ⟨pb, hpb⟩ : ∃ pb, pb = panB (shoS (vKey m t n) p.data.toList) := ⟨_, rfl⟩
  rw [← hpb] at HIS ⊢
  have HX := Lib.hid h
  obtain ⟨_, _, _, MA, mc, h4, _, _⟩ := h
  have hlt := h4.lt
  have HC := Lib.hid (fun w1 (hb : Below w.heap.size w w1) => show w1.cell? ⟨xb, 2, none⟩ = some (.int .i64 now) from (h4.below hb hlt).cell 2)
  have t1 : decide ((now : Int) < (n : Int)) = false := decide_eq_false (by omega)
  have t2 : decide (now < n) = false := decide_eq_false (by omega)
  clear h4 hp hm hsh hln h19 hqq hqd hpb hv hn1
  go_enter Tryz.func22, Tryz.ntmps22
  go_wp2_with fail
  refine HI.out.mono ?_
  rw [HP.out]
  rintro e w1 ⟨rfl, hb1⟩
  have c2 := HC.out w1 hb1
  have HB1 := Lib.hid hb1
  have HT1 := Lib.hid (HTU.out w1 (HX.out.new hb1))
  clear hb1
  go_wp2_with fail
  refine HT1.out.mono ?_
  rintro e w2 ⟨rfl, hb2⟩
  have HB2 := Lib.hid (show Below w.heap.size w w2 from thenB HB1.out hb2)
  clear hb2
  go_wp2_with fail
  refine (HIS.out _).mono ?_
  rintro e w3 ⟨rfl, hb3⟩
  have HB3 := Lib.hid (show Below w.heap.size w w3 from thenB HB2.out hb3)
  clear hb3
  cases pb
  · go_wp2_with fail
    go_ret2
    exact ⟨rfl, HB3.out⟩
  · go_wp2_with fail
    go_ret2
    exact ⟨rfl, HB3.out⟩
theorem rvBack_any (xb B U : Nat) (m : List UInt8) (t now : Nat) (s : ByteArray) (w : World) (h : RVauAt w xb B U m t now) (hv : VOk m t now) (hs : s.size ≤ maxLen) :
    Calls Tryz.prog 22 #[.pointer (some ⟨xb, 0, none⟩), .string s] w fun e w' => e = vbR m t now s.data.toList ∧ Below w.heap.size w w' := by
  cases hp : splitOk s.data.toList with
  | false =>
    refine (rvBack_split xb s w hs hp).mono fun e w' ⟨he, hb⟩ => ⟨he.trans ?_, hb⟩
    have h0 := vbE_split (m := m) (t := t) (now := now) hp
    unfold vbR; rw [vbS_no (by rw [h0]; decide), h0]
  | true =>
    obtain ⟨s1, s2, s3⟩ := spl_yes hp
    obtain ⟨g1, g2, g3, _⟩ := split_shaped hp
    obtain ⟨n, hn⟩ := Int.eq_ofNat_of_zero_le (show 0 ≤ numV (afterDot s.data.toList) by omega)
    have hR : splR s.data.toList = .returned (.tuple #[.string ⟨(beforeDot s.data.toList).toArray⟩, .int .i64 n, .int .i64 0]) := by rw [splR_yes hp, hn]
    by_cases hlt : now < n
    · refine (rvBack_ver xb B U m t now s _ n w h hs hR hlt).mono fun e w' ⟨he, hb⟩ => ⟨he.trans ?_, hb⟩
      have h0 := vbE_ver (m := m) (t := t) (now := now) hp (by rw [s3, hn]; omega)
      unfold vbR; rw [vbS_no (by rw [h0]; decide), h0]
    · refine (rvBack_mid xb B U m t now s _ n w h hv hs hR (by exact g1) (by omega) (by omega)).mono fun e w' ⟨he, hb⟩ => ⟨he.trans ?_, hb⟩
      have hk : shoS (vKey m t (splV s.data.toList).toNat) (splS s.data.toList) = shoS (vKey m t n) (beforeDot s.data.toList) := by rw [s2, s3, hn, Int.toNat_natCast]
      unfold vbR vmR
      show (if panB (shoS (vKey m t n) (beforeDot s.data.toList)) = true then _ else _) = _
      cases hpb : panB (shoS (vKey m t n) (beforeDot s.data.toList)) with
      | false =>
        have h0 := vbE_pan (m := m) (t := t) (now := now) hp (by rw [s3, hn]; omega) (by rw [hk]; exact hpb)
        rw [vbS_no (by rw [h0]; decide), h0, if_neg (by decide)]
      | true =>
        have h0 := vbE_ok (m := m) (t := t) (now := now) hp (by rw [s3, hn]; omega) (by rw [hk]; exact hpb)
        rw [vbS_ok h0, h0, if_pos rfl, hk]
/-! ### Renew -/
set_option maxRecDepth 100000 in
set_option maxHeartbeats 4000000 in
theorem rvRenew_any (xb B U : Nat) (m : List UInt8) (t now : Nat) (s : ByteArray) (w : World) (h : RVauAt w xb B U m t now) (hv : VOk m t now) (hs : s.size ≤ maxLen) :
    Calls Tryz.prog 25 #[.pointer (some ⟨xb, 0, none⟩), .string s] w fun e w' => e = vnR m t now s.data.toList ∧ Below w.heap.size w w' := by
  have HBK := Lib.hid (rvBack_any xb B U m t now s w h hv hs)
  obtain ⟨er, her⟩ : ∃ er, er = vbE m t now s.data.toList := ⟨_, rfl⟩
  obtain ⟨p, hp⟩ : ∃ p : ByteArray, p = ⟨(vbS m t now s.data.toList).toArray⟩ := ⟨_, rfl⟩
  unfold vbR at HBK
  rw [← her, ← hp] at HBK
  have hpl : p.size ≤ maxLen := by rw [hp, len_arr]; have := back_len (m := m) (t := t) (now := now) (l := s.data.toList); unfold maxLen; omega
  have hpd : p.data.toList = vbS m t now s.data.toList := by rw [hp]
  have HTK := Lib.hid (fun w1 (h1 : RVauAt w1 xb B U m t now) => rvToken_any xb B U m t now p w1 h1 hv hpl)
  rw [hpd] at HTK
  have HX := Lib.hid h
  by_cases h0 : er = 0
  · have HE := Lib.hid (vnR_ok (m := m) (t := t) (now := now) (l := s.data.toList) (by rw [← her]; exact h0))
    clear h hv hp hpd her hpl
    subst h0
    unfold vtR at HTK
    unfold vtR at HE
    go_enter Tryz.func25, Tryz.ntmps25
    go_wp2_with fail
    refine HBK.out.mono ?_
    rintro e w1 ⟨rfl, hb1⟩
    have HT2 := Lib.hid (HTK.out w1 (HX.out.new hb1))
    have HB1 := Lib.hid hb1
    clear hb1
    go_wp2_with fail
    refine HT2.out.mono ?_
    rintro e w2 ⟨rfl, hb2⟩
    have HB2 := Lib.hid (show Below w.heap.size w w2 from thenB HB1.out hb2)
    clear hb2
    go_wp2_with fail
    go_ret2
    exact ⟨HE.out.symm, HB2.out⟩
  · have HE := Lib.hid (vnR_no (m := m) (t := t) (now := now) (l := s.data.toList) (by rw [← her]; exact h0))
    rw [← her] at HE
    have hb0 : (er == 0) = false := beq_eq_false_iff_ne.2 h0
    have hb1 : (er != 0) = true := bne_iff_ne.2 h0
    clear h hv hp hpd her hpl h0 HTK
    go_enter Tryz.func25, Tryz.ntmps25
    go_wp2_with fail
    refine HBK.out.mono ?_
    rintro e w1 ⟨rfl, hb1⟩
    have HB1 := Lib.hid hb1
    clear hb1
    go_wp2_with fail
    go_ret2
    exact ⟨HE.out.symm, HB1.out⟩
end Go.Proofs.YtogpnlfbdhddmaaGreatDoor
