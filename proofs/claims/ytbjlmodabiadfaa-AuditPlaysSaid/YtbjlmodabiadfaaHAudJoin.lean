/- THE WALK of the law AuditJoins. -/
import Derived.Test.YtbjlmodabiadfaaHAudSmall
import Derived.Test.YtbjlmodabiadfaaHAud3
namespace Go.Proofs.Ytbjlmodabiadfaa
open Go.RowKit

def lastSeq (b : Int) (l : List Rec) : Int := match l.getLast? with | none => b | some r => r.seq
def lastTag (t : List UInt8) (l : List Rec) : List UInt8 := match l.getLast? with | none => t | some r => r.tag
theorem last_cons (b : Int) (t : List UInt8) (r : Rec) (l : List Rec) : lastSeq r.seq l = lastSeq b (r :: l) ∧ lastTag r.tag l = lastTag t (r :: l) := by
  cases l with
  | nil => exact ⟨rfl, rfl⟩
  | cons x y => constructor <;> simp [lastSeq, lastTag, List.getLast?_cons]
theorem ver_append_lt (key : List UInt8) (l2 : List Rec) : ∀ (l1 : List Rec) (b : Int) (t : List UInt8), ver key b t l1 < l1.length → ver key b t (l1 ++ l2) = ver key b t l1
  | [], _, _, h => by simp at h
  | r :: l1, b, t, h => by
    by_cases hok : verOk key b t r
    · rw [ver_yes hok] at h ⊢
      rw [List.cons_append, ver_yes hok, ver_append_lt key l2 l1 r.seq r.tag (by simpa using h)]
    · rw [ver_no hok, List.cons_append, ver_no hok]
theorem ver_append_all (key : List UInt8) (l2 : List Rec) : ∀ (l1 : List Rec) (b : Int) (t : List UInt8), ver key b t l1 = l1.length → ver key b t (l1 ++ l2) = l1.length + ver key (lastSeq b l1) (lastTag t l1) l2
  | [], b, t, _ => by simp [lastSeq, lastTag]
  | r :: l1, b, t, h => by
    by_cases hok : verOk key b t r
    · rw [ver_yes hok] at h
      rw [List.cons_append, ver_yes hok, ver_append_all key l2 l1 r.seq r.tag (by simpa using h), (last_cons b t r l1).1, (last_cons b t r l1).2]
      simp only [List.length_cons]
      omega
    · rw [ver_no hok] at h
      simp at h
theorem Recs.take {w : World} {R : Nat → Prop} {A : Option Addr} {L : List Rec} (h : Recs w R A L) (k : Nat) : Recs w R A (L.take k) := fun hn => by
  obtain ⟨b, o, e, hR, hc⟩ := h (by simp at hn; omega)
  refine ⟨b, o, e, hR, fun i hi => ?_⟩
  rw [List.getElem_take]
  exact hc i (by simp at hi; omega)
theorem Recs.drop {w : World} {R : Nat → Prop} {A : Option Addr} {L : List Rec} (h : Recs w R A L) {k cap : Nat} (hc : L.length ≤ cap) : Recs w R (if cap = k then A else A.map (·.add (k * 3))) (L.drop k) := fun hn => by
  obtain ⟨b, o, rfl, hR, hcell⟩ := h (by simp at hn; omega)
  have hlt : k < L.length := by simp at hn; omega
  rw [if_neg (by omega)]
  refine ⟨b, o + k * 3, by simp [add_plain], hR, fun i hi => ?_⟩
  rw [List.getElem_drop, show o + k * 3 + i * 3 = o + (k + i) * 3 by omega]
  exact hcell _ (by simp at hi; omega)
theorem last_take (b : Int) (t : List UInt8) (L : List Rec) (m : Nat) (h : m < L.length) : lastSeq b (L.take (m + 1)) = L[m].seq ∧ lastTag t (L.take (m + 1)) = L[m].tag := by
  have : L.take (m + 1) = L.take m ++ [L[m]] := List.take_succ_eq_append_getElem h
  have hg : (L.take (m + 1)).getLast? = some L[m] := by rw [this, List.getLast?_concat]
  exact ⟨by unfold lastSeq; rw [hg], by unfold lastTag; rw [hg]⟩
/-- What the three answers are. -/
theorem join_law (key : List UInt8) (base : Int) (ahead : List UInt8) (L : List Rec) (a : Nat) (ha : a ≤ L.length) :
    (∃ k : Nat, verV (ver key base ahead L) L.length = .tuple #[.int .i64 k, .int .i64 22] ∧ verV (ver key base ahead (L.take a)) a = .tuple #[.int .i64 k, .int .i64 22]) ∨
    (∃ (m : Nat) (ec : Int), m ≤ L.length ∧ verV (ver key base ahead L) L.length = .tuple #[.int .i64 ((a : Int) + m), .int .i64 ec] ∧ verV (ver key base ahead (L.take a)) a = .tuple #[.int .i64 a, .int .i64 0] ∧
      verV (ver key (lastSeq base (L.take a)) (lastTag ahead (L.take a)) (L.drop a)) (L.length - a) = .tuple #[.int .i64 m, .int .i64 ec]) := by
  have hl : (L.take a).length = a := by simp; omega
  have e := List.take_append_drop a L
  have hle := ver_le key (L.take a) base ahead
  by_cases h : ver key base ahead (L.take a) < (L.take a).length
  · left
    have h2 := ver_append_lt key (L.drop a) _ _ _ h
    rw [e] at h2
    refine ⟨ver key base ahead (L.take a), ?_, ?_⟩
    · rw [h2]; unfold verV; rw [if_neg (by omega)]
    · unfold verV; rw [if_neg (by omega)]
  · right
    have h1 : ver key base ahead (L.take a) = (L.take a).length := by omega
    have h2 := ver_append_all key (L.drop a) _ _ _ h1
    rw [e, hl] at h2
    have hle2 := ver_le key (L.drop a) (lastSeq base (L.take a)) (lastTag ahead (L.take a))
    rw [List.length_drop] at hle2
    refine ⟨ver key (lastSeq base (L.take a)) (lastTag ahead (L.take a)) (L.drop a), if ver key (lastSeq base (L.take a)) (lastTag ahead (L.take a)) (L.drop a) = L.length - a then 0 else 22, by omega, ?_, ?_, rfl⟩
    · rw [h2]
      generalize ver key (lastSeq base (L.take a)) (lastTag ahead (L.take a)) (L.drop a) = m
      have hec : (if a + m = L.length then (0 : Int) else 22) = if m = L.length - a then 0 else 22 := by
        by_cases hx : m = L.length - a
        · rw [if_pos hx, if_pos (by omega)]
        · rw [if_neg hx, if_neg (by omega)]
      show Value.tuple #[.int .i64 ((a + m : Nat) : Int), .int .i64 (if a + m = L.length then (0 : Int) else 22)] = _
      rw [hec, Int.natCast_add]
    · rw [h1, hl]; unfold verV; rw [if_pos rfl]
set_option maxRecDepth 100000 in
set_option maxHeartbeats 8000000 in
theorem AuditJoins_walk (A : Option Addr) (n c : Nat) (key : List UInt8) (base : Int) (A2 : Option Addr) (n2 c2 : Nat) (ahead : List UInt8) (LA : Option Addr) (ln lc : Nat) (L : List Rec) (at_ : Int) (w : World)
    (h1 : Reads w w.heap.size 1 A n (bv key)) (_h1c : n ≤ c ∧ c ≤ 140737488351232) (hbw : (Lit.int .i64 base).wf = true) (h2 : Reads w w.heap.size 1 A2 n2 (bv ahead)) (h2c : n2 ≤ c2 ∧ c2 ≤ 140737488351232)
    (hl : L.length = ln) (hL : Recs w (· < w.heap.size) LA L) (hLc : ln ≤ lc ∧ lc ≤ 140737488351232 ∧ ∀ r ∈ L, -9223372036854775808 ≤ r.seq ∧ r.seq ≤ 9223372036854775807 ∧ r.text.size ≤ 140737488351232) (_hat : (Lit.int .i64 at_).wf = true) :
    Calls Try.prog 10 #[.slice A n c, .int .i64 base, .slice A2 n2 c2, .slice LA ln lc, .int .i64 at_] w fun e w' => e = .returned (.bool true) ∧ Below w.heap.size w w' := by
  subst hl
  have hb : -9223372036854775808 ≤ base ∧ base ≤ 9223372036854775807 := by
    have := hbw
    simp [Lit.wf, IntKind.min, IntKind.max, IntKind.bits, IntKind.signed] at this
    omega
  obtain ⟨hba1, hba2⟩ := hb
  have hsm := Lib.hid (small19_any w)
  have hfew := Lib.hid (fun w' (h : Below w.heap.size w w') => few_any A n c A2 n2 c2 LA L.length lc L _ w' rfl (hL.keep fun k hk => h.block k hk))
  have H1 := Lib.hid h1
  have H2 := Lib.hid h2
  have HL := Lib.hid hL
  have HBD := Lib.hid hLc.2.2
  clear h1 h2 hL hbw
  by_cases hin : 0 ≤ at_ ∧ at_ ≤ L.length
  · obtain ⟨a, rfl⟩ : ∃ a : Nat, at_ = a := ⟨at_.toNat, by omega⟩
    have ha : a ≤ L.length := by omega
    clear hin
    go_enter Try.func10, Try.ntmps10
    go_wp2_with fail
    refine hsm.out.mono ?_
    rintro e w1 ⟨rfl, hb1'⟩
    have HB1 := Lib.hid hb1'
    have HF := Lib.hid (hfew.out w1 hb1')
    clear hb1' hsm hfew
    go_wp2_with fail
    refine HF.out.mono ?_
    rintro e w1 ⟨b, rfl, rfl, hin⟩
    have HIN := Lib.hid hin
    clear hin HF
    cases b
    · go_wp2_with fail
      go_ret
      exact ⟨rfl, HB1.out⟩
    · obtain ⟨g1, g2, g3, g4⟩ := HIN.out rfl
      have hn2 : ahead.length = n2 := by have := H2.out.1; rw [length_bv] at this; omega
      have hok : RecsOk L := fun r hr => ⟨(HBD.out r hr).1, (HBD.out r hr).2.1, (g4 r hr).1, (g4 r hr).2⟩
      have HOK := Lib.hid hok
      have HN2 := Lib.hid hn2
      have hb1' := HB1.out
      have hs1 := hb1'.size
      have htl : (L.take a).length = a := by simp; omega
      have hVerify : ∀ (w' : World) (b : Int) (v : Value) (t : List UInt8) (VA : Option Addr) (vc : Nat) (V : List Rec), Below w.heap.size w w' → -9223372036854775808 ≤ b → b ≤ 9223372036854775807 → Part w' (· < w'.heap.size) v t → t.length ≤ 256 → Recs w' (· < w'.heap.size) VA V → V.length ≤ 20 → RecsOk V →
          Calls Try.prog 30 #[.slice A n c, .int .i64 b, v, .slice VA V.length vc] w' fun e w'' => e = .returned (verV (ver key b t V) V.length) ∧ Below w'.heap.size w' w'' := fun w' b v t VA vc V hb h3 h4 h5 h6 h7 h8 h9 =>
        Verify_any A n c key b v t VA vc V w' ((H1.out.below hb).more hb.size) (by omega) h3 h4 h5 h6 h7 (by omega) h9
      have HVER := Lib.hid hVerify
      have H2P : Hid (∀ w', Below w.heap.size w w' → Part w' (· < w'.heap.size) (.slice A2 n2 c2) ahead) := Lib.hid fun w' hb => Part.of_reads (H2.out.below hb) h2c.1 (by omega) fun k hk => by have := hb.size; omega
      have HLW : Hid (∀ w', Below w.heap.size w w' → Recs w' (· < w'.heap.size) LA L) := Lib.hid fun w' hb => (HL.out.keep fun k hk => hb.block k hk).mono fun k hk => by have := hb.size; omega
      have HV1 := Lib.hid (hVerify w1 base _ ahead LA lc L hb1' hba1 hba2 (H2P.out w1 hb1') (by omega) (HLW.out w1 hb1') g3 hok)
      have hj := join_law key base ahead L a ha
      have HTL := Lib.hid htl
      clear hb1' hVerify hok hn2 htl g4 HIN
      rcases hj with ⟨k, v1, v2⟩ | ⟨m, ec, hm, v1, v2, v3⟩
      · rw [v1] at HV1
        have HV2 := Lib.hid v2
        clear v1 v2
        go_wp2_with fail
        refine HV1.out.mono ?_
        rintro e w2 ⟨rfl, hb2⟩
        have hbw2 := HB1.out.trans (hb2.mono hs1)
        have HB2 := Lib.hid hbw2
        have HC := HVER.out w2 base _ ahead LA lc (L.take a) hbw2 hba1 hba2 (H2P.out w2 hbw2) (by have := HN2.out; omega) ((HLW.out w2 hbw2).take a) (by have := HTL.out; omega) (fun r hr => HOK.out r (List.mem_of_mem_take hr))
        rw [HTL.out, HV2.out] at HC
        have HC := Lib.hid HC
        clear hb2 hbw2 HV1
        go_wp2_with fail
        refine HC.out.mono ?_
        rintro e w3 ⟨rfl, hb3⟩
        have HB3 := Lib.hid (HB2.out.trans (hb3.mono (by have := HB2.out.size; omega)))
        clear hb3 HC
        go_wp2_with fail
        go_ret
        exact ⟨rfl, HB3.out⟩
      · rw [v1] at HV1
        have HV2 := Lib.hid v2
        have HV3 := Lib.hid v3
        clear v1 v2 v3
        go_wp2_with fail
        refine HV1.out.mono ?_
        rintro e w2 ⟨rfl, hb2⟩
        have hbw2 := HB1.out.trans (hb2.mono hs1)
        have HB2 := Lib.hid hbw2
        have HC := HVER.out w2 base _ ahead LA lc (L.take a) hbw2 hba1 hba2 (H2P.out w2 hbw2) (by have := HN2.out; omega) ((HLW.out w2 hbw2).take a) (by have := HTL.out; omega) (fun r hr => HOK.out r (List.mem_of_mem_take hr))
        rw [HTL.out, HV2.out] at HC
        have HC := Lib.hid HC
        clear hb2 hbw2 HV1
        go_wp2_with fail
        refine HC.out.mono ?_
        rintro e w3 ⟨rfl, hb3⟩
        have hbw3 := HB2.out.trans (hb3.mono (by have := HB2.out.size; omega))
        have HB3 := Lib.hid hbw3
        by_cases ha0 : a = 0
        · subst ha0
          have hv3 := HV3.out
          rw [List.take_zero, List.drop_zero, Nat.sub_zero, show lastSeq base [] = base from rfl, show lastTag ahead [] = ahead from rfl] at hv3
          have HC3 := HVER.out w3 base _ ahead LA lc L hbw3 hba1 hba2 (H2P.out w3 hbw3) (by have := HN2.out; omega) (HLW.out w3 hbw3) g3 HOK.out
          rw [hv3] at HC3
          have HC3 := Lib.hid HC3
          clear hb3 HC hv3
          go_wp2_with fail
          refine HC3.out.mono ?_
          rintro e w4 ⟨rfl, hb4⟩
          have HB4 := Lib.hid (HB3.out.trans (hb4.mono (by have := HB3.out.size; omega)))
          clear hb4 HC3
          go_wp2_with fail
          go_ret
          exact ⟨rfl, HB4.out⟩
        · have hp : a - 1 < L.length := by omega
          obtain ⟨lb, lo, hLA, hlR, hlc⟩ := (HL.out.keep fun k hk => hbw3.block k hk) (by omega)
          obtain ⟨c0, _, v, c2', hpt⟩ := hlc (a - 1) hp
          obtain ⟨tA, tn, tc, rfl⟩ : ∃ A n c, v = .slice A n c := by obtain ⟨A, n, c, h, _⟩ := hpt; exact ⟨A, n, c, h⟩
          have hlt := last_take base ahead L (a - 1) hp
          have hb0 := HOK.out L[a - 1] (List.getElem_mem hp)
          generalize L[a - 1] = r at c0 hpt hlt hb0
          rw [show a - 1 + 1 = a by omega] at hlt
          have HLT := Lib.hid hlt
          have HPT := Lib.hid hpt
          have e1 : decide ((0 : Int) < (a : Int)) = true := by simp; omega
          have k1 : (0 : Int) ≤ (a : Int) - 1 := by omega
          have k2 : (a : Int) - 1 < (L.length : Int) := by omega
          have hdr := (HLW.out w3 hbw3).drop (k := a) hLc.1
          rw [hLA] at hdr
          have HDR := Lib.hid hdr
          have HC3 : Hid (∀ VA vc, Recs w3 (· < w3.heap.size) VA (L.drop a) → Calls Try.prog 30 #[.slice A n c, .int .i64 r.seq, .slice tA tn tc, .slice VA (L.length - a) vc] w3 fun e w' => e = .returned (.tuple #[.int .i64 m, .int .i64 ec]) ∧ Below w3.heap.size w3 w') := Lib.hid fun VA vc hVA => by
            have hv3 := HV3.out
            rw [HLT.out.1, HLT.out.2] at hv3
            have hdl : (L.drop a).length = L.length - a := List.length_drop
            have h := HVER.out w3 r.seq (.slice tA tn tc) r.tag VA vc (L.drop a) hbw3 hb0.1 hb0.2.1 (HPT.out.mono fun k hk => by have := hbw3.size; omega) hb0.2.2.2 hVA (by omega) (fun x hx => HOK.out x (List.mem_of_mem_drop hx))
            rw [hdl, hv3] at h
            exact h
          clear hb3 HC hlc hlt hpt hdr
          subst hLA
          have hs3 := hbw3.size
          go_wp2_with fail
          all_goals
            refine (HC3.out _ _ ?_).mono ?_
            · first
                | (have h := HDR.out; rw [if_neg (by assumption), Option.map_some, add_plain] at h; exact h)
                | (intro hn; exfalso; simp at hn; omega)
            rintro e w4 ⟨rfl, hb4⟩
            have HB4 := Lib.hid (HB3.out.trans (hb4.mono hs3))
            clear hb4 HC3
            go_wp2_with fail
            go_ret
            exact ⟨rfl, HB4.out⟩
  · go_enter Try.func10, Try.ntmps10
    go_wp2_with fail
    refine hsm.out.mono ?_
    rintro e w1 ⟨rfl, hb1'⟩
    have HB1 := Lib.hid hb1'
    have HF := Lib.hid (hfew.out w1 hb1')
    clear hb1' hsm hfew
    go_wp2_with fail
    refine HF.out.mono ?_
    rintro e w1 ⟨b, rfl, rfl, _⟩
    clear HF
    cases b
    · go_wp2_with fail
      go_ret
      exact ⟨rfl, HB1.out⟩
    · by_cases h0 : at_ < 0
      · have e1 : decide (at_ < 0) = true := by simp; omega
        go_wp2_with fail
        go_ret
        exact ⟨rfl, HB1.out⟩
      · have e1 : decide (at_ < 0) = false := by simp; omega
        have e2 : decide ((L.length : Int) < at_) = true := by simp; omega
        clear hin
        go_wp2_with fail
        go_ret
        exact ⟨rfl, HB1.out⟩
end Go.Proofs.Ytbjlmodabiadfaa
