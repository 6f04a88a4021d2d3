/- Audit: Add, whatever the text; what is listed lies apart. -/
import Derived.Test.YtbjlmodabiadfaaHChLaw
import Derived.Test.YtbjlmodabiadfaaHAudSmall
namespace Go.Proofs.Ytbjlmodabiadfaa
open Go.RowKit

/-- What becomes of a chain that is asked to add a text. -/
def Ch.put (x : Ch) (s : ByteArray) : Ch := if s.size ≤ 200 ∧ x.end_.seq < 9223372036854775807 then x.add s else x
def PutOut (cb : Nat) (X : Nat → Prop) (x : Ch) (s : ByteArray) (w : World) (e : Ending) (w' : World) : Prop :=
  ∃ v X', e = .returned v ∧ ChainAt w' cb X' (x.put s) ∧ Grew (fun k => k = cb ∨ X k) w w' ∧ ∀ k, X' k → (X k ∨ w.heap.size ≤ k) ∧ k < w'.heap.size
theorem Good.put {key : List UInt8} {x : Ch} (h : Good key x) (s : ByteArray) : Good key (x.put s) ∧ (x.put s).end_.seq ≤ x.end_.seq + 1 := by
  unfold Ch.put
  by_cases hc : s.size ≤ 200 ∧ x.end_.seq < 9223372036854775807
  · rw [if_pos hc]
    have := h.add hc.1 hc.2
    exact ⟨this.1, by rw [this.2.1]; exact Int.le_refl _⟩
  · rw [if_neg hc]
    exact ⟨h, by omega⟩
theorem Put_any (cb : Nat) (X : Nat → Prop) (key : List UInt8) (x : Ch) (s : ByteArray) (w : World) (h : ChainAt w cb X x) (hg : Good key x) (hk : key.length ≤ 140737488351232) (hs : s.size ≤ 140737488351232) :
    Calls Try.prog 36 #[.pointer (some ⟨cb, 0, none⟩), .string s] w (PutOut cb X x s w) := by
  have he := hg.end_seq
  have hb := hg.b0
  have ht := hg.top
  by_cases hc : s.size ≤ 200 ∧ x.end_.seq < 9223372036854775807
  · refine (Add_yes cb X x s w h hc.1 (by omega) hc.2 hg.len (by rw [hg.key_]; exact hk) (Nat.le_trans hg.end_tag (by decide))).mono ?_
    rintro e w' ⟨A, c, X', rfl, _, h2, h3, h4, _⟩
    exact ⟨_, X', rfl, by unfold Ch.put; rw [if_pos hc]; exact h2, h3, fun k hk => ⟨(h4 k hk).1, (h4 k hk).2.1⟩⟩
  · refine (Add_no cb X x s w h (by omega) hs).mono ?_
    rintro e w' ⟨rfl, hb⟩
    exact ⟨_, fun k => X k ∧ k < w.heap.size, rfl, by unfold Ch.put; rw [if_neg hc]; exact h.tight.new hb, (Grew.of_new hb), fun k hk => ⟨.inl hk.1, Nat.lt_of_lt_of_le hk.2 hb.size⟩⟩
/-! ### records whose tags lie apart -/
/-- Two slices that share no memory. -/
def ApartV (u v : Value) : Prop := ∀ a n c a' n' c', u = .slice (some a) n c → v = .slice (some a') n' c' → a.block ≠ a'.block
/-- A tag in a row of its own, beside the records' row. -/
def TagRow (w : World) (base : Nat) (A : Option Addr) (v : Value) (l : List UInt8) : Prop :=
  ∃ tA tc, v = .slice tA l.length tc ∧ Row w base 1 tA l.length tc (bv l) ∧ (∀ ad, tA = some ad → ∀ ad', A = some ad' → ad.block ≠ ad'.block) ∧ l.length ≤ 140737488351232
/-- Records in a row of the call's own, their tags apart. -/
def RowRecP (w : World) (base : Nat) (A : Option Addr) (n c : Nat) (L : List Rec) : Prop :=
  ∃ vs : List Value, L.length = n ∧ vs.length = n ∧ Row w base 3 A n c (List.zipWith rcv L vs).flatten ∧ (∀ i (h : i < L.length) (h' : i < vs.length), TagRow w base A vs[i] L[i].tag) ∧ vs.Pairwise ApartV
section
variable {w w' : World} {base N : Nat} {A : Option Addr} {n c : Nat} {L : List Rec} {v : Value} {l : List UInt8}
theorem TagRow.part (h : TagRow w base A v l) : Part w (RTag (base ≤ ·) A w) v l := by
  obtain ⟨tA, tc, rfl, hr, ha, hl⟩ := h
  exact Part.of_row hr hl fun ad e => ⟨(hr.lt ad e).1, (hr.lt ad e).2, fun ad' e' => ha ad e ad' e'⟩
theorem TagRow.grew {S : Nat → Prop} (h : TagRow w base A v l) (g : Grew S w w') (hs : ∀ k, base ≤ k → k < w.heap.size → (∀ ad, A = some ad → k ≠ ad.block) → ¬ S k) : TagRow w' base A v l := by
  obtain ⟨tA, tc, rfl, hr, ha, hl⟩ := h
  exact ⟨tA, tc, rfl, hr.grew g fun ad e => hs _ (hr.lt ad e).1 (hr.lt ad e).2 (ha ad e), ha, hl⟩
theorem TagRow.new (h : TagRow w base A v l) (g : Below w.heap.size w w') : TagRow w' base A v l := h.grew (Grew.of_new (S := fun _ => False) g) fun _ _ _ _ h => h
theorem RowRecP.rec (h : RowRecP w base A n c L) : RowRec w base (base ≤ ·) A n c L := by obtain ⟨vs, h1, h2, h3, h4, _⟩ := h; exact ⟨vs, h1, h2, h3, fun i hi hi' => (h4 i hi hi').part⟩
theorem RowRecP.nil_ (w : World) (base : Nat) : RowRecP w base none 0 0 [] := ⟨[], rfl, rfl, Row.nil_ w base 3, fun i h => by simp at h, List.Pairwise.nil⟩
theorem RowRecP.new (h : RowRecP w base A n c L) (g : Below w.heap.size w w') : RowRecP w' base A n c L := by
  obtain ⟨vs, h1, h2, h3, h4, h5⟩ := h
  exact ⟨vs, h1, h2, h3.below g (Nat.le_refl _), fun i hi hi' => (h4 i hi hi').new g, h5⟩
theorem apart_new {B : Option Addr} {m c2 : Nat} (hu : TagRow w base A v l) (hN : w.heap.size ≤ N) (hB : ∀ ad, B = some ad → N ≤ ad.block) : ApartV v (.slice B m c2) := fun a n c a' n' c' e e' => by
  obtain ⟨tA, tc, e2, hr, _, _⟩ := hu
  rw [e] at e2
  injection e2 with e3 e4 e5
  injection e' with e7 _ _
  have h1 := (hr.lt a e3.symm).2
  have h2 := hB a' e7
  omega
end
/-- j records are copied, apart. -/
def CopRelP (w : World) (L : List Rec) (s3 s4 : Value) (wr : World) : Prop := ∃ (j : Nat) (A : Option Addr) (c : Nat), j ≤ L.length ∧ s4 = .int .i64 j ∧ s3 = .slice A j c ∧ RowRecP wr w.heap.size A j c (L.take j) ∧ Below w.heap.size w wr
/-- The call hands back a new row of records, apart. -/
def RecsOutP (L : List Rec) (w : World) (e : Ending) (w' : World) : Prop := ∃ A c, e = .returned (.slice A L.length c) ∧ RowRecP w' w.heap.size A L.length c L ∧ Below w.heap.size w w'
/-- A copied record, ahead of its append. -/
theorem cop_readyP {w wr w5 w2 : World} {oA : Option Addr} {i oc : Nat} {L : List Rec} {r : Rec} {A1 : Option Addr} {n1 : Nat} (hrow : RowRecP wr w.heap.size oA i oc L) (hsz : w.heap.size ≤ wr.heap.size) (hb5 : Below wr.heap.size wr w5) (hr : Row w2 w5.heap.size 1 A1 r.tag.length n1 (bv r.tag)) (hb : Below w5.heap.size w5 w2) (hl : r.tag.length ≤ 140737488351232) :
    ∃ vs : List Value, L.length = i ∧ vs.length = i ∧ Row (w2.alloc (.cells #[.int .i64 r.seq, .string r.text, .slice A1 r.tag.length n1] 51)) w.heap.size 3 oA i oc (List.zipWith rcv L vs).flatten ∧
      (∀ i (h : i < L.length) (h' : i < vs.length), TagRow (w2.alloc (.cells #[.int .i64 r.seq, .string r.text, .slice A1 r.tag.length n1] 51)) w.heap.size oA vs[i] L[i].tag) ∧
      Reads (w2.alloc (.cells #[.int .i64 r.seq, .string r.text, .slice A1 r.tag.length n1] 51)) (w2.heap.size + 1) 3 (some ⟨w2.heap.size, 0, none⟩) 1 (rcv r (.slice A1 r.tag.length n1)) ∧
      TagRow (w2.alloc (.cells #[.int .i64 r.seq, .string r.text, .slice A1 r.tag.length n1] 51)) w.heap.size oA (.slice A1 r.tag.length n1) r.tag ∧
      (vs ++ [Value.slice A1 r.tag.length n1]).Pairwise ApartV := by
  have hs5 := hb5.size
  have hbw := hb5.trans (hb.mono hs5)
  have hx : Below w2.heap.size w2 (w2.alloc (.cells #[.int .i64 r.seq, .string r.text, .slice A1 r.tag.length n1] 51)) := (Below.refl _ _).alloc (Nat.le_refl _) _
  obtain ⟨vs0, q1, q2, q3, q4, q5⟩ := hrow
  have hbx := hbw.trans (hx.mono hbw.size)
  refine ⟨vs0, q1, q2, q3.below hbx (Nat.le_refl _), fun i hi hi' => (q4 i hi hi').new hbx, Reads.lit w2 #[.int .i64 r.seq, .string r.text, .slice A1 r.tag.length n1] _ rfl, ⟨A1, n1, rfl, (hr.below hx (Nat.le_refl _)).mono (by omega), fun ad e ad' e' => by have := (hr.lt ad e).1; have := (q3.lt ad' e').2; omega, hl⟩, ?_⟩
  rw [List.pairwise_append]
  refine ⟨q5, List.pairwise_singleton _ _, fun u hu v hv => ?_⟩
  simp only [List.mem_singleton] at hv
  subst hv
  obtain ⟨j, hj, rfl⟩ := List.getElem_of_mem hu
  exact apart_new (q4 j (by omega) hj) hs5 fun ad e => (hr.lt ad e).1
theorem snocP {w w' : World} {base : Nat} {A A' : Option Addr} {n c' : Nat} {L : List Rec} {r : Rec} {v : Value} {vs : List Value} (h1 : L.length = n) (h2 : vs.length = n) (h4 : ∀ i (h : i < L.length) (h' : i < vs.length), TagRow w base A vs[i] L[i].tag)
    (hrow : Row w' base 3 A' (n + 1) c' ((List.zipWith rcv L vs).flatten ++ rcv r v)) (hg : w.grownBy w' (A.map (·.block))) (hat : A' = A ∨ ∃ ad, A' = some ad ∧ w.heap.size ≤ ad.block) (hp : TagRow w base A v r.tag) (h5 : (vs ++ [v]).Pairwise ApartV) : RowRecP w' base A' (n + 1) c' (L ++ [r]) := by
  have keep : ∀ {v : Value} {l : List UInt8}, TagRow w base A v l → TagRow w' base A' v l := fun {v l} h => by
    obtain ⟨tA, tc, e, hr, ha, hl⟩ := h.grew (Grew.of_grown (S := fun k => A.map (·.block) = some k) hg fun k e _ => e) (fun k _ _ hk e => by
      cases A with
      | none => cases e
      | some ad => simp only [Option.map_some, Option.some.injEq] at e; exact hk ad rfl e.symm)
    obtain ⟨tA2, tc2, e2, hr2, _, _⟩ := h
    refine ⟨tA, tc, e, hr, fun ad e1 ad' e' => ?_, hl⟩
    rcases hat with rfl | ⟨ad2, e3, hle⟩
    · exact ha ad e1 ad' e'
    · rw [e'] at e3
      cases e3
      rw [e2] at e
      injection e with e4 _ _
      have := (hr2.lt ad (e4.trans e1)).2
      omega
  refine ⟨vs ++ [v], by simp [h1], by simp [h2], ?_, fun i hi hi' => ?_, h5⟩
  · rw [List.zipWith_append (by omega)]
    simpa using hrow
  · by_cases e : i < L.length
    · rw [List.getElem_append_left (by omega), List.getElem_append_left e]; exact keep (h4 i e (by omega))
    · have : i = n := by simp at hi; omega
      subst this
      rw [List.getElem_append_right (by omega), List.getElem_append_right (by omega)]
      simp only [h1, h2, Nat.sub_self, List.getElem_cons_zero]
      exact keep hp
set_option maxRecDepth 100000 in
set_option maxHeartbeats 4000000 in
theorem ListP_any (cb : Nat) (X : Nat → Prop) (x : Ch) (w : World) (h : ChainAt w cb X x) (hlen : x.recs.length ≤ 1000000) (htl : ∀ r ∈ x.recs, r.tag.length ≤ 140737488351232) :
    Calls Try.prog 38 #[.pointer (some ⟨cb, 0, none⟩)] w (RecsOutP x.recs w) := by
  obtain ⟨i1, hj, hy0, hy1, hy2⟩ := info_parts rec_info
  obtain ⟨vk, vt, LA, lc, a1, a2, a3, a4, a5⟩ := h
  have c4 : w.cell? ⟨cb, 4, none⟩ = some (.slice LA x.recs.length lc) := a1.cell 4
  have hL := a4.recs
  have hRR : ∀ k, ((X k ∧ k ≠ cb) ∧ k < w.heap.size) ∨ (∃ ad, LA = some ad ∧ k = ad.block) → k < w.heap.size := fun k hk => by
    rcases hk with hk | ⟨ad, e, rfl⟩
    · exact hk.2
    · exact (a4.lt ad e).2
  generalize x.recs = L at hL c4 hlen htl
  have HL := Lib.hid hL
  have HRR := Lib.hid hRR
  have HTL := Lib.hid htl
  clear hL hRR a1 a2 a3 a4 a5 htl
  go_enter Try.func38, Try.ntmps38
  go_wp2_with fail
  go_loopw [3, 11] (fun s3 s4 wr => CopRelP w L s3 s4 wr) (fun _ i _ => L.length - (intOf i).toNat)
  case atStart => exact ⟨0, none, 0, Nat.zero_le _, rfl, rfl, RowRecP.nil_ _ _, Below.refl _ _⟩
  case round =>
    obtain ⟨i, oA, oc, hi', rfl, rfl, hrow, hbel⟩ := hrel
    have hsz := hbel.size
    by_cases hlt : i < L.length
    · obtain ⟨lb, lo, hLA, hlR, hlc⟩ := (HL.out.keep fun k hk => hbel.block k (HRR.out k hk)) (by omega)
      have hlR' := HRR.out _ hlR
      obtain ⟨d0, d1, v2, d2, hp2⟩ := hlc i hlt
      have htk : L.take (i + 1) = L.take i ++ [L[i]] := List.take_succ_eq_append_getElem hlt
      have htl := HTL.out L[i] (List.getElem_mem hlt)
      have HTK := Lib.hid htk
      obtain ⟨tA, tn, tc, hv2⟩ := hp2.form
      subst hv2
      generalize hLi : L[i] = r at d0 d1 hp2 htl
      have HLI := Lib.hid hLi
      have HROW := Lib.hid hrow
      have HBEL := Lib.hid hbel
      have HP2 := Lib.hid hp2
      clear hlc hp2 htk hrow hbel hLi hlR
      subst hLA
      have hj0 : (0 : Int) ≤ (i : Int) := by omega
      have hjl : (i : Int) < L.length := by omega
      clear c4
      go_upto_region 5 with (fail)
      refine name_world fun w5 x1 x2 x3 x4 => ?_
      have hblk : Blk w5 wr.heap.size 51 #[.int .i64 r.seq, .string r.text, .slice tA tn tc] := (by unfold Blk; rw [x1]; exact Blk.new wr _ _)
      have hb5 : Below wr.heap.size wr w5 := below_heap ((Below.refl _ _).alloc (Nat.le_refl _) _) x1 x2 x3 x4
      have k0 : w5.cell? ⟨wr.heap.size, 0, none⟩ = some (.int .i64 r.seq) := hblk.cell 0
      have k1 : w5.cell? ⟨wr.heap.size, 1, none⟩ = some (.string r.text) := hblk.cell 1
      have k2 : w5.cell? ⟨wr.heap.size, 2, none⟩ = some (.slice tA tn tc) := hblk.cell 2
      have HC := Lib.hid (copied_any r (.slice tA tn tc) _ w5 (HP2.out.keep fun k hk => hb5.block k (by have := HRR.out k hk; omega)) (fun k hk => by have := HRR.out k hk; have := hb5.size; omega))
      have HB5 := Lib.hid hb5
      clear x1 x2 x3 x4 d0 d1 d2 hblk hb5 HP2
      go_wp2_with fail
      refine HC.out.mono ?_
      rintro e w2 ⟨A1, n1, rfl, hr1, hb2⟩
      obtain ⟨vs, g1, g2, g3, g4, g5, g6, g7⟩ := cop_readyP HROW.out hsz HB5.out hr1 hb2 htl
      have hs5 := HB5.out.size
      have hs2 := hb2.size
      have HBW := Lib.hid (HBEL.out.trans ((HB5.out.trans (hb2.mono hs5)).mono hsz))
      have HG1 := Lib.hid g1
      have HG2 := Lib.hid g2
      have HG3 := Lib.hid g3
      have HG4 := Lib.hid g4
      have HG5 := Lib.hid g5
      have HG6 := Lib.hid g6
      have HG7 := Lib.hid g7
      clear g3 g4 g5 g6 g7 g1 g2 hr1 hb2 HC
      go_wp2_with (at_builtin; (refine wpList_append_row rfl (.tmp 15) (.tmp 18) rfl Try.underlying40 hj hy0 hy1 hy2 rec_cells (by decide) rfl HG3.out rfl HG5.out (rcv_one _ _ _ _) (by unfold maxLen; omega) (by omega) (by simp; omega) ?_; intro A10 c10 w10 hrow10 hgr10 hat10; have HR10 := Lib.hid (snocP (r := r) (v := .slice A1 r.tag.length n1) HG1.out HG2.out HG4.out hrow10 hgr10 hat10 HG6.out HG7.out); have HB10 := Lib.hid ((HBW.out.alloc (by omega) _).grown hgr10 (by simp; omega) (HG3.out.blocks)); clear hrow10 hgr10 hat10))
      go_roundw
      case rel =>
        have hx := HR10.out
        rw [← HLI.out, ← HTK.out] at hx
        exact ⟨i + 1, A10, c10, by omega, by go_num, rfl, hx, HB10.out⟩
      case measure => simp [intOf]; omega
    · obtain rfl : i = L.length := by omega
      have hx := hrow
      rw [List.take_length] at hx
      have HX := Lib.hid hx
      have HBEL := Lib.hid hbel
      clear hrow hbel hx
      go_wp2_with fail
      go_ret
      exact ⟨_, _, rfl, HX.out, HBEL.out⟩
end Go.Proofs.Ytbjlmodabiadfaa
