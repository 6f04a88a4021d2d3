/- THE WALKS of roles.Right and of the reference's May, Right. -/
import Derived.Test.YtnhcabcpdlgdaaaDoorAdm1b
import Derived.Laws.StructEq
import Derived.Deep.RegionHeld3
namespace Go.Proofs.YtnhcabcpdlgdaaaDoor
open Go.RowKit

def Adm.same (a b : Adm) : Bool := a.role == b.role && (a.op == b.op && (a.ten == b.ten && (a.num == b.num && (a.text.toList == b.text.toList && (a.ticks == b.ticks && (a.times == b.times && (a.sum == b.sum && a.once == b.once)))))))
theorem toList_inj {a b : ByteArray} (h : a.toList = b.toList) : a = b := by
  rw [ByteArray.toList_eq, ByteArray.toList_eq] at h
  obtain ⟨⟨x⟩⟩ := a
  obtain ⟨⟨y⟩⟩ := b
  have : x = y := h
  rw [this]
theorem same_iff {a b : Adm} : a.same b = true ↔ a = b := by
  obtain ⟨r, o, t, n, s, p, q, u, v⟩ := a
  obtain ⟨r', o', t', n', s', p', q', u', v'⟩ := b
  unfold Adm.same
  simp only [Bool.and_eq_true, beq_iff_eq, Adm.mk.injEq]
  constructor
  · rintro ⟨h1, h2, h3, h4, h5, h6, h7, h8, h9⟩
    exact ⟨h1, h2, h3, h4, toList_inj h5, h6, h7, h8, h9⟩
  · rintro ⟨h1, h2, h3, h4, h5, h6, h7, h8, h9⟩
    exact ⟨h1, h2, h3, h4, by rw [h5], h6, h7, h8, h9⟩
theorem eqRule (a b c d a' b' c' d' : Int) (w : World) (n : Nat) : (Op.equalIn (n + 1 + 1) 36 (.agg #[.int .i64 a, .int .i64 b, .int .i64 c, .int .i64 d]) (.agg #[.int .i64 a', .int .i64 b', .int .i64 c', .int .i64 d'])).run Tryd.prog w = .ok (a == a' && (b == b' && (c == c' && d == d'))) w := by
  have u3 := Tryd.underlying3
  have hS : Tryd.prog.underlying 36 = some (.struct (Tryd.prog.fieldsOf 36)) := by kernel_rfl
  rw [run_equalIn_agg w _ 36 _ _ hS (by kernel_rfl)]
  simp only [Program.fieldsOf, Tryd.underlying36]
  go_simp
  by_cases h1 : a = a' <;> by_cases h2 : b = b' <;> by_cases h3 : c = c' <;> by_cases h4 : d = d' <;> simp [h1, h2, h3, h4]
theorem eqAdm (a b : Adm) (w : World) : (Op.equalIn 10000 38 a.val b.val).run Tryd.prog w = .ok (a.same b) w := by
  obtain ⟨r, o, t, n, s, p, q, u, v⟩ := a
  obtain ⟨r', o', t', n', s', p', q', u', v'⟩ := b
  have u3 := Tryd.underlying3
  have hS : Tryd.prog.underlying 38 = some (.struct (Tryd.prog.fieldsOf 38)) := by kernel_rfl
  unfold Adm.val Adm.same
  rw [show (10000 : Nat) = 9999 + 1 from rfl, run_equalIn_agg w 9999 38 _ _ hS (by kernel_rfl)]
  simp only [Program.fieldsOf, Tryd.underlying38]
  go_simp
  by_cases h1 : r = r' <;> by_cases h2 : o = o' <;> by_cases h3 : t = t' <;> by_cases h4 : n = n' <;> by_cases h5 : s.toList = s'.toList <;> simp [h1, h2, h3, h4, h5]
  by_cases e1 : p = p' <;> by_cases e2 : q = q' <;> by_cases e3 : u = u' <;> by_cases e4 : v = v' <;> simp [e1, e2, e3, e4]
theorem eqAdmV (r o t n : Int) (s : ByteArray) (p q u v : Int) (r' o' t' n' : Int) (s' : ByteArray) (p' q' u' v' : Int) (w : World) :
    (Op.equalIn 10000 38 (.agg #[.int .i64 r, .int .i64 o, .int .i64 t, .int .i64 n, .string s, .int .i64 p, .int .i64 q, .int .i64 u, .int .i64 v]) (.agg #[.int .i64 r', .int .i64 o', .int .i64 t', .int .i64 n', .string s', .int .i64 p', .int .i64 q', .int .i64 u', .int .i64 v'])).run Tryd.prog w =
      .ok ((Adm.mk r o t n s p q u v).same (Adm.mk r' o' t' n' s' p' q' u' v')) w := eqAdm (Adm.mk r o t n s p q u v) (Adm.mk r' o' t' n' s' p' q' u' v') w

/-- What is asked lies at block g. -/
def AdmAt (w : World) (g : Nat) (a : Adm) : Prop := w.cell? ⟨g, 0, none⟩ = some (.int .i64 a.role) ∧ w.cell? ⟨g, 1, none⟩ = some (.int .i64 a.op) ∧ w.cell? ⟨g, 2, none⟩ = some (.int .i64 a.ten) ∧ w.cell? ⟨g, 3, none⟩ = some (.int .i64 a.num) ∧ w.cell? ⟨g, 4, none⟩ = some (.string a.text) ∧ w.cell? ⟨g, 5, none⟩ = some (.int .i64 a.ticks) ∧ w.cell? ⟨g, 6, none⟩ = some (.int .i64 a.times) ∧ w.cell? ⟨g, 7, none⟩ = some (.int .i64 a.sum) ∧ w.cell? ⟨g, 8, none⟩ = some (.int .i64 a.once)
theorem AdmAt.keep {w w' : World} {g : Nat} {a : Adm} (h : AdmAt w g a) (hk : ∀ j, w'.cell? ⟨g, j, none⟩ = w.cell? ⟨g, j, none⟩) : AdmAt w' g a := by
  obtain ⟨h0, h1, h2, h3, h4, h5, h6, h7, h8⟩ := h
  exact ⟨(hk _).trans h0, (hk _).trans h1, (hk _).trans h2, (hk _).trans h3, (hk _).trans h4, (hk _).trans h5, (hk _).trans h6, (hk _).trans h7, (hk _).trans h8⟩
theorem AdmAt.below {w w' : World} {g B : Nat} {a : Adm} (h : AdmAt w g a) (hb : Below B w w') (hg : g < B) : AdmAt w' g a := h.keep fun j => hb.cell (p := ⟨g, j, none⟩) hg
theorem adm_box {w w1 : World} {a : Adm} {t : TypeId} (hb : Below (w.alloc (.cells #[.int .i64 a.role, .int .i64 a.op, .int .i64 a.ten, .int .i64 a.num, .string a.text, .int .i64 a.ticks, .int .i64 a.times, .int .i64 a.sum, .int .i64 a.once] t)).heap.size (w.alloc (.cells #[.int .i64 a.role, .int .i64 a.op, .int .i64 a.ten, .int .i64 a.num, .string a.text, .int .i64 a.ticks, .int .i64 a.times, .int .i64 a.sum, .int .i64 a.once] t)) w1) :
    AdmAt w1 w.heap.size a ∧ w.heap.size < w1.heap.size ∧ Below w.heap.size w w1 := by
  refine ⟨?_, by have := hb.size; simp at this; omega, thenB ((Below.refl _ _).alloc (Nat.le_refl _) _) hb⟩
  have hk : ∀ j, w1.cell? ⟨w.heap.size, j, none⟩ = #[.int .i64 a.role, .int .i64 a.op, .int .i64 a.ten, .int .i64 a.num, .string a.text, .int .i64 a.ticks, .int .i64 a.times, .int .i64 a.sum, .int .i64 a.once][j]? := fun j => (hb.cell (p := ⟨w.heap.size, j, none⟩) (by simp)).trans (cell?_new _ _ _ _)
  exact ⟨hk 0, hk 1, hk 2, hk 3, hk 4, hk 5, hk 6, hk 7, hk 8⟩
set_option maxRecDepth 100000 in
set_option maxHeartbeats 4000000 in
theorem Right_any (a : Adm) (w : World) : Calls Tryd.prog 28 #[a.val] w fun e w' => e = .returned (.int .i64 a.err) ∧ Below w.heap.size w w' := by
  have HB := Lib.hid (fun w => bare_any a w)
  have hsame : a.same a.bare = decide a.plain := by
    rw [Bool.eq_iff_iff, same_iff, decide_eq_true_iff, ← bare_is]
    exact ⟨fun h => h.symm, fun h => h.symm⟩
  obtain ⟨b, hb⟩ : ∃ b, a.bare = b := ⟨_, rfl⟩
  rw [hb] at HB hsame
  have herr : a.err = if admMay a.role a.op = true then (if decide a.plain = true ∧ 1 ≤ a.ten ∧ a.ten ≤ 64 ∧ a.text.size ≤ 32 then 0 else 1) else 40 := by
    unfold Adm.err Adm.fine; simp only [decide_eq_true_iff]
  obtain ⟨er, her⟩ : ∃ er, a.err = er := ⟨_, rfl⟩
  rw [her] at herr ⊢
  clear hb her
  obtain ⟨mb, hmb⟩ : ∃ mb, admMay a.role a.op = mb := ⟨_, rfl⟩
  have HM := Lib.hid (fun w => May_any a.role a.op w)
  rw [hmb] at HM herr
  clear hmb
  generalize decide a.plain = pb at hsame herr
  obtain ⟨r, o, t, n, s, p, q, u, v⟩ := a
  obtain ⟨r', o', t', n', s', p', q', u', v'⟩ := b
  simp only at HM herr
  have hq := eqAdmV r o t n s p q u v r' o' t' n' s' p' q' u' v'
  rw [hsame] at hq
  clear hsame
  unfold Adm.val at HB ⊢
  simp only at HB ⊢
  have HE := Lib.hid herr
  clear herr
  go_enter Tryd.func28, Tryd.ntmps28
  go_wp2_with fail
  refine (HM.out _).mono ?_
  rintro e w1 ⟨rfl, hb1⟩
  obtain ⟨hc, hs, hbw⟩ := adm_box (a := ⟨r, o, t, n, s, p, q, u, v⟩) hb1
  have HBW := Lib.hid hbw
  have HC := Lib.hid hc
  clear hb1 hbw hc
  cases mb with
  | false =>
    go_wp2_with fail
    go_ret
    exact ⟨by rw [HE.out]; rfl, HBW.out⟩
  | true =>
    obtain ⟨c0, c1, c2, c3, c4, c5, c6, c7, c8⟩ := HC.out
    simp only at c0 c1 c2 c3 c4 c5 c6 c7 c8
    go_wp2_with fail
    go_region_held3 (fun w' => w'.cell? ⟨w.heap.size, 0, none⟩ = some (.int .i64 r) ∧ w'.cell? ⟨w.heap.size, 1, none⟩ = some (.int .i64 o) ∧ w'.cell? ⟨w.heap.size, 2, none⟩ = some (.int .i64 t) ∧ w'.cell? ⟨w.heap.size, 3, none⟩ = some (.int .i64 n) ∧ w'.cell? ⟨w.heap.size, 4, none⟩ = some (.string s) ∧ w'.cell? ⟨w.heap.size, 5, none⟩ = some (.int .i64 p) ∧ w'.cell? ⟨w.heap.size, 6, none⟩ = some (.int .i64 q) ∧ w'.cell? ⟨w.heap.size, 7, none⟩ = some (.int .i64 u) ∧ w'.cell? ⟨w.heap.size, 8, none⟩ = some (.int .i64 v))
      (go_keep)
      (first
        | (go_at_call 51; refine (HB.out _).mono ?_; rintro e w2 ⟨rfl, hb2⟩; obtain ⟨k0, k1, k2, k3, k4, k5, k6, k7, k8⟩ := (HC.out.below ((Below.refl _ _).drew) hs).below hb2 (by simp; omega); simp only at k0 k1 k2 k3 k4 k5 k6 k7 k8; have HB2 := Lib.hid hb2; clear hb2))
    clear c0 c1 c2 c3 c4 c5 c6 c7 c8 HC
    have HBF := Lib.hid (show Below w.heap.size w w2 from HBW.out.drew.trans (HB2.out.mono (by simp; exact HBW.out.size)))
    clear HB2
    cases pb with
    | false =>
      go_wp2_with fail
      go_ret
      exact ⟨by rw [HE.out]; rfl, HBF.out⟩
    | true =>
      by_cases t1 : t < 1
      · have HX := Lib.hid (show er = 1 by rw [HE.out]; simp; omega)
        go_wp2_with fail
        go_ret
        exact ⟨by rw [HX.out]; rfl, HBF.out⟩
      by_cases t2 : 64 < t
      · have HX := Lib.hid (show er = 1 by rw [HE.out]; simp; omega)
        go_wp2_with fail
        go_ret
        exact ⟨by rw [HX.out]; rfl, HBF.out⟩
      by_cases t3 : 32 < s.size
      · have HX := Lib.hid (show er = 1 by rw [HE.out]; simp; omega)
        go_wp2_with fail
        go_ret
        exact ⟨by rw [HX.out]; rfl, HBF.out⟩
      have HX := Lib.hid (show er = 0 by rw [HE.out]; simp; omega)
      go_wp2_with fail
      go_ret
      exact ⟨by rw [HX.out]; rfl, HBF.out⟩
end Go.Proofs.YtnhcabcpdlgdaaaDoor
