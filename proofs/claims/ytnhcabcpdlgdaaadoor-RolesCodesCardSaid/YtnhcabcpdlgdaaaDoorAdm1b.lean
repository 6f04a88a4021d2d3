/- THE WALK of roles.bare. -/
import Derived.Test.YtnhcabcpdlgdaaaDoorAdm1
namespace Go.Proofs.YtnhcabcpdlgdaaaDoor
open Go.RowKit

theorem below3 (w : World) (a b c : Obj) : Below w.heap.size w (((w.alloc a).alloc b).alloc c) := (((Below.refl _ _).alloc (Nat.le_refl _) _).alloc (by simp) _).alloc (by simp; omega) _
set_option maxRecDepth 100000 in
set_option maxHeartbeats 4000000 in
theorem bare_4 (r t n : Int) (s : ByteArray) (p q u v : Int) (w : World) : Calls Tryd.prog 51 #[.agg #[.int .i64 r, .int .i64 4, .int .i64 t, .int .i64 n, .string s, .int .i64 p, .int .i64 q, .int .i64 u, .int .i64 v]] w
    fun e w' => e = .returned (.agg #[.int .i64 r, .int .i64 4, .int .i64 t, .int .i64 n, .string s, .int .i64 0, .int .i64 0, .int .i64 0, .int .i64 0]) ∧ Below w.heap.size w w' := by
  go_enter Tryd.func51, Tryd.ntmps51
  go_wp2_with fail
  go_region
  go_wp2_with fail
  refine bodyPost_ret (v := .agg #[.int .i64 r, .int .i64 4, .int .i64 t, .int .i64 n, .string s, .int .i64 0, .int .i64 0, .int .i64 0, .int .i64 0]) (by simp [results, Tryd.results51, go_sem]; done) rfl ⟨rfl, ?_⟩
  exact by first | exact below3 _ _ _ _ | exact (below3 _ _ _ _).drew | exact ((((below3 _ _ _ _).setCell (by simp) _).setCell (by simp) _)).drew | skip
set_option maxRecDepth 100000 in
set_option maxHeartbeats 4000000 in
theorem bare_5 (r t n : Int) (s : ByteArray) (p q u v : Int) (w : World) : Calls Tryd.prog 51 #[.agg #[.int .i64 r, .int .i64 5, .int .i64 t, .int .i64 n, .string s, .int .i64 p, .int .i64 q, .int .i64 u, .int .i64 v]] w
    fun e w' => e = .returned (.agg #[.int .i64 r, .int .i64 5, .int .i64 t, .int .i64 0, .string s, .int .i64 0, .int .i64 0, .int .i64 0, .int .i64 0]) ∧ Below w.heap.size w w' := by
  go_enter Tryd.func51, Tryd.ntmps51
  go_wp2_with fail
  refine bodyPost_ret (v := .agg #[.int .i64 r, .int .i64 5, .int .i64 t, .int .i64 0, .string s, .int .i64 0, .int .i64 0, .int .i64 0, .int .i64 0]) (by simp [results, Tryd.results51, go_sem]; done) rfl ⟨rfl, ?_⟩
  exact below3 _ _ _ _
set_option maxRecDepth 100000 in
set_option maxHeartbeats 4000000 in
theorem bare_8 (r t n : Int) (s : ByteArray) (p q u v : Int) (w : World) : Calls Tryd.prog 51 #[.agg #[.int .i64 r, .int .i64 8, .int .i64 t, .int .i64 n, .string s, .int .i64 p, .int .i64 q, .int .i64 u, .int .i64 v]] w
    fun e w' => e = .returned (.agg #[.int .i64 r, .int .i64 8, .int .i64 t, .int .i64 0, .string s, .int .i64 0, .int .i64 0, .int .i64 0, .int .i64 0]) ∧ Below w.heap.size w w' := by
  go_enter Tryd.func51, Tryd.ntmps51
  go_wp2_with fail
  refine bodyPost_ret (v := .agg #[.int .i64 r, .int .i64 8, .int .i64 t, .int .i64 0, .string s, .int .i64 0, .int .i64 0, .int .i64 0, .int .i64 0]) (by simp [results, Tryd.results51, go_sem]; done) rfl ⟨rfl, ?_⟩
  exact below3 _ _ _ _
set_option maxRecDepth 100000 in
set_option maxHeartbeats 4000000 in
theorem bare_3 (r t n : Int) (s : ByteArray) (p q u v : Int) (w : World) : Calls Tryd.prog 51 #[.agg #[.int .i64 r, .int .i64 3, .int .i64 t, .int .i64 n, .string s, .int .i64 p, .int .i64 q, .int .i64 u, .int .i64 v]] w
    fun e w' => e = .returned (.agg #[.int .i64 r, .int .i64 3, .int .i64 t, .int .i64 0, .string ⟨#[]⟩, .int .i64 p, .int .i64 q, .int .i64 u, .int .i64 v]) ∧ Below w.heap.size w w' := by
  go_enter Tryd.func51, Tryd.ntmps51
  go_wp2_with fail
  refine bodyPost_ret (v := .agg #[.int .i64 r, .int .i64 3, .int .i64 t, .int .i64 0, .string ⟨#[]⟩, .int .i64 p, .int .i64 q, .int .i64 u, .int .i64 v]) (by simp [results, Tryd.results51, go_sem]; done) rfl ⟨rfl, ?_⟩
  exact below3 _ _ _ _
set_option maxRecDepth 100000 in
set_option maxHeartbeats 4000000 in
theorem bare_0 (r o t n : Int) (s : ByteArray) (p q u v : Int) (w : World) (g4 : (o == 4) = false) (g5 : (o == 5) = false) (g8 : (o == 8) = false) (g3 : (o == 3) = false) : Calls Tryd.prog 51 #[.agg #[.int .i64 r, .int .i64 o, .int .i64 t, .int .i64 n, .string s, .int .i64 p, .int .i64 q, .int .i64 u, .int .i64 v]] w
    fun e w' => e = .returned (.agg #[.int .i64 r, .int .i64 o, .int .i64 t, .int .i64 0, .string ⟨#[]⟩, .int .i64 0, .int .i64 0, .int .i64 0, .int .i64 0]) ∧ Below w.heap.size w w' := by
  go_enter Tryd.func51, Tryd.ntmps51
  go_wp2_with fail
  refine bodyPost_ret (v := .agg #[.int .i64 r, .int .i64 o, .int .i64 t, .int .i64 0, .string ⟨#[]⟩, .int .i64 0, .int .i64 0, .int .i64 0, .int .i64 0]) (by simp [results, Tryd.results51, go_sem]; done) rfl ⟨rfl, ?_⟩
  exact below3 _ _ _ _
theorem bare_any (a : Adm) (w : World) : Calls Tryd.prog 51 #[a.val] w fun e w' => e = .returned a.bare.val ∧ Below w.heap.size w w' := by
  obtain ⟨r, o, t, n, s, p, q, u, v⟩ := a
  by_cases h4 : o = 4
  · subst h4; exact bare_4 r t n s p q u v w
  by_cases h5 : o = 5
  · subst h5; exact bare_5 r t n s p q u v w
  by_cases h8 : o = 8
  · subst h8; exact bare_8 r t n s p q u v w
  by_cases h3 : o = 3
  · subst h3; exact bare_3 r t n s p q u v w
  · have hb : (Adm.mk r o t n s p q u v).bare = ⟨r, o, t, 0, ⟨#[]⟩, 0, 0, 0, 0⟩ := by
      unfold Adm.bare
      simp only
      rw [if_neg h4, if_neg (by omega), if_neg h3]
    rw [hb]
    exact bare_0 r o t n s p q u v w (by simp; exact h4) (by simp; exact h5) (by simp; exact h8) (by simp; exact h3)
end Go.Proofs.YtnhcabcpdlgdaaaDoor
