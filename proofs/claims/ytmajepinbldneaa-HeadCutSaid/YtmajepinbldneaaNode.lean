/- The walks of node's functions. -/
import Derived.Test.YtmajepinbldneaaNodeP
import Derived.Test.YtmajepinbldneaaProg
import Derived.Test.YtmajepinbldneaaLen
namespace Go.Proofs.Ytmajepinbldneaa
set_option linter.unusedVariables false
set_option linter.unusedSimpArgs false
open Go.RowKit
attribute [local go_sem ↓] Go.wp_at_zero Go.wp_at_succ
theorem depth_any (n : Int) (w : World) (hn : U n) : Calls Try.prog 104 #[.int .u64 n] w fun e w' => e = .returned (.int .i64 (dep n)) ∧ w = w' := by
  have hb := bitLen_le n.toNat
  go_enter Try.func104, Try.ntmps104
  go_wp2_with (go_at_call 157; refine (len64 _ _ hn).mono ?_; rintro e w' ⟨rfl, rfl⟩)
  go_ret
  exact ⟨rfl, rfl⟩
theorem high_any (h : Int) (w : World) : Calls Try.prog 103 #[.int .i64 h] w fun e w' => e = .returned (.bool (isHigh h)) ∧ w = w' := by
  go_enter Try.func103, Try.ntmps103
  go_wp2
  all_goals go_ret
  all_goals exact ⟨by simp_all [isHigh] <;> omega, rfl⟩
theorem nodeCheck_any (h n : Int) (w : World) (hn : U n) : Calls Try.prog 47 #[.int .i64 h, .int .u64 n] w fun e w' => e = .returned (.int .i64 (nodeCheck h n)) ∧ w = w' := by
  go_enter Try.func47, Try.ntmps47
  go_wp2_with (first | (go_at_call 103; refine (high_any _ _).mono ?_; rintro e w' ⟨rfl, rfl⟩) | (go_at_call 104; refine (depth_any _ _ hn).mono ?_; rintro e w' ⟨rfl, rfl⟩))
  all_goals go_ret
  all_goals exact ⟨by simp_all [nodeCheck], rfl⟩
theorem nodeBoth_any (h a b : Int) (w : World) (ha : U a) (hb : U b) : Calls Try.prog 185 #[.int .i64 h, .int .u64 a, .int .u64 b] w fun e w' => e = .returned (.int .i64 (nodeBoth h a b)) ∧ w = w' := by
  go_enter Try.func185, Try.ntmps185
  go_wp2_with (go_at_call 47; refine (nodeCheck_any _ _ _ (by assumption)).mono ?_; rintro e w' ⟨rfl, rfl⟩)
  all_goals go_ret
  all_goals exact ⟨by simp_all [nodeBoth], rfl⟩
theorem aboveB_any (a b : Int) (w : World) (ha : U a) (hb : U b) : Calls Try.prog 186 #[.int .u64 a, .int .u64 b] w fun e w' => e = .returned (.bool (aboveB a b)) ∧ w = w' := by
  have h1 := dep_hi a
  have h2 := dep_hi b
  have h3 := dep_lo a
  have h4 := dep_lo b
  go_enter Try.func186, Try.ntmps186
  go_wp2_with (go_at_call 104; refine (depth_any _ _ (by assumption)).mono ?_; rintro e w' ⟨rfl, rfl⟩)
  all_goals go_ret
  all_goals exact ⟨by simp_all [aboveB] <;> omega, rfl⟩
theorem nodeAbove_any (h a b : Int) (w : World) (ha : U a) (hb : U b) : Calls Try.prog 158 #[.int .i64 h, .int .u64 a, .int .u64 b] w fun e w' => e = .returned (.tuple #[.bool (nodeAbove h a b).1, .int .i64 (nodeAbove h a b).2]) ∧ w = w' := by
  go_enter Try.func158, Try.ntmps158
  go_wp2_with (first | (go_at_call 185; refine (nodeBoth_any _ _ _ _ ha hb).mono ?_; rintro e w' ⟨rfl, rfl⟩) | (go_at_call 186; refine (aboveB_any _ _ _ ha hb).mono ?_; rintro e w' ⟨rfl, rfl⟩))
  all_goals go_ret2
  all_goals exact ⟨by simp_all [nodeAbove], rfl⟩
theorem nodeDepth_any (h n : Int) (w : World) (hn : U n) : Calls Try.prog 180 #[.int .i64 h, .int .u64 n] w fun e w' => e = .returned (.tuple #[.int .i64 (nodeDepth h n).1, .int .i64 (nodeDepth h n).2]) ∧ w = w' := by
  go_enter Try.func180, Try.ntmps180
  go_wp2_with (first | (go_at_call 47; refine (nodeCheck_any _ _ _ hn).mono ?_; rintro e w' ⟨rfl, rfl⟩) | (go_at_call 104; refine (depth_any _ _ hn).mono ?_; rintro e w' ⟨rfl, rfl⟩))
  all_goals go_ret2
  all_goals exact ⟨by simp_all [nodeDepth], rfl⟩
end Go.Proofs.Ytmajepinbldneaa
