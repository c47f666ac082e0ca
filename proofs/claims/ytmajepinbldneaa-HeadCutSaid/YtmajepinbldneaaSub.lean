/- The walks of sub's functions, of cmp's and of layer's that head uses. -/
import Derived.Test.YtmajepinbldneaaNode
namespace Go.Proofs.Ytmajepinbldneaa
set_option linter.unusedVariables false
set_option linter.unusedSimpArgs false
open Go.RowKit
attribute [local go_sem ↓] Go.wp_at_zero Go.wp_at_succ
theorem subStep_any (h : Int) (w : World) : Calls Try.prog 131 #[.int .i64 h] w fun e w' => e = .returned (.tuple #[.int .i64 (subStep h).1, .int .i64 (subStep h).2]) ∧ w = w' := by
  have u1 : U 1 := by unfold U; omega
  by_cases hh : isHigh h = true
  · obtain ⟨h1, h2⟩ := isHigh_iff.1 hh
    have hn : (nodeCheck h 1 != 0) = false := by simp [nodeCheck, hh, dep, Lib.bitLen, Lib.bitLenAux]; omega
    go_enter Try.func131, Try.ntmps131
    go_wp2_with (go_at_call 47; refine (nodeCheck_any _ _ _ u1).mono ?_; rintro e w' ⟨rfl, rfl⟩)
    go_loop [5] (fun n => ∃ k : Int, n = .int .i64 k ∧ 1 ≤ k ∧ k ≤ 6 ∧ (k = 1 ∨ (k - 1) * (k - 1) < h)) (fun n => (6 - intOf n).toNat)
    case atStart => exact ⟨1, rfl, by omega, by omega, .inl rfl⟩
    case round =>
      obtain ⟨k, rfl, k1, k6, lo⟩ := hrel
      have q1 : 0 ≤ k * k := by have := Int.mul_le_mul k1 k1 (by omega) (by omega); omega
      have q2 : k * k ≤ 36 := by have := Int.mul_le_mul k6 k6 (by omega) (by omega); omega
      by_cases hlt : k * k < h
      · have k5 := stepN_six h2 k1 k6 hlt
        go_wp2
        go_round
        case rel => exact ⟨k + 1, rfl, by omega, by omega, .inr (by simpa using hlt)⟩
        case measure => simp [intOf]; omega
      · have := stepN_eq h2 k1 k6 lo (by omega)
        subst this
        go_wp2
        go_ret2
        exact ⟨by simp [subStep, hh], rfl⟩
  · have hn : (nodeCheck h 1 != 0) = true := by simp [nodeCheck, hh]
    go_enter Try.func131, Try.ntmps131
    go_wp2_with (go_at_call 47; refine (nodeCheck_any _ _ _ u1).mono ?_; rintro e w' ⟨rfl, rfl⟩)
    go_ret2
    exact ⟨by simp [subStep, nodeCheck, hh], rfl⟩
theorem subCheck_any (h i j : Int) (w : World) (hi : U i) (hj : U j) : Calls Try.prog 105 #[.int .i64 h, .agg #[.int .u64 i, .int .u64 j]] w fun e w' => e = .returned (.int .i64 (subCheck h ⟨i, j⟩)) ∧ Below w.heap.size w w' := by
  go_enter Try.func105, Try.ntmps105
  go_wp2_with (first | (go_at_call 47; refine (nodeCheck_any _ _ _ (by assumption)).mono ?_; rintro e w' ⟨rfl, rfl⟩) | (go_at_call 158; refine (nodeAbove_any _ _ _ _ (by assumption) (by assumption)).mono ?_; rintro e w' ⟨rfl, rfl⟩))
  all_goals go_ret
  all_goals exact ⟨by simp_all [subCheck], (by repeat (first | exact Below.refl _ _ | assumption | refine Below.drew ?_ | refine Below.drewN ?_ _ | refine Below.alloc ?_ (by first | omega | (simp; done) | (simp; omega)) _ | refine Below.setCell ?_ (by first | omega | (simp; done) | (simp; omega)) _ | refine Below.trans ?_ (Below.mono ‹Below _ _ _› (by first | omega | (simp; done) | (simp; omega)))))⟩
theorem isNaN_any (a : Int) (w : World) : Calls Try.prog 159 #[.int .u64 a] w fun e w' => e = .returned (.bool false) ∧ w = w' := by
  go_enter Try.func159, Try.ntmps159
  go_wp2_with fail
  go_ret
  exact ⟨by simp_all, rfl⟩
theorem compare_any (a b : Int) (w : World) : Calls Try.prog 108 #[.int .u64 a, .int .u64 b] w fun e w' => e = .returned (.int .i64 (cmpI a b)) ∧ w = w' := by
  go_enter Try.func108, Try.ntmps108
  go_wp2_with (go_at_call 159; refine (isNaN_any _ _).mono ?_; rintro e w' ⟨rfl, rfl⟩)
  all_goals go_ret
  all_goals exact ⟨by simp_all [cmpI]; try omega, rfl⟩
theorem or2_any (x y : Int) (w : World) (b o c : Nat) (h0 : w.cell? ⟨b, o, none⟩ = some (.int .i64 x)) (h1 : w.cell? ⟨b, o+1, none⟩ = some (.int .i64 y)) : Calls Try.prog 107 #[.slice (some ⟨b, o, none⟩) 2 c] w fun e w' => e = .returned (.int .i64 (orI x y)) ∧ w = w' := by
  go_enter Try.func107, Try.ntmps107
  go_wp2_with fail
  refine wp_loop_rounds 3 ?_
  rw [rounds_succ]
  go_wp2_with fail
  · go_ret
    exact ⟨by simp_all [orI], rfl⟩
  · rw [rounds_succ]
    go_wp2_with fail
    · go_ret
      exact ⟨by simp_all [orI], rfl⟩
    · rw [rounds_succ]
      go_wp2_with fail
      go_ret
      exact ⟨by simp_all [orI], rfl⟩
set_option maxHeartbeats 400000 in
theorem less_any (ai aj bi bj : Int) (w : World) :
    Calls Try.prog 50 #[.agg #[.int .u64 ai, .int .u64 aj], .agg #[.int .u64 bi, .int .u64 bj]] w fun e w' => e = .returned (.bool (lessB ⟨ai, aj⟩ ⟨bi, bj⟩)) ∧ Below w.heap.size w w' := by
  go_enter Try.func50, Try.ntmps50
  go_wp2
  go_region_held3 (fun w' => (∀ o, w'.cell? ⟨w.heap.size, o, none⟩ = (#[Value.int .u64 ai, .int .u64 aj])[o]?) ∧ (∀ o, w'.cell? ⟨w.heap.size+1, o, none⟩ = (#[Value.int .u64 bi, .int .u64 bj])[o]?)) (go_simp)
    (first | (go_at_call 108; refine (compare_any _ _ _).mono ?_; rintro e w' ⟨rfl, rfl⟩) | (go_at_call 107; refine (or2_any (cmpI ai bi) (cmpI aj bj) _ _ _ _ ?_ ?_).mono ?_; go_simp; go_simp; rintro e w' ⟨rfl, rfl⟩))
  all_goals go_wp2
  go_ret
  exact ⟨rfl, (by repeat (first | exact Below.refl _ _ | assumption | refine Below.drew ?_ | refine Below.drewN ?_ _ | refine Below.alloc ?_ (by first | omega | (simp; done) | (simp; omega)) _ | refine Below.setCell ?_ (by first | omega | (simp; done) | (simp; omega)) _ | refine Below.trans ?_ (Below.mono ‹Below _ _ _› (by first | omega | (simp; done) | (simp; omega)))))⟩
theorem layerCheck_any (h s : Int) (w : World) : Calls Try.prog 93 #[.int .i64 h, .int .i64 s] w fun e w' => e = .returned (.int .i64 (layerCheck h s)) ∧ w = w' := by
  have u1 : U 1 := by unfold U; omega
  go_enter Try.func93, Try.ntmps93
  go_wp2_with (go_at_call 47; refine (nodeCheck_any _ _ _ u1).mono ?_; rintro e w' ⟨rfl, rfl⟩)
  all_goals go_ret
  all_goals exact ⟨by simp_all [layerCheck] <;> omega, rfl⟩
end Go.Proofs.Ytmajepinbldneaa
