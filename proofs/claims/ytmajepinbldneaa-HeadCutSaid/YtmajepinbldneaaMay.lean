/- The walks of sub.depths, sub.Useful and layer.May. -/
import Derived.Test.YtmajepinbldneaaSub
namespace Go.Proofs.Ytmajepinbldneaa
set_option linter.unusedVariables false
set_option linter.unusedSimpArgs false
open Go.RowKit
attribute [local go_sem ↓] Go.wp_at_zero Go.wp_at_succ
theorem step_mul {h i : Int} (i0 : -1 ≤ i) (i1 : i ≤ 63) : 0 ≤ (i / stepN h + 1) * stepN h ∧ (i / stepN h + 1) * stepN h ≤ 400 := by
  have s1 := stepN_lo h
  have s6 := stepN_hi h
  have hd := Int.mul_ediv_add_emod i (stepN h)
  have m0 := Int.emod_nonneg i (show stepN h ≠ 0 by omega)
  have m1 := Int.emod_lt_of_pos i (show 0 < stepN h by omega)
  rw [Int.add_mul, Int.one_mul, Int.mul_comm]
  omega
theorem dep_pos {n : Int} (hn : U n) (h1 : 1 ≤ n) : 0 ≤ dep n := by
  have : Lib.bitLen n.toNat ≠ 0 := by
    rw [Lib.bitLen_half _ (by omega) (by have := hn.2; omega)]; omega
  unfold dep; omega
/-- 'depths', where the subset may be, and J is not 0. -/
theorem depths_any (h i j : Int) (w : World) (hi : U i) (hj : U j) (hc : nodeCheck h i = 0) (hj0 : j ≠ 0) (hcj : nodeCheck h j = 0) :
    Calls Try.prog 148 #[.int .i64 h, .agg #[.int .u64 i, .int .u64 j]] w fun e w' => e = .returned (.tuple #[.int .i64 (dep i), .int .i64 (dep j), .int .i64 (nextN h (dep i)), .bool (specB h (dep i)), .int .i64 0]) ∧ Below w.heap.size w w' := by
  obtain ⟨h1, h2, n1, n2⟩ := nodeCheck_zero.1 hc
  have hh : isHigh h = true := isHigh_iff.2 ⟨h1, h2⟩
  have CS : ∀ w, Calls Try.prog 131 #[.int .i64 h] w fun e w' => e = .returned (.tuple #[.int .i64 (stepN h), .int .i64 0]) ∧ w = w' := fun w => by
    have := subStep_any h w
    simpa only [subStep, hh, if_true] using this
  have CI : ∀ w, Calls Try.prog 180 #[.int .i64 h, .int .u64 i] w fun e w' => e = .returned (.tuple #[.int .i64 (dep i), .int .i64 0]) ∧ w = w' := fun w => by
    have := nodeDepth_any h i w hi
    simpa only [nodeDepth, hc, if_true] using this
  have s1 := stepN_lo h
  have s6 := stepN_hi h
  have i0 := dep_lo i
  have i1 := dep_hi i
  have i2 := dep_pos hi n1
  have sm := step_mul (h := h) i0 i1
  have hq0 := Int.ediv_nonneg i2 (show 0 ≤ stepN h by omega)
  have hq1 := Int.ediv_le_self (stepN h) i2
  have HS := Lib.hid CS
  have HI := Lib.hid CI
  have F1 : Hid (nextN h (dep i) = min ((dep i / stepN h + 1) * stepN h) h) := rfl
  have F2 : Hid (specB h (dep i) = ((dep i % stepN h == 0) || (dep i == h))) := rfl
  have CJ : ∀ w, Calls Try.prog 180 #[.int .i64 h, .int .u64 j] w fun e w' => e = .returned (.tuple #[.int .i64 (dep j), .int .i64 0]) ∧ w = w' := fun w => by
    have := nodeDepth_any h j w hj
    simpa only [nodeDepth, hcj, if_true] using this
  have HJ := Lib.hid CJ
  clear CS CI hc hcj hi hj CJ
  cases hg : (dep i % stepN h == 0)
  all_goals
    go_enter Try.func148, Try.ntmps148
    go_wp2_with (first | (go_at_call 131; refine (HS.out _).mono ?_; rintro e w' ⟨rfl, rfl⟩) | (go_at_call_of 180 (Value.int IntKind.u64 i); refine (HI.out _).mono ?_; rintro e w' ⟨rfl, rfl⟩) | (go_at_call_of 180 (Value.int IntKind.u64 j); refine (HJ.out _).mono ?_; rintro e w' ⟨rfl, rfl⟩))
    go_quiet (fail)
    go_wp2
    (try simp only [Exit.inBlock, Exit.then]); refine bodyPost_ret (results_tmp5 rfl _ _ _) rfl ?_
    exact ⟨by rw [F1.out, F2.out]; simp_all, (by repeat (first | exact Below.refl _ _ | assumption | refine Below.drew ?_ | refine Below.drewN ?_ _ | refine Below.alloc ?_ (by first | omega | (simp; done) | (simp; omega)) _ | refine Below.setCell ?_ (by first | omega | (simp; done) | (simp; omega)) _ | refine Below.trans ?_ (Below.mono ‹Below _ _ _› (by first | omega | (simp; done) | (simp; omega)))))⟩
theorem subCheck_parts {h : Int} {s : Sub} (hc : subCheck h s = 0) : nodeCheck h s.i = 0 ∧ (s.j = 0 ∨ nodeCheck h s.j = 0) := by
  unfold subCheck at hc
  split at hc
  · rename_i h0; exact ⟨hc, .inl h0⟩
  · split at hc
    · cases hc
    · rename_i h0
      have : (nodeAbove h s.i s.j).2 = 0 := by
        by_cases hx : (nodeAbove h s.i s.j).2 = 0
        · exact hx
        · exact absurd (.inl hx) h0
      unfold nodeAbove at this
      split at this
      · rename_i hb
        unfold nodeBoth at hb
        split at hb
        · rename_i hb2; exact ⟨hb2.1, .inr hb2.2⟩
        · cases hb
      · rename_i hb; exact absurd this hb
theorem subUseful_any (h i j : Int) (w : World) (hi : U i) (hj : U j) : Calls Try.prog 106 #[.int .i64 h, .agg #[.int .u64 i, .int .u64 j]] w fun e w' => e = .returned (.tuple #[.bool (subUseful h ⟨i, j⟩).1, .int .i64 (subUseful h ⟨i, j⟩).2]) ∧ Below w.heap.size w w' := by
  by_cases hc : subCheck h ⟨i, j⟩ = 0
  · obtain ⟨c1, c2⟩ := subCheck_parts hc
    have CK : ∀ w, Calls Try.prog 105 #[.int .i64 h, .agg #[.int .u64 i, .int .u64 j]] w fun e w' => e = .returned (.int .i64 0) ∧ Below w.heap.size w w' := fun w => by
      have := subCheck_any h i j w hi hj
      rwa [hc] at this
    have HK := Lib.hid CK
    have HC := Lib.hid hc
    by_cases hj0 : j = 0
    · subst hj0
      clear CK c1 c2 hi hj hc
      go_enter Try.func106, Try.ntmps106
      go_wp2_with (first | (go_at_call 105; refine (HK.out _).mono ?_; rintro e w1 ⟨rfl, hb1⟩; obtain ⟨hc1, hf1, hz1⟩ := cells_upto (B := w.heap.size + 1) hb1 (by first | omega | (simp; done) | (simp; omega))))
      go_ret2
      exact ⟨by simp [subUseful, HC.out], (by repeat (first | exact Below.refl _ _ | assumption | refine Below.drew ?_ | refine Below.drewN ?_ _ | refine Below.alloc ?_ (by first | omega | (simp; done) | (simp; omega)) _ | refine Below.setCell ?_ (by first | omega | (simp; done) | (simp; omega)) _ | refine Below.trans ?_ (Below.mono ‹Below _ _ _› (by first | omega | (simp; done) | (simp; omega)))))⟩
    · have CD : ∀ w, Calls Try.prog 148 #[.int .i64 h, .agg #[.int .u64 i, .int .u64 j]] w fun e w' => e = .returned (.tuple #[.int .i64 (dep i), .int .i64 (dep j), .int .i64 (nextN h (dep i)), .bool (specB h (dep i)), .int .i64 0]) ∧ Below w.heap.size w w' := fun w => depths_any h i j w hi hj c1 hj0 (c2.resolve_left hj0)
      have HD := Lib.hid CD
      have hjb : (j == 0) = false := by simp [hj0]
      clear CK CD c1 c2 hi hj hc
      have H0 := Lib.hid hj0
      clear hj0
      go_enter Try.func106, Try.ntmps106
      go_wp2_with (first | (go_at_call 105; refine (HK.out _).mono ?_; rintro e w1 ⟨rfl, hb1⟩; obtain ⟨hc1, hf1, hz1⟩ := cells_upto (B := w.heap.size + 1) hb1 (by first | omega | (simp; done) | (simp; omega))) | (go_at_call 148; refine (HD.out _).mono ?_; rintro e w2 ⟨rfl, hb2⟩; obtain ⟨hc2, hf2, hz2⟩ := cells_upto (B := w.heap.size + 1) hb2 (by first | omega | (simp; done) | (simp; omega))))
      all_goals go_ret2
      all_goals exact ⟨by simp_all [subUseful, HC.out, H0.out], (by repeat (first | exact Below.refl _ _ | assumption | refine Below.drew ?_ | refine Below.drewN ?_ _ | refine Below.alloc ?_ (by first | omega | (simp; done) | (simp; omega)) _ | refine Below.setCell ?_ (by first | omega | (simp; done) | (simp; omega)) _ | refine Below.trans ?_ (Below.mono ‹Below _ _ _› (by first | omega | (simp; done) | (simp; omega)))))⟩
  · have CK : ∀ w, Calls Try.prog 105 #[.int .i64 h, .agg #[.int .u64 i, .int .u64 j]] w fun e w' => e = .returned (.int .i64 (subCheck h ⟨i, j⟩)) ∧ Below w.heap.size w w' := fun w => subCheck_any h i j w hi hj
    have HK := Lib.hid CK
    have hcb : (subCheck h ⟨i, j⟩ != 0) = true := by simp [hc]
    clear CK hi hj
    go_enter Try.func106, Try.ntmps106
    go_wp2_with (first | (go_at_call 105; refine (HK.out _).mono ?_; rintro e w1 ⟨rfl, hb1⟩; obtain ⟨hc1, hf1, hz1⟩ := cells_upto (B := w.heap.size + 1) hb1 (by first | omega | (simp; done) | (simp; omega))))
    go_ret2
    exact ⟨by simp [subUseful, hc], (by repeat (first | exact Below.refl _ _ | assumption | refine Below.drew ?_ | refine Below.drewN ?_ _ | refine Below.alloc ?_ (by first | omega | (simp; done) | (simp; omega)) _ | refine Below.setCell ?_ (by first | omega | (simp; done) | (simp; omega)) _ | refine Below.trans ?_ (Below.mono ‹Below _ _ _› (by first | omega | (simp; done) | (simp; omega)))))⟩
theorem layerMay_any (h s i j : Int) (w : World) (hi : U i) (hj : U j) : Calls Try.prog 49 #[.int .i64 h, .int .i64 s, .agg #[.int .u64 i, .int .u64 j]] w fun e w' => e = .returned (.tuple #[.bool (layerMay h s ⟨i, j⟩).1, .int .i64 (layerMay h s ⟨i, j⟩).2]) ∧ Below w.heap.size w w' := by
  go_enter Try.func49, Try.ntmps49
  go_wp2_with (first | (go_at_call 93; refine (layerCheck_any _ _ _).mono ?_; rintro e w' ⟨rfl, rfl⟩) | (go_at_call 105; refine (subCheck_any _ _ _ _ hi hj).mono ?_; rintro e w1 ⟨rfl, hb1⟩; obtain ⟨hc1, hf1, hz1⟩ := cells_upto (B := w.heap.size + 1) hb1 (by first | omega | (simp; done) | (simp; omega))) | (go_at_call 106; refine (subUseful_any _ _ _ _ hi hj).mono ?_; rintro e w2 ⟨rfl, hb2⟩; obtain ⟨hc2, hf2, hz2⟩ := cells_upto (B := w.heap.size + 1) hb2 (by first | omega | (simp; done) | (simp; omega))))
  all_goals go_ret2
  all_goals exact ⟨by simp_all [layerMay], (by repeat (first | exact Below.refl _ _ | assumption | refine Below.drew ?_ | refine Below.drewN ?_ _ | refine Below.alloc ?_ (by first | omega | (simp; done) | (simp; omega)) _ | refine Below.setCell ?_ (by first | omega | (simp; done) | (simp; omega)) _ | refine Below.trans ?_ (Below.mono ‹Below _ _ _› (by first | omega | (simp; done) | (simp; omega)))))⟩
theorem layerMay_anyS (h s : Int) (a : Sub) (w : World) (ha : a.ok) : Calls Try.prog 49 #[.int .i64 h, .int .i64 s, .agg #[.int .u64 a.i, .int .u64 a.j]] w fun e w' => e = .returned (.tuple #[.bool (layerMay h s a).1, .int .i64 (layerMay h s a).2]) ∧ Below w.heap.size w w' := layerMay_any h s a.i a.j w ha.1 ha.2
theorem subCheck_anyS (h : Int) (a : Sub) (w : World) (ha : a.ok) : Calls Try.prog 105 #[.int .i64 h, .agg #[.int .u64 a.i, .int .u64 a.j]] w fun e w' => e = .returned (.int .i64 (subCheck h a)) ∧ Below w.heap.size w w' := subCheck_any h a.i a.j w ha.1 ha.2
theorem less_anyS (a b : Sub) (w : World) : Calls Try.prog 50 #[.agg #[.int .u64 a.i, .int .u64 a.j], .agg #[.int .u64 b.i, .int .u64 b.j]] w fun e w' => e = .returned (.bool (lessB a b)) ∧ Below w.heap.size w w' := less_any a.i a.j b.i b.j w
end Go.Proofs.Ytmajepinbldneaa
