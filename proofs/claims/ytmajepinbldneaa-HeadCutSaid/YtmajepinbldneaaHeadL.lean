/- head.Length, and law16's live. -/
import Derived.Test.YtmajepinbldneaaHeadB
namespace Go.Proofs.Ytmajepinbldneaa
set_option linter.unusedVariables false
set_option linter.unusedSimpArgs false
open Go.RowKit
attribute [local go_sem ↓] Go.wp_at_zero Go.wp_at_succ
def headLength (n : Int) : Int × Int := if n < 0 ∨ 32768 < n then (0, 1) else (47 + 48 * n, 0)
theorem headLength_any (n : Int) (w : World) : Calls Try.prog 18 #[.int .i64 n] w fun e w' => e = .returned (.tuple #[.int .i64 (headLength n).1, .int .i64 (headLength n).2]) ∧ w = w' := by
  by_cases h : n < 0 ∨ 32768 < n
  · rcases h with h | h
    · go_enter Try.func18, Try.ntmps18
      go_wp2
      go_ret2
      exact ⟨by simp [headLength, h], rfl⟩
    · have h0 : ¬ n < 0 := by omega
      go_enter Try.func18, Try.ntmps18
      go_wp2
      go_ret2
      exact ⟨by simp [headLength, h], rfl⟩
  · have h0 : 0 ≤ n := by omega
    have h1 : n ≤ 32768 := by omega
    have F : Hid (headLength n = (15 + 48 * n + 32, 0)) := by unfold Hid headLength; rw [if_neg h]; simp; omega
    clear h
    go_enter Try.func18, Try.ntmps18
    go_wp2
    go_ret2
    exact ⟨by rw [F.out]; rfl, rfl⟩
def liveHdr : Hdr := ⟨2, 3, 1, [], ⟨false, true, 0, 0, 0, 0, 0, 0, 0⟩⟩
theorem liveHdr_ok : headCheck liveHdr = 0 := by decide +kernel
theorem liveHdr_len : (octH liveHdr).length = 47 := by decide +kernel
theorem liveHdr_0 : (octH liveHdr)[0]? = some 1 := by decide +kernel
theorem liveHdr_1 : (octH liveHdr)[1]? = some 2 := by decide +kernel
set_option maxHeartbeats 1000000 in
theorem live16_any (w : World) : Calls Try.prog 15 #[] w fun e w' => e = .returned (.bool true) ∧ Below w.heap.size w w' := by
  have CB : Hid (∀ w, Calls Try.prog 17 #[.agg #[.int .i64 2, .int .i64 3, .int .i64 1, .slice none 0 0, .bool false, .bool true, .int .u64 0, .int .u64 0, .int .u64 0, .int .u64 0, .int .u64 0, .int .u64 0, .int .i64 0]] w
      fun e w' => ∃ A c, e = .returned (.tuple #[.slice A 47 c, .int .i64 0]) ∧ Sl byteCells 1 w' A (octH liveHdr) ∧ Below w.heap.size w w') := fun w => by
    refine (headBytes_good 2 3 1 none 0 [] ⟨false, true, 0, 0, 0, 0, 0, 0, 0⟩ w (.inl rfl) (by simp) (by simp) (by omega) liveHdr_ok).mono ?_
    rintro e w' ⟨v, rfl, ho, hb⟩
    obtain ⟨A, c, rfl, _, hs⟩ := ho.sl encByte
    exact ⟨A, c, by rw [show (octH ⟨2, 3, 1, [], ⟨false, true, 0, 0, 0, 0, 0, 0, 0⟩⟩).length = 47 from liveHdr_len], hs, hb⟩
  have L0 : headLength 0 = (47, 0) := by decide
  have CL : Hid (∀ w, Calls Try.prog 18 #[.int .i64 0] w fun e w' => e = .returned (.tuple #[.int .i64 47, .int .i64 0]) ∧ w = w') := fun w => by
    have := headLength_any 0 w
    rwa [L0] at this
  clear L0
  go_enter Try.func15, Try.ntmps15
  go_wp2_with (first
    | (go_at_call 17; refine (CB.out _).mono ?_; rintro e w1 ⟨A, c, rfl, hs1, hb1⟩; obtain ⟨g, o, rfl, hg, e0⟩ := hs1.byte liveHdr_0; obtain ⟨g', o', hA, hg', e1⟩ := hs1.byte liveHdr_1; injection hA with hA; injection hA with hA1 hA2; subst hA1 hA2; rw [Nat.add_zero] at e0; have HS1 := Lib.hid hs1; clear hs1)
    | (go_at_call 18; refine (CL.out _).mono ?_; rintro e w' ⟨rfl, rfl⟩))
  go_ret
  exact ⟨rfl, hb1⟩
end Go.Proofs.Ytmajepinbldneaa
