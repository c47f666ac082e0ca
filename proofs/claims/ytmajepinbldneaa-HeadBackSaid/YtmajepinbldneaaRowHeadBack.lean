/- The law HeadBack holds of every input. -/
import Derived.Test.YtmajepinbldneaaRows
import Derived.Test.YtmajepinbldneaaBackE
import Derived.Test.YtmajepinbldneaaOpen
import Derived.WalkKit
import Derived.ProofKit
import Derived.OpenShut
import Derived.ChangeOld
import Derived.Below
import Derived.SizedLaws
import Derived.Carry
namespace Go.Proofs.Ytmajepinbldneaa.headBack
open Go.ChangeShapes Go.WideShapes Go.ChangeAt Go.RowKit
set_option linter.unusedVariables false
set_option linter.unusedSimpArgs false
theorem own : ownKnob Try.prog.godebug = none := by kernel_rfl
theorem laidOut : laidOutB Try.prog = true := by kernel_rfl
set_option maxRecDepth 100000 in
theorem lifted (os : Os) (started : os.Started) (H : Type) (enc : TypeId × Value → H) :
    ReturnsInHanded {} Try.checked os 6 .any (Rows.headBackSpec.pre6 enc Try.prog Try.f6 Rows.headBackRow.domain false) (Rows.headBackSpec.post enc Try.prog Try.f6 false true false false) := by
  refine returnsInHanded_of_change_sized (C := Try.checked) own started (by kernel_rfl) Try.func6
    (ChangeSpec.witness6 (enc := enc) (C := Try.checked) false ⟨#[], #[.agg #[.int .i64 0, .int .i64 0, .int .i64 0, .slice none 0 0, .bool false, .bool false, .int .u64 0, .int .u64 0, .int .u64 0, .int .u64 0, .int .u64 0, .int .u64 0, .int .i64 0], .slice none 0 0], []⟩ 8 (by kernel_rfl) (by kernel_rfl) (by kernel_rfl) (by kernel_rfl)) ?_
  intro W base args ds gs before hval0 hW hcnd hsz0 _
  have hval : ∀ (j : Nat) t v, Try.f6.params[j]? = some t → args[j]? = some v → Value.okWide Try.prog W .any base t v := hval0
  have hW2 := hW
  obtain ⟨p, q, hA0, hV, rfl, hfz, hnd⟩ := hW
  have hA : DataW.TrodAll enc Try.prog W 0 (fun _ => true) true Try.f6.params.toList args.toList ds p := hA0
  rw [Try.params6] at hA hval
  obtain ⟨v0, vs0, d0, ds0, p0, q0, hargs, rfl, rfl, h0_, r0⟩ := trodAll_cons hA
  obtain ⟨v1, vs1, d1, ds1, p1, q1, rfl, rfl, rfl, h1_, r1⟩ := trodAll_cons r0
  obtain ⟨rfl, rfl, rfl⟩ := trodAll_nil r1
  obtain rfl : args = #[v0, v1] := by cases args; simp_all
  obtain ⟨rfl, rfl⟩ := trodVars_none hV
  have lt0 : ∀ x ∈ p0, x.block < W.heap.size := by obtain ⟨m, hm⟩ := h0_; exact DataW.trod_lt m _ _ _ hm
  have b0_ := fun W2 (hb : Below W.heap.size W W2) => Below.trod laidOut (by kernel_rfl) (of_decide_eq_true (by kernel_rfl)) h0_ hb lt0
  obtain ⟨scx, hx, epx, Ax, capx, lx, payx, rfl, ix, cx, mx, sx, kx, px, ptx, ktx⟩ := openHdr h0_ (hval 0 31 v0 rfl rfl)
  have lt1 : ∀ x ∈ p1, x.block < W.heap.size := by obtain ⟨m, hm⟩ := h1_; exact DataW.trod_lt m _ _ _ hm
  have b1_ := fun W2 (hb : Below W.heap.size W W2) => Below.trod laidOut (by kernel_rfl) (of_decide_eq_true (by kernel_rfl)) h1_ hb lt1
  obtain ⟨Ab, capb, lb, rfl, cb, mb, sb, kb⟩ := openBytes h1_ (hval 1 35 v1 rfl rfl)
  clear hA0 hval0 hsz0
  refine (headBack_any scx hx epx Ax capx lx payx Ab capb lb W sx kx px cx mx sb kb cb mb).mono fun e W2 ⟨he, bel⟩ => ?_
  subst he
  exact ⟨_, rfl, _, _, _, [], _, [], hW2, trodAll_mk1 (shut_bool Try.underlying4 _), (trodAll_cons_mk (b0_ _ bel) (trodAll_cons_mk (b1_ _ bel) trodAll_mk0)), rfl, bel.frame _, fun h => by cases h⟩
theorem over : Rows.headBackRow.holds Try.pinned (OpenSpec.ofChange Rows.headBackSpec) :=
  OpenClaim.holds_of_wide 6 Try.f6 rfl rfl rfl rfl rfl rfl rfl ⟨rfl, rfl, rfl, rfl, rfl⟩ rfl rfl rfl rfl rfl (by kernel_rfl) Try.func6 (by kernel_rfl)
    (of_decide_eq_true (by kernel_rfl)) (by unfold Func.isWrapper; first | (rw [if_pos (by decide +kernel)]; kernel_rfl) | (rw [if_neg (by decide +kernel)]; exact ⟨rfl, rfl⟩))
    (fun os started H enc _ => lifted os started H enc)
end Go.Proofs.Ytmajepinbldneaa.headBack
namespace Go.Proofs.Ytmajepinbldneaa
/-- The law holds. -/
theorem headBack_holds : Rows.HeadBackSaid := headBack.over
end Go.Proofs.Ytmajepinbldneaa
