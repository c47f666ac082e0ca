/- The law HeadCut holds of every input. -/
import Derived.Test.YtmajepinbldneaaRows
import Derived.Test.YtmajepinbldneaaCutE
import Derived.Test.YtmajepinbldneaaOpen
import Derived.WalkKit
import Derived.ProofKit
import Derived.OpenShut
import Derived.ChangeOld
import Derived.Below
import Derived.SizedLaws
import Derived.Carry
namespace Go.Proofs.Ytmajepinbldneaa.headCut
open Go.ChangeShapes Go.WideShapes Go.ChangeAt Go.RowKit
set_option linter.unusedVariables false
set_option linter.unusedSimpArgs false
theorem own : ownKnob Try.prog.godebug = none := by kernel_rfl
theorem laidOut : laidOutB Try.prog = true := by kernel_rfl
set_option maxRecDepth 100000 in
theorem lifted (os : Os) (started : os.Started) (H : Type) (enc : TypeId × Value → H) :
    ReturnsInHanded {} Try.checked os 7 .any (Rows.headCutSpec.pre6 enc Try.prog Try.f7 Rows.headCutRow.domain false) (Rows.headCutSpec.post enc Try.prog Try.f7 false true false false) := by
  refine returnsInHanded_of_change_sized (C := Try.checked) own started (by kernel_rfl) Try.func7
    (ChangeSpec.witness6 (enc := enc) (C := Try.checked) false ⟨#[], #[.agg #[.int .i64 0, .int .i64 0, .int .i64 0, .slice none 0 0, .bool false, .bool false, .int .u64 0, .int .u64 0, .int .u64 0, .int .u64 0, .int .u64 0, .int .u64 0, .int .i64 0], .agg #[.int .i64 0, .int .i64 0, .int .i64 0, .slice none 0 0, .bool false, .bool false, .int .u64 0, .int .u64 0, .int .u64 0, .int .u64 0, .int .u64 0, .int .u64 0, .int .i64 0], .int .i64 0, .slice none 0 0], []⟩ 8 (by kernel_rfl) (by kernel_rfl) (by kernel_rfl) (by kernel_rfl)) ?_
  intro W base args ds gs before hval0 hW hcnd hsz0 _
  have hval : ∀ (j : Nat) t v, Try.f7.params[j]? = some t → args[j]? = some v → Value.okWide Try.prog W .any base t v := hval0
  have hW2 := hW
  obtain ⟨p, q, hA0, hV, rfl, hfz, hnd⟩ := hW
  have hA : DataW.TrodAll enc Try.prog W 0 (fun _ => true) true Try.f7.params.toList args.toList ds p := hA0
  rw [Try.params7] at hA hval
  obtain ⟨v0, vs0, d0, ds0, p0, q0, hargs, rfl, rfl, h0_, r0⟩ := trodAll_cons hA
  obtain ⟨v1, vs1, d1, ds1, p1, q1, rfl, rfl, rfl, h1_, r1⟩ := trodAll_cons r0
  obtain ⟨v2, vs2, d2, ds2, p2, q2, rfl, rfl, rfl, h2_, r2⟩ := trodAll_cons r1
  obtain ⟨v3, vs3, d3, ds3, p3, q3, rfl, rfl, rfl, h3_, r3⟩ := trodAll_cons r2
  obtain ⟨rfl, rfl, rfl⟩ := trodAll_nil r3
  obtain rfl : args = #[v0, v1, v2, v3] := by cases args; simp_all
  obtain ⟨rfl, rfl⟩ := trodVars_none hV
  have lt0 : ∀ x ∈ p0, x.block < W.heap.size := by obtain ⟨m, hm⟩ := h0_; exact DataW.trod_lt m _ _ _ hm
  have b0_ := fun W2 (hb : Below W.heap.size W W2) => Below.trod laidOut (by kernel_rfl) (of_decide_eq_true (by kernel_rfl)) h0_ hb lt0
  obtain ⟨scx, hx, epx, Ax, capx, lx, payx, rfl, ix, cx, mx, sx, kx, px, ptx, ktx⟩ := openHdr h0_ (hval 0 31 v0 rfl rfl)
  have lt1 : ∀ x ∈ p1, x.block < W.heap.size := by obtain ⟨m, hm⟩ := h1_; exact DataW.trod_lt m _ _ _ hm
  have b1_ := fun W2 (hb : Below W.heap.size W W2) => Below.trod laidOut (by kernel_rfl) (of_decide_eq_true (by kernel_rfl)) h1_ hb lt1
  obtain ⟨scy, hy, epy, Ay, capy, ly, payy, rfl, iy, cy, my, sy, ky, py, pty, kty⟩ := openHdr h1_ (hval 1 31 v1 rfl rfl)
  have lt2 : ∀ x ∈ p2, x.block < W.heap.size := by obtain ⟨m, hm⟩ := h2_; exact DataW.trod_lt m _ _ _ hm
  have b2_ := fun W2 (hb : Below W.heap.size W W2) => Below.trod laidOut (by kernel_rfl) (of_decide_eq_true (by kernel_rfl)) h2_ hb lt2
  obtain ⟨cut, rfl, bcut⟩ := openInt h2_ (hval 2 3 v2 rfl rfl)
  have lt3 : ∀ x ∈ p3, x.block < W.heap.size := by obtain ⟨m, hm⟩ := h3_; exact DataW.trod_lt m _ _ _ hm
  have b3_ := fun W2 (hb : Below W.heap.size W W2) => Below.trod laidOut (by kernel_rfl) (of_decide_eq_true (by kernel_rfl)) h3_ hb lt3
  obtain ⟨Amore, capmore, lmore, rfl, cmore, mmore, smore, kmore⟩ := openBytes h3_ (hval 3 35 v3 rfl rfl)
  clear hA0 hval0 hsz0
  refine (headCut_any scx hx epx Ax capx lx payx scy hy epy Ay capy ly payy cut Amore capmore lmore W sx kx px cx mx sy ky py cy my smore kmore cmore mmore).mono fun e W2 ⟨he, bel⟩ => ?_
  subst he
  exact ⟨_, rfl, _, _, _, [], _, [], hW2, trodAll_mk1 (shut_bool Try.underlying4 _), (trodAll_cons_mk (b0_ _ bel) (trodAll_cons_mk (b1_ _ bel) (trodAll_cons_mk (b2_ _ bel) (trodAll_cons_mk (b3_ _ bel) trodAll_mk0)))), rfl, bel.frame _, fun h => by cases h⟩
theorem over : Rows.headCutRow.holds Try.pinned (OpenSpec.ofChange Rows.headCutSpec) :=
  OpenClaim.holds_of_wide 7 Try.f7 rfl rfl rfl rfl rfl rfl rfl ⟨rfl, rfl, rfl, rfl, rfl⟩ rfl rfl rfl rfl rfl (by kernel_rfl) Try.func7 (by kernel_rfl)
    (of_decide_eq_true (by kernel_rfl)) (by unfold Func.isWrapper; first | (rw [if_pos (by decide +kernel)]; kernel_rfl) | (rw [if_neg (by decide +kernel)]; exact ⟨rfl, rfl⟩))
    (fun os started H enc _ => lifted os started H enc)
end Go.Proofs.Ytmajepinbldneaa.headCut
namespace Go.Proofs.Ytmajepinbldneaa
/-- The law holds. -/
theorem headCut_holds : Rows.HeadCutSaid := headCut.over
end Go.Proofs.Ytmajepinbldneaa
