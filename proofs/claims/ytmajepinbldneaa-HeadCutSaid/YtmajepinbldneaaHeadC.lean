/- The walks of head.shut and head.Check. -/
import Derived.Test.YtmajepinbldneaaHeadP
import Derived.Test.YtmajepinbldneaaMay
import Derived.Test.YtmajepinbldneaaEq
namespace Go.Proofs.Ytmajepinbldneaa
set_option linter.unusedVariables false
set_option linter.unusedSimpArgs false
open Go.RowKit
attribute [local go_sem ↓] Go.wp_at_zero Go.wp_at_succ eql_val neq_val eql_sub neq_sub eql_blk neq_blk
set_option maxRecDepth 100000 in
theorem headShut_any (x0 x1 : Bool) (x2 x3 x4 x5 x6 x7 x8 : Int) (w : World) :
    Calls Try.prog 48 #[.agg #[.bool x0, .bool x1, .int .u64 x2, .int .u64 x3, .int .u64 x4, .int .u64 x5, .int .u64 x6, .int .u64 x7, .int .i64 x8]] w fun e w' => e = .returned (.bool (shutB ⟨x0, x1, x2, x3, x4, x5, x6, x7, x8⟩)) ∧ Below w.heap.size w w' := by
  cases x1
  · go_enter Try.func48, Try.ntmps48
    go_wp2
    go_ret
    exact ⟨rfl, (by repeat (first | exact Below.refl _ _ | assumption | refine Below.drew ?_ | refine Below.drewN ?_ _ | refine Below.alloc ?_ (by first | omega | (simp; done) | (simp; omega)) _ | refine Below.setCell ?_ (by first | omega | (simp; done) | (simp; omega)) _ | refine Below.trans ?_ (Below.mono ‹Below _ _ _› (by first | omega | (simp; done) | (simp; omega)))))⟩
  · go_enter Try.func48, Try.ntmps48
    go_wp2
    go_ret
    exact ⟨rfl, (by repeat (first | exact Below.refl _ _ | assumption | refine Below.drew ?_ | refine Below.drewN ?_ _ | refine Below.alloc ?_ (by first | omega | (simp; done) | (simp; omega)) _ | refine Below.setCell ?_ (by first | omega | (simp; done) | (simp; omega)) _ | refine Below.trans ?_ (Below.mono ‹Below _ _ _› (by first | omega | (simp; done) | (simp; omega)))))⟩
theorem headShut_anyV (v : Val) (w : World) :
    Calls Try.prog 48 #[.agg #[.bool v.sym, .bool v.sealed, .int .u64 v.b0, .int .u64 v.b1, .int .u64 v.c0, .int .u64 v.c1, .int .u64 v.t0, .int .u64 v.t1, .int .i64 v.t]] w fun e w' => e = .returned (.bool (shutB v)) ∧ Below w.heap.size w w' := headShut_any _ _ _ _ _ _ _ _ _ w
attribute [local irreducible] layerMay shutB lessB nodeCheck partOk headCheck
set_option maxHeartbeats 1000000 in
set_option maxRecDepth 100000 in
theorem headCheck_any (sc h ep : Int) (A : Option Addr) (cap : Nat) (l : List Part) (pay : Val) (w : World) (hl : Sl Part.cells 11 w A l) (hk : ∀ p ∈ l, p.ok) (hcap : l.length ≤ cap) (hcm : cap ≤ 9223372036854775807) :
    Calls Try.prog 16 #[.agg #[.int .i64 sc, .int .i64 h, .int .i64 ep, .slice A l.length cap, .bool pay.sym, .bool pay.sealed, .int .u64 pay.b0, .int .u64 pay.b1, .int .u64 pay.c0, .int .u64 pay.c1, .int .u64 pay.t0, .int .u64 pay.t1, .int .i64 pay.t]] w fun e w' => e = .returned (.int .i64 (headCheck ⟨sc, h, ep, l, pay⟩)) ∧ Below w.heap.size w w' := by
  have u0 : U 0 := by unfold U; omega
  have u1 : U 1 := by unfold U; omega
  have Hl := Lib.hid hl; clear hl
  have HK := Lib.hid hk; clear hk
  have HM := Lib.hid hcm; clear hcm
  cases hm0 : ((layerMay h sc ⟨1, 0⟩).2 != 0)
  case true =>
    go_enter Try.func16, Try.ntmps16
    go_wp2_with (first
      | (go_at_call 47; refine (nodeCheck_any _ _ _ u1).mono ?_; rintro e w' ⟨rfl, rfl⟩)
      | (go_at_call 48; refine (headShut_anyV pay _).mono ?_; rintro e w1 ⟨rfl, hb1⟩; obtain ⟨hc1, hf1, hz1⟩ := cells_upto (B := w.heap.size + 1) hb1 (by first | omega | (simp; done) | (simp; omega)))
      | (go_at_call 49; refine (layerMay_any _ _ _ _ _ u1 u0).mono ?_; rintro e w2 ⟨rfl, hb2⟩; obtain ⟨hc2, hf2, hz2⟩ := cells_upto (B := w.heap.size + 1) hb2 (by first | omega | (simp; done) | (simp; omega))))
    all_goals (go_ret; refine ⟨?_, (by repeat (first | exact Below.refl _ _ | assumption | refine Below.drew ?_ | refine Below.drewN ?_ _ | refine Below.alloc ?_ (by first | omega | (simp; done) | (simp; omega)) _ | refine Below.setCell ?_ (by first | omega | (simp; done) | (simp; omega)) _ | refine Below.trans ?_ (Below.mono ‹Below _ _ _› (by first | omega | (simp; done) | (simp; omega)))))⟩; refine congrArg (fun x => Ending.returned (.int .i64 x)) ?_; simp only [headCheck]; grind)
  go_enter Try.func16, Try.ntmps16
  go_wp2_with (first
    | (go_at_call 47; refine (nodeCheck_any _ _ _ u1).mono ?_; rintro e w' ⟨rfl, rfl⟩)
    | (go_at_call 48; refine (headShut_anyV pay _).mono ?_; rintro e w1 ⟨rfl, hb1⟩; obtain ⟨hc1, hf1, hz1⟩ := cells_upto (B := w.heap.size + 1) hb1 (by first | omega | (simp; done) | (simp; omega)))
    | (go_at_call 49; refine (layerMay_any _ _ _ _ _ u1 u0).mono ?_; rintro e w2 ⟨rfl, hb2⟩; obtain ⟨hc2, hf2, hz2⟩ := cells_upto (B := w.heap.size + 1) hb2 (by first | omega | (simp; done) | (simp; omega))))
  all_goals first
    | (go_ret; refine ⟨?_, (by repeat (first | exact Below.refl _ _ | assumption | refine Below.drew ?_ | refine Below.drewN ?_ _ | refine Below.alloc ?_ (by first | omega | (simp; done) | (simp; omega)) _ | refine Below.setCell ?_ (by first | omega | (simp; done) | (simp; omega)) _ | refine Below.trans ?_ (Below.mono ‹Below _ _ _› (by first | omega | (simp; done) | (simp; omega)))))⟩; refine congrArg (fun x => Ending.returned (.int .i64 x)) ?_; simp only [headCheck]; grind)
    | skip
  have hx : Box w2 w.heap.size #[Value.int .i64 sc, .int .i64 h, .int .i64 ep, .slice A l.length cap, .bool pay.sym, .bool pay.sealed, .int .u64 pay.b0, .int .u64 pay.b1, .int .u64 pay.c0, .int .u64 pay.c1, .int .u64 pay.t0, .int .u64 pay.t1, .int .i64 pay.t] := fun o => by go_simp
  have hbw : Below w.heap.size w w2 := (by repeat (first | exact Below.refl _ _ | assumption | refine Below.drew ?_ | refine Below.drewN ?_ _ | refine Below.alloc ?_ (by first | omega | (simp; done) | (simp; omega)) _ | refine Below.setCell ?_ (by first | omega | (simp; done) | (simp; omega)) _ | refine Below.trans ?_ (Below.mono ‹Below _ _ _› (by first | omega | (simp; done) | (simp; omega)))))
  clear hc1 hc2 hf1 hf2 hb1 hb2 hz1
  have HB : Hid (nodeCheck h 1 = 0 ∧ 1 ≤ ep ∧ ep ≤ 1099511627776 ∧ (l.length : Int) ≤ 32768 ∧ shutB pay = true ∧ (layerMay h sc ⟨1, 0⟩).2 = 0) := by unfold Hid; grind
  go_loopw [50] (fun i wr => ∃ k : Nat, i = .int .i64 k ∧ k ≤ l.length ∧ (∀ j, j < k → partOk h sc l j = true) ∧ Below w.heap.size w wr ∧ w.heap.size + 1 ≤ wr.heap.size ∧ Box wr w.heap.size #[Value.int .i64 sc, .int .i64 h, .int .i64 ep, .slice A l.length cap, .bool pay.sym, .bool pay.sealed, .int .u64 pay.b0, .int .u64 pay.b1, .int .u64 pay.c0, .int .u64 pay.c1, .int .u64 pay.t0, .int .u64 pay.t1, .int .i64 pay.t])
    (fun i _ => l.length - (intOf i).toNat)
  case atStart => exact ⟨0, rfl, by omega, by omega, hbw, hz2, hx⟩
  case round =>
    obtain ⟨k, rfl, hk, hok, hbr, hzr, hxr⟩ := hrel
    have HO := Lib.hid hok; clear hok hx hbw
    have hz0 : w.heap.size < wr.heap.size := by omega
    by_cases hlt : k < l.length
    · obtain ⟨p, hp⟩ : ∃ p, l[k]? = some p := ⟨_, List.getElem?_eq_getElem hlt⟩
      have hpo := HK.out p (List.mem_of_getElem? hp)
      obtain ⟨g, o, rfl, hg, e0, e1, e2, e3, e4, e5, e6, e7, e8, e9, e10⟩ := (Hl.out.below hbr).part hp
      have HP := Lib.hid hp; clear hp
      cases c1 : ((layerMay h sc p.s).2 != 0)
      case true =>
        have BB : Hid (partOk h sc l k = false) := partOk_c1 HP.out c1
        go_wp2_with (go_at_call 49; refine (layerMay_anyS _ _ p.s _ hpo.1).mono ?_; rintro e w3 ⟨rfl, hb3⟩; have hp3 : Box w3 wr.heap.size #[Value.int .u64 p.s.i, .int .u64 p.s.j, .bool p.w.sym, .bool p.w.sealed, .int .u64 p.w.b0, .int .u64 p.w.b1, .int .u64 p.w.c0, .int .u64 p.w.c1, .int .u64 p.w.t0, .int .u64 p.w.t1, .int .i64 p.w.t] := Box.below (Box.new _ _ _) hb3 (by simp); have hx3 := (hxr.alloc hz0 _).below hb3 (by simp; omega); have hz3 := hb3.size; simp at hz3)
        go_quiet (fail)
        (try go_wp2)
        go_ret
        refine ⟨?_, (by repeat (first | exact Below.refl _ _ | assumption | refine Below.drew ?_ | refine Below.drewN ?_ _ | refine Below.alloc ?_ (by first | omega | (simp; done) | (simp; omega)) _ | refine Below.setCell ?_ (by first | omega | (simp; done) | (simp; omega)) _ | refine Below.trans ?_ (Below.mono ‹Below _ _ _› (by first | omega | (simp; done) | (simp; omega)))))⟩
        refine congrArg (fun x => Ending.returned (.int .i64 x)) ?_
        have hbad := BB.out
        exact Eq.symm <| headCheck_bad (x := ⟨sc, h, ep, l, pay⟩) HB.out hlt BB.out
      cases c2 : (layerMay h sc p.s).1
      case false =>
        have BB : Hid (partOk h sc l k = false) := partOk_c2 HP.out c2
        go_wp2_with (go_at_call 49; refine (layerMay_anyS _ _ p.s _ hpo.1).mono ?_; rintro e w3 ⟨rfl, hb3⟩; have hp3 : Box w3 wr.heap.size #[Value.int .u64 p.s.i, .int .u64 p.s.j, .bool p.w.sym, .bool p.w.sealed, .int .u64 p.w.b0, .int .u64 p.w.b1, .int .u64 p.w.c0, .int .u64 p.w.c1, .int .u64 p.w.t0, .int .u64 p.w.t1, .int .i64 p.w.t] := Box.below (Box.new _ _ _) hb3 (by simp); have hx3 := (hxr.alloc hz0 _).below hb3 (by simp; omega); have hz3 := hb3.size; simp at hz3)
        go_quiet (fail)
        (try go_wp2)
        go_ret
        refine ⟨?_, (by repeat (first | exact Below.refl _ _ | assumption | refine Below.drew ?_ | refine Below.drewN ?_ _ | refine Below.alloc ?_ (by first | omega | (simp; done) | (simp; omega)) _ | refine Below.setCell ?_ (by first | omega | (simp; done) | (simp; omega)) _ | refine Below.trans ?_ (Below.mono ‹Below _ _ _› (by first | omega | (simp; done) | (simp; omega)))))⟩
        refine congrArg (fun x => Ending.returned (.int .i64 x)) ?_
        have hbad := BB.out
        exact Eq.symm <| headCheck_bad (x := ⟨sc, h, ep, l, pay⟩) HB.out hlt BB.out
      cases c3 : shutB p.w
      case false =>
        have BB : Hid (partOk h sc l k = false) := partOk_c3 HP.out c3
        have CS : Hid (∀ w, Calls Try.prog 48 #[.agg #[.bool p.w.sym, .bool p.w.sealed, .int .u64 p.w.b0, .int .u64 p.w.b1, .int .u64 p.w.c0, .int .u64 p.w.c1, .int .u64 p.w.t0, .int .u64 p.w.t1, .int .i64 p.w.t]] w fun e w' => e = .returned (.bool false) ∧ Below w.heap.size w w') := fun w => by
          have := headShut_anyV p.w w
          rwa [c3] at this
        go_wp2_with (go_at_call 49; refine (layerMay_anyS _ _ p.s _ hpo.1).mono ?_; rintro e w3 ⟨rfl, hb3⟩; have hp3 : Box w3 wr.heap.size #[Value.int .u64 p.s.i, .int .u64 p.s.j, .bool p.w.sym, .bool p.w.sealed, .int .u64 p.w.b0, .int .u64 p.w.b1, .int .u64 p.w.c0, .int .u64 p.w.c1, .int .u64 p.w.t0, .int .u64 p.w.t1, .int .i64 p.w.t] := Box.below (Box.new _ _ _) hb3 (by simp); have hx3 := (hxr.alloc hz0 _).below hb3 (by simp; omega); have hz3 := hb3.size; simp at hz3)
        have KK : ∀ W1 W2, (Below w3.heap.size w3 W1 ∧ Box W1 w.heap.size #[Value.int .i64 sc, .int .i64 h, .int .i64 ep, .slice (some ⟨g, o, none⟩) l.length cap, .bool pay.sym, .bool pay.sealed, .int .u64 pay.b0, .int .u64 pay.b1, .int .u64 pay.c0, .int .u64 pay.c1, .int .u64 pay.t0, .int .u64 pay.t1, .int .i64 pay.t] ∧ Box W1 wr.heap.size #[Value.int .u64 p.s.i, .int .u64 p.s.j, .bool p.w.sym, .bool p.w.sealed, .int .u64 p.w.b0, .int .u64 p.w.b1, .int .u64 p.w.c0, .int .u64 p.w.c1, .int .u64 p.w.t0, .int .u64 p.w.t1, .int .i64 p.w.t]) → Below W1.heap.size W1 W2 → (Below w3.heap.size w3 W2 ∧ Box W2 w.heap.size #[Value.int .i64 sc, .int .i64 h, .int .i64 ep, .slice (some ⟨g, o, none⟩) l.length cap, .bool pay.sym, .bool pay.sealed, .int .u64 pay.b0, .int .u64 pay.b1, .int .u64 pay.c0, .int .u64 pay.c1, .int .u64 pay.t0, .int .u64 pay.t1, .int .i64 pay.t] ∧ Box W2 wr.heap.size #[Value.int .u64 p.s.i, .int .u64 p.s.j, .bool p.w.sym, .bool p.w.sealed, .int .u64 p.w.b0, .int .u64 p.w.b1, .int .u64 p.w.c0, .int .u64 p.w.c1, .int .u64 p.w.t0, .int .u64 p.w.t1, .int .i64 p.w.t]) := fun W1 W2 ⟨k1, k2, k3⟩ hb => by
          have := k1.size
          exact ⟨k1.trans (hb.mono this), k2.below hb (by omega), k3.below hb (by omega)⟩
        have KH := Lib.hid KK; clear KK
        (refine wp_region_quiet (C := fun w' => Below w3.heap.size w3 w' ∧ Box w' w.heap.size #[Value.int .i64 sc, .int .i64 h, .int .i64 ep, .slice (some ⟨g, o, none⟩) l.length cap, .bool pay.sym, .bool pay.sealed, .int .u64 pay.b0, .int .u64 pay.b1, .int .u64 pay.c0, .int .u64 pay.c1, .int .u64 pay.t0, .int .u64 pay.t1, .int .i64 pay.t] ∧ Box w' wr.heap.size #[Value.int .u64 p.s.i, .int .u64 p.s.j, .bool p.w.sym, .bool p.w.sealed, .int .u64 p.w.b0, .int .u64 p.w.b1, .int .u64 p.w.c0, .int .u64 p.w.c1, .int .u64 p.w.t0, .int .u64 p.w.t1, .int .i64 p.w.t]) (by kernel_rfl) (by kernel_rfl) ⟨(Below.refl _ _).drew, hx3, hp3⟩ ?_; (repeat (first | ((with_reducible refine BigFrame.wpQuiet_skip ?_ ?_); (rfl; simp only [Act.put, List.setIfInBounds_toArray, List.set_cons_zero, List.set_cons_succ])) | ((with_reducible refine BigFrame.wpQuiet_want ?_ ?_); (rfl; intro K hK; apply Exists.intro; refine ⟨fun wq hCq => ?_, hK _ ?_⟩; (have hCq2 := hCq; obtain ⟨hq0, hq1, hq2⟩ := hCq2; first | (go_simp; done) | (go_simp; rfl) | (go_simp; go_bits; rfl) | (go_simp; go_bits; go_simp; rfl) | (go_simp; go_at_call 48; refine (CS.out _).mono ?_; rintro e wq ⟨rfl, hbq⟩; exact ⟨rfl, KH.out _ _ hCq hbq⟩)); (clear hK K; simp only [Act.put, List.setIfInBounds_toArray, List.set_cons_zero, List.set_cons_succ]))))); refine wpQuiet_nil ?_)
        rintro w4 ⟨hb4, hx4, hp4⟩
        go_wp2
        go_ret
        refine ⟨?_, (by repeat (first | exact Below.refl _ _ | assumption | refine Below.drew ?_ | refine Below.drewN ?_ _ | refine Below.alloc ?_ (by first | omega | (simp; done) | (simp; omega)) _ | refine Below.setCell ?_ (by first | omega | (simp; done) | (simp; omega)) _ | refine Below.trans ?_ (Below.mono ‹Below _ _ _› (by first | omega | (simp; done) | (simp; omega)))))⟩
        refine congrArg (fun x => Ending.returned (.int .i64 x)) ?_
        exact Eq.symm <| headCheck_bad (x := ⟨sc, h, ep, l, pay⟩) HB.out hlt BB.out
      have CS : Hid (∀ w, Calls Try.prog 48 #[.agg #[.bool p.w.sym, .bool p.w.sealed, .int .u64 p.w.b0, .int .u64 p.w.b1, .int .u64 p.w.c0, .int .u64 p.w.c1, .int .u64 p.w.t0, .int .u64 p.w.t1, .int .i64 p.w.t]] w fun e w' => e = .returned (.bool true) ∧ Below w.heap.size w w') := fun w => by
        have := headShut_anyV p.w w
        rwa [c3] at this
      rcases Nat.eq_zero_or_pos k with hk0 | hk0
      · have BB : Hid (partOk h sc l k = true) := by
          have hp := HP.out
          subst hk0
          exact partOk_c4 hp c1 c2 c3
        have hkn : ¬ 0 < k := by omega
        have hkb : decide ((0 : Int) < (k : Int)) = false := by simp; omega
        have H0 := Lib.hid hk0; clear hk0
        go_wp2_with (go_at_call 49; refine (layerMay_anyS _ _ p.s _ hpo.1).mono ?_; rintro e w3 ⟨rfl, hb3⟩; have hp3 : Box w3 wr.heap.size #[Value.int .u64 p.s.i, .int .u64 p.s.j, .bool p.w.sym, .bool p.w.sealed, .int .u64 p.w.b0, .int .u64 p.w.b1, .int .u64 p.w.c0, .int .u64 p.w.c1, .int .u64 p.w.t0, .int .u64 p.w.t1, .int .i64 p.w.t] := Box.below (Box.new _ _ _) hb3 (by simp); have hx3 := (hxr.alloc hz0 _).below hb3 (by simp; omega); have hz3 := hb3.size; simp at hz3)
        have KK : ∀ W1 W2, (Below w3.heap.size w3 W1 ∧ Box W1 w.heap.size #[Value.int .i64 sc, .int .i64 h, .int .i64 ep, .slice (some ⟨g, o, none⟩) l.length cap, .bool pay.sym, .bool pay.sealed, .int .u64 pay.b0, .int .u64 pay.b1, .int .u64 pay.c0, .int .u64 pay.c1, .int .u64 pay.t0, .int .u64 pay.t1, .int .i64 pay.t] ∧ Box W1 wr.heap.size #[Value.int .u64 p.s.i, .int .u64 p.s.j, .bool p.w.sym, .bool p.w.sealed, .int .u64 p.w.b0, .int .u64 p.w.b1, .int .u64 p.w.c0, .int .u64 p.w.c1, .int .u64 p.w.t0, .int .u64 p.w.t1, .int .i64 p.w.t]) → Below W1.heap.size W1 W2 → (Below w3.heap.size w3 W2 ∧ Box W2 w.heap.size #[Value.int .i64 sc, .int .i64 h, .int .i64 ep, .slice (some ⟨g, o, none⟩) l.length cap, .bool pay.sym, .bool pay.sealed, .int .u64 pay.b0, .int .u64 pay.b1, .int .u64 pay.c0, .int .u64 pay.c1, .int .u64 pay.t0, .int .u64 pay.t1, .int .i64 pay.t] ∧ Box W2 wr.heap.size #[Value.int .u64 p.s.i, .int .u64 p.s.j, .bool p.w.sym, .bool p.w.sealed, .int .u64 p.w.b0, .int .u64 p.w.b1, .int .u64 p.w.c0, .int .u64 p.w.c1, .int .u64 p.w.t0, .int .u64 p.w.t1, .int .i64 p.w.t]) := fun W1 W2 ⟨k1, k2, k3⟩ hb => by
          have := k1.size
          exact ⟨k1.trans (hb.mono this), k2.below hb (by omega), k3.below hb (by omega)⟩
        have KH := Lib.hid KK; clear KK
        (refine wp_region_quiet (C := fun w' => Below w3.heap.size w3 w' ∧ Box w' w.heap.size #[Value.int .i64 sc, .int .i64 h, .int .i64 ep, .slice (some ⟨g, o, none⟩) l.length cap, .bool pay.sym, .bool pay.sealed, .int .u64 pay.b0, .int .u64 pay.b1, .int .u64 pay.c0, .int .u64 pay.c1, .int .u64 pay.t0, .int .u64 pay.t1, .int .i64 pay.t] ∧ Box w' wr.heap.size #[Value.int .u64 p.s.i, .int .u64 p.s.j, .bool p.w.sym, .bool p.w.sealed, .int .u64 p.w.b0, .int .u64 p.w.b1, .int .u64 p.w.c0, .int .u64 p.w.c1, .int .u64 p.w.t0, .int .u64 p.w.t1, .int .i64 p.w.t]) (by kernel_rfl) (by kernel_rfl) ⟨(Below.refl _ _).drew, hx3, hp3⟩ ?_; (repeat (first | ((with_reducible refine BigFrame.wpQuiet_skip ?_ ?_); (rfl; simp only [Act.put, List.setIfInBounds_toArray, List.set_cons_zero, List.set_cons_succ])) | ((with_reducible refine BigFrame.wpQuiet_want ?_ ?_); (rfl; intro K hK; apply Exists.intro; refine ⟨fun wq hCq => ?_, hK _ ?_⟩; (have hCq2 := hCq; obtain ⟨hq0, hq1, hq2⟩ := hCq2; first | (go_simp; done) | (go_simp; rfl) | (go_simp; go_bits; rfl) | (go_simp; go_bits; go_simp; rfl) | (go_simp; go_at_call 48; refine (CS.out _).mono ?_; rintro e wq ⟨rfl, hbq⟩; exact ⟨rfl, KH.out _ _ hCq hbq⟩)); (clear hK K; simp only [Act.put, List.setIfInBounds_toArray, List.set_cons_zero, List.set_cons_succ]))))); refine wpQuiet_nil ?_)
        rintro w4 ⟨hb4, hx4, hp4⟩
        go_wp2
        go_roundw
        case rel =>
          have r1 : ∀ j, j < k + 1 → partOk h sc l j = true := fun j hj => by
            rcases Nat.lt_or_ge j k with hj2 | hj2
            · exact HO.out j hj2
            · obtain rfl : j = k := by omega
              exact BB.out
          have r2 : Below w.heap.size w w4 := (by repeat (first | exact Below.refl _ _ | assumption | refine Below.drew ?_ | refine Below.drewN ?_ _ | refine Below.alloc ?_ (by first | omega | (simp; done) | (simp; omega)) _ | refine Below.setCell ?_ (by first | omega | (simp; done) | (simp; omega)) _ | refine Below.trans ?_ (Below.mono ‹Below _ _ _› (by first | omega | (simp; done) | (simp; omega)))))
          have r3 : w.heap.size + 1 ≤ w4.heap.size := by have := hb4.size; omega
          exact ⟨k + 1, by go_num, by omega, r1, r2, r3, hx4⟩
        case measure => simp [intOf]; omega
      · obtain ⟨q, hq⟩ : ∃ q, l[k - 1]? = some q := ⟨_, List.getElem?_eq_getElem (by omega)⟩
        obtain ⟨g', o', hA', _, f0, f1, _⟩ := (Hl.out.below hbr).part hq
        injection hA' with hA'
        injection hA' with hA1 hA2
        subst hA1 hA2
        have BB0 : partOk h sc l k = lessB q.s p.s := partOk_c5 HP.out (by omega) hq c1 c2 c3
        have BB1 := Lib.hid BB0; clear BB0
        have hkn : 0 < k := hk0
        have hkb : decide ((0 : Int) < (k : Int)) = true := by simp; omega
        have hk1 : (0 : Int) ≤ (k : Int) - 1 := by omega
        have hk0' : (1 : Int) ≤ (k : Int) := by omega
        have hk5 : 1 ≤ k := by omega
        have hk2 : (k : Int) - 1 < (l.length : Int) := by omega
        have hk3 : IntKind.i64.wrap ((k : Int) - 1) = (k : Int) - 1 := IntWalk.i64_in _ (by have := HM.out; omega)
        have hk4 : ((k : Int) - 1).toNat = k - 1 := by omega
        clear hq
        cases c5 : lessB q.s p.s
        all_goals
          have CL : Hid (∀ w, Calls Try.prog 50 #[.agg #[.int .u64 q.s.i, .int .u64 q.s.j], .agg #[.int .u64 p.s.i, .int .u64 p.s.j]] w fun e w' => e = .returned (.bool (lessB q.s p.s)) ∧ Below w.heap.size w w') := fun w => less_anyS q.s p.s w
          rw [c5] at CL BB1
        · go_wp2_with (go_at_call 49; refine (layerMay_anyS _ _ p.s _ hpo.1).mono ?_; rintro e w3 ⟨rfl, hb3⟩; have hp3 : Box w3 wr.heap.size #[Value.int .u64 p.s.i, .int .u64 p.s.j, .bool p.w.sym, .bool p.w.sealed, .int .u64 p.w.b0, .int .u64 p.w.b1, .int .u64 p.w.c0, .int .u64 p.w.c1, .int .u64 p.w.t0, .int .u64 p.w.t1, .int .i64 p.w.t] := Box.below (Box.new _ _ _) hb3 (by simp); have hx3 := (hxr.alloc hz0 _).below hb3 (by simp; omega); have hz3 := hb3.size; simp at hz3)
          have fq0 := ((Below.keepc hb3 ((World.cell?_alloc_lt wr _ ⟨g, _, none⟩ hg).trans f0) (by simp; omega)))
          have fq1 := ((Below.keepc hb3 ((World.cell?_alloc_lt wr _ ⟨g, _, none⟩ hg).trans f1) (by simp; omega)))
          have KK : ∀ W1 W2, (Below w3.heap.size w3 W1 ∧ Box W1 w.heap.size #[Value.int .i64 sc, .int .i64 h, .int .i64 ep, .slice (some ⟨g, o, none⟩) l.length cap, .bool pay.sym, .bool pay.sealed, .int .u64 pay.b0, .int .u64 pay.b1, .int .u64 pay.c0, .int .u64 pay.c1, .int .u64 pay.t0, .int .u64 pay.t1, .int .i64 pay.t] ∧ Box W1 wr.heap.size #[Value.int .u64 p.s.i, .int .u64 p.s.j, .bool p.w.sym, .bool p.w.sealed, .int .u64 p.w.b0, .int .u64 p.w.b1, .int .u64 p.w.c0, .int .u64 p.w.c1, .int .u64 p.w.t0, .int .u64 p.w.t1, .int .i64 p.w.t] ∧ W1.cell? ⟨g, o + (k - 1) * 11, none⟩ = some (.int .u64 q.s.i) ∧ W1.cell? ⟨g, o + (k - 1) * 11 + 1, none⟩ = some (.int .u64 q.s.j)) → Below W1.heap.size W1 W2 → (Below w3.heap.size w3 W2 ∧ Box W2 w.heap.size #[Value.int .i64 sc, .int .i64 h, .int .i64 ep, .slice (some ⟨g, o, none⟩) l.length cap, .bool pay.sym, .bool pay.sealed, .int .u64 pay.b0, .int .u64 pay.b1, .int .u64 pay.c0, .int .u64 pay.c1, .int .u64 pay.t0, .int .u64 pay.t1, .int .i64 pay.t] ∧ Box W2 wr.heap.size #[Value.int .u64 p.s.i, .int .u64 p.s.j, .bool p.w.sym, .bool p.w.sealed, .int .u64 p.w.b0, .int .u64 p.w.b1, .int .u64 p.w.c0, .int .u64 p.w.c1, .int .u64 p.w.t0, .int .u64 p.w.t1, .int .i64 p.w.t] ∧ W2.cell? ⟨g, o + (k - 1) * 11, none⟩ = some (.int .u64 q.s.i) ∧ W2.cell? ⟨g, o + (k - 1) * 11 + 1, none⟩ = some (.int .u64 q.s.j)) := fun W1 W2 ⟨k1, k2, k3, k4, k5⟩ hb => by
            have := k1.size
            exact ⟨k1.trans (hb.mono this), k2.below hb (by omega), k3.below hb (by omega), Below.keepc hb k4 (by omega), Below.keepc hb k5 (by omega)⟩
          have KH := Lib.hid KK; clear KK
          (refine wp_region_quiet (C := fun w' => Below w3.heap.size w3 w' ∧ Box w' w.heap.size #[Value.int .i64 sc, .int .i64 h, .int .i64 ep, .slice (some ⟨g, o, none⟩) l.length cap, .bool pay.sym, .bool pay.sealed, .int .u64 pay.b0, .int .u64 pay.b1, .int .u64 pay.c0, .int .u64 pay.c1, .int .u64 pay.t0, .int .u64 pay.t1, .int .i64 pay.t] ∧ Box w' wr.heap.size #[Value.int .u64 p.s.i, .int .u64 p.s.j, .bool p.w.sym, .bool p.w.sealed, .int .u64 p.w.b0, .int .u64 p.w.b1, .int .u64 p.w.c0, .int .u64 p.w.c1, .int .u64 p.w.t0, .int .u64 p.w.t1, .int .i64 p.w.t] ∧ w'.cell? ⟨g, o + (k - 1) * 11, none⟩ = some (.int .u64 q.s.i) ∧ w'.cell? ⟨g, o + (k - 1) * 11 + 1, none⟩ = some (.int .u64 q.s.j)) (by kernel_rfl) (by kernel_rfl) ⟨(Below.refl _ _).drew, hx3, hp3, fq0, fq1⟩ ?_; (repeat (first | ((with_reducible refine BigFrame.wpQuiet_skip ?_ ?_); (rfl; simp only [Act.put, List.setIfInBounds_toArray, List.set_cons_zero, List.set_cons_succ])) | ((with_reducible refine BigFrame.wpQuiet_want ?_ ?_); (rfl; intro K hK; apply Exists.intro; refine ⟨fun wq hCq => ?_, hK _ ?_⟩; (have hCq2 := hCq; obtain ⟨hq0, hq1, hq2, hq3, hq4⟩ := hCq2; first | (go_simp; done) | (go_simp; rfl) | (go_simp; go_bits; rfl) | (go_simp; go_bits; go_simp; rfl) | (go_simp; go_at_call 48; refine (CS.out _).mono ?_; rintro e wq ⟨rfl, hbq⟩; exact ⟨rfl, KH.out _ _ hCq hbq⟩) | (go_simp; go_at_call 50; refine (CL.out _).mono ?_; rintro e wq ⟨rfl, hbq⟩; exact ⟨rfl, KH.out _ _ hCq hbq⟩)); (clear hK K; simp only [Act.put, List.setIfInBounds_toArray, List.set_cons_zero, List.set_cons_succ]))))); refine wpQuiet_nil ?_)
          rintro w4 ⟨hb4, hx4, hp4, _, _⟩
          go_wp2
          go_ret
          refine ⟨?_, (by repeat (first | exact Below.refl _ _ | assumption | refine Below.drew ?_ | refine Below.drewN ?_ _ | refine Below.alloc ?_ (by first | omega | (simp; done) | (simp; omega)) _ | refine Below.setCell ?_ (by first | omega | (simp; done) | (simp; omega)) _ | refine Below.trans ?_ (Below.mono ‹Below _ _ _› (by first | omega | (simp; done) | (simp; omega)))))⟩
          refine congrArg (fun x => Ending.returned (.int .i64 x)) ?_
          exact Eq.symm <| headCheck_bad (x := ⟨sc, h, ep, l, pay⟩) HB.out hlt BB1.out
        · go_wp2_with (go_at_call 49; refine (layerMay_anyS _ _ p.s _ hpo.1).mono ?_; rintro e w3 ⟨rfl, hb3⟩; have hp3 : Box w3 wr.heap.size #[Value.int .u64 p.s.i, .int .u64 p.s.j, .bool p.w.sym, .bool p.w.sealed, .int .u64 p.w.b0, .int .u64 p.w.b1, .int .u64 p.w.c0, .int .u64 p.w.c1, .int .u64 p.w.t0, .int .u64 p.w.t1, .int .i64 p.w.t] := Box.below (Box.new _ _ _) hb3 (by simp); have hx3 := (hxr.alloc hz0 _).below hb3 (by simp; omega); have hz3 := hb3.size; simp at hz3)
          have fq0 := ((Below.keepc hb3 ((World.cell?_alloc_lt wr _ ⟨g, _, none⟩ hg).trans f0) (by simp; omega)))
          have fq1 := ((Below.keepc hb3 ((World.cell?_alloc_lt wr _ ⟨g, _, none⟩ hg).trans f1) (by simp; omega)))
          have KK : ∀ W1 W2, (Below w3.heap.size w3 W1 ∧ Box W1 w.heap.size #[Value.int .i64 sc, .int .i64 h, .int .i64 ep, .slice (some ⟨g, o, none⟩) l.length cap, .bool pay.sym, .bool pay.sealed, .int .u64 pay.b0, .int .u64 pay.b1, .int .u64 pay.c0, .int .u64 pay.c1, .int .u64 pay.t0, .int .u64 pay.t1, .int .i64 pay.t] ∧ Box W1 wr.heap.size #[Value.int .u64 p.s.i, .int .u64 p.s.j, .bool p.w.sym, .bool p.w.sealed, .int .u64 p.w.b0, .int .u64 p.w.b1, .int .u64 p.w.c0, .int .u64 p.w.c1, .int .u64 p.w.t0, .int .u64 p.w.t1, .int .i64 p.w.t] ∧ W1.cell? ⟨g, o + (k - 1) * 11, none⟩ = some (.int .u64 q.s.i) ∧ W1.cell? ⟨g, o + (k - 1) * 11 + 1, none⟩ = some (.int .u64 q.s.j)) → Below W1.heap.size W1 W2 → (Below w3.heap.size w3 W2 ∧ Box W2 w.heap.size #[Value.int .i64 sc, .int .i64 h, .int .i64 ep, .slice (some ⟨g, o, none⟩) l.length cap, .bool pay.sym, .bool pay.sealed, .int .u64 pay.b0, .int .u64 pay.b1, .int .u64 pay.c0, .int .u64 pay.c1, .int .u64 pay.t0, .int .u64 pay.t1, .int .i64 pay.t] ∧ Box W2 wr.heap.size #[Value.int .u64 p.s.i, .int .u64 p.s.j, .bool p.w.sym, .bool p.w.sealed, .int .u64 p.w.b0, .int .u64 p.w.b1, .int .u64 p.w.c0, .int .u64 p.w.c1, .int .u64 p.w.t0, .int .u64 p.w.t1, .int .i64 p.w.t] ∧ W2.cell? ⟨g, o + (k - 1) * 11, none⟩ = some (.int .u64 q.s.i) ∧ W2.cell? ⟨g, o + (k - 1) * 11 + 1, none⟩ = some (.int .u64 q.s.j)) := fun W1 W2 ⟨k1, k2, k3, k4, k5⟩ hb => by
            have := k1.size
            exact ⟨k1.trans (hb.mono this), k2.below hb (by omega), k3.below hb (by omega), Below.keepc hb k4 (by omega), Below.keepc hb k5 (by omega)⟩
          have KH := Lib.hid KK; clear KK
          (refine wp_region_quiet (C := fun w' => Below w3.heap.size w3 w' ∧ Box w' w.heap.size #[Value.int .i64 sc, .int .i64 h, .int .i64 ep, .slice (some ⟨g, o, none⟩) l.length cap, .bool pay.sym, .bool pay.sealed, .int .u64 pay.b0, .int .u64 pay.b1, .int .u64 pay.c0, .int .u64 pay.c1, .int .u64 pay.t0, .int .u64 pay.t1, .int .i64 pay.t] ∧ Box w' wr.heap.size #[Value.int .u64 p.s.i, .int .u64 p.s.j, .bool p.w.sym, .bool p.w.sealed, .int .u64 p.w.b0, .int .u64 p.w.b1, .int .u64 p.w.c0, .int .u64 p.w.c1, .int .u64 p.w.t0, .int .u64 p.w.t1, .int .i64 p.w.t] ∧ w'.cell? ⟨g, o + (k - 1) * 11, none⟩ = some (.int .u64 q.s.i) ∧ w'.cell? ⟨g, o + (k - 1) * 11 + 1, none⟩ = some (.int .u64 q.s.j)) (by kernel_rfl) (by kernel_rfl) ⟨(Below.refl _ _).drew, hx3, hp3, fq0, fq1⟩ ?_; (repeat (first | ((with_reducible refine BigFrame.wpQuiet_skip ?_ ?_); (rfl; simp only [Act.put, List.setIfInBounds_toArray, List.set_cons_zero, List.set_cons_succ])) | ((with_reducible refine BigFrame.wpQuiet_want ?_ ?_); (rfl; intro K hK; apply Exists.intro; refine ⟨fun wq hCq => ?_, hK _ ?_⟩; (have hCq2 := hCq; obtain ⟨hq0, hq1, hq2, hq3, hq4⟩ := hCq2; first | (go_simp; done) | (go_simp; rfl) | (go_simp; go_bits; rfl) | (go_simp; go_bits; go_simp; rfl) | (go_simp; go_at_call 48; refine (CS.out _).mono ?_; rintro e wq ⟨rfl, hbq⟩; exact ⟨rfl, KH.out _ _ hCq hbq⟩) | (go_simp; go_at_call 50; refine (CL.out _).mono ?_; rintro e wq ⟨rfl, hbq⟩; exact ⟨rfl, KH.out _ _ hCq hbq⟩)); (clear hK K; simp only [Act.put, List.setIfInBounds_toArray, List.set_cons_zero, List.set_cons_succ]))))); refine wpQuiet_nil ?_)
          rintro w4 ⟨hb4, hx4, hp4, _, _⟩
          go_wp2
          go_roundw
          case rel =>
            have r1 : ∀ j, j < k + 1 → partOk h sc l j = true := fun j hj => by
              rcases Nat.lt_or_ge j k with hj2 | hj2
              · exact HO.out j hj2
              · obtain rfl : j = k := by omega
                exact BB1.out
            have r2 : Below w.heap.size w w4 := (by repeat (first | exact Below.refl _ _ | assumption | refine Below.drew ?_ | refine Below.drewN ?_ _ | refine Below.alloc ?_ (by first | omega | (simp; done) | (simp; omega)) _ | refine Below.setCell ?_ (by first | omega | (simp; done) | (simp; omega)) _ | refine Below.trans ?_ (Below.mono ‹Below _ _ _› (by first | omega | (simp; done) | (simp; omega)))))
            have r3 : w.heap.size + 1 ≤ w4.heap.size := by have := hb4.size; omega
            exact ⟨k + 1, by go_num, by omega, r1, r2, r3, hx4⟩
          case measure => simp [intOf]; omega
    · have hkl : k = l.length := by omega
      subst hkl
      go_wp2_with fail
      go_ret
      exact ⟨congrArg (fun x => Ending.returned (.int .i64 x)) (headCheck_good (x := ⟨sc, h, ep, l, pay⟩) HB.out HO.out).symm, hbr⟩
end Go.Proofs.Ytmajepinbldneaa
