/- The walks of slices.Equal on parts, and of head.Same. -/
import Derived.Test.YtmajepinbldneaaScSame
import Derived.Test.YtmajepinbldneaaEngK
import Derived.Test.YtmajepinbldneaaHeadP
import Derived.Test.YtmajepinbldneaaEq
namespace Go.Proofs.Ytmajepinbldneaa
set_option linter.unusedVariables false
set_option linter.unusedSimpArgs false
open Go.RowKit
noncomputable def eqC {α : Type} (a b : α) : Bool := @decide (a = b) (Classical.propDecidable _)
theorem eqC_true {α : Type} {a b : α} (h : a = b) : eqC a b = true := @decide_eq_true _ (Classical.propDecidable _) h
theorem eqC_false {α : Type} {a b : α} (h : a ≠ b) : eqC a b = false := @decide_eq_false _ (Classical.propDecidable _) h
theorem eqC_iff {α : Type} {a b : α} : eqC a b = true ↔ a = b := ⟨fun h => @of_decide_eq_true _ (Classical.propDecidable _) h, eqC_true⟩
theorem eqC_beq {α : Type} {a b : α} {c : Bool} (h : c = true ↔ a = b) : c = eqC a b := by
  by_cases h0 : a = b
  · rw [eqC_true h0, h.2 h0]
  · rw [eqC_false h0]
    cases c
    · rfl
    · exact absurd (h.1 rfl) h0
attribute [local irreducible] eqC
attribute [local irreducible] SO SK SD SDA SHO Rt bx ow Qt Ef
set_option maxHeartbeats 2000000
set_option maxRecDepth 100000
theorem equalParts_any (A B : Option Addr) (c d : Nat) (xs ys : List Part) (w : World) (hl : Sl Part.cells 11 w A xs) (hl2 : Sl Part.cells 11 w B ys) (hx : xs.length ≤ 1000000000) :
    Calls Try.prog 65 #[.slice A xs.length c, .slice B ys.length d] w fun e w' => e = .returned (.bool (eqC xs ys)) ∧ Below w.heap.size w w' := by
  (have hA := At.start w; refine C.go cc65 rfl rfl ?_)
  by_cases h0 : xs.length = ys.length
  · (repeat' (first | refine stp ?_ | refine stq ?_ | (refine st3 ?_; clear hA; intro w' hA) | (refine st4 ?_; clear hA; intro w' hA) | (refine st2 ?_ ?_ <;> intro hc) | fail))
    refine K.loop (fun i : Nat => [(0, .slice A xs.length c), (1, .slice B ys.length d), (12, .int .i64 xs.length), (13, .int .i64 i)]) (fun i w' => i ≤ xs.length ∧ xs.take i = ys.take i ∧ At w [] [] w') (fun i => xs.length - i) 0 ?_ ⟨Nat.zero_le _, by simp, hA⟩ ?_
    · exact Le.cons rfl (Le.cons rfl (Le.cons rfl (Le.cons rfl (Le.nil _))))
    clear hA
    rintro i w' ⟨hi, ht, hA⟩
    by_cases hin : i < xs.length
    · obtain ⟨p, hp⟩ : ∃ p, xs[i]? = some p := ⟨_, List.getElem?_eq_getElem hin⟩
      obtain ⟨q, hq⟩ : ∃ q, ys[i]? = some q := ⟨_, List.getElem?_eq_getElem (by omega)⟩
      obtain ⟨ga, oa, rfl, hlt, _⟩ := hl.cells hp
      obtain ⟨gb, ob, rfl, hlt2, _⟩ := hl2.cells hq
      have hcl : Cl w ga (oa + i * 11) (Part.cells p) := hl.cl hp
      have hcl2 : Cl w gb (ob + i * 11) (Part.cells q) := hl2.cl hq
      (repeat' (first | refine stp ?_ | refine stq ?_ | (refine st3 ?_; clear hA; intro w' hA) | (refine st4 ?_; clear hA; intro w' hA) | (refine st2 ?_ ?_ <;> intro hc) | fail))
      refine H.q (Qt.eqv rfl rfl (fun w => neq_part w _ _ _ _ _ _ _ _ _ _ _ _ _ _ _ _ _ _ _ _ _ _) ⟨_, rfl⟩ ⟨_, rfl⟩) ?_
      by_cases hpq : p = q
      · have e1 : Part.eqB p q = true := Part.eqB_iff.2 hpq
        rw [show Part.eqB ⟨⟨p.s.i, p.s.j⟩, ⟨p.w.sym, p.w.sealed, p.w.b0, p.w.b1, p.w.c0, p.w.c1, p.w.t0, p.w.t1, p.w.t⟩⟩ ⟨⟨q.s.i, q.s.j⟩, ⟨q.w.sym, q.w.sealed, q.w.b0, q.w.b1, q.w.c0, q.w.c1, q.w.t0, q.w.t1, q.w.t⟩⟩ = true from e1]
        (repeat' (first | refine stp ?_ | refine stq ?_ | (refine st3 ?_; clear hA; intro w' hA) | (refine st4 ?_; clear hA; intro w' hA) | (refine st2 ?_ ?_ <;> intro hc) | fail))
        refine K.lpend ⟨i + 1, ?_, ⟨hin, ?_, hA⟩, by omega⟩
        · exact Le.cons rfl (Le.cons rfl (Le.cons rfl (Le.cons' rfl (by simp) (Le.nil _))))
        · rw [List.take_add_one, List.take_add_one, ht, hp, hq, hpq]
      · have e1 : Part.eqB p q = false := by cases h : Part.eqB p q; rfl; exact absurd (Part.eqB_iff.1 h) hpq
        rw [show Part.eqB ⟨⟨p.s.i, p.s.j⟩, ⟨p.w.sym, p.w.sealed, p.w.b0, p.w.b1, p.w.c0, p.w.c1, p.w.t0, p.w.t1, p.w.t⟩⟩ ⟨⟨q.s.i, q.s.j⟩, ⟨q.w.sym, q.w.sealed, q.w.b0, q.w.b1, q.w.c0, q.w.c1, q.w.t0, q.w.t1, q.w.t⟩⟩ = false from e1]
        (repeat' (first | refine stp ?_ | refine stq ?_ | (refine st3 ?_; clear hA; intro w' hA) | (refine st4 ?_; clear hA; intro w' hA) | (refine st2 ?_ ?_ <;> intro hc) | fail))
        (refine C.ret [_] ⟨rfl, trivial⟩ ?_)
        refine ⟨?_, hA.toBelow⟩
        rw [eqC_false (by rintro rfl; rw [hp] at hq; exact hpq (Option.some.inj hq))]; rfl
    · have : i = xs.length := by omega
      subst this
      rw [List.take_length, h0, List.take_length] at ht
      (repeat' (first | refine stp ?_ | refine stq ?_ | (refine st3 ?_; clear hA; intro w' hA) | (refine st4 ?_; clear hA; intro w' hA) | (refine st2 ?_ ?_ <;> intro hc) | fail))
      (refine C.ret [_] ⟨rfl, trivial⟩ ?_)
      refine ⟨?_, hA.toBelow⟩
      rw [eqC_true ht]; rfl
  · (repeat' (first | refine stp ?_ | refine stq ?_ | (refine st3 ?_; clear hA; intro w' hA) | (refine st4 ?_; clear hA; intro w' hA) | (refine st2 ?_ ?_ <;> intro hc) | fail))
    (refine C.ret [_] ⟨rfl, trivial⟩ ?_)
    refine ⟨?_, hA.toBelow⟩
    rw [eqC_false (by rintro rfl; exact h0 rfl)]; rfl
theorem headSame_any (sc h ep : Int) (A : Option Addr) (cap : Nat) (l : List Part) (pay : Val) (sc' h' ep' : Int) (A' : Option Addr) (cap' : Nat) (l' : List Part) (pay' : Val) (w : World) (hl : Sl Part.cells 11 w A l) (hl2 : Sl Part.cells 11 w A' l') (hx : l.length ≤ 1000000000) :
    Calls Try.prog 26 #[.agg #[Value.int .i64 sc, .int .i64 h, .int .i64 ep, .slice A l.length cap, .bool pay.sym, .bool pay.sealed, .int .u64 pay.b0, .int .u64 pay.b1, .int .u64 pay.c0, .int .u64 pay.c1, .int .u64 pay.t0, .int .u64 pay.t1, .int .i64 pay.t], .agg #[Value.int .i64 sc', .int .i64 h', .int .i64 ep', .slice A' l'.length cap', .bool pay'.sym, .bool pay'.sealed, .int .u64 pay'.b0, .int .u64 pay'.b1, .int .u64 pay'.c0, .int .u64 pay'.c1, .int .u64 pay'.t0, .int .u64 pay'.t1, .int .i64 pay'.t]] w fun e w' => e = .returned (.bool (eqC (⟨sc, h, ep, l, pay⟩ : Hdr) ⟨sc', h', ep', l', pay'⟩)) ∧ Below w.heap.size w w' := by
  (have hA := At.start w; refine C.go cc26 rfl rfl ?_)
  (repeat' (first | refine stp ?_ | refine stq ?_ | (refine st3 ?_; clear hA; intro w' hA) | (refine st4 ?_; clear hA; intro w' hA) | (refine st2 ?_ ?_ <;> intro hc) | fail))
  (refine O.box hA rfl rfl ?_; clear hA; intro a w' hA)
  (repeat' (first | refine stp ?_ | refine stq ?_ | (refine st3 ?_; clear hA; intro w' hA) | (refine st4 ?_; clear hA; intro w' hA) | (refine st2 ?_ ?_ <;> intro hc) | fail))
  (refine O.box hA rfl rfl ?_; clear hA; intro b w' hA)
  have no : (⟨sc, h, ep, l, pay⟩ : Hdr) ≠ ⟨sc', h', ep', l', pay'⟩ → eqC (⟨sc, h, ep, l, pay⟩ : Hdr) ⟨sc', h', ep', l', pay'⟩ = false := eqC_false
  by_cases h1 : sc = sc'
  · by_cases h2 : h = h'
    · by_cases h3 : ep = ep'
      · (repeat' (first | refine stp ?_ | refine stq ?_ | (refine st3 ?_; clear hA; intro w' hA) | (refine st4 ?_; clear hA; intro w' hA) | (refine st2 ?_ ?_ <;> intro hc) | fail))
        refine O.q (Qt.eqv rfl rfl (fun w => eql_val w _ _ _ _ _ _ _ _ _ _ _ _ _ _ _ _ _ _) ⟨_, rfl⟩ ⟨_, rfl⟩) ?_
        by_cases h4 : pay = pay'
        · have e1 : Val.eqB pay pay' = true := Val.eqB_iff.2 h4
          rw [show Val.eqB ⟨pay.sym, pay.sealed, pay.b0, pay.b1, pay.c0, pay.c1, pay.t0, pay.t1, pay.t⟩ ⟨pay'.sym, pay'.sealed, pay'.b0, pay'.b1, pay'.c0, pay'.c1, pay'.t0, pay'.t1, pay'.t⟩ = true from e1]
          (repeat' (first | refine stp ?_ | refine stq ?_ | (refine st3 ?_; clear hA; intro w' hA) | (refine st4 ?_; clear hA; intro w' hA) | (refine st2 ?_ ?_ <;> intro hc) | fail))
          (refine O.c rfl ((equalParts_any A A' cap cap' l l' _ (hA.has.sl_old (by simp) hl) (hA.has.sl_old (by simp) hl2) hx).mono ?_); rintro en w' ⟨rfl, hb⟩; refine ⟨_, rfl, ?_⟩; replace hA := hA.below hb; clear hb)
          have e2 : eqC l l' = eqC (⟨sc, h, ep, l, pay⟩ : Hdr) ⟨sc', h', ep', l', pay'⟩ := eqC_beq (by rw [eqC_iff, h1, h2, h3, h4]; simp)
          rw [e2]
          (repeat' (first | refine stp ?_ | refine stq ?_ | (refine st3 ?_; clear hA; intro w' hA) | (refine st4 ?_; clear hA; intro w' hA) | (refine st2 ?_ ?_ <;> intro hc) | fail))
          (refine C.ret [_] ⟨rfl, trivial⟩ ?_)
          exact ⟨rfl, hA.toBelow⟩
        · have e1 : Val.eqB pay pay' = false := by cases h5 : Val.eqB pay pay'; rfl; exact absurd (Val.eqB_iff.1 h5) h4
          rw [show Val.eqB ⟨pay.sym, pay.sealed, pay.b0, pay.b1, pay.c0, pay.c1, pay.t0, pay.t1, pay.t⟩ ⟨pay'.sym, pay'.sealed, pay'.b0, pay'.b1, pay'.c0, pay'.c1, pay'.t0, pay'.t1, pay'.t⟩ = false from e1]
          (repeat' (first | refine stp ?_ | refine stq ?_ | (refine st3 ?_; clear hA; intro w' hA) | (refine st4 ?_; clear hA; intro w' hA) | (refine st2 ?_ ?_ <;> intro hc) | fail))
          (refine C.ret [_] ⟨rfl, trivial⟩ ?_)
          exact ⟨by rw [no (by intro e0; injection e0 with _ _ _ _ e5; exact h4 e5)]; rfl, hA.toBelow⟩
      · (repeat' (first | refine stp ?_ | refine stq ?_ | (refine st3 ?_; clear hA; intro w' hA) | (refine st4 ?_; clear hA; intro w' hA) | (refine st2 ?_ ?_ <;> intro hc) | fail))
        (refine C.ret [_] ⟨rfl, trivial⟩ ?_)
        exact ⟨by rw [no (by intro e0; injection e0 with _ _ e5; exact h3 e5)]; rfl, hA.toBelow⟩
    · (repeat' (first | refine stp ?_ | refine stq ?_ | (refine st3 ?_; clear hA; intro w' hA) | (refine st4 ?_; clear hA; intro w' hA) | (refine st2 ?_ ?_ <;> intro hc) | fail))
      (refine C.ret [_] ⟨rfl, trivial⟩ ?_)
      exact ⟨by rw [no (by intro e0; injection e0 with _ e5; exact h2 e5)]; rfl, hA.toBelow⟩
  · (repeat' (first | refine stp ?_ | refine stq ?_ | (refine st3 ?_; clear hA; intro w' hA) | (refine st4 ?_; clear hA; intro w' hA) | (refine st2 ?_ ?_ <;> intro hc) | fail))
    (refine C.ret [_] ⟨rfl, trivial⟩ ?_)
    exact ⟨by rw [no (by intro e0; injection e0 with e5; exact h1 e5)]; rfl, hA.toBelow⟩
end Go.Proofs.Ytmajepinbldneaa
