/- The walk of law16's HeadLong. -/
import Derived.Test.YtmajepinbldneaaFromB
import Derived.Test.YtmajepinbldneaaRead
namespace Go.Proofs.Ytmajepinbldneaa
set_option linter.unusedVariables false
set_option linter.unusedSimpArgs false
open Go.RowKit
def hdrCells (x : Hdr) (v : Value) : Array Value := #[.int .i64 x.sc, .int .i64 x.h, .int .i64 x.ep, v, .bool x.pay.sym, .bool x.pay.sealed, .int .u64 x.pay.b0, .int .u64 x.pay.b1, .int .u64 x.pay.c0, .int .u64 x.pay.c1, .int .u64 x.pay.t0, .int .u64 x.pay.t1, .int .i64 x.pay.t]
theorem fromE_zero {xs : List Int} (h : fromE xs = 0) : headCheck (rdH xs) = 0 ∧ octH (rdH xs) = xs := by
  unfold fromE at h
  split at h
  · cases h
  · split at h
    · cases h
    · split at h
      · assumption
      · cases h
theorem headFrom_good (w : World) (A : Option Addr) (cap n : Nat) (xs : List Int) (hl : Sl byteCells 1 w A xs) (hx : ∀ x ∈ xs, U8 x) (hc : xs.length ≤ cap) (hm : cap ≤ 9223372036854775807) (hE : fromE xs = 0) (hn : n = xs.length) :
    Calls Try.prog 19 #[.slice A n cap] w fun e w' => ∃ v, e = .returned (.tuple #[.agg #[.int .i64 (rdH xs).sc, .int .i64 (rdH xs).h, .int .i64 (rdH xs).ep, v, .bool (rdH xs).pay.sym, .bool (rdH xs).pay.sealed, .int .u64 (rdH xs).pay.b0, .int .u64 (rdH xs).pay.b1, .int .u64 (rdH xs).pay.c0, .int .u64 (rdH xs).pay.c1, .int .u64 (rdH xs).pay.t0, .int .u64 (rdH xs).pay.t1, .int .i64 (rdH xs).pay.t], .int .i64 0]) ∧ Own Part.cells 11 41 w' w.heap.size v (rdH xs).l ∧ Below w.heap.size w w' := by
  subst hn
  refine (headFrom_any w A cap xs hl hx hc hm).mono ?_
  rintro e w' ⟨h1, h2, _⟩
  obtain ⟨v, h3, h4⟩ := h2 hE
  exact ⟨v, h3, h4, h1⟩
theorem headFrom_bad (w : World) (A : Option Addr) (cap n : Nat) (xs : List Int) (hl : Sl byteCells 1 w A xs) (hx : ∀ x ∈ xs, U8 x) (hc : xs.length ≤ cap) (hm : cap ≤ 9223372036854775807) (hE : fromE xs ≠ 0) (hn : n = xs.length) :
    Calls Try.prog 19 #[.slice A n cap] w fun e w' => e = .returned (.tuple #[.agg #[.int .i64 0, .int .i64 0, .int .i64 0, .slice none 0 0, .bool false, .bool false, .int .u64 0, .int .u64 0, .int .u64 0, .int .u64 0, .int .u64 0, .int .u64 0, .int .i64 0], .int .i64 (fromE xs)]) ∧ Below w.heap.size w w' := by
  subst hn
  refine (headFrom_any w A cap xs hl hx hc hm).mono ?_
  rintro e w' ⟨h1, _, h2⟩
  exact ⟨h2 hE, h1⟩
theorem headLength_good {n : Int} (h : 0 ≤ n ∧ n ≤ 32768) : headLength n = (47 + 48 * n, 0) := by unfold headLength; rw [if_neg (by omega)]
theorem headLength_bad {n : Int} (h : n < 0 ∨ 32768 < n) : headLength n = (0, 1) := by unfold headLength; rw [if_pos h]
attribute [local irreducible] rdH octH headCheck fromE headLength
attribute [local irreducible] SO SK SD SDA Rt bx ow Qt Ef
set_option maxHeartbeats 2000000
set_option maxRecDepth 100000
theorem headLong_any (A : Option Addr) (cap : Nat) (xs : List Int) (parts : Int) (w : World) (hl : Sl byteCells 1 w A xs) (hx : ∀ x ∈ xs, U8 x) (hc : xs.length ≤ cap) (hm : cap ≤ 9223372036854775807) (hp : I64 parts) :
    Calls Try.prog 4 #[.slice A xs.length cap, .int .i64 parts] w fun e w' => e = .returned (.bool true) ∧ Below w.heap.size w w' := by
  unfold I64 at hp
  (have hA := At.start w; refine C.go cc4 rfl rfl ?_)
  (repeat' (first | refine stp ?_ | refine stq ?_ | (refine st3 ?_; clear hA; intro w' hA) | (refine st4 ?_; clear hA; intro w' hA) | (refine st2 ?_ ?_ <;> intro hc) | fail))
  (refine O.c rfl ((live16_any _).mono ?_); rintro en w' ⟨rfl, hb⟩; refine ⟨_, rfl, ?_⟩; replace hA := hA.below hb; clear hb)
  by_cases c1 : 9000 < xs.length
  · (repeat' (first | refine stp ?_ | refine stq ?_ | (refine st3 ?_; clear hA; intro w' hA) | (refine st4 ?_; clear hA; intro w' hA) | (refine st2 ?_ ?_ <;> intro hc) | fail))
    (refine C.ret [_] ⟨rfl, trivial⟩ ?_)
    exact ⟨rfl, hA.toBelow⟩
  by_cases c2 : 1048576 < parts
  · (repeat' (first | refine stp ?_ | refine stq ?_ | (refine st3 ?_; clear hA; intro w' hA) | (refine st4 ?_; clear hA; intro w' hA) | (refine st2 ?_ ?_ <;> intro hc) | fail))
    (refine C.ret [_] ⟨rfl, trivial⟩ ?_)
    exact ⟨rfl, hA.toBelow⟩
  (repeat' (first | refine stp ?_ | refine stq ?_ | (refine st3 ?_; clear hA; intro w' hA) | (refine st4 ?_; clear hA; intro w' hA) | (refine st2 ?_ ?_ <;> intro hc) | fail))
  (refine O.c rfl ((headLength_any parts _).mono ?_); rintro en w' ⟨rfl, rfl⟩; refine ⟨_, rfl, ?_⟩)
  (repeat' (first | refine stp ?_ | refine stq ?_ | (refine st3 ?_; clear hA; intro w' hA) | (refine st4 ?_; clear hA; intro w' hA) | (refine st2 ?_ ?_ <;> intro hc) | fail))
  (refine O.c rfl ((headLength_any (parts + 1) _).mono ?_); rintro en w' ⟨rfl, rfl⟩; refine ⟨_, rfl, ?_⟩)
  have hcase : (headLength parts = (0, 1) ∧ headLength (parts + 1) = headLength (parts + 1)) ∨ (headLength parts = (47 + 48 * parts, 0) ∧ headLength (parts + 1) = (0, 1)) ∨ (headLength parts = (47 + 48 * parts, 0) ∧ headLength (parts + 1) = (47 + 48 * (parts + 1), 0) ∧ 0 ≤ parts ∧ parts ≤ 32768) := by
    by_cases d1 : 0 ≤ parts ∧ parts ≤ 32768
    · by_cases d2 : parts + 1 ≤ 32768
      · exact .inr (.inr ⟨headLength_good d1, headLength_good ⟨by omega, d2⟩, d1⟩)
      · exact .inr (.inl ⟨headLength_good d1, headLength_bad (by omega)⟩)
    · exact .inl ⟨headLength_bad (by omega), rfl⟩
  rcases hcase with ⟨q1, q2⟩ | ⟨q1, q2⟩ | ⟨q1, q2, q3⟩ <;> (rw [q1, q2]; dsimp only; (repeat' (first | refine stp ?_ | refine stq ?_ | (refine st3 ?_; clear hA; intro w' hA) | (refine st4 ?_; clear hA; intro w' hA) | (refine st2 ?_ ?_ <;> intro hc) | fail)))
  all_goals (
    by_cases hE : fromE xs = 0
    · obtain ⟨g1, g2⟩ := fromE_zero hE
      have g3 := octH_length (rdH xs)
      rw [g2] at g3
      have g4 := headCheck_parts (sc := (rdH xs).sc) (h := (rdH xs).h) (ep := (rdH xs).ep) (l := (rdH xs).l) (pay := (rdH xs).pay) g1
      (refine O.c rfl ((headFrom_good _ A cap _ xs (hA.has.sl_old (by simp) hl) hx hc hm hE rfl).mono ?_); rintro en w' ⟨v, rfl, ho, hb⟩; refine ⟨_, rfl, ?_⟩; replace hA := hA.addOwn hb ho; clear hb ho)
      obtain ⟨A3, c3, rfl, hc3, hm3⟩ := hA.form (i := 0) encPart rfl
      (repeat' (first | refine stp ?_ | refine stq ?_ | (refine st3 ?_; clear hA; intro w' hA) | (refine st4 ?_; clear hA; intro w' hA) | (refine st2 ?_ ?_ <;> intro hc) | fail))
      (refine O.new hA ?_; clear hA; intro x w' hA)
      (repeat' (first | refine stp ?_ | refine stq ?_ | (refine st3 ?_; clear hA; intro w' hA) | (refine st4 ?_; clear hA; intro w' hA) | (refine st2 ?_ ?_ <;> intro hc) | fail))
      (refine O.c rfl ((headLength_any _ _).mono ?_); rintro en w' ⟨rfl, rfl⟩; refine ⟨_, rfl, ?_⟩)
      rw [headLength_good (n := ((rdH xs).l.length : Int)) ⟨by omega, g4.2.2⟩]
      dsimp only
      have g5 : (((xs.length : Int) % 48) == 47) = true := by rw [beq_iff_eq]; omega
      (repeat' (first | refine stp ?_ | refine stq ?_ | (refine st3 ?_; clear hA; intro w' hA) | (refine st4 ?_; clear hA; intro w' hA) | (refine st2 ?_ ?_ <;> intro hc) | fail))
      (refine C.ret [_] ⟨rfl, trivial⟩ ?_)
      rw [g5]
      exact ⟨rfl, hA.toBelow⟩
    · (refine O.c rfl ((headFrom_bad _ A cap _ xs (hA.has.sl_old (by simp) hl) hx hc hm hE rfl).mono ?_); rintro en w' ⟨rfl, hb⟩; refine ⟨_, rfl, ?_⟩; replace hA := hA.below hb; clear hb)
      (repeat' (first | refine stp ?_ | refine stq ?_ | (refine st3 ?_; clear hA; intro w' hA) | (refine st4 ?_; clear hA; intro w' hA) | (refine st2 ?_ ?_ <;> intro hc) | fail))
      (refine O.new hA ?_; clear hA; intro x w' hA)
      (repeat' (first | refine stp ?_ | refine stq ?_ | (refine st3 ?_; clear hA; intro w' hA) | (refine st4 ?_; clear hA; intro w' hA) | (refine st2 ?_ ?_ <;> intro hc) | fail))
      (refine C.ret [_] ⟨rfl, trivial⟩ ?_)
      exact ⟨rfl, hA.toBelow⟩)
end Go.Proofs.Ytmajepinbldneaa
