/- head.From, head.Bytes, for use. -/
import Derived.Test.YtmajepinbldneaaRdQ
namespace Go.Proofs.Ytmajepinbldneaa
set_option linter.unusedVariables false
set_option linter.unusedSimpArgs false
open Go.RowKit
theorem headFrom_good (w : World) (A : Option Addr) (cap n : Nat) (xs : List Int) (hl : Sl byteCells 1 w A xs) (hx : ∀ x ∈ xs, U8 x) (hc : xs.length ≤ cap) (hm : cap ≤ 9223372036854775807) (hE : fromE xs = 0) (hn : n = xs.length) :
    Calls Try.prog 19 #[.slice A n cap] w fun e w' => ∃ v, e = .returned (.tuple #[.agg #[.int .i64 (rdH xs).sc, .int .i64 (rdH xs).h, .int .i64 (rdH xs).ep, v, .bool (rdH xs).pay.sym, .bool (rdH xs).pay.sealed, .int .u64 (rdH xs).pay.b0, .int .u64 (rdH xs).pay.b1, .int .u64 (rdH xs).pay.c0, .int .u64 (rdH xs).pay.c1, .int .u64 (rdH xs).pay.t0, .int .u64 (rdH xs).pay.t1, .int .i64 (rdH xs).pay.t], .int .i64 0]) ∧ Own Part.cells 11 41 w' w.heap.size v (rdH xs).l ∧ Below w.heap.size w w' := by
  subst hn
  refine (headFrom_any w A cap xs hl hx hc hm).mono ?_
  rintro e w' ⟨h1, h2, _⟩
  obtain ⟨v, h3, h4⟩ := h2 hE
  exact ⟨v, h3, h4, h1⟩
theorem headFrom_bad (w : World) (A : Option Addr) (cap n : Nat) (xs : List Int) (hl : Sl byteCells 1 w A xs) (hx : ∀ x ∈ xs, U8 x) (hc : xs.length ≤ cap) (hm : cap ≤ 9223372036854775807) (hE : fromE xs ≠ 0) (hn : n = xs.length) :
    Calls Try.prog 19 #[.slice A n cap] w fun e w' => e = .returned (.tuple #[.agg #[.int .i64 0, .int .i64 0, .int .i64 0, .slice none 0 0, .bool false, .bool false, .int .u64 0, .int .u64 0, .int .u64 0, .int .u64 0, .int .u64 0, .int .u64 0, .int .i64 0], .int .i64 (fromE xs)]) ∧ Below w.heap.size w w' := by
  subst hn
  refine (headFrom_any w A cap xs hl hx hc hm).mono ?_
  rintro e w' ⟨h1, _, h2⟩
  exact ⟨h2 hE, h1⟩
theorem headLength_good {n : Int} (h : 0 ≤ n ∧ n ≤ 32768) : headLength n = (47 + 48 * n, 0) := by unfold headLength; rw [if_neg (by omega)]
theorem headLength_bad {n : Int} (h : n < 0 ∨ 32768 < n) : headLength n = (0, 1) := by unfold headLength; rw [if_pos h]
theorem headFrom_oct (w : World) (A : Option Addr) (cap n : Nat) (x : Hdr) (hl : Sl byteCells 1 w A (octH x)) (hc : (octH x).length ≤ cap) (hm : cap ≤ 9223372036854775807) (h0 : headCheck x = 0) (hk : ∀ p ∈ x.l, p.ok) (hp : x.pay.ok) (hn : n = (octH x).length) :
    Calls Try.prog 19 #[.slice A n cap] w fun e w' => ∃ v, e = .returned (.tuple #[.agg #[.int .i64 x.sc, .int .i64 x.h, .int .i64 x.ep, v, .bool x.pay.sym, .bool x.pay.sealed, .int .u64 x.pay.b0, .int .u64 x.pay.b1, .int .u64 x.pay.c0, .int .u64 x.pay.c1, .int .u64 x.pay.t0, .int .u64 x.pay.t1, .int .i64 x.pay.t], .int .i64 0]) ∧ Own Part.cells 11 41 w' w.heap.size v x.l ∧ Below w.heap.size w w' := by
  have := headFrom_good w A cap n (octH x) hl (octH_u8F x) hc hm (fromE_octH h0 hk hp) hn
  rw [rdH_octH h0 hk hp] at this
  exact this
theorem headBytes_rd (A : Option Addr) (cap : Nat) (xs : List Int) (w : World) (hE : fromE xs = 0) (hx : ∀ x ∈ xs, U8 x) (hl : Sl Part.cells 11 w A (rdH xs).l) (hcap : (rdH xs).l.length ≤ cap) (hcm : cap ≤ 9223372036854775807) :
    Calls Try.prog 17 #[.agg #[Value.int .i64 (rdH xs).sc, .int .i64 (rdH xs).h, .int .i64 (rdH xs).ep, .slice A (rdH xs).l.length cap, .bool (rdH xs).pay.sym, .bool (rdH xs).pay.sealed, .int .u64 (rdH xs).pay.b0, .int .u64 (rdH xs).pay.b1, .int .u64 (rdH xs).pay.c0, .int .u64 (rdH xs).pay.c1, .int .u64 (rdH xs).pay.t0, .int .u64 (rdH xs).pay.t1, .int .i64 (rdH xs).pay.t]] w
      fun e w' => ∃ v, e = .returned (.tuple #[v, .int .i64 0]) ∧ Own byteCells 1 5 w' w.heap.size v xs ∧ Below w.heap.size w w' := by
  have := headBytes_good (rdH xs).sc (rdH xs).h (rdH xs).ep A cap (rdH xs).l (rdH xs).pay w hl (rdV_ok' hx hE).2 hcap hcm (fromE_zero hE).1
  rw [show octH ⟨(rdH xs).sc, (rdH xs).h, (rdH xs).ep, (rdH xs).l, (rdH xs).pay⟩ = xs from (fromE_zero hE).2] at this
  exact this
theorem headCheck_rd (A : Option Addr) (cap : Nat) (xs : List Int) (w : World) (hE : fromE xs = 0) (hx : ∀ x ∈ xs, U8 x) (hl : Sl Part.cells 11 w A (rdH xs).l) (hcap : (rdH xs).l.length ≤ cap) (hcm : cap ≤ 9223372036854775807) :
    Calls Try.prog 16 #[.agg #[Value.int .i64 (rdH xs).sc, .int .i64 (rdH xs).h, .int .i64 (rdH xs).ep, .slice A (rdH xs).l.length cap, .bool (rdH xs).pay.sym, .bool (rdH xs).pay.sealed, .int .u64 (rdH xs).pay.b0, .int .u64 (rdH xs).pay.b1, .int .u64 (rdH xs).pay.c0, .int .u64 (rdH xs).pay.c1, .int .u64 (rdH xs).pay.t0, .int .u64 (rdH xs).pay.t1, .int .i64 (rdH xs).pay.t]] w fun e w' => e = .returned (.int .i64 0) ∧ Below w.heap.size w w' := by
  have := headCheck_any (rdH xs).sc (rdH xs).h (rdH xs).ep A cap (rdH xs).l (rdH xs).pay w hl (rdV_ok' hx hE).2 hcap hcm
  rw [show headCheck ⟨(rdH xs).sc, (rdH xs).h, (rdH xs).ep, (rdH xs).l, (rdH xs).pay⟩ = 0 from (fromE_zero hE).1] at this
  exact this
end Go.Proofs.Ytmajepinbldneaa
