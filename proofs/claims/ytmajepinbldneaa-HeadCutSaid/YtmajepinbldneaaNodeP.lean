/- What the functions of node, sub and layer answer, as plain functions of whole numbers. -/
import Derived.Test.YtmajepinbldneaaBase
namespace Go.Proofs.Ytmajepinbldneaa
set_option linter.unusedVariables false
set_option linter.unusedSimpArgs false
open Go.RowKit
def dep (n : Int) : Int := (Lib.bitLen n.toNat : Int) - 1
theorem dep_hi (n : Int) : dep n ≤ 63 := by have := bitLen_le n.toNat; unfold dep; omega
theorem dep_lo (n : Int) : -1 ≤ dep n := by unfold dep; omega
def isHigh (h : Int) : Bool := decide (1 ≤ h) && decide (h ≤ 32)
theorem isHigh_iff {h : Int} : isHigh h = true ↔ 1 ≤ h ∧ h ≤ 32 := by simp [isHigh]
def nodeCheck (h n : Int) : Int := if isHigh h = false ∨ n < 1 ∨ h < dep n then 1 else 0
theorem nodeCheck_zero {h n : Int} : nodeCheck h n = 0 ↔ 1 ≤ h ∧ h ≤ 32 ∧ 1 ≤ n ∧ dep n ≤ h := by
  unfold nodeCheck; split <;> simp_all [isHigh] <;> omega
def nodeBoth (h a b : Int) : Int := if nodeCheck h a = 0 ∧ nodeCheck h b = 0 then 0 else 1
def aboveB (a b : Int) : Bool := decide (dep a ≤ dep b) && (b / 2 ^ (dep b - dep a).toNat == a)
def nodeAbove (h a b : Int) : Bool × Int := if nodeBoth h a b = 0 then (aboveB a b, 0) else (false, nodeBoth h a b)
def nodeDepth (h n : Int) : Int × Int := if nodeCheck h n = 0 then (dep n, 0) else (0, nodeCheck h n)
/-! sub -/
def subCheck (h : Int) (s : Sub) : Int := if s.j = 0 then nodeCheck h s.i else if (nodeAbove h s.i s.j).2 ≠ 0 ∨ (nodeAbove h s.i s.j).1 = false ∨ s.i = s.j then 1 else 0
def stepN (h : Int) : Int := if h ≤ 1 then 1 else if h ≤ 4 then 2 else if h ≤ 9 then 3 else if h ≤ 16 then 4 else if h ≤ 25 then 5 else 6
theorem stepN_lo (h : Int) : 1 ≤ stepN h := by unfold stepN; repeat (split <;> try omega)
theorem stepN_hi (h : Int) : stepN h ≤ 6 := by unfold stepN; repeat (split <;> try omega)
theorem stepN_eq {h n : Int} (h2 : h ≤ 32) (n1 : 1 ≤ n) (n6 : n ≤ 6) (lo : n = 1 ∨ (n - 1) * (n - 1) < h) (hi : h ≤ n * n) : n = stepN h := by
  obtain rfl | rfl | rfl | rfl | rfl | rfl : n = 1 ∨ n = 2 ∨ n = 3 ∨ n = 4 ∨ n = 5 ∨ n = 6 := by omega
  all_goals (unfold stepN; simp at lo hi; repeat (split <;> try omega))
theorem stepN_six {h n : Int} (h2 : h ≤ 32) (n1 : 1 ≤ n) (n6 : n ≤ 6) (lo : n * n < h) : n + 1 ≤ 6 := by
  obtain rfl | rfl | rfl | rfl | rfl | rfl : n = 1 ∨ n = 2 ∨ n = 3 ∨ n = 4 ∨ n = 5 ∨ n = 6 := by omega
  all_goals omega
def subStep (h : Int) : Int × Int := if isHigh h = true then (stepN h, 0) else (0, 1)
/-- The depths of a subset's nodes, the next special depth, whether the first one's is special. -/
def nextN (h i : Int) : Int := min ((i / stepN h + 1) * stepN h) h
def specB (h i : Int) : Bool := (i % stepN h == 0) || (i == h)
def subUseful (h : Int) (s : Sub) : Bool × Int :=
  if subCheck h s ≠ 0 then (false, subCheck h s) else if s.j = 0 then (s.i == 1, 0) else (specB h (dep s.i) || decide (dep s.j ≤ nextN h (dep s.i)), 0)
/-! cmp -/
def cmpI (a b : Int) : Int := if a < b then -1 else if b < a then 1 else 0
def orI (x y : Int) : Int := if x = 0 then y else x
def lessB (a b : Sub) : Bool := decide (orI (cmpI a.i b.i) (cmpI a.j b.j) < 0)
/-! layer -/
def layerCheck (h s : Int) : Int := if s < 1 ∨ 3 < s then 1 else nodeCheck h 1
def layerMay (h s : Int) (a : Sub) : Bool × Int :=
  if layerCheck h s ≠ 0 ∨ subCheck h a ≠ 0 then (false, 1) else if s = 1 then (a.j == 0, 0) else if s = 2 then (a.j != 0 || a.i == 1, 0) else subUseful h a
end Go.Proofs.Ytmajepinbldneaa
