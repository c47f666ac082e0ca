/- What head's functions answer. -/
import Derived.Test.YtmajepinbldneaaNodeP
import Derived.Test.YtmajepinbldneaaOctP
namespace Go.Proofs.Ytmajepinbldneaa
open Go.RowKit
def shutB (v : Val) : Bool := v.sealed && v.eqB ⟨false, true, 0, 0, v.c0, v.c1, v.t0, v.t1, 0⟩
structure Hdr where (sc h ep : Int) (l : List Part) (pay : Val)
def partOk (h sc : Int) (l : List Part) (i : Nat) : Bool :=
  match l[i]? with
  | none => true
  | some p => (layerMay h sc p.s).2 == 0 && ((layerMay h sc p.s).1 && (shutB p.w && (i == 0 || match l[i - 1]? with | none => true | some q => lessB q.s p.s)))
theorem partOk_at {h sc : Int} {l : List Part} {k : Nat} {p : Part} (hp : l[k]? = some p) :
    partOk h sc l k = ((layerMay h sc p.s).2 == 0 && ((layerMay h sc p.s).1 && (shutB p.w && (k == 0 || match l[k - 1]? with | none => true | some q => lessB q.s p.s)))) := by simp [partOk, hp]
theorem partOk_c1 {h sc : Int} {l : List Part} {k : Nat} {p : Part} (hp : l[k]? = some p) (c : ((layerMay h sc p.s).2 != 0) = true) : partOk h sc l k = false := by
  rw [partOk_at hp]; simp at c; simp [c]
theorem partOk_c2 {h sc : Int} {l : List Part} {k : Nat} {p : Part} (hp : l[k]? = some p) (c : (layerMay h sc p.s).1 = false) : partOk h sc l k = false := by
  rw [partOk_at hp]; simp [c]
theorem partOk_c3 {h sc : Int} {l : List Part} {k : Nat} {p : Part} (hp : l[k]? = some p) (c : shutB p.w = false) : partOk h sc l k = false := by
  rw [partOk_at hp]; simp [c]
theorem partOk_c4 {h sc : Int} {l : List Part} {p : Part} (hp : l[0]? = some p) (c1 : ((layerMay h sc p.s).2 != 0) = false) (c2 : (layerMay h sc p.s).1 = true) (c3 : shutB p.w = true) : partOk h sc l 0 = true := by
  rw [partOk_at hp]; simp at c1; simp [c1, c2, c3]
theorem partOk_c5 {h sc : Int} {l : List Part} {k : Nat} {p q : Part} (hp : l[k]? = some p) (hk : k ≠ 0) (hq : l[k - 1]? = some q) (c1 : ((layerMay h sc p.s).2 != 0) = false) (c2 : (layerMay h sc p.s).1 = true) (c3 : shutB p.w = true) : partOk h sc l k = lessB q.s p.s := by
  rw [partOk_at hp]; simp at c1; simp [c1, c2, c3, hq, hk]
def headCheck (x : Hdr) : Int :=
  if nodeCheck x.h 1 ≠ 0 ∨ x.ep < 1 ∨ 1099511627776 < x.ep ∨ 32768 < (x.l.length : Int) ∨ shutB x.pay = false then 1
  else if (layerMay x.h x.sc ⟨1, 0⟩).2 ≠ 0 then (layerMay x.h x.sc ⟨1, 0⟩).2
  else if ∀ i, i < x.l.length → partOk x.h x.sc x.l i = true then 0 else 1
theorem headCheck_bad {x : Hdr} {k : Nat} (hn : nodeCheck x.h 1 = 0 ∧ 1 ≤ x.ep ∧ x.ep ≤ 1099511627776 ∧ (x.l.length : Int) ≤ 32768 ∧ shutB x.pay = true ∧ (layerMay x.h x.sc ⟨1, 0⟩).2 = 0) (hk : k < x.l.length) (hb : partOk x.h x.sc x.l k = false) : headCheck x = 1 := by
  obtain ⟨n1, n2, n3, n4, n5, n6⟩ := hn
  unfold headCheck
  rw [if_neg (by simp [n1, n5]; omega), if_neg (by simp [n6]), if_neg (fun h => by have := h k hk; rw [hb] at this; cases this)]
theorem headCheck_parts {sc h ep : Int} {l : List Part} {pay : Val} (hc : headCheck ⟨sc, h, ep, l, pay⟩ = 0) : 1 ≤ ep ∧ ep ≤ 1099511627776 ∧ (l.length : Int) ≤ 32768 := by
  unfold headCheck at hc
  split at hc
  · cases hc
  · rename_i hn
    simp only [not_or] at hn
    omega
theorem headCheck_good {x : Hdr} (hn : nodeCheck x.h 1 = 0 ∧ 1 ≤ x.ep ∧ x.ep ≤ 1099511627776 ∧ (x.l.length : Int) ≤ 32768 ∧ shutB x.pay = true ∧ (layerMay x.h x.sc ⟨1, 0⟩).2 = 0) (hb : ∀ i, i < x.l.length → partOk x.h x.sc x.l i = true) : headCheck x = 0 := by
  obtain ⟨n1, n2, n3, n4, n5, n6⟩ := hn
  unfold headCheck
  rw [if_neg (by simp [n1, n5]; omega), if_neg (by simp [n6]), if_pos hb]
def octP (p : Part) : List Int := le p.s.i 8 ++ (le p.s.j 8 ++ octS p.w)
theorem octP_length (p : Part) : (octP p).length = 48 := by simp [octP, le_length, octS_length]
theorem octPs_length (l : List Part) : (l.flatMap octP).length = 48 * l.length := by
  induction l with
  | nil => rfl
  | cons p l ih => rw [List.flatMap_cons, List.length_append, ih, octP_length, List.length_cons]; omega
def octH (x : Hdr) : List Int := ([1, x.sc % 256, x.h % 256] ++ le x.ep 8 ++ le x.l.length 4) ++ (x.l.flatMap octP ++ octS x.pay)
end Go.Proofs.Ytmajepinbldneaa
