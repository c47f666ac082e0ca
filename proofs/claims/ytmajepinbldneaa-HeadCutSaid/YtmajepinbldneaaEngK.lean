/- More moves: cells of arrays, calls that write one block, loops. -/
import Derived.Test.YtmajepinbldneaaEngJ
namespace Go.Proofs.Ytmajepinbldneaa
set_option linter.unusedVariables false
set_option linter.unusedSimpArgs false
open Go.RowKit
section
variable {P : Program} {n : Nat} {k : List KI} {R : Env → World → Prop} {e : Env} {w w' w0 : World} {X : List Nat} {M : List Ent} {S : World → Prop} {K : Value → World → Prop}
theorem Qt.ata {x i : Od} {len sz b o kk : Nat} {ki : IntKind} {z : Int} (hx : ev e x = some (.pointer (some ⟨b, o, none⟩))) (hi : ev e i = some (.int ki z)) (hz : z = (kk : Int)) (hk : kk < len) : Qt P S e (.ata x i len sz) (.pointer (some ⟨b, o + kk * sz, none⟩)) :=
  Qt.pure (by
    subst hz
    have e1 : ((kk : Nat) : Int) = Int.ofNat kk := rfl
    rw [e1] at hi
    have e2 : Nat.blt kk len = true := Nat.ble_eq_true_of_le hk
    simp only [pv, hx, hi, e2, cond_true])
/-- A call that writes one known block. -/
theorem At.inner (h : At w0 X M w) {i g t : Nat} {cs cs' : List Value} {M' : List Ent} (hi : nthE M i = some (bx g t cs)) (hM : setE M i (bx g t cs') = some M') (hc : At w [g] [bx g t cs'] w') : At w0 X M' w' :=
  h.set hi hM ⟨hc.os, hc.tape, hc.output, hc.has.size, fun b hb hne => hc.has.old b hb (by simp; intro e1; subst e1; exact hne rfl)⟩ (bx_loc _ _ _) (hc.nth (i := 0) rfl) (fun b hb => by cases hb; exact ⟨hc.lt (bx g t cs') (by simp) g rfl, .inl rfl⟩)
theorem At.heap_bx (h : At w0 X M w) {i g t : Nat} {cs : List Value} (hi : nthE M i = some (bx g t cs)) : w.heap[g]? = some (.cells ⟨cs⟩ t (0, 0)) := h.nth hi
theorem At.ne_old (h : At w0 [] M w) {i g t : Nat} {cs : List Value} (hi : nthE M i = some (bx g t cs)) {b : Nat} (hb : b < w0.heap.size) : b ≠ g := by
  have := h.new (bx g t cs) (List.mem_of_getElem? (by rw [← nthE_eq]; exact hi)) g rfl
  rcases this with h1 | h1
  · omega
  · cases h1
theorem At.own {α : Type} {f : α → List Value} {sz t i : Nat} {v : Value} {xs : List α} (h : At w0 [] M w) (hi : nthE M i = some (ow f sz t v xs)) : Own f sz t w w0.heap.size v xs := by
  have ho : Own f sz t w 0 v xs := h.nth hi
  refine ⟨ho.1, ?_⟩
  rcases ho.2 with h2 | ⟨g, cap, cur, h1, h2, h3⟩
  · exact .inl h2
  · refine .inr ⟨g, cap, cur, h1, ?_, h3⟩
    rcases h.new _ (List.mem_of_getElem? (by rw [← nthE_eq]; exact hi)) g (by subst h1; rfl) with h4 | h4
    · exact h4
    · cases h4
theorem Le.cons' {e e' : Env} {kk : Nat} {v v' : Value} (h : fnd e kk = some v') (hv : v' = v) (h' : Le e' e) : Le ((kk, v) :: e') e := Le.cons (hv ▸ h) h'
end
end Go.Proofs.Ytmajepinbldneaa
