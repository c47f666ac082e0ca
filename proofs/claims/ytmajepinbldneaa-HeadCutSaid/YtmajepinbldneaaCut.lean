/- Cuts of slices that read as lists: xs[:h], xs[l:], xs[l:h], xs[:h:m]. -/
import Derived.Test.YtmajepinbldneaaBase
import Derived.Laws.Slices
namespace Go.Proofs.Ytmajepinbldneaa
set_option linter.unusedVariables false
set_option linter.unusedSimpArgs false
open Go.RowKit
section
variable {α : Type} {f : α → List Value} {sz : Nat} {w : World} {A : Option Addr} {xs : List α}
def cutAt (A : Option Addr) (c l sz : Nat) : Option Addr := if c = l then A else A.map (·.add (l * sz))
theorem Sl.drop_ (h : Sl f sz w A xs) (l c : Nat) (hl : l ≤ xs.length) (hc : xs.length ≤ c) : Sl f sz w (cutAt A c l sz) (xs.drop l) := by
  unfold cutAt
  rcases h with rfl | ⟨g, o, rfl, hg, hcell⟩
  · exact .inl (by simp)
  · split
    · rename_i e
      exact .inl (List.drop_eq_nil_of_le (by omega))
    · refine .inr ⟨g, o + l * sz, ?_, hg, fun i x hx j u hu => ?_⟩
      · simp only [Option.map_some, Option.some.injEq]
        unfold Addr.add
        split <;> simp_all
      · rw [List.getElem?_drop] at hx
        have := hcell (l + i) x hx j u hu
        rw [Nat.add_mul] at this
        rw [← this]
        congr 2
        omega
theorem Sl.take_ (h : Sl f sz w A xs) (k : Nat) : Sl f sz w A (xs.take k) := by
  rcases h with rfl | ⟨g, o, rfl, hg, hcell⟩
  · exact .inl (by simp)
  · refine .inr ⟨g, o, rfl, hg, fun i x hx j u hu => ?_⟩
    rw [List.getElem?_take] at hx
    split at hx
    · exact hcell i x hx j u hu
    · cases hx
end
section
variable {P : Program} (t e : TypeId) (sz : Nat) (ht : P.underlying t = some (.slice e)) (hi : (P.info? e).map (fun i => i.size) = some sz)
include ht hi
theorem run_size (W : World) : (sizeOf (P.elem t)).run P W = .ok sz W := by
  have he : P.elem t = e := by simp [Program.elem, ht]
  obtain ⟨i, h1, h2⟩ := Option.map_eq_some_iff.1 hi
  simp [he, sizeOf, typeInfo, h1, h2]
theorem cut_h (A : Option Addr) (n c h : Nat) (kh : IntKind) (hh : h ≤ c) (W : World) : (Instr.slice t (.slice A n c) none (some (.int kh (h : Int))) none).run P W = .ok (.slice A h c) W := by
  have he : P.elem t = e := by simp [Program.elem, ht]
  have hu : P.underlying t = some (.slice (P.elem t)) := by rw [he]; exact ht
  rw [run_slice_h W t A n c hu kh (h : Int) (by omega) (by omega), run_size t e sz ht hi]
  cases A <;> simp [sliced, Result.andThen, Addr.add]
theorem cut_l (A : Option Addr) (n c l : Nat) (kl : IntKind) (hl : l ≤ n) (W : World) : (Instr.slice t (.slice A n c) (some (.int kl (l : Int))) none none).run P W = .ok (.slice (cutAt A c l sz) (n - l) (c - l)) W := by
  have he : P.elem t = e := by simp [Program.elem, ht]
  have hu : P.underlying t = some (.slice (P.elem t)) := by rw [he]; exact ht
  rw [run_slice_l W t A n c hu kl (l : Int) (by omega) (by omega), run_size t e sz ht hi]
  simp [sliced, Result.andThen, cutAt]
theorem cut_lh (A : Option Addr) (n c l h : Nat) (kl kh : IntKind) (hl : l ≤ h) (hh : h ≤ c) (W : World) : (Instr.slice t (.slice A n c) (some (.int kl (l : Int))) (some (.int kh (h : Int))) none).run P W = .ok (.slice (cutAt A c l sz) (h - l) (c - l)) W := by
  have he : P.elem t = e := by simp [Program.elem, ht]
  have hu : P.underlying t = some (.slice (P.elem t)) := by rw [he]; exact ht
  rw [run_slice_lh W t A n c hu kl kh (l : Int) (h : Int) (by omega) (by omega) (by omega), run_size t e sz ht hi]
  simp [sliced, Result.andThen, cutAt]
end
end Go.Proofs.Ytmajepinbldneaa
