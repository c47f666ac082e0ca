/- Regions that draw, whose quiet part comes first and whose rest has one order: walked as a list. -/
import Derived.Test.YtmajepinbldneaaEngI
namespace Go.Proofs.Ytmajepinbldneaa
set_option linter.unusedVariables false
set_option linter.unusedSimpArgs false
open Go.RowKit
def SHO (P : Program) (n : Nat) (h t : List St) (k : List KI) (R : Env → World → Prop) (e : Env) (w : World) : Prop :=
  ∀ ops rest restT, cSteps P n ops rest = some h → cSteps P n ops restT = some t → ∀ a, Fits n e a → wpStill P ops w (fun a' => wpList P ops (lift n (post P n R k)) restT a' w) rest a
section
variable {P : Program} {n : Nat} {k : List KI} {R : Env → World → Prop} {e : Env} {w w0 : World} {X : List Nat} {M : List Ent} {h t : List St}
theorem cSteps_split {ops : Array Oper} : ∀ {rest : List Oper} {l : List St} (m : Nat), cSteps P n ops rest = some l → cSteps P n ops (rest.take m) = some (l.take m) ∧ cSteps P n ops (rest.drop m) = some (l.drop m)
  | [], l, m, hc => by simp [cSteps] at hc; subst hc; simp [cSteps]
  | o :: r, l, 0, hc => by simp [cSteps] at hc ⊢; exact hc
  | o :: r, l, m + 1, hc => by
    simp only [cSteps, Option.bind_eq_some_iff, Option.some.injEq] at hc
    obtain ⟨s, h1, l', h2, rfl⟩ := hc
    obtain ⟨h3, h4⟩ := cSteps_split m h2
    exact ⟨by simp [cSteps, h1, h3], by simpa using h4⟩
theorem K.dtl0 (hh : SHO P n h t k R e { w with drawn := w.drawn + 1 }) : SK P n (.code (.dtl h t) :: k) R e w := fun code hc a hf => by
  obtain ⟨id, ops, m, l, rfl, h1, h2, h3, rfl, rfl⟩ := comp_inv hc
  obtain ⟨h4, h5⟩ := cSteps_split m h3
  obtain ⟨ol⟩ := ops
  have := hh ⟨ol⟩ _ _ h4 h5 a hf
  rcases h2 with ⟨rfl, h2⟩ | h2
  · refine wp_region_still h1 h2 ?_
    have e1 : (Array.mk ol).size = ol.length := rfl
    simp only [e1, List.take_length, List.drop_length] at this
    exact this
  · exact wp_region_still_tail m h1 h2 this
theorem K.dtl (hA : At w0 X M w) (hh : ∀ w', At w0 X M w' → SHO P n h t k R e w') : SK P n (.code (.dtl h t) :: k) R e w := K.dtl0 (hh _ hA.drew)
theorem H.nil (hh : SO P n t k R e w) : SHO P n [] t k R e w := fun ops rest restT h1 h2 a hf => by
  cases rest with
  | nil => exact hh ops restT h2 a hf
  | cons o r =>
    simp only [cSteps, Option.bind_eq_some_iff] at h1
    obtain ⟨_, _, _, _, h⟩ := h1
    cases h
theorem H.q {d : Nat} {s : SOp} {v : Value} (hq : Qt P (· = w) e s v) (hh : SHO P n h t k R ((d, v) :: e) w) : SHO P n (⟨some d, none, s⟩ :: h) t k R e w := fun ops rest restT h1 h2 a hf => by
  obtain ⟨o, r, rfl, h3, h4⟩ := cSteps_cons h1
  obtain ⟨c1, c2, c3, c4⟩ := cStep_some h3
  dsimp only at c1 c2 c3 c4
  unfold wpStill
  rw [if_pos (by simp [Region.wanted, guard_none c2])]
  unfold Oper.still
  rw [hq o n a w c1 hf rfl, Oper.stillUpon_value, c3]
  exact (hh ops r restT h4 h2 _ (hf.put (c4 d rfl) v))
theorem H.r {d : Nat} {s : SOp} {v : Value} (hA : At w0 X M w) (hq : Qt P (Has w0 X M) e s v) (hh : SHO P n h t k R ((d, v) :: e) w) : SHO P n (⟨some d, none, s⟩ :: h) t k R e w := H.q (hq.weak (by rintro _ rfl; exact hA.has)) hh
theorem H.g {d : Option Nat} {g : Nat} {b : Bool} {s : SOp} (hg : fnd e g = some (.bool b)) (hh : SHO P n (⟨d, none, s⟩ :: h) t k R e w) : SHO P n (⟨d, some (g, b), s⟩ :: h) t k R e w := fun ops rest restT h1 h2 a hf => by
  obtain ⟨o, r, rfl, h3, h4⟩ := cSteps_cons h1
  obtain ⟨c1, c2, c3, c4⟩ := cStep_some h3
  dsimp only at c1 c2 c3 c4
  have hw := wanted_of c2 hf hg
  have hw2 : Region.wanted o (yielded ops a.tmps) = true := by rw [hw]; cases b <;> rfl
  have hd : dOk n d = true := by
    cases d with
    | none => rfl
    | some d => exact Nat.ble_eq_true_of_le (c4 d rfl)
  have := hh ops ({ o with guard := none } :: r) restT (by simp [cSteps, cStep, c1, cGuard, hd, h4, c3]) h2 a hf
  unfold wpStill at this ⊢
  rw [if_pos hw2]
  rw [if_pos (by simp [Region.wanted])] at this
  exact this
theorem H.skip {d g : Nat} {b want : Bool} {s : SOp} (hg : fnd e g = some (.bool b)) (hb : Bool.xor b want = true) (hh : SHO P n h t k R ((d, undef) :: e) w) : SHO P n (⟨some d, some (g, want), s⟩ :: h) t k R e w := fun ops rest restT h1 h2 a hf => by
  obtain ⟨o, r, rfl, h3, h4⟩ := cSteps_cons h1
  obtain ⟨c1, c2, c3, c4⟩ := cStep_some h3
  dsimp only at c1 c2 c3 c4
  have hw := wanted_of c2 hf hg
  have hw2 : Region.wanted o (yielded ops a.tmps) = false := by rw [hw]; cases b <;> cases want <;> simp_all
  unfold wpStill
  rw [if_neg (by simp [hw2]), c3]
  exact hh ops r restT h4 h2 _ (hf.put (c4 d rfl) undef)
theorem H.skT {d g : Nat} {s : SOp} (hg : fnd e g = some (.bool true)) (hh : SHO P n h t k R ((d, undef) :: e) w) : SHO P n (⟨some d, some (g, false), s⟩ :: h) t k R e w := H.skip hg rfl hh
theorem H.skF {d g : Nat} {s : SOp} (hg : fnd e g = some (.bool false)) (hh : SHO P n h t k R ((d, undef) :: e) w) : SHO P n (⟨some d, some (g, true), s⟩ :: h) t k R e w := H.skip hg rfl hh
theorem H.env {e' : Env} (hle : Le e' e) (hh : SHO P n h t k R e' w) : SHO P n h t k R e w := fun ops rest restT h1 h2 a hf => hh ops rest restT h1 h2 a (hle.fits hf)
theorem H.knT {d : Option Nat} {g : Nat} {b want : Bool} {s : SOp} (hg : fnd e g = some (.bool b)) (hb : b = true) (h1 : SHO P n (⟨d, some (g, want), s⟩ :: h) t k R ((g, .bool true) :: e) w) : SHO P n (⟨d, some (g, want), s⟩ :: h) t k R e w := H.env (le_bool (by rw [hg, hb])) h1
theorem H.knF {d : Option Nat} {g : Nat} {b want : Bool} {s : SOp} (hg : fnd e g = some (.bool b)) (hb : b = false) (h1 : SHO P n (⟨d, some (g, want), s⟩ :: h) t k R ((g, .bool false) :: e) w) : SHO P n (⟨d, some (g, want), s⟩ :: h) t k R e w := H.env (le_bool (by rw [hg, hb])) h1
theorem H.split {d : Option Nat} {g : Nat} {b want : Bool} {s : SOp} (hg : fnd e g = some (.bool b)) (h1 : b = true → SHO P n (⟨d, some (g, want), s⟩ :: h) t k R ((g, .bool true) :: e) w) (h2 : b = false → SHO P n (⟨d, some (g, want), s⟩ :: h) t k R ((g, .bool false) :: e) w) : SHO P n (⟨d, some (g, want), s⟩ :: h) t k R e w := by
  cases b
  · exact H.env (le_bool hg) (h2 rfl)
  · exact H.env (le_bool hg) (h1 rfl)
end
end Go.Proofs.Ytmajepinbldneaa
