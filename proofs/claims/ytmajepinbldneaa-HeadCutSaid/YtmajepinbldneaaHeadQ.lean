/- Plain laws on headers: which may be, their texts. -/
import Derived.Test.YtmajepinbldneaaHeadP
namespace Go.Proofs.Ytmajepinbldneaa
set_option linter.unusedVariables false
set_option linter.unusedSimpArgs false
open Go.RowKit
theorem lessB_iff {a b : Sub} : lessB a b = true ↔ a.i < b.i ∨ (a.i = b.i ∧ a.j < b.j) := by
  unfold lessB orI cmpI
  simp only [decide_eq_true_eq]
  repeat' split
  all_goals omega
theorem lessB_trans {a b c : Sub} (h : lessB a b = true) (k : lessB b c = true) : lessB a c = true := by
  rw [lessB_iff] at *; omega
theorem lessB_asymm {a b : Sub} (h : lessB a b = true) : lessB b a = false := by
  cases e : lessB b a
  · rfl
  · rw [lessB_iff] at *; omega
/-- What is asked of a header but for its parts. -/
def frontOk (x : Hdr) : Prop := nodeCheck x.h 1 = 0 ∧ 1 ≤ x.ep ∧ x.ep ≤ 1099511627776 ∧ (x.l.length : Int) ≤ 32768 ∧ shutB x.pay = true ∧ (layerMay x.h x.sc ⟨1, 0⟩).2 = 0
def oneOk (h sc : Int) (p : Part) : Prop := (layerMay h sc p.s).2 = 0 ∧ (layerMay h sc p.s).1 = true ∧ shutB p.w = true
theorem headCheck_zero {x : Hdr} : headCheck x = 0 ↔ frontOk x ∧ ∀ i, i < x.l.length → partOk x.h x.sc x.l i = true := by
  constructor
  · intro hc
    unfold headCheck at hc
    split at hc
    · cases hc
    · rename_i h1
      split at hc
      · rename_i h2; exact absurd hc h2
      · rename_i h2
        split at hc
        · rename_i h3
          refine ⟨?_, h3⟩
          simp only [not_or, Bool.not_eq_false] at h1
          refine ⟨by omega, by omega, by omega, by omega, h1.2.2.2.2, by omega⟩
        · cases hc
  · exact fun ⟨h1, h2⟩ => headCheck_good h1 h2
theorem partOk_true {h sc : Int} {l : List Part} {k : Nat} {p : Part} (hp : l[k]? = some p) : partOk h sc l k = true ↔ oneOk h sc p ∧ (k = 0 ∨ ∀ q, l[k - 1]? = some q → lessB q.s p.s = true) := by
  rw [partOk_at hp]
  unfold oneOk
  cases hq : l[k - 1]? with
  | none => first | (simp; done) | (simp; grind)
  | some q => first | (simp; done) | (simp; grind)
/-- Rising, none twice. -/
def Rising (l : List Part) : Prop := l.Pairwise fun a b => lessB a.s b.s = true
theorem parts_good {h sc : Int} {l : List Part} : (∀ i, i < l.length → partOk h sc l i = true) ↔ (∀ p ∈ l, oneOk h sc p) ∧ Rising l := by
  constructor
  · intro hall
    have one : ∀ i p, l[i]? = some p → oneOk h sc p ∧ (i = 0 ∨ ∀ q, l[i - 1]? = some q → lessB q.s p.s = true) := fun i p hp =>
      (partOk_true hp).1 (hall i (List.getElem?_eq_some_iff.1 hp).1)
    refine ⟨fun p hp => ?_, ?_⟩
    · obtain ⟨i, hi, e⟩ := List.mem_iff_getElem.1 hp
      exact (one i p (by rw [← e]; exact List.getElem?_eq_getElem hi)).1
    · unfold Rising
      rw [List.pairwise_iff_getElem]
      have step : ∀ d i (hi : i < l.length) (hd : i + d + 1 < l.length), lessB (l[i]).s (l[i + d + 1]).s = true := by
        intro d
        induction d with
        | zero =>
          intro i hi hd
          have := (one (i + 1) _ (List.getElem?_eq_getElem hd)).2
          rcases this with h0 | h0
          · omega
          · exact h0 _ (List.getElem?_eq_getElem hi)
        | succ d ih =>
          intro i hi hd
          have h1 := ih i hi (by omega)
          have := (one (i + (d + 1) + 1) _ (List.getElem?_eq_getElem hd)).2
          rcases this with h0 | h0
          · omega
          · exact lessB_trans h1 (h0 _ (by simp only [Nat.add_sub_cancel]; exact List.getElem?_eq_getElem (by omega)))
      intro i j hi hj hij
      obtain ⟨d, rfl⟩ : ∃ d, j = i + d + 1 := ⟨j - i - 1, by omega⟩
      exact step d i hi hj
  · intro ⟨h1, h2⟩ i hi
    unfold Rising at h2
    rw [List.pairwise_iff_getElem] at h2
    rw [partOk_true (List.getElem?_eq_getElem hi)]
    refine ⟨h1 _ (List.getElem_mem hi), ?_⟩
    rcases Nat.eq_zero_or_pos i with h0 | h0
    · exact .inl h0
    · right
      intro q hq
      obtain ⟨hl, rfl⟩ := List.getElem?_eq_some_iff.1 hq
      exact h2 (i - 1) i hl hi (by omega)
theorem headCheck_iff {x : Hdr} : headCheck x = 0 ↔ frontOk x ∧ (∀ p ∈ x.l, oneOk x.h x.sc p) ∧ Rising x.l := by
  rw [headCheck_zero, parts_good]
def without (l : List Part) (k : Nat) : List Part := l.take k ++ l.drop (k + 1)
theorem without_sub (l : List Part) (k : Nat) : (without l k).Sublist l := by
  unfold without
  have h : (l.take k ++ l.drop (k + 1)).Sublist (l.take k ++ l.drop k) := List.Sublist.append (List.Sublist.refl _) (by rw [← List.drop_drop (i := 1) (j := k)]; exact List.drop_sublist _ _)
  rwa [List.take_append_drop] at h
theorem without_length (l : List Part) (k : Nat) (h : k < l.length) : (without l k).length = l.length - 1 := by
  simp [without]; omega
theorem headCheck_fewer {sc h ep : Int} {l : List Part} {pay : Val} (hc : headCheck ⟨sc, h, ep, l, pay⟩ = 0) (k : Nat) : headCheck ⟨sc, h, ep, without l k, pay⟩ = 0 := by
  rw [headCheck_iff] at *
  obtain ⟨⟨f1, f2, f3, f4, f5, f6⟩, h1, h2⟩ := hc
  have hs := without_sub l k
  have := hs.length_le
  exact ⟨⟨f1, f2, f3, by simp at f4 ⊢; omega, f5, f6⟩, fun p hp => h1 p (hs.subset hp), h2.sublist hs⟩
theorem headCheck_pay {sc h ep : Int} {l : List Part} {pay pay' : Val} (hc : headCheck ⟨sc, h, ep, l, pay⟩ = 0) (hp : shutB pay' = true) : headCheck ⟨sc, h, ep, l, pay'⟩ = 0 := by
  rw [headCheck_iff] at *
  obtain ⟨⟨f1, f2, f3, f4, f5, f6⟩, h1, h2⟩ := hc
  exact ⟨⟨f1, f2, f3, f4, hp, f6⟩, h1, h2⟩
theorem headCheck_turned {sc h ep : Int} {l : List Part} {pay : Val} (hc : headCheck ⟨sc, h, ep, l, pay⟩ = 0) (k : Nat) (hk : 0 < k) {p q : Part} (hp : l[k]? = some p) (hq : l[k - 1]? = some q) :
    headCheck ⟨sc, h, ep, (l.set k q).set (k - 1) p, pay⟩ = 1 := by
  rw [headCheck_iff] at hc
  obtain ⟨⟨f1, f2, f3, f4, f5, f6⟩, h1, h2⟩ := hc
  have hkl := (List.getElem?_eq_some_iff.1 hp).1
  have hless : lessB q.s p.s = true := by
    unfold Rising at h2
    rw [List.pairwise_iff_getElem] at h2
    obtain ⟨a, rfl⟩ := List.getElem?_eq_some_iff.1 hp
    obtain ⟨b, rfl⟩ := List.getElem?_eq_some_iff.1 hq
    exact h2 (k - 1) k b a (by omega)
  refine headCheck_bad (k := k) ⟨f1, f2, f3, by simpa using f4, f5, f6⟩ (by simpa using hkl) ?_
  cases e : partOk h sc ((l.set k q).set (k - 1) p) k
  · rfl
  · have ek : ((l.set k q).set (k - 1) p)[k]? = some q := by
      rw [List.getElem?_set_ne (by omega), List.getElem?_set_self hkl]
    have ek1 : ((l.set k q).set (k - 1) p)[k - 1]? = some p := by
      rw [List.getElem?_set_self (by simp; omega)]
    have := ((partOk_true ek).1 e).2
    rcases this with h0 | h0
    · omega
    · have := h0 p ek1
      rw [lessB_asymm hless] at this
      cases this
theorem octH_length (x : Hdr) : (octH x).length = 47 + 48 * x.l.length := by
  simp only [octH, List.length_append, le_length, octPs_length, octS_length, List.length_cons, List.length_nil]; omega
end Go.Proofs.Ytmajepinbldneaa
