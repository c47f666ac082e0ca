/- Boxes that are written: what a cell holds behind a store, and that it may be written. -/
import Derived.Test.YtmajepinbldneaaCut
import Derived.Test.YtmajepinbldneaaOwn
import Derived.Test.YtmajepinbldneaaProg
import Derived.Laws.IdiomCopy
import Derived.Deep.MidRow
namespace Go.Proofs.Ytmajepinbldneaa
set_option linter.unusedVariables false
set_option linter.unusedSimpArgs false
open Go.RowKit
theorem infoPart : (Try.prog.info? 41).map (fun i => (i.zero, i.size, i.bytes)) = some (some (.agg #[.int .u64 0, .int .u64 0, .bool false, .bool false, .int .u64 0, .int .u64 0, .int .u64 0, .int .u64 0, .int .u64 0, .int .u64 0, .int .i64 0]), 11, 80) := by kernel_rfl
theorem sizePart : (Try.prog.info? 41).map (fun i => i.size) = some 11 := by kernel_rfl
abbrev Thaw (w : World) (b : Nat) : Prop := ∀ o, w.frozen? ⟨b, o, none⟩ = false
theorem Thaw.below {W W1 : World} {B b : Nat} (h : Thaw W b) (hb : Below B W W1) (hlt : b < B) : Thaw W1 b := fun o => (hb.frozen (p := ⟨b, o, none⟩) hlt).trans (h o)
theorem Thaw.alloc {W : World} {b : Nat} (h : Thaw W b) (cs : Array Value) (t : TypeId) : Thaw (W.alloc (.cells cs t)) b := fun i => (frozen?_alloc_cells W cs t ⟨b, i, none⟩).trans (h i)
theorem Thaw.new (W : World) (cs : Array Value) (t : TypeId) : Thaw (W.alloc (.cells cs t)) W.heap.size := fun i => World.frozen?_alloc_new (w := W) cs t i
theorem Thaw.grown {W W1 : World} {b : Nat} {row : Option Nat} (h : Thaw W b) (hg : W.grownBy W1 row) (hlt : b < W.heap.size) (hne : row ≠ some b) : Thaw W1 b :=
  fun o => (World.frozen?_of_block (a := ⟨b, o, none⟩) (hg.block b hlt (fun e => hne e.symm))).trans (h o)
theorem Thaw.drewN {W : World} {b : Nat} (h : Thaw W b) (n : Nat) : Thaw (W.drewN n) b := h
theorem Thaw.setCell {W : World} {b : Nat} (h : Thaw W b) (a : Addr) (v : Value) : Thaw (W.setCell a v) b := fun o => by
  have e : (W.setCell a v).frozen? ⟨b, o, none⟩ = W.frozen? ⟨b, o, none⟩ := by simp
  rw [e]; exact h o
theorem Box.set {W : World} {b : Nat} {cs : Array Value} (h : Box W b cs) (i : Nat) (v : Value) (hi : i < cs.size) : Box (W.setCell ⟨b, i, none⟩ v) b (cs.setIfInBounds i v) := fun o => by
  by_cases e : o = i
  · subst e
    rw [World.cell?_setCell_same W _ _ (u := cs[o]) (by rw [h o]; exact Array.getElem?_eq_getElem hi)]
    simp [hi]
  · rw [World.cell?_setCell_other W _ _ _ (by intro he; injection he with _ he; exact e he.symm), h o]
    rw [Array.getElem?_setIfInBounds_ne (by omega)]
theorem Box.other {W : World} {b : Nat} {cs : Array Value} (h : Box W b cs) (a : Addr) (v : Value) (hne : a.block ≠ b) : Box (W.setCell a v) b cs := fun o => by
  rw [World.cell?_setCell_other W _ _ _ (by intro he; exact hne (by rw [he])), h o]
theorem Sl.far {α : Type} {f : α → List Value} {sz : Nat} {W : World} {A : Option Addr} {xs : List α} (h : Sl f sz W A xs) (a : Addr) (v : Value) (hne : ∀ ad, A = some ad → a.block ≠ ad.block) : Sl f sz (W.setCell a v) A xs := by
  rcases h with h | ⟨g, o, hA, hg, hc⟩
  · exact .inl h
  · refine .inr ⟨g, o, hA, by simpa using hg, fun i x hx j u hu => ?_⟩
    rw [World.cell?_setCell_other W _ _ _ (by intro he; exact hne _ hA (by rw [he]))]
    exact hc i x hx j u hu
theorem size_setCells' (b : Nat) : ∀ (vs : List Value) (o : Nat) (w : World), (w.setCells b o vs).heap.size = w.heap.size
  | [], _, _ => rfl
  | v :: vs, o, w => by unfold World.setCells; rw [size_setCells' b vs]; simp
/-- The row of an owned slice that holds something. -/
theorem Own.slot {α : Type} {f : α → List Value} {sz : Nat} {e : TypeId} {w : World} {base : Nat} {v : Value} {xs : List α} (E : Enc f sz) (h : Own f sz e w base v xs) (hne : xs ≠ []) :
    ∃ g c, v = .slice (some ⟨g, 0, none⟩) xs.length c ∧ base ≤ g ∧ g < w.heap.size ∧ xs.length ≤ c ∧ c ≤ 9223372036854775807 ∧ Thaw w g ∧ Sl f sz w (some ⟨g, 0, none⟩) xs := by
  obtain ⟨A, c, rfl, hc, hs⟩ := h.sl E
  rcases h.2 with ⟨h1, h2⟩ | ⟨g, cap, cur, h1, hb, hh, _, hm, _⟩
  · exact absurd (List.eq_nil_of_length_eq_zero h2) hne
  · injection h1 with h1 _ h3
    subst h1 h3
    refine ⟨g, c, rfl, hb, h.hi _ rfl, hc, by simpa [maxLen] using hm, fun o => ?_, hs⟩
    simp [World.frozen?, hh]
/-- A part's eleven cells. -/
def PAt (w : World) (g o : Nat) (p : Part) : Prop := w.cell? ⟨g, o, none⟩ = some (.int .u64 p.s.i) ∧ w.cell? ⟨g, o + 1, none⟩ = some (.int .u64 p.s.j) ∧ w.cell? ⟨g, o + 2, none⟩ = some (.bool p.w.sym) ∧ w.cell? ⟨g, o + 3, none⟩ = some (.bool p.w.sealed) ∧ w.cell? ⟨g, o + 4, none⟩ = some (.int .u64 p.w.b0) ∧ w.cell? ⟨g, o + 5, none⟩ = some (.int .u64 p.w.b1) ∧ w.cell? ⟨g, o + 6, none⟩ = some (.int .u64 p.w.c0) ∧ w.cell? ⟨g, o + 7, none⟩ = some (.int .u64 p.w.c1) ∧ w.cell? ⟨g, o + 8, none⟩ = some (.int .u64 p.w.t0) ∧ w.cell? ⟨g, o + 9, none⟩ = some (.int .u64 p.w.t1) ∧ w.cell? ⟨g, o + 10, none⟩ = some (.int .i64 p.w.t)
theorem PAt.keep {w w' : World} {g o : Nat} {p : Part} (h : PAt w g o p) (hk : ∀ o, w'.cell? ⟨g, o, none⟩ = w.cell? ⟨g, o, none⟩) : PAt w' g o p := by
  unfold PAt at *
  simp only [hk]
  exact h
theorem PAt.below {w w' : World} {B g o : Nat} {p : Part} (h : PAt w g o p) (hb : Below B w w') (hlt : g < B) : PAt w' g o p := h.keep fun o => hb.cell (p := ⟨g, o, none⟩) hlt
theorem setCells_far (w : World) (g o : Nat) (vs : List Value) (b i : Nat) (hne : b ≠ g) : (w.setCells g o vs).cell? ⟨b, i, none⟩ = w.cell? ⟨b, i, none⟩ := World.cell?_setCells_out g vs o w _ fun e => absurd e hne
theorem Sl.pat {w : World} {g o : Nat} {xs : List Part} (h : Sl Part.cells 11 w (some ⟨g, o, none⟩) xs) {i : Nat} {p : Part} (hi : xs[i]? = some p) : PAt w g (o + i * 11) p := by
  obtain ⟨g', o', hA, hg, e⟩ := h.part hi
  injection hA with hA
  injection hA with hA1 hA2
  subst hA1 hA2
  exact e
theorem Sl.put {α : Type} {f : α → List Value} {sz : Nat} {w : World} {g : Nat} {xs : List α} (E : Enc f sz) (h : Sl f sz w (some ⟨g, 0, none⟩) xs) (i : Nat) (p : α) (hi : i < xs.length) : Sl f sz (w.setCells g (i * sz) (f p)) (some ⟨g, 0, none⟩) (xs.set i p) := by
  rcases h with rfl | ⟨g', o, hA, hg, hc⟩
  · simp at hi
  · injection hA with hA
    injection hA with hA1 hA2
    subst hA1 hA2
    have hlt : ∀ j, j < sz → ∀ m : Nat, m * sz + j < (m + 1) * sz := fun j hj m => by rw [Nat.add_mul]; omega
    have hsome : ∀ j, j < (f p).length → (w.cell? ⟨g, i * sz + j, none⟩).isSome = true := fun j hj => by
      have := hc i xs[i] (List.getElem?_eq_getElem hi) j ((f xs[i])[j]'(by rw [E.len] at *; exact hj)) (List.getElem?_eq_getElem _)
      rw [Nat.zero_add] at this
      rw [this]; rfl
    refine .inr ⟨g, 0, rfl, ?_, fun m x hx j u hu => ?_⟩
    · have : (w.setCells g (i * sz) (f p)).heap.size = w.heap.size := size_setCells' g (f p) (i * sz) w
      omega
    · rw [Nat.zero_add]
      by_cases e : m = i
      · subst e
        rw [List.getElem?_set_self hi] at hx
        injection hx with hx
        subst hx
        have hj : j < (f p).length := (List.getElem?_eq_some_iff.1 hu).1
        rw [World.cell?_setCells_in g (f p) (m * sz) w hsome j hj, ← hu]
        exact (List.getElem?_eq_getElem hj).symm
      · rw [List.getElem?_set_ne (fun e' => e e'.symm)] at hx
        have hj : j < sz := by rw [← E.len x]; exact (List.getElem?_eq_some_iff.1 hu).1
        rw [World.cell?_setCells_out]
        · have := hc m x hx j u hu
          rwa [Nat.zero_add] at this
        · intro _ _
          simp only [E.len]
          rcases Nat.lt_or_ge m i with hmi | hmi
          · left
            have := hlt j hj m
            have h2 : (m + 1) * sz ≤ i * sz := Nat.mul_le_mul_right _ hmi
            omega
          · right
            have h2 : (i + 1) * sz ≤ m * sz := Nat.mul_le_mul_right _ (by omega)
            rw [Nat.add_mul] at h2
            omega
theorem PAt.cell {w : World} {g o : Nat} {p : Part} (h : PAt w g o p) : ∀ j, j < 11 → (w.cell? ⟨g, o + j, none⟩).isSome = true := by
  obtain ⟨t0, t1, t2, t3, t4, t5, t6, t7, t8, t9, t10⟩ := h
  intro j hj
  match j, hj with
  | 0, _ => rw [Nat.add_zero, t0]; rfl
  | 1, _ => rw [t1]; rfl
  | 2, _ => rw [t2]; rfl
  | 3, _ => rw [t3]; rfl
  | 4, _ => rw [t4]; rfl
  | 5, _ => rw [t5]; rfl
  | 6, _ => rw [t6]; rfl
  | 7, _ => rw [t7]; rfl
  | 8, _ => rw [t8]; rfl
  | 9, _ => rw [t9]; rfl
  | 10, _ => rw [t10]; rfl
theorem PAt.there {w : World} {g o : Nat} {p : Part} (h : PAt w g o p) (hf : Thaw w g) : w.there g o 11 := fun j hj => ⟨h.cell j hj, hf _⟩
theorem part_one (p : Part) : (#[Value.int .u64 p.s.i, .int .u64 p.s.j, .bool p.w.sym, .bool p.w.sealed, .int .u64 p.w.b0, .int .u64 p.w.b1, .int .u64 p.w.c0, .int .u64 p.w.c1, .int .u64 p.w.t0, .int .u64 p.w.t1, .int .i64 p.w.t]).all (·.oneCell') = true := all_oneCell_toArray (cs := p.cells) (encPart.one p)
theorem Thaw.setCells {w : World} {b : Nat} (h : Thaw w b) (g o : Nat) (vs : List Value) : Thaw (w.setCells g o vs) b := fun i => (World.frozen?_setCells g vs o w _).trans (h i)
theorem Box.setCells {w : World} {b : Nat} {cs : Array Value} (h : Box w b cs) (g o : Nat) (vs : List Value) (hne : b ≠ g) : Box (w.setCells g o vs) b cs := fun i => (setCells_far w g o vs b i hne).trans (h i)
theorem PAt.setCells {w : World} {b i : Nat} {p : Part} (h : PAt w b i p) (g o : Nat) (vs : List Value) (hne : b ≠ g) : PAt (w.setCells g o vs) b i p := h.keep fun j => setCells_far w g o vs b j hne
theorem Below.setCells {B g : Nat} {a w : World} (h : Below B a w) (hg : B ≤ g) (o : Nat) (vs : List Value) : Below B a (w.setCells g o vs) := by
  induction vs generalizing o w with
  | nil => exact h
  | cons v vs ih => exact ih (Go.RowKit.Below.setCell h (by simpa using hg) v) (o + 1)
theorem put_last {P : Program} {md : Region.Mode} {ops : Array Oper} {Q : Exit → Act → World → Prop} {S : World → Prop} {fuel : Nat} {listed : Array Bool} {a : Act} {w : World} {i : Nat} {op : Oper}
    (hr : Region.ready md ops listed = [i]) (ho : ops[i]? = some op) (hgd : op.guard = none) (ty : TypeId) (x y : Operand) (hop : op.op = .store ty x y) (b o : Nat) (cells : Array Value)
    (hx : a.eval x = .pointer (some ⟨b, o, none⟩)) (hy : a.eval y = .agg cells) (ht : w.there b o cells.size) (hi : (P.info? ty).map (·.size) = some cells.size) (h1 : cells.all (·.oneCell') = true)
    (hS : S (w.setCells b o cells.toList)) (hd : Region.ready md ops (listed.setIfInBounds i true) = []) (h : Q .normal (a.put op.dst undef) (w.setCells b o cells.toList)) :
    wpAnyH P md ops Q S (fuel + 1) listed a w := by
  refine wpAnyH_ready hr (by simp) (AllReadyH.cons ho (fun K hK => ?_) AllReadyH.nil)
  rw [if_pos (by simp [Region.wanted, hgd])]
  exact wp_store_mid ty x y hop b o cells hx hy ht hi h1 (hK.out _ _ hS fun _ => wpAnyH_done hd h _)
end Go.Proofs.Ytmajepinbldneaa
