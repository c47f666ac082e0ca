/- Slices that a call makes and appends to: what is owned, and the laws on append. -/
import Derived.Test.YtmajepinbldneaaBase
import Derived.Maps.AppendAt
import Derived.Deep.AppendLies
namespace Go.Proofs.Ytmajepinbldneaa
set_option linter.unusedVariables false
set_option linter.unusedSimpArgs false
open Go.RowKit

/-- v is a slice of the call's own (its row in a block from base on, of element type e), and holds xs. -/
def Own {α : Type} (f : α → List Value) (sz : Nat) (e : TypeId) (w : World) (base : Nat) (v : Value) (xs : List α) : Prop := w.ownsRow base e sz v xs.length (xs.flatMap f)
/-- The cells of an element: how many, and that each is one cell. -/
structure Enc {α : Type} (f : α → List Value) (sz : Nat) : Prop where
  len : ∀ x, (f x).length = sz
  one : ∀ x, ∀ u ∈ f x, u.oneCell' = true
  pos : 0 < sz
theorem encByte : Enc byteCells 1 := ⟨fun _ => rfl, fun _ u h => by simp [byteCells] at h; subst h; rfl, by omega⟩
theorem encU64 : Enc u64Cells 1 := ⟨fun _ => rfl, fun _ u h => by simp [u64Cells] at h; subst h; rfl, by omega⟩
theorem encInt : Enc intCells 1 := ⟨fun _ => rfl, fun _ u h => by simp [intCells] at h; subst h; rfl, by omega⟩
theorem encSub : Enc Sub.cells 2 := ⟨fun _ => rfl, fun _ u h => by simp only [Sub.cells, List.mem_cons, List.not_mem_nil, or_false] at h; rcases h with rfl | rfl <;> rfl, by omega⟩
theorem encTerm : Enc Term.cells 3 := ⟨fun _ => rfl, fun _ u h => by simp only [Term.cells, List.mem_cons, List.not_mem_nil, or_false] at h; rcases h with rfl | rfl | rfl <;> rfl, by omega⟩
theorem encPart : Enc Part.cells 11 := ⟨fun _ => rfl, fun _ u h => by simp only [Part.cells, List.mem_cons, List.not_mem_nil, or_false] at h; rcases h with rfl | rfl | rfl | rfl | rfl | rfl | rfl | rfl | rfl | rfl | rfl <;> rfl, by omega⟩
theorem encEntry : Enc Entry.cells 11 := ⟨fun _ => rfl, fun _ u h => by simp only [Entry.cells, List.mem_cons, List.not_mem_nil, or_false] at h; rcases h with rfl | rfl | rfl | rfl | rfl | rfl | rfl | rfl | rfl | rfl | rfl <;> rfl, by omega⟩

section
variable {α : Type} {f : α → List Value} {sz : Nat}
theorem flat_len (E : Enc f sz) (xs : List α) : (xs.flatMap f).length = xs.length * sz := by
  induction xs with
  | nil => simp
  | cons x xs ih => simp [List.flatMap_cons, E.len, ih, Nat.add_mul]; omega
theorem flat_at (E : Enc f sz) : ∀ (xs : List α) (i : Nat) (x : α), xs[i]? = some x → ∀ j u, (f x)[j]? = some u → (xs.flatMap f)[i * sz + j]? = some u
  | [], i, x, h, _, _, _ => by simp at h
  | y :: ys, 0, x, h, j, u, hu => by
    simp at h; subst h
    have hj : j < (f y).length := (List.getElem?_eq_some_iff.1 hu).1
    rw [List.flatMap_cons, Nat.zero_mul, Nat.zero_add, List.getElem?_append_left hj]; exact hu
  | y :: ys, i + 1, x, h, j, u, hu => by
    have := flat_at E ys i x (by simpa using h) j u hu
    rw [List.flatMap_cons, List.getElem?_append_right (by rw [E.len, Nat.add_mul]; omega), E.len, ← this]
    congr 1
    rw [Nat.add_mul]; omega
theorem flat_back (E : Enc f sz) : ∀ (xs : List α) (k : Nat) (u : Value), (xs.flatMap f)[k]? = some u → ∃ i x j, xs[i]? = some x ∧ (f x)[j]? = some u ∧ k = i * sz + j
  | [], k, u, h => by simp at h
  | y :: ys, k, u, h => by
    rw [List.flatMap_cons] at h
    by_cases hk : k < sz
    · rw [List.getElem?_append_left (by rw [E.len]; exact hk)] at h
      exact ⟨0, y, k, rfl, h, by omega⟩
    · rw [List.getElem?_append_right (by rw [E.len]; omega), E.len] at h
      obtain ⟨i, x, j, hi, hj, e⟩ := flat_back E ys _ u h
      exact ⟨i + 1, x, j, by simpa using hi, hj, by rw [Nat.add_mul]; omega⟩
variable {e : TypeId} {w w' : World} {base : Nat} {v : Value} {xs ys : List α}
theorem Own.nil (f : α → List Value) (sz : Nat) (e : TypeId) (w : World) (base : Nat) : Own f sz e w base (.slice none 0 0) ([] : List α) := World.ownsRow_nil w base e sz
theorem Own.mono (h : Own f sz e w base v xs) {base' : Nat} (hb : base' ≤ base) : Own f sz e w base' v xs := by
  refine ⟨h.1, ?_⟩
  rcases h.2 with h2 | ⟨g, cap, cur, h1, h2, h3⟩
  · exact .inl h2
  · exact .inr ⟨g, cap, cur, h1, Nat.le_trans hb h2, h3⟩
theorem Own.keep (h : Own f sz e w base v xs) {row : Option Nat} (hg : w.grownBy w' row) (hne : v.ownBlock = none ∨ v.ownBlock ≠ row) : Own f sz e w' base v xs := World.ownsRow.kept h hg hne
theorem Own.below (h : Own f sz e w base v xs) (hb : Below w.heap.size w w') : Own f sz e w' base v xs :=
  h.keep (row := none) ⟨hb.os, hb.tape, hb.output, hb.size, fun i hi _ => hb.block i hi⟩ (by cases v.ownBlock <;> simp)
theorem Own.alloc (h : Own f sz e w base v xs) (o : Obj) : Own f sz e (w.alloc o) base v xs := World.ownsRow.alloc h o
theorem Own.drew (h : Own f sz e w base v xs) : Own f sz e w.drew base v xs := h
theorem Own.drewN (h : Own f sz e w base v xs) (n : Nat) : Own f sz e (w.drewN n) base v xs := h
theorem Own.lo (h : Own f sz e w base v xs) : ∀ k, v.ownBlock = some k → base ≤ k := fun k hk => (World.ownsRow.lt h k hk).1
theorem Own.hi (h : Own f sz e w base v xs) : ∀ k, v.ownBlock = some k → k < w.heap.size := fun k hk => (World.ownsRow.lt h k hk).2
theorem Own.sl (E : Enc f sz) (h : Own f sz e w base v xs) : ∃ A c, v = .slice A xs.length c ∧ xs.length ≤ c ∧ Sl f sz w A xs := by
  rcases h.2 with ⟨rfl, h0⟩ | ⟨g, cap, cur, rfl, hb, hh, hnc, _, _, _⟩
  · exact ⟨none, 0, by rw [h0], by omega, .inl (List.eq_nil_of_length_eq_zero h0)⟩
  · refine ⟨_, cap, rfl, hnc, .inr ⟨g, 0, rfl, (World.ownsRow.lt h g rfl).2, fun i x hx j u hu => ?_⟩⟩
    have hc := World.ownsRow.cells h (g := g) rfl (i * sz + j) u (flat_at E xs i x hx j u hu)
    rw [← hc]
    congr 1
    unfold Addr.add
    split <;> simp_all
/-- A row of another element type lies in another block. -/
theorem Own.far (h : Own f sz e w base v xs) {g : Nat} {t : TypeId} {cs : Array Value} {fr : Nat × Nat} (hg : w.heap[g]? = some (.cells cs t fr)) (hne : e ≠ t) : v.ownBlock ≠ some g := by
  rcases h.2 with ⟨rfl, _⟩ | ⟨g', cap, cur, rfl, _, hh, _⟩
  · simp [Value.ownBlock]
  · intro he
    have : g' = g := by simpa [Value.ownBlock] using he
    subst this
    rw [hh] at hg
    injection hg with hg
    injection hg with _ ht
    exact hne ht
theorem Own.far' {β : Type} {f' : β → List Value} {sz' : Nat} {e' : TypeId} {base' : Nat} {v' : Value} {ys' : List β} (h : Own f sz e w base v xs) (h' : Own f' sz' e' w base' v' ys') (hne : e ≠ e') : v.ownBlock = none ∨ v.ownBlock ≠ v'.ownBlock := by
  rcases h'.2 with ⟨rfl, _⟩ | ⟨g', cap, cur, rfl, _, hh, _⟩
  · cases hv : v.ownBlock <;> simp [Value.ownBlock]
  · exact .inr (by simpa [Value.ownBlock] using h.far hh hne)
theorem Sl.new (w : World) (x : α) (e : TypeId) (cs : List Value) (hc : cs = f x) : Sl f sz (w.alloc (.cells cs.toArray e)) (some ⟨w.heap.size, 0, none⟩) [x] := by
  subst hc
  refine .inr ⟨w.heap.size, 0, rfl, by simp, fun i y hy j u hu => ?_⟩
  have hi : i = 0 := by have := (List.getElem?_eq_some_iff.1 hy).1; simp at this; exact this
  subst hi
  simp at hy; subst hy
  simpa using hu

theorem Own.lit (E : Enc f sz) (w : World) (H : Nat) (cs : Array Value) (hH : w.heap.size = H) (hc : cs.toList = xs.flatMap f) (hb : base ≤ H) (hl : xs.length ≤ 9223372036854775807) :
    Own f sz e (w.alloc (.cells cs e)) base (.slice (some ⟨H, 0, none⟩) xs.length xs.length) xs := by
  subst hH
  have h := World.ownsRow_lit (base := base) (e := e) (size := sz) w cs xs.length hb (by simpa [maxLen] using hl) (by rw [← Array.length_toList, hc, flat_len E])
  unfold Own
  rwa [hc] at h

/-- What an append leaves. -/
structure Grows (f : α → List Value) (sz : Nat) (e : TypeId) (base : Nat) (w w' : World) (v v' : Value) (zs : List α) : Prop where
  own : Own f sz e w' base v' zs
  grown : w.grownBy w' v.ownBlock
  place : v'.ownBlock = v.ownBlock ∨ ∃ b, v'.ownBlock = some b ∧ w.heap.size ≤ b
theorem Grows.below {v' : Value} (h : Grows f sz e base w w' v v' ys) (ho : Own f sz e w base v xs) (hb : base ≤ w.heap.size) : Below base w w' :=
  (Below.refl base w).grown h.grown hb ho.lo
theorem Grows.trans {w'' : World} {v' v'' : Value} {zs : List α} (h : Grows f sz e base w w' v v' ys) (k : Grows f sz e base w' w'' v' v'' zs) : Grows f sz e base w w'' v v'' zs := by
  refine ⟨k.own, ⟨k.grown.os.trans h.grown.os, k.grown.tape.trans h.grown.tape, k.grown.output.trans h.grown.output, Nat.le_trans h.grown.size k.grown.size, fun i hi hne => ?_⟩, ?_⟩
  · rw [k.grown.block i (Nat.lt_of_lt_of_le hi h.grown.size) ?_, h.grown.block i hi hne]
    rcases h.place with e1 | ⟨b, e1, hb⟩
    · rw [e1]; exact hne
    · rw [e1]; intro he; injection he with he; omega
  · rcases k.place with e1 | ⟨b, e1, hb⟩
    · rw [e1]; exact h.place
    · exact .inr ⟨b, e1, Nat.le_trans h.grown.size hb⟩
theorem Grows.refl (h : Own f sz e w base v xs) : Grows f sz e base w w v v xs := ⟨h, ⟨rfl, rfl, rfl, Nat.le_refl _, fun _ _ _ => rfl⟩, .inl rfl⟩
/-- A block that is none of its rows stays. -/
theorem Grows.box {v' : Value} {b : Nat} {cs : Array Value} (h : Grows f sz e base w w' v v' ys) (hb : Box w b cs) (hlt : b < w.heap.size) (hne : v.ownBlock ≠ some b) : Box w' b cs ∧ v'.ownBlock ≠ some b ∧ b < w'.heap.size := by
  refine ⟨Box.grown hb h.grown hlt hne, ?_, Nat.lt_of_lt_of_le hlt h.grown.size⟩
  rcases h.place with e1 | ⟨c, e1, hc⟩
  · rw [e1]; exact hne
  · rw [e1]; intro he; injection he with he; omega
theorem Own.ne_new (h : Own f sz e w base v xs) : v.ownBlock ≠ some w.heap.size := fun he => Nat.lt_irrefl _ (h.hi _ he)
/-- In front of it: blocks were made, orders drawn. -/
theorem Grows.from_ {w0 : World} {v' : Value} (h : Grows f sz e base w w' v v' ys) (hb : Below w0.heap.size w0 w) : Grows f sz e base w0 w' v v' ys := by
  refine ⟨h.own, ⟨h.grown.os.trans hb.os, h.grown.tape.trans hb.tape, h.grown.output.trans hb.output, Nat.le_trans hb.size h.grown.size, fun i hi hne => ?_⟩, ?_⟩
  · rw [h.grown.block i (Nat.lt_of_lt_of_le hi hb.size) hne, hb.block i hi]
  · rcases h.place with e1 | ⟨b, e1, hb'⟩
    · exact .inl e1
    · exact .inr ⟨b, e1, Nat.le_trans hb.size hb'⟩
end

section
variable {α : Type} {f : α → List Value} {sz : Nat} {P : Program}
/-- append(v, s...): v of the call's own, s a slice that reads as ys (nil, empty or not). -/
theorem run_app (E : Enc f sz) (w : World) (base : Nat) (t ty e : TypeId) (z : Value) (bytes : Nat) (ht : P.underlying t = some (.slice e))
    (hinfo : (P.info? e).map (fun i => (i.zero, i.size, i.bytes)) = some (some z, sz, bytes)) (hz : z.cells.size = sz)
    (v : Value) (xs : List α) (hown : Own f sz e w base v xs) (A : Option Addr) (c : Nat) (ys : List α) (hr : Sl f sz w A ys)
    (hl : xs.length + ys.length ≤ 9223372036854775807) (hb : (xs.length + ys.length) * bytes ≤ 140737488355328) (hbase : base ≤ w.heap.size) :
    ∃ v' w', (Builtin.append_ #[t, t] ty #[v, .slice A ys.length c]).run P w = .ok v' w' ∧ Grows f sz e base w w' v v' (xs ++ ys) := by
  obtain ⟨i0, hi, hzz⟩ := Option.map_eq_some_iff.1 hinfo
  simp only [Prod.mk.injEq] at hzz
  obtain ⟨hz0, hz1, hz2⟩ := hzz
  rcases hr with rfl | ⟨g, o, rfl, hg, hc⟩
  · refine ⟨v, w, ?_, by simpa using Grows.refl hown⟩
    rcases A with _ | ad
    · rcases hown.2 with ⟨rfl, hn⟩ | ⟨g, cap, cur, rfl, _, _, hnc, _⟩
      · simp [Builtin.append_, run_underlying ht, sizeOf, typeInfo, hi, Builtin.lenOf, Builtin.firstCells]
      · simp [Builtin.append_, run_underlying ht, sizeOf, typeInfo, hi, Builtin.lenOf, Builtin.firstCells, hnc, storeCells]
    · rcases hown.2 with ⟨rfl, hn⟩ | ⟨g, cap, cur, rfl, _, _, hnc, _⟩
      · simp [Builtin.append_, run_underlying ht, sizeOf, typeInfo, hi, Builtin.lenOf, Builtin.firstCells, loadCells, loadCellsFrom]
      · simp [Builtin.append_, run_underlying ht, sizeOf, typeInfo, hi, Builtin.lenOf, Builtin.firstCells, hnc, storeCells, loadCells, loadCellsFrom]
  · have hnews : ∀ j u, (ys.flatMap f)[j]? = some u → w.cell? ((⟨g, o, none⟩ : Addr).add j) = some u := by
      intro k u hu
      obtain ⟨i, x, j, hx, hj, rfl⟩ := flat_back E ys k u hu
      rw [← hc i x hx j u hj]
      congr 1
      unfold Addr.add
      split <;> simp_all [Nat.add_assoc]
    obtain ⟨v', w', h1, h2, h3, _, h5⟩ := run_append_own_at (P := P) w base t ty e i0 z sz bytes ht hi hz0 hz1 hz2 hz E.pos v xs.length (xs.flatMap f) hown ⟨g, o, none⟩ ys.length c (ys.flatMap f)
      (flat_len E ys) hnews (by intro u hu; obtain ⟨y, _, hy⟩ := List.mem_flatMap.1 hu; exact E.one y u hy) (by simp only [maxLen]; omega) hb hbase
    refine ⟨v', w', h1, ⟨by simpa [Own] using h2, h3, ?_⟩⟩
    rcases h5 with h5 | h5
    · exact .inl h5
    · exact .inr ⟨_, h5, Nat.le_refl _⟩
theorem wp_app {o : Oper} {a : Act} {K : Act → World → Prop} {Q : Exit → Act → World → Prop} (E : Enc f sz) (w : World) (base : Nat) (t e : TypeId) (z : Value) (bytes : Nat) (ht : P.underlying t = some (.slice e))
    (hinfo : (P.info? e).map (fun i => (i.zero, i.size, i.bytes)) = some (some z, sz, bytes)) (hz : z.cells.size = sz) (s x : Operand)
    (ho : o.op = .call { callee := .builtin .append, args := #[s, x], argTypes := #[t, t] })
    (v : Value) (xs : List α) (hs : a.eval s = v) (hown : Own f sz e w base v xs) (A : Option Addr) (m c : Nat) (ys : List α) (hx : a.eval x = .slice A m c) (hm : m = ys.length) (hr : Sl f sz w A ys)
    (hl : xs.length + ys.length ≤ 9223372036854775807) (hb : (xs.length + ys.length) * bytes ≤ 140737488355328) (hbase : base ≤ w.heap.size)
    (h : ∀ v' w', Grows f sz e base w w' v v' (xs ++ ys) → K (a.put o.dst v') w') : o.wp P a w K Q := by
  subst hm
  obtain ⟨v', w', hrun, h2⟩ := run_app (P := P) E w base t o.type e z bytes ht hinfo hz v xs hown A c ys hr hl hb hbase
  unfold Oper.wp execOp
  simp only [ho, resolve, invoke, builtin, Sem.run_bind, Sem.run_pure, Result.andThen_ok, List.map_toArray, List.map_cons, List.map_nil, hs, hx, hrun]
  exact h v' w' h2
theorem wpList_app {ops : Array Oper} {rest : List Oper} {o : Oper} {a : Act} {Q : Exit → Act → World → Prop} (hgd : o.guard = none) (E : Enc f sz) (w : World) (base : Nat) (t e : TypeId) (z : Value) (bytes : Nat) (ht : P.underlying t = some (.slice e))
    (hinfo : (P.info? e).map (fun i => (i.zero, i.size, i.bytes)) = some (some z, sz, bytes)) (hz : z.cells.size = sz) (s x : Operand)
    (ho : o.op = .call { callee := .builtin .append, args := #[s, x], argTypes := #[t, t] })
    (v : Value) (xs : List α) (hs : a.eval s = v) (hown : Own f sz e w base v xs) (A : Option Addr) (m c : Nat) (ys : List α) (hx : a.eval x = .slice A m c) (hm : m = ys.length) (hr : Sl f sz w A ys)
    (hl : xs.length + ys.length ≤ 9223372036854775807) (hb : (xs.length + ys.length) * bytes ≤ 140737488355328) (hbase : base ≤ w.heap.size)
    (h : ∀ v' w', Grows f sz e base w w' v v' (xs ++ ys) → wpList P ops Q rest (a.put o.dst v') w') : wpList P ops Q (o :: rest) a w :=
  wpList_plain hgd fun _ hK => wp_app E w base t e z bytes ht hinfo hz s x ho v xs hs hown A m c ys hx hm hr hl hb hbase fun v' w' h2 => hK _ _ (h v' w' h2)
theorem step_app {ops : Array Oper} {o : Oper} {a : Act} {K : Act → World → Prop} {Q : Exit → Act → World → Prop} {E' : Prop} (hgd : o.guard = none) (E : Enc f sz) (w : World) (base : Nat) (t e : TypeId) (z : Value) (bytes : Nat) (ht : P.underlying t = some (.slice e))
    (hinfo : (P.info? e).map (fun i => (i.zero, i.size, i.bytes)) = some (some z, sz, bytes)) (hz : z.cells.size = sz) (s x : Operand)
    (ho : o.op = .call { callee := .builtin .append, args := #[s, x], argTypes := #[t, t] })
    (v : Value) (xs : List α) (hs : a.eval s = v) (hown : Own f sz e w base v xs) (A : Option Addr) (m c : Nat) (ys : List α) (hx : a.eval x = .slice A m c) (hm : m = ys.length) (hr : Sl f sz w A ys)
    (hl : xs.length + ys.length ≤ 9223372036854775807) (hb : (xs.length + ys.length) * bytes ≤ 140737488355328) (hbase : base ≤ w.heap.size)
    (h : ∀ v' w', Grows f sz e base w w' v v' (xs ++ ys) → K (a.put o.dst v') w') :
    if Region.wanted o (yielded ops a.tmps) = true then Oper.wp P o a w K Q else E' := by
  have hw : Region.wanted o (yielded ops a.tmps) = true := by simp [Region.wanted, hgd]
  rw [if_pos hw]
  exact wp_app E w base t e z bytes ht hinfo hz s x ho v xs hs hown A m c ys hx hm hr hl hb hbase h
end
end Go.Proofs.Ytmajepinbldneaa
