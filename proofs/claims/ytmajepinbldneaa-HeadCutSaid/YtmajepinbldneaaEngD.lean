/- What is known of memory: blocks that were there, blocks that the call knows; and what reads yield. -/
import Derived.Test.YtmajepinbldneaaEngC
import Derived.Test.YtmajepinbldneaaCut
import Derived.Laws.IdiomCopy
import Derived.Laws.BytesArg
import Derived.Deep.Draws
namespace Go.Proofs.Ytmajepinbldneaa
set_option linter.unusedVariables false
set_option linter.unusedSimpArgs false
open Go.RowKit
/-- What is known of one block. -/
structure Ent where
  blk : Option Nat
  holds : World → Prop
def Ent.Loc (e : Ent) : Prop := ∀ w w' : World, (∀ b, e.blk = some b → w'.heap[b]? = w.heap[b]?) → e.holds w → e.holds w'
/-- All cells of a block. -/
def bx (b t : Nat) (cs : List Value) : Ent := ⟨some b, fun w => w.heap[b]? = some (.cells ⟨cs⟩ t (0, 0))⟩
/-- A slice of the call's own, and what it holds. -/
def ow {α : Type} (f : α → List Value) (sz t : Nat) (v : Value) (xs : List α) : Ent := ⟨v.ownBlock, fun w => Own f sz t w 0 v xs⟩
theorem bx_loc (b t : Nat) (cs : List Value) : (bx b t cs).Loc := fun w w' h hw => (h b rfl).trans hw
theorem ow_loc {α : Type} (f : α → List Value) (sz t : Nat) (v : Value) (xs : List α) : (ow f sz t v xs).Loc := fun w w' h hw => by
  refine ⟨hw.1, ?_⟩
  rcases hw.2 with h2 | ⟨g, cap, cur, h1, h2, h3, h4⟩
  · exact .inl h2
  · subst h1
    exact .inr ⟨g, cap, cur, rfl, h2, by rw [h g rfl]; exact h3, h4⟩
structure Has (w0 : World) (X : List Nat) (M : List Ent) (w : World) : Prop where
  size : w0.heap.size ≤ w.heap.size
  old : ∀ b, b < w0.heap.size → b ∉ X → w.heap[b]? = w0.heap[b]?
  ent : ∀ e ∈ M, e.holds w
structure At (w0 : World) (X : List Nat) (M : List Ent) (w : World) : Prop where
  has : Has w0 X M w
  os : w.os = w0.os
  tape : w.tape = w0.tape
  output : w.output = w0.output
  loc : ∀ e ∈ M, e.Loc
  lt : ∀ e ∈ M, ∀ b, e.blk = some b → b < w.heap.size
  new : ∀ e ∈ M, ∀ b, e.blk = some b → w0.heap.size ≤ b ∨ b ∈ X
  apart : M.Pairwise fun e e' => ∀ b, e.blk = some b → e'.blk ≠ some b
def nthE : List Ent → Nat → Option Ent
  | [], _ => none
  | e :: _, 0 => some e
  | _ :: r, n + 1 => nthE r n
theorem nthE_eq : ∀ (M : List Ent) (i : Nat), nthE M i = M[i]?
  | [], i => by simp [nthE]
  | e :: r, 0 => rfl
  | e :: r, i + 1 => by simpa [nthE] using nthE_eq r i
def setE : List Ent → Nat → Ent → Option (List Ent)
  | [], _, _ => none
  | _ :: r, 0, x => some (x :: r)
  | e :: r, n + 1, x => (setE r n x).bind fun s => some (e :: s)
theorem setE_eq : ∀ {M : List Ent} {i : Nat} {x : Ent} {M' : List Ent}, setE M i x = some M' → M' = M.set i x
  | [], i, x, M', h => by simp [setE] at h
  | e :: r, 0, x, M', h => by simp [setE] at h; subst h; rfl
  | e :: r, i + 1, x, M', h => by
    simp only [setE, Option.bind_eq_some_iff, Option.some.injEq] at h
    obtain ⟨s, h1, rfl⟩ := h
    rw [setE_eq h1]; rfl
section
variable {w0 w w' : World} {X : List Nat} {M : List Ent}
theorem At.nth (h : At w0 X M w) {i : Nat} {e : Ent} (hi : nthE M i = some e) : e.holds w := h.has.ent e (List.mem_of_getElem? (by rw [← nthE_eq]; exact hi))
theorem At.start (w : World) : At w [] [] w := ⟨⟨Nat.le_refl _, fun _ _ _ => rfl, fun _ h => by cases h⟩, rfl, rfl, rfl, fun _ h => (by cases h), fun _ h => (by cases h), fun _ h => (by cases h), .nil⟩
/-- A block that came in, and is written. -/
theorem At.startX (w : World) (e : Ent) (g : Nat) (hb : e.blk = some g) (hg : g < w.heap.size) (hl : e.Loc) (he : e.holds w) : At w [g] [e] w :=
  ⟨⟨Nat.le_refl _, fun _ _ _ => rfl, fun x h => by simp at h; subst h; exact he⟩, rfl, rfl, rfl, fun x h => by simp at h; subst h; exact hl,
   fun x h b hx => by simp at h; subst h; rw [hb] at hx; cases hx; exact hg, fun x h b hx => by simp at h; subst h; rw [hb] at hx; cases hx; exact .inr (by simp), by simp⟩
theorem At.step (h : At w0 X M w) (hos : w'.os = w.os) (htp : w'.tape = w.tape) (hout : w'.output = w.output) (hs : w.heap.size ≤ w'.heap.size)
    (hb : ∀ b, b < w.heap.size → w'.heap[b]? = w.heap[b]?) : At w0 X M w' :=
  ⟨⟨Nat.le_trans h.has.size hs, fun b h1 h2 => (hb b (Nat.lt_of_lt_of_le h1 h.has.size)).trans (h.has.old b h1 h2), fun e he => h.loc e he w w' (fun b hx => hb b (h.lt e he b hx)) (h.has.ent e he)⟩,
   hos.trans h.os, htp.trans h.tape, hout.trans h.output, h.loc, fun e he b hx => Nat.lt_of_lt_of_le (h.lt e he b hx) hs, h.new, h.apart⟩
theorem At.below (h : At w0 X M w) (hb : Below w.heap.size w w') : At w0 X M w' := h.step hb.os hb.tape hb.output hb.size hb.block
theorem At.drew (h : At w0 X M w) : At w0 X M { w with drawn := w.drawn + 1 } := h.step rfl rfl rfl (Nat.le_refl _) fun _ _ => rfl
theorem At.drewN (h : At w0 X M w) (n : Nat) : At w0 X M (w.drewN n) := h.step rfl rfl rfl (Nat.le_refl _) fun _ _ => rfl
theorem At.toBelow (h : At w0 [] M w) : Below w0.heap.size w0 w := ⟨h.os, h.tape, h.output, h.has.size, fun b hb => h.has.old b hb (by simp)⟩
theorem At.tail {e : Ent} (h : At w0 X (e :: M) w) : At w0 X M w :=
  ⟨⟨h.has.size, h.has.old, fun x hx => h.has.ent x (List.mem_cons_of_mem _ hx)⟩, h.os, h.tape, h.output, fun x hx => h.loc x (List.mem_cons_of_mem _ hx), fun x hx => h.lt x (List.mem_cons_of_mem _ hx), fun x hx => h.new x (List.mem_cons_of_mem _ hx), (List.pairwise_cons.1 h.apart).2⟩
theorem At.sub {M' : List Ent} (h : At w0 X M w) (hs : M'.Sublist M) : At w0 X M' w :=
  ⟨⟨h.has.size, h.has.old, fun x hx => h.has.ent x (hs.subset hx)⟩, h.os, h.tape, h.output, fun x hx => h.loc x (hs.subset hx), fun x hx => h.lt x (hs.subset hx), fun x hx => h.new x (hs.subset hx), h.apart.sublist hs⟩
/-- A block that was made. -/
theorem At.add (h : At w0 X M w) (hb : Below w.heap.size w w') (e : Ent) (hl : e.Loc) (he : e.holds w') (hn : ∀ b, e.blk = some b → w.heap.size ≤ b ∧ b < w'.heap.size) : At w0 X (e :: M) w' := by
  have k := h.below hb
  refine ⟨⟨k.has.size, k.has.old, fun x hx => ?_⟩, k.os, k.tape, k.output, fun x hx => ?_, fun x hx => ?_, fun x hx => ?_, List.pairwise_cons.2 ⟨fun x hx b hb1 hb2 => ?_, k.apart⟩⟩
  · rcases List.mem_cons.1 hx with rfl | hx
    · exact he
    · exact k.has.ent x hx
  · rcases List.mem_cons.1 hx with rfl | hx
    · exact hl
    · exact k.loc x hx
  · rcases List.mem_cons.1 hx with rfl | hx
    · exact fun b hb1 => (hn b hb1).2
    · exact k.lt x hx
  · rcases List.mem_cons.1 hx with rfl | hx
    · exact fun b hb1 => .inl (Nat.le_trans h.has.size (hn b hb1).1)
    · exact k.new x hx
  · have := h.lt x hx b hb2
    have := (hn b hb1).1
    omega
theorem At.alloc (h : At w0 X M w) (cs : List Value) (t : Nat) : At w0 X (bx w.heap.size t cs :: M) (w.alloc (.cells ⟨cs⟩ t)) :=
  h.add (w' := w.alloc (.cells ⟨cs⟩ t)) ⟨rfl, rfl, rfl, by simp, fun b hb => Below.heap_alloc _ _ _ hb⟩ _ (bx_loc _ _ _) (heap_alloc_new w _) (fun b hb => by cases hb; simp)
theorem At.addOwn {α : Type} {f : α → List Value} {sz t : Nat} {v : Value} {xs : List α} (h : At w0 X M w) (hb : Below w.heap.size w w') (ho : Own f sz t w' w.heap.size v xs) : At w0 X (ow f sz t v xs :: M) w' :=
  h.add hb _ (ow_loc _ _ _ _ _) (ho.mono (Nat.zero_le _)) (fun b hb => ⟨ho.lo b hb, ho.hi b hb⟩)
theorem At.addNil {α : Type} (f : α → List Value) (sz t : Nat) (h : At w0 X M w) : At w0 X (ow f sz t (.slice none 0 0) ([] : List α) :: M) w :=
  h.add (Below.refl _ _) _ (ow_loc _ _ _ _ _) (Own.nil f sz t w 0) (fun b hb => by cases hb)
/-- One block was written, or grew elsewhere. -/
theorem At.set (h : At w0 X M w) {i : Nat} {e e' : Ent} {M' : List Ent} (hi : nthE M i = some e) (hM : setE M i e' = some M') (hg : w.grownBy w' e.blk) (hl : e'.Loc) (he : e'.holds w')
    (hn : ∀ b, e'.blk = some b → b < w'.heap.size ∧ (e.blk = some b ∨ w.heap.size ≤ b)) : At w0 X M' w' := by
  have hM' := setE_eq hM
  subst hM'
  rw [nthE_eq] at hi
  obtain ⟨hlt, hi'⟩ := List.getElem?_eq_some_iff.1 hi
  have hmem : e ∈ M := List.mem_of_getElem? hi
  have hother : ∀ (j : Nat) (hj : j < M.length), j ≠ i → ∀ b, M[j].blk = some b → e.blk ≠ some b := by
    intro j hj hji b hb he2
    have hp := List.pairwise_iff_getElem.1 h.apart
    rcases Nat.lt_or_ge j i with hl2 | hl2
    · exact hp j i hj hlt hl2 b hb (by rw [hi']; exact he2)
    · exact hp i j hlt hj (by omega) b (by rw [hi']; exact he2) hb
  have hset : ∀ x ∈ M.set i e', x = e' ∨ ∃ (j : Nat) (hj : j < M.length), j ≠ i ∧ M[j] = x := by
    intro x hx
    obtain ⟨j, hj, rfl⟩ := List.mem_iff_getElem.1 hx
    rw [List.getElem_set]
    by_cases hji : i = j
    · rw [if_pos hji]; exact .inl rfl
    · rw [if_neg hji]; exact .inr ⟨j, by simpa using hj, fun e => hji e.symm, rfl⟩
  refine ⟨⟨Nat.le_trans h.has.size hg.size, fun b h1 h2 => ?_, fun x hx => ?_⟩, hg.os.trans h.os, hg.tape.trans h.tape, hg.output.trans h.output, fun x hx => ?_, fun x hx b hb => ?_, fun x hx b hb => ?_, ?_⟩
  · rw [hg.block b (Nat.lt_of_lt_of_le h1 h.has.size) ?_, h.has.old b h1 h2]
    intro he2
    rcases h.new e hmem b he2.symm with h3 | h3
    · omega
    · exact h2 h3
  · rcases hset x hx with rfl | ⟨j, hj, hji, rfl⟩
    · exact he
    · have hm : M[j] ∈ M := List.getElem_mem hj
      exact h.loc _ hm w w' (fun b hb => hg.block b (h.lt _ hm b hb) (fun e2 => hother j hj hji b hb e2.symm)) (h.has.ent _ hm)
  · rcases hset x hx with rfl | ⟨j, hj, hji, rfl⟩
    · exact hl
    · exact h.loc _ (List.getElem_mem hj)
  · rcases hset x hx with rfl | ⟨j, hj, hji, rfl⟩
    · exact (hn b hb).1
    · exact Nat.lt_of_lt_of_le (h.lt _ (List.getElem_mem hj) b hb) hg.size
  · rcases hset x hx with rfl | ⟨j, hj, hji, rfl⟩
    · rcases (hn b hb).2 with h3 | h3
      · exact h.new e hmem b h3
      · exact .inl (Nat.le_trans h.has.size h3)
    · exact h.new _ (List.getElem_mem hj) b hb
  · rw [List.pairwise_iff_getElem]
    intro j k hj hk hjk b hb1 hb2
    simp only [List.length_set] at hj hk
    rw [List.getElem_set] at hb1 hb2
    have hp := List.pairwise_iff_getElem.1 h.apart
    by_cases h1 : i = j
    · rw [if_pos h1] at hb1
      rw [if_neg (by omega)] at hb2
      rcases (hn b hb1).2 with h3 | h3
      · exact hother k hk (by omega) b hb2 h3
      · have := h.lt _ (List.getElem_mem hk) b hb2; omega
    · rw [if_neg h1] at hb1
      by_cases h2 : i = k
      · rw [if_pos h2] at hb2
        rcases (hn b hb2).2 with h3 | h3
        · exact hother j hj (by omega) b hb1 h3
        · have := h.lt _ (List.getElem_mem hj) b hb1; omega
      · rw [if_neg h2] at hb2
        exact hp j k hj hk hjk b hb1 hb2
/-- The same block, told in other words. -/
theorem At.conv (h : At w0 X M w) {i : Nat} {e e' : Ent} {M' : List Ent} (hi : nthE M i = some e) (hM : setE M i e' = some M') (hb : e'.blk = e.blk) (hl : e'.Loc) (he : e'.holds w) : At w0 X M' w :=
  h.set hi hM ⟨rfl, rfl, rfl, Nat.le_refl _, fun _ _ _ => rfl⟩ hl he fun b hb2 => by
    rw [hb] at hb2
    exact ⟨h.lt e (List.mem_of_getElem? (by rw [← nthE_eq]; exact hi)) b hb2, .inl hb2⟩
theorem At.grow {α : Type} {f : α → List Value} {sz t : Nat} {v v' : Value} {xs zs : List α} (h : At w0 X M w) {i : Nat} {M' : List Ent} (hi : nthE M i = some (ow f sz t v xs)) (hM : setE M i (ow f sz t v' zs) = some M')
    (hg : Grows f sz t 0 w w' v v' zs) : At w0 X M' w' :=
  h.set hi hM hg.grown (ow_loc _ _ _ _ _) hg.own fun b hb => ⟨hg.own.hi b hb, by
    rcases hg.place with h1 | ⟨c, h1, h2⟩
    · exact .inl (h1.symm.trans hb)
    · right
      have : v'.ownBlock = some b := hb
      rw [h1] at this
      cases this
      exact h2⟩
theorem At.subHas {M' : List Ent} (h : At w0 X M w) (hs : ∀ e ∈ M', e ∈ M) : Has w0 X M' w := ⟨h.has.size, h.has.old, fun e he => h.has.ent e (hs e he)⟩
theorem Has.cell_old (h : Has w0 X M w) {g o : Nat} (hg : g < w0.heap.size) (hx : g ∉ X) : w.cell? ⟨g, o, none⟩ = w0.cell? ⟨g, o, none⟩ := World.cell?_of_block (a := ⟨g, o, none⟩) (h.old g hg hx)
theorem Has.cell_bx (h : Has w0 X M w) {i b t : Nat} {cs : List Value} (hi : nthE M i = some (bx b t cs)) (o : Nat) : w.cell? ⟨b, o, none⟩ = cs[o]? := by
  have : (bx b t cs).holds w := h.ent _ (List.mem_of_getElem? (by rw [← nthE_eq]; exact hi))
  simpa using cell_of_row w b o ⟨cs⟩ t _ this
theorem Has.sl_old {α : Type} {f : α → List Value} {sz : Nat} {A : Option Addr} {xs : List α} (h : Has w0 X M w) (hX : ∀ a, A = some a → a.block ∉ X) (hs : Sl f sz w0 A xs) : Sl f sz w A xs := by
  rcases hs with h1 | ⟨g, o, rfl, hg, hc⟩
  · exact .inl h1
  · exact .inr ⟨g, o, rfl, Nat.lt_of_lt_of_le hg h.size, fun i x hx j u hu => by rw [h.cell_old hg (hX _ rfl)]; exact hc i x hx j u hu⟩
theorem Has.sl_ow {α : Type} {f : α → List Value} {sz t i : Nat} {v : Value} {xs : List α} (E : Enc f sz) (h : Has w0 X M w) (hi : nthE M i = some (ow f sz t v xs)) : ∃ A c, v = .slice A xs.length c ∧ xs.length ≤ c ∧ Sl f sz w A xs := by
  have ho : (ow f sz t v xs).holds w := h.ent _ (List.mem_of_getElem? (by rw [← nthE_eq]; exact hi))
  exact Own.sl E ho
theorem Has.sl_bx {α : Type} {f : α → List Value} {sz t i b : Nat} {cs : List Value} {xs : List α} (E : Enc f sz) (h : Has w0 X M w) (hi : nthE M i = some (bx b t cs)) (hc : cs = xs.flatMap f) : Sl f sz w (some ⟨b, 0, none⟩) xs := by
  refine .inr ⟨b, 0, rfl, ?_, fun k x hx j u hu => ?_⟩
  · have : (bx b t cs).holds w := h.ent _ (List.mem_of_getElem? (by rw [← nthE_eq]; exact hi))
    rcases Nat.lt_or_ge b w.heap.size with hl | hl
    · exact hl
    · have hn : w.heap[b]? = none := Array.getElem?_eq_none hl
      have this : w.heap[b]? = _ := this
      rw [hn] at this; cases this
  · rw [Nat.zero_add, h.cell_bx hi, hc]
    exact flat_at E xs k x hx j u hu
end
section
variable {P : Program} {w0 : World} {X : List Nat} {M : List Ent} {e : Env}
theorem run_loadVar_any {w : World} {t m b o : Nat} {d : TypeDesc} {v : Value} (hm : szOf P t = some m) (hd : P.underlying t = some d)
    (h : (isRowD d = true ∧ ∃ vs : List Value, vs.length = m ∧ v = .agg vs.toArray ∧ ∀ j u, vs[j]? = some u → w.cell? ⟨b, o + j, none⟩ = some u) ∨ (isRowD d = false ∧ w.cell? ⟨b, o, none⟩ = some v)) :
    (loadVar t ⟨b, o, none⟩).run P w = .ok v w := by
  rcases h with ⟨h1, vs, h2, rfl, h3⟩ | ⟨h1, h2⟩
  · exact run_loadVar_mid w b o t vs d h3 hd (by cases d <;> first | rfl | cases h1) (by rw [show (P.info? t).map (·.size) = some m from hm, h2])
  · unfold loadVar
    rw [Sem.run_bind, run_isAgg w hd, h1]
    simp [load, Sem.run, h2]
theorem Qt.ldAny {S : World → Prop} {x : Od} {m b o : Nat} {agg : Bool} {v : Value} (hx : ev e x = some (.pointer (some ⟨b, o, none⟩)))
    (h : ∀ w, S w → (agg = true ∧ ∃ vs : List Value, vs.length = m ∧ v = .agg vs.toArray ∧ ∀ j u, vs[j]? = some u → w.cell? ⟨b, o + j, none⟩ = some u) ∨ (agg = false ∧ w.cell? ⟨b, o, none⟩ = some v)) : Qt P S e (.ld x m agg) v := by
  intro op n a w hc hf hw
  obtain ⟨dst, op, type, pos, after, guard⟩ := op
  dsimp only at hc
  have hw2 := cOp_wants hc
  cases op with
  | load t y =>
    simp only [cOp, Option.bind_eq_some_iff, Option.some.injEq, SOp.ld.injEq] at hc
    obtain ⟨x', h1, m', h2, d, h3, rfl, rfl, rfl⟩ := hc
    have := run_loadVar_any (P := P) (w := w) h2 h3 (h w hw)
    simp [execOp, hf.ev h1 hx, Instr.loadAt, Instr.sureAddr, this]
  | _ => simp [wants] at hw2
/-- What lies in a list of cells from a place on. -/
theorem part_cells {w : World} {b o m : Nat} {agg : Bool} {cs : List Value} {v : Value} {k : Nat} (hv : partV k m agg cs = some v) (hc : ∀ j u, cs[j]? = some u → w.cell? ⟨b, o + j, none⟩ = some u) :
    (agg = true ∧ ∃ vs : List Value, vs.length = m ∧ v = .agg vs.toArray ∧ ∀ j u, vs[j]? = some u → w.cell? ⟨b, o + k + j, none⟩ = some u) ∨ (agg = false ∧ w.cell? ⟨b, o + k, none⟩ = some v) := by
  cases agg
  · right
    simp only [partV, cond_false] at hv
    rw [nthV_eq] at hv
    exact ⟨rfl, hc k v hv⟩
  · left
    simp only [partV, cond_true, Option.bind_eq_some_iff, Option.some.injEq] at hv
    obtain ⟨r, h1, rfl⟩ := hv
    obtain ⟨h2, rfl⟩ := win_eq h1
    refine ⟨rfl, _, ?_, rfl, fun j u hu => ?_⟩
    · rw [List.length_take, List.length_drop]; omega
    · rw [List.getElem?_take] at hu
      split at hu
      · rw [List.getElem?_drop] at hu
        rw [Nat.add_assoc]
        exact hc _ _ hu
      · cases hu
theorem Qt.ldBx {x : Od} {m b o t i : Nat} {agg : Bool} {v : Value} {cs : List Value} (hx : ev e x = some (.pointer (some ⟨b, o, none⟩))) (hi : nthE M i = some (bx b t cs)) (hv : partV o m agg cs = some v) : Qt P (Has w0 X M) e (.ld x m agg) v :=
  Qt.ldAny hx fun w hw => by
    have := part_cells (w := w) (b := b) (o := 0) hv fun j u hu => by rw [Nat.zero_add, hw.cell_bx hi]; exact hu
    rwa [Nat.zero_add] at this
/-- Cells that came in. -/
def Cl (w : World) (g o : Nat) (cs : List Value) : Prop := ∀ j u, cs[j]? = some u → w.cell? ⟨g, o + j, none⟩ = some u
theorem Qt.ldCl {x : Od} {m g o k : Nat} {agg : Bool} {v : Value} {cs : List Value} (hx : ev e x = some (.pointer (some ⟨g, o + k, none⟩))) (hc : Cl w0 g o cs) (hg : g < w0.heap.size) (hX : g ∉ X) (hv : partV k m agg cs = some v) : Qt P (Has w0 X M) e (.ld x m agg) v :=
  Qt.ldAny hx fun w hw => part_cells (w := w) hv fun j u hu => by rw [hw.cell_old hg hX]; exact hc j u hu
theorem Qt.ldCl0 {x : Od} {m g o : Nat} {agg : Bool} {v : Value} {cs : List Value} (hx : ev e x = some (.pointer (some ⟨g, o, none⟩))) (hc : Cl w0 g o cs) (hg : g < w0.heap.size) (hX : g ∉ X) (hv : partV 0 m agg cs = some v) : Qt P (Has w0 X M) e (.ld x m agg) v :=
  Qt.ldCl (k := 0) hx hc hg hX hv
/-- A cell of a slice of the call's own. -/
theorem Has.cl_ow {α : Type} {f : α → List Value} {sz t i g c n k : Nat} {xs : List α} {p : α} {w : World} (E : Enc f sz) (h : Has w0 X M w) (hi : nthE M i = some (ow f sz t (.slice (some ⟨g, 0, none⟩) n c) xs)) (hp : xs[k]? = some p) : Cl w g (0 + k * sz) (f p) := by
  obtain ⟨A, c', e1, _, hs⟩ := h.sl_ow E hi
  cases e1
  obtain ⟨g', o', e2, _, hc⟩ := hs.cells hp
  cases e2
  exact hc
theorem Qt.ldOw {α : Type} {f : α → List Value} {sz t i c n q k j : Nat} {xs : List α} {p : α} {x : Od} {m g : Nat} {agg : Bool} {v : Value} (hx : ev e x = some (.pointer (some ⟨g, 0 + k * sz + j, none⟩))) (hi : nthE M i = some (ow f sz t (.slice (some ⟨g, 0, none⟩) n c) xs)) (E : Enc f sz)
    (hp : xs[k]? = some p) (hv : partV j m agg (f p) = some v) : Qt P (Has w0 X M) e (.ld x m agg) v :=
  Qt.ldAny hx fun w hw => part_cells (w := w) hv (hw.cl_ow E hi hp)
theorem Qt.ldOw0 {α : Type} {f : α → List Value} {sz t i c n q k : Nat} {xs : List α} {p : α} {x : Od} {m g : Nat} {agg : Bool} {v : Value} (hx : ev e x = some (.pointer (some ⟨g, 0 + k * sz, none⟩))) (hi : nthE M i = some (ow f sz t (.slice (some ⟨g, 0, none⟩) n c) xs)) (E : Enc f sz)
    (hp : xs[k]? = some p) (hv : partV 0 m agg (f p) = some v) : Qt P (Has w0 X M) e (.ld x m agg) v :=
  Qt.ldAny hx fun w hw => part_cells (w := w) (k := 0) hv (hw.cl_ow E hi hp)
theorem Sl.cl {α : Type} {f : α → List Value} {sz : Nat} {w : World} {g o : Nat} {xs : List α} (h : Sl f sz w (some ⟨g, o, none⟩) xs) {k : Nat} {p : α} (hp : xs[k]? = some p) : Cl w g (o + k * sz) (f p) := by
  obtain ⟨g', o', e2, _, hc⟩ := h.cells hp
  cases e2
  exact hc
theorem Qt.at_ {S : World → Prop} {x i : Od} {sz g o len cap k : Nat} {ki : IntKind} {z : Int} (hx : ev e x = some (.slice (some ⟨g, o, none⟩) len cap)) (hi : ev e i = some (.int ki z)) (hz : z = (k : Int)) (hk : k < len) : Qt P S e (.at_ x i sz) (.pointer (some ⟨g, o + k * sz, none⟩)) := by
  intro op n a w hc hf hw
  obtain ⟨dst, op, type, pos, after, guard⟩ := op
  dsimp only at hc
  have hw2 := cOp_wants hc
  cases op with
  | indexAddr t y j =>
    simp only [cOp, Option.bind_eq_some_iff] at hc
    obtain ⟨x', h1, i', h2, hc⟩ := hc
    split at hc
    · rename_i el hu
      obtain ⟨m, hm, h4⟩ := Option.map_eq_some_iff.1 hc
      cases h4
      subst hz
      simp [execOp, hf.ev h1 hx, hf.ev h2 hi, Instr.indexAt, run_underlying hu, asIntOf, hk, run_szOf w hm, Addr.add_mid]
    · obtain ⟨m, hm, h4⟩ := Option.map_eq_some_iff.1 hc; cases h4
    · cases hc
  | _ => simp [wants] at hw2
/-- xs[l:h] and its kin: from where on. -/
def cutA (A : Option Addr) (m l sz : Nat) : Option Addr := if m = l then A else A.map (·.add (l * sz))
theorem cutA_zero (A : Option Addr) (m sz : Nat) : cutA A m 0 sz = A := by
  unfold cutA
  split
  · rfl
  · cases A <;> simp [Addr.add]
theorem cutA_mid {m l : Nat} (h : l < m) (g o sz : Nat) : cutA (some ⟨g, o, none⟩) m l sz = some ⟨g, o + l * sz, none⟩ := by
  unfold cutA
  rw [if_neg (by omega)]
  simp [Addr.add_mid]
/-- A bound that is written, or not. -/
def bdV (e : Env) (d : Nat) : Option Od → Option Int
  | none => some (d : Int)
  | some x => match ev e x with
    | some (.int _ z) => some z
    | _ => none
theorem run_bd {w : World} {n : Nat} {a : Act} (hf : Fits n e a) {x : Option Operand} {y : Option Od} (hc : cOpt x = some y) {d lim : Nat} {z : Int} (hb : bdV e d y = some z) (hl : z ≤ lim) (h0 : 0 ≤ z) (code : BoundsCode) :
    (match x.map a.eval with | some v => Instr.sliceBound v lim code | none => pure d).run P w = .ok z.toNat w := by
  cases x with
  | none => simp [cOpt] at hc; subst hc; simp [bdV] at hb; subst hb; simp
  | some x =>
    simp only [cOpt, Option.map_eq_some_iff] at hc
    obtain ⟨y', h1, rfl⟩ := hc
    simp only [bdV] at hb
    split at hb
    · rename_i k z' hz
      cases hb
      simp only [Option.map_some, hf.ev h1 hz]
      exact run_sliceBound w k z lim code h0 hl
    · cases hb
theorem Qt.slc {S : World → Prop} {sz : Nat} {x : Od} {lo hi mx : Option Od} {A : Option Addr} {len cap l h m : Nat} {zl zh zm : Int} (hx : ev e x = some (.slice A len cap)) (hm : bdV e cap mx = some zm) (hh : bdV e len hi = some zh) (hl : bdV e 0 lo = some zl)
    (em : zm = (m : Int)) (eh : zh = (h : Int)) (el : zl = (l : Int)) (h1 : m ≤ cap) (h2 : h ≤ m) (h3 : l ≤ h) (h4 : mx = none ∨ hi ≠ none) : Qt P S e (.slc sz x lo hi mx) (.slice (cutA A m l sz) (h - l) (m - l)) := by
  intro op n a w hc hf hw
  obtain ⟨dst, op, type, pos, after, guard⟩ := op
  dsimp only at hc
  have hw2 := cOp_wants hc
  cases op with
  | slice t y lo' hi' mx' =>
    simp only [cOp, Option.bind_eq_some_iff] at hc
    obtain ⟨x', c1, lo1, c2, hi1, c3, mx1, c4, hc⟩ := hc
    split at hc
    · rename_i el' hu
      obtain ⟨q, hq, c5⟩ := Option.map_eq_some_iff.1 hc
      cases c5
      subst em eh el
      have r1 := fun code => run_bd (P := P) (w := w) hf c4 (lim := cap) hm (by omega) (by omega) code
      have r2 := fun code => run_bd (P := P) (w := w) hf c3 (lim := m) hh (by omega) (by omega) code
      have r3 := fun code => run_bd (P := P) (w := w) hf c2 (lim := h) hl (by omega) (by omega) code
      simp only [Int.toNat_natCast] at r1 r2 r3
      have key : (Instr.sliceBounds true len cap (lo'.map a.eval) (hi'.map a.eval) (mx'.map a.eval)).run P w = .ok (l, h, m) w := by
        cases mx' with
        | none =>
          have e1 : cap = m := by
            have := r1 .sliceB
            simpa using this
          cases hi' with
          | none =>
            have e2 : len = h := by
              have := r2 .sliceB
              simpa using this
            subst e1 e2
            cases lo' with
            | none =>
              have e3 : 0 = l := by
                have := r3 .sliceB
                simpa using this
              subst e3
              simp [Instr.sliceBounds]
            | some lo' =>
              have := r3 .sliceB
              simp only [Option.map_some] at this
              simp [Instr.sliceBounds, this]
          | some hi' =>
            subst e1
            have q2 := r2 .sliceAcap
            simp only [Option.map_some] at q2
            cases lo' with
            | none =>
              have e3 : 0 = l := by
                have := r3 .sliceB
                simpa using this
              subst e3
              simp [Instr.sliceBounds, q2]
            | some lo' =>
              have := r3 .sliceB
              simp only [Option.map_some] at this
              simp [Instr.sliceBounds, q2, this]
        | some mx' =>
          have q1 := r1 .slice3Acap
          simp only [Option.map_some] at q1
          cases hi' with
          | none =>
            exfalso
            simp only [cOpt, Option.map_eq_some_iff, Option.some.injEq] at c3 c4
            obtain ⟨_, _, rfl⟩ := c4
            subst c3
            simp at h4
          | some hi' =>
            have q2 := r2 .slice3B
            simp only [Option.map_some] at q2
            cases lo' with
            | none =>
              have e3 : 0 = l := by
                have := r3 .sliceB
                simpa using this
              subst e3
              simp [Instr.sliceBounds, q1, q2]
            | some lo' =>
              have := r3 .slice3C
              simp only [Option.map_some] at this
              simp [Instr.sliceBounds, q1, q2, this]
      simp only [execOp, hf.ev c1 hx, Instr.sliceAt, Sem.run_bind, run_underlying hu, Result.andThen_ok, Instr.slice, key, run_szOf w hq, Sem.run_pure]
      rfl
    · obtain ⟨_, _, c5⟩ := Option.map_eq_some_iff.1 hc; cases c5
    · cases hc
  | _ => simp [wants] at hw2
theorem run_bytes {w : World} {src dst el : TypeId} (hs : P.underlying src = some (.slice el)) (he : P.underlying el = some (.int .u8)) (hd : P.underlying dst = some .string) {A : Option Addr} {c : Nat} {xs : List Int} (h : Sl byteCells 1 w A xs) :
    (convert src dst (.slice A xs.length c)).run P w = .ok (.string (strOfNums xs)) w := by
  rcases h with rfl | ⟨g, o, rfl, hg, hc⟩
  · rw [run_convert_bytes_string w src dst el A _ c hs he hd]
    cases A with
    | none => simp [Conv.bytesToString, strOfNums, ByteArray.empty, ByteArray.emptyWithCapacity]; rfl
    | some ad => simp [Conv.bytesToString, loadCells, loadCellsFrom, strOfNums, ByteArray.empty, ByteArray.emptyWithCapacity]; rfl
  · refine run_convert_bytes_arg w src el hs he g o xs.length c xs rfl (fun i hi => ?_) _ hd
    have := hc i xs[i] (List.getElem?_eq_getElem hi) 0 _ rfl
    simpa [List.getD, List.getElem?_eq_getElem hi] using this
theorem Qt.str {S : World → Prop} {x : Od} {A : Option Addr} {len c : Nat} {xs : List Int} (hx : ev e x = some (.slice A len c)) (hl : len = xs.length) (hs : ∀ w, S w → Sl byteCells 1 w A xs) : Qt P S e (.str x) (.string (strOfNums xs)) := by
  intro op n a w hc hf hw
  obtain ⟨dst, op, type, pos, after, guard⟩ := op
  dsimp only at hc
  have hw2 := cOp_wants hc
  cases op with
  | convert src ds y =>
    simp only [cOp, Option.bind_eq_some_iff] at hc
    obtain ⟨x', h1, hc⟩ := hc
    split at hc
    · cases hc
    · rename_i el hk' hk
      split at hc
      · rename_i he
        cases hc
        subst hl
        have := run_bytes (P := P) hk' he hk (c := c) (hs w hw)
        simp [execOp, hf.ev h1 hx, this]
      · cases hc
    · cases hc
  | _ => simp [wants] at hw2
theorem Qt.eqv {S : World → Prop} {t : Nat} {neg : Bool} {x y : Od} {u z : Value} {r : Value} (hx : ev e x = some u) (hy : ev e y = some z) (h : ∀ w, (binOp (bif neg then .neq else .eql) t u z).run P w = .ok r w) (hu : ∃ l, u = .agg l) (hz : ∃ l, z = .agg l) : Qt P S e (.eqv t neg x y) r := by
  intro op n a w hc hf hw
  obtain ⟨dst, op, type, pos, after, guard⟩ := op
  dsimp only at hc
  have hw2 := cOp_wants hc
  obtain ⟨lu, rfl⟩ := hu
  obtain ⟨lz, rfl⟩ := hz
  have grd : ∀ op' t' X Y, eqT P t' = true → (op' = BinOp.eql ∨ op' = .neq) → (eqGuard op' t' X Y (.agg lu) (.agg lz)).run P w = .ok () w := by
    intro op' t' X Y ht ho
    have h1 : P.eqGuardType P.depth t' = false := by
      unfold eqT at ht
      split at ht
      · simpa using ht
      · simpa using ht
      · cases ht
    unfold eqGuard
    rcases ho with rfl | rfl <;> simp [program, Sem.run, h1]
  cases op with
  | binOp op' t' X Y yt =>
    simp only [cOp, Option.bind_eq_some_iff] at hc
    obtain ⟨x', h1, y', h2, hc⟩ := hc
    cases op'
    case eql =>
      simp only at hc
      split at hc
      · cases hc
      · split at hc
        · cases hc
        · split at hc
          · rename_i ht
            cases hc
            simp only [execOp, hf.ev h1 hx, hf.ev h2 hy, Sem.run_bind, grd _ _ _ _ ht (.inl rfl), Result.andThen_ok]
            have h9 := h w
            simp only [cond_false] at h9
            rw [h9]
            rfl
          · cases hc
    case neq =>
      simp only at hc
      split at hc
      · cases hc
      · split at hc
        · cases hc
        · split at hc
          · rename_i ht
            cases hc
            simp only [execOp, hf.ev h1 hx, hf.ev h2 hy, Sem.run_bind, grd _ _ _ _ ht (.inr rfl), Result.andThen_ok]
            have h9 := h w
            simp only [cond_true] at h9
            rw [h9]
            rfl
          · cases hc
    all_goals (simp only at hc; cases hc)
  | _ => simp [wants] at hw2
theorem Qt.pickB {S : World → Prop} {c x y : Od} {p q r : Bool} (hc : ev e c = some (.bool p)) (hx : ev e x = some (.bool q)) (hy : ev e y = some (.bool r)) : Qt P S e (.pick c x y) (.bool (bif p then q else r)) := by
  cases p
  · exact Qt.pure (by simp [pv, hc, hy])
  · exact Qt.pure (by simp [pv, hc, hx])
theorem Qt.eq {S : World → Prop} {s : SOp} {v v' : Value} (h : Qt P S e s v) (hv : v = v') : Qt P S e s v' := hv ▸ h
theorem wrap_i64 (z : Int) (h : -9223372036854775808 ≤ z ∧ z ≤ 9223372036854775807) : IntKind.i64.wrap z = z := IntWalk.i64_in z h
theorem wrap_u64 (z : Int) (h : 0 ≤ z ∧ z ≤ 18446744073709551615) : IntKind.u64.wrap z = z := by
  unfold IntKind.wrap
  simp only [IntKind.bits, IntKind.signed, Bool.false_and, Bool.false_eq_true, if_false]
  omega
theorem wrap_u8 (z : Int) (h : 0 ≤ z ∧ z ≤ 255) : IntKind.u8.wrap z = z := by
  unfold IntKind.wrap
  simp only [IntKind.bits, IntKind.signed, Bool.false_and, Bool.false_eq_true, if_false]
  omega
theorem wrap_u8_any (z : Int) : IntKind.u8.wrap z = z % 256 := by
  unfold IntKind.wrap
  simp [IntKind.bits, IntKind.signed]
theorem wrap_u64_any (z : Int) : IntKind.u64.wrap z = z % 18446744073709551616 := by
  unfold IntKind.wrap
  simp [IntKind.bits, IntKind.signed]
end
end Go.Proofs.Ytmajepinbldneaa
