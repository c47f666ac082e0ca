/- What a walk says of memory: slices that read as lists, blocks kept over calls; the data of the program as plain structures. -/
import Derived.WalkKit
import Derived.WalkSpells
import Derived.WalkLawsBesides
import Derived.Deep.RegionHeld3
import Derived.Deep.DrawnRows
import Derived.Deep.LoopGhost
import Derived.BigQuiet
import Derived.Deep.QuietTactic
import Derived.Lib.Hide
import Derived.Lib.BitFns
namespace Go.Proofs.Ytmajepinbldneaa
set_option linter.unusedVariables false
set_option linter.unusedSimpArgs false
open Go.RowKit

/-- A number of 64 bits without sign. -/
def U (x : Int) : Prop := 0 ≤ x ∧ x ≤ 18446744073709551615
structure Sub where (i j : Int)
structure Blk where (a b : Int)
structure Val where (sym sealed : Bool) (b0 b1 c0 c1 t0 t1 t : Int)
structure Part where (s : Sub) (w : Val)
structure Entry where (s : Sub) (v : Val)
structure Term where (k a b : Int)
def Sub.ok (s : Sub) : Prop := U s.i ∧ U s.j
def Val.ok (v : Val) : Prop := U v.b0 ∧ U v.b1 ∧ U v.c0 ∧ U v.c1 ∧ U v.t0 ∧ U v.t1
def Part.ok (p : Part) : Prop := p.s.ok ∧ p.w.ok
def Entry.ok (p : Entry) : Prop := p.s.ok ∧ p.v.ok
def Blk.cells (b : Blk) : List Value := [.int .u64 b.a, .int .u64 b.b]
def Val.cells (v : Val) : List Value := [.bool v.sym, .bool v.sealed, .int .u64 v.b0, .int .u64 v.b1, .int .u64 v.c0, .int .u64 v.c1, .int .u64 v.t0, .int .u64 v.t1, .int .i64 v.t]
def Sub.cells (s : Sub) : List Value := [.int .u64 s.i, .int .u64 s.j]
def Part.cells (p : Part) : List Value := [.int .u64 p.s.i, .int .u64 p.s.j, .bool p.w.sym, .bool p.w.sealed, .int .u64 p.w.b0, .int .u64 p.w.b1, .int .u64 p.w.c0, .int .u64 p.w.c1, .int .u64 p.w.t0, .int .u64 p.w.t1, .int .i64 p.w.t]
def Entry.cells (p : Entry) : List Value := [.int .u64 p.s.i, .int .u64 p.s.j, .bool p.v.sym, .bool p.v.sealed, .int .u64 p.v.b0, .int .u64 p.v.b1, .int .u64 p.v.c0, .int .u64 p.v.c1, .int .u64 p.v.t0, .int .u64 p.v.t1, .int .i64 p.v.t]
def Term.cells (t : Term) : List Value := [.int .i64 t.k, .int .i64 t.a, .int .i64 t.b]
def Sub.eqB (x y : Sub) : Bool := x.i == y.i && x.j == y.j
def Blk.eqB (x y : Blk) : Bool := x.a == y.a && x.b == y.b
def Term.eqB (x y : Term) : Bool := x.k == y.k && (x.a == y.a && x.b == y.b)
def sealedEqB (c0 c1 t0 t1 c0' c1' t0' t1' : Int) : Bool := (c0 == c0' && c1 == c1') && (t0 == t0' && t1 == t1')
def Val.eqB (x y : Val) : Bool := x.sym == y.sym && (x.sealed == y.sealed && ((x.b0 == y.b0 && x.b1 == y.b1) && (((x.c0 == y.c0 && x.c1 == y.c1) && (x.t0 == y.t0 && x.t1 == y.t1)) && x.t == y.t)))
def Part.eqB (x y : Part) : Bool := x.s.eqB y.s && x.w.eqB y.w
def Entry.eqB (x y : Entry) : Bool := x.s.eqB y.s && x.v.eqB y.v
theorem Sub.eqB_iff {x y : Sub} : x.eqB y = true ↔ x = y := by
  obtain ⟨a, b⟩ := x; obtain ⟨c, d⟩ := y; simp [Sub.eqB]
theorem Blk.eqB_iff {x y : Blk} : x.eqB y = true ↔ x = y := by
  obtain ⟨a, b⟩ := x; obtain ⟨c, d⟩ := y; simp [Blk.eqB]
theorem Term.eqB_iff {x y : Term} : x.eqB y = true ↔ x = y := by
  obtain ⟨a, b, c⟩ := x; obtain ⟨a', b', c'⟩ := y; simp [Term.eqB]
theorem Val.eqB_iff {x y : Val} : x.eqB y = true ↔ x = y := by
  obtain ⟨a, b, c, d, e, f, g, h, i⟩ := x; obtain ⟨a', b', c', d', e', f', g', h', i'⟩ := y; simp [Val.eqB, and_assoc]
theorem Part.eqB_iff {x y : Part} : x.eqB y = true ↔ x = y := by
  obtain ⟨a, b⟩ := x; obtain ⟨c, d⟩ := y; simp [Part.eqB, Sub.eqB_iff, Val.eqB_iff]
theorem Entry.eqB_iff {x y : Entry} : x.eqB y = true ↔ x = y := by
  obtain ⟨a, b⟩ := x; obtain ⟨c, d⟩ := y; simp [Entry.eqB, Sub.eqB_iff, Val.eqB_iff]
def byteCells (x : Int) : List Value := [.int .u8 x]
def u64Cells (x : Int) : List Value := [.int .u64 x]
def intCells (x : Int) : List Value := [.int .i64 x]

theorem cells_upto {W w1 : World} {B : Nat} (hb : Below W.heap.size W w1) (hB : B ≤ W.heap.size) :
    (∀ b o, b < B → w1.cell? ⟨b, o, none⟩ = W.cell? ⟨b, o, none⟩) ∧ (∀ b o, b < B → w1.frozen? ⟨b, o, none⟩ = W.frozen? ⟨b, o, none⟩) ∧ B ≤ w1.heap.size :=
  ⟨fun b o h => hb.cell (p := ⟨b, o, none⟩) (by simp; omega), fun b o h => hb.frozen (p := ⟨b, o, none⟩) (by simp; omega), by have := hb.size; omega⟩
theorem Below.drewN {B : Nat} {a w : World} (h : Below B a w) (n : Nat) : Below B a (w.drewN n) := ⟨h.os, h.tape, h.output, h.size, h.block⟩

/-- A block's cells, from its first one on. -/
abbrev Box (w : World) (b : Nat) (cs : Array Value) : Prop := ∀ o, w.cell? ⟨b, o, none⟩ = cs[o]?
theorem Box.below {W W1 : World} {B b : Nat} {cs : Array Value} (h : Box W b cs) (hb : Below B W W1) (hlt : b < B) : Box W1 b cs := fun o => (hb.cell (p := ⟨b, o, none⟩) hlt).trans (h o)
theorem Box.alloc {W : World} {b : Nat} {cs : Array Value} (h : Box W b cs) (hlt : b < W.heap.size) (o : Obj) : Box (W.alloc o) b cs := fun i => (World.cell?_alloc_lt W o ⟨b, i, none⟩ hlt).trans (h i)
theorem Box.new (W : World) (cs : Array Value) (t : TypeId) : Box (W.alloc (.cells cs t)) W.heap.size cs := fun i => World.cell?_alloc_new W cs t i
theorem Box.drew {W : World} {b : Nat} {cs : Array Value} (h : Box W b cs) : Box W.drew b cs := h
theorem Box.drewN {W : World} {b : Nat} {cs : Array Value} (h : Box W b cs) (n : Nat) : Box (W.drewN n) b cs := h
theorem Box.grown {W W1 : World} {b : Nat} {cs : Array Value} {row : Option Nat} (h : Box W b cs) (hg : W.grownBy W1 row) (hlt : b < W.heap.size) (hne : row ≠ some b) : Box W1 b cs :=
  fun o => (World.cell?_of_block (a := ⟨b, o, none⟩) (hg.block b hlt (fun e => hne e.symm))).trans (h o)
theorem Below.keepc {W W1 : World} {B : Nat} (hb : Below B W W1) {b o : Nat} {v : Option Value} (h : W.cell? ⟨b, o, none⟩ = v) (hlt : b < B) : W1.cell? ⟨b, o, none⟩ = v := (hb.cell (p := ⟨b, o, none⟩) hlt).trans h

/-- A slice at A reads, in world w, as the list xs; f tells an element's cells, of which there are sz. -/
def Sl {α : Type} (f : α → List Value) (sz : Nat) (w : World) (A : Option Addr) (xs : List α) : Prop :=
  xs = [] ∨ ∃ g o, A = some ⟨g, o, none⟩ ∧ g < w.heap.size ∧ ∀ i x, xs[i]? = some x → ∀ j u, (f x)[j]? = some u → w.cell? ⟨g, o + i * sz + j, none⟩ = some u
section
variable {α : Type} {f : α → List Value} {sz : Nat} {w w' : World} {A : Option Addr} {xs : List α}
theorem Sl.nil : Sl f sz w A [] := .inl rfl
theorem Sl.keep (h : Sl f sz w A xs) (hs : w.heap.size ≤ w'.heap.size) (hk : ∀ b o, b < w.heap.size → w'.cell? ⟨b, o, none⟩ = w.cell? ⟨b, o, none⟩) : Sl f sz w' A xs := by
  rcases h with h | ⟨g, o, hA, hg, hc⟩
  · exact .inl h
  · exact .inr ⟨g, o, hA, by omega, fun i x hx j u hu => by rw [hk _ _ hg]; exact hc i x hx j u hu⟩
theorem Sl.below (h : Sl f sz w A xs) (hb : Below w.heap.size w w') : Sl f sz w' A xs := h.keep hb.size fun b o hg => hb.cell (p := ⟨b, o, none⟩) hg
theorem Sl.cells (h : Sl f sz w A xs) {i : Nat} {x : α} (hi : xs[i]? = some x) :
    ∃ g o, A = some ⟨g, o, none⟩ ∧ g < w.heap.size ∧ ∀ j u, (f x)[j]? = some u → w.cell? ⟨g, o + i * sz + j, none⟩ = some u := by
  rcases h with h | ⟨g, o, hA, hg, hc⟩
  · simp [h] at hi
  · exact ⟨g, o, hA, hg, fun j u hu => hc i x hi j u hu⟩
end
theorem Sl.one {α : Type} {f : α → Value} {w : World} {A : Option Addr} {xs : List α} (h : Sl (fun x => [f x]) 1 w A xs) {i : Nat} {x : α} (hi : xs[i]? = some x) :
    ∃ g o, A = some ⟨g, o, none⟩ ∧ g < w.heap.size ∧ w.cell? ⟨g, o + i, none⟩ = some (f x) := by
  obtain ⟨g, o, hA, hg, hc⟩ := h.cells hi
  exact ⟨g, o, hA, hg, by simpa using hc 0 _ rfl⟩
theorem Sl.byte {w : World} {A : Option Addr} {xs : List Int} (h : Sl byteCells 1 w A xs) {i : Nat} {x : Int} (hi : xs[i]? = some x) :
    ∃ g o, A = some ⟨g, o, none⟩ ∧ g < w.heap.size ∧ w.cell? ⟨g, o + i, none⟩ = some (.int .u8 x) := by
  obtain ⟨g, o, hA, hg, hc⟩ := h.cells hi
  exact ⟨g, o, hA, hg, by simpa using hc 0 _ rfl⟩
theorem Sl.u64 {w : World} {A : Option Addr} {xs : List Int} (h : Sl u64Cells 1 w A xs) {i : Nat} {x : Int} (hi : xs[i]? = some x) :
    ∃ g o, A = some ⟨g, o, none⟩ ∧ g < w.heap.size ∧ w.cell? ⟨g, o + i, none⟩ = some (.int .u64 x) := by
  obtain ⟨g, o, hA, hg, hc⟩ := h.cells hi
  exact ⟨g, o, hA, hg, by simpa using hc 0 _ rfl⟩
theorem Sl.int {w : World} {A : Option Addr} {xs : List Int} (h : Sl intCells 1 w A xs) {i : Nat} {x : Int} (hi : xs[i]? = some x) :
    ∃ g o, A = some ⟨g, o, none⟩ ∧ g < w.heap.size ∧ w.cell? ⟨g, o + i, none⟩ = some (.int .i64 x) := by
  obtain ⟨g, o, hA, hg, hc⟩ := h.cells hi
  exact ⟨g, o, hA, hg, by simpa using hc 0 _ rfl⟩
theorem Sl.sub {w : World} {A : Option Addr} {xs : List Sub} (h : Sl Sub.cells 2 w A xs) {i : Nat} {s : Sub} (hi : xs[i]? = some s) :
    ∃ g o, A = some ⟨g, o, none⟩ ∧ g < w.heap.size ∧ w.cell? ⟨g, o + i * 2, none⟩ = some (.int .u64 s.i) ∧ w.cell? ⟨g, o + i * 2 + 1, none⟩ = some (.int .u64 s.j) := by
  obtain ⟨g, o, hA, hg, hc⟩ := h.cells hi
  exact ⟨g, o, hA, hg, hc 0 _ rfl, hc 1 _ rfl⟩
theorem Sl.part {w : World} {A : Option Addr} {xs : List Part} (h : Sl Part.cells 11 w A xs) {i : Nat} {p : Part} (hi : xs[i]? = some p) :
    ∃ g o, A = some ⟨g, o, none⟩ ∧ g < w.heap.size ∧ w.cell? ⟨g, o + i * 11, none⟩ = some (.int .u64 p.s.i) ∧ w.cell? ⟨g, o + i * 11 + 1, none⟩ = some (.int .u64 p.s.j)
     ∧ w.cell? ⟨g, o + i * 11 + 2, none⟩ = some (.bool p.w.sym) ∧ w.cell? ⟨g, o + i * 11 + 3, none⟩ = some (.bool p.w.sealed) ∧ w.cell? ⟨g, o + i * 11 + 4, none⟩ = some (.int .u64 p.w.b0)
     ∧ w.cell? ⟨g, o + i * 11 + 5, none⟩ = some (.int .u64 p.w.b1) ∧ w.cell? ⟨g, o + i * 11 + 6, none⟩ = some (.int .u64 p.w.c0) ∧ w.cell? ⟨g, o + i * 11 + 7, none⟩ = some (.int .u64 p.w.c1)
     ∧ w.cell? ⟨g, o + i * 11 + 8, none⟩ = some (.int .u64 p.w.t0) ∧ w.cell? ⟨g, o + i * 11 + 9, none⟩ = some (.int .u64 p.w.t1) ∧ w.cell? ⟨g, o + i * 11 + 10, none⟩ = some (.int .i64 p.w.t) := by
  obtain ⟨g, o, hA, hg, hc⟩ := h.cells hi
  exact ⟨g, o, hA, hg, hc 0 _ rfl, hc 1 _ rfl, hc 2 _ rfl, hc 3 _ rfl, hc 4 _ rfl, hc 5 _ rfl, hc 6 _ rfl, hc 7 _ rfl, hc 8 _ rfl, hc 9 _ rfl, hc 10 _ rfl⟩
theorem Sl.entry {w : World} {A : Option Addr} {xs : List Entry} (h : Sl Entry.cells 11 w A xs) {i : Nat} {p : Entry} (hi : xs[i]? = some p) :
    ∃ g o, A = some ⟨g, o, none⟩ ∧ g < w.heap.size ∧ w.cell? ⟨g, o + i * 11, none⟩ = some (.int .u64 p.s.i) ∧ w.cell? ⟨g, o + i * 11 + 1, none⟩ = some (.int .u64 p.s.j)
     ∧ w.cell? ⟨g, o + i * 11 + 2, none⟩ = some (.bool p.v.sym) ∧ w.cell? ⟨g, o + i * 11 + 3, none⟩ = some (.bool p.v.sealed) ∧ w.cell? ⟨g, o + i * 11 + 4, none⟩ = some (.int .u64 p.v.b0)
     ∧ w.cell? ⟨g, o + i * 11 + 5, none⟩ = some (.int .u64 p.v.b1) ∧ w.cell? ⟨g, o + i * 11 + 6, none⟩ = some (.int .u64 p.v.c0) ∧ w.cell? ⟨g, o + i * 11 + 7, none⟩ = some (.int .u64 p.v.c1)
     ∧ w.cell? ⟨g, o + i * 11 + 8, none⟩ = some (.int .u64 p.v.t0) ∧ w.cell? ⟨g, o + i * 11 + 9, none⟩ = some (.int .u64 p.v.t1) ∧ w.cell? ⟨g, o + i * 11 + 10, none⟩ = some (.int .i64 p.v.t) := by
  obtain ⟨g, o, hA, hg, hc⟩ := h.cells hi
  exact ⟨g, o, hA, hg, hc 0 _ rfl, hc 1 _ rfl, hc 2 _ rfl, hc 3 _ rfl, hc 4 _ rfl, hc 5 _ rfl, hc 6 _ rfl, hc 7 _ rfl, hc 8 _ rfl, hc 9 _ rfl, hc 10 _ rfl⟩
theorem Sl.term {w : World} {A : Option Addr} {xs : List Term} (h : Sl Term.cells 3 w A xs) {i : Nat} {t : Term} (hi : xs[i]? = some t) :
    ∃ g o, A = some ⟨g, o, none⟩ ∧ g < w.heap.size ∧ w.cell? ⟨g, o + i * 3, none⟩ = some (.int .i64 t.k) ∧ w.cell? ⟨g, o + i * 3 + 1, none⟩ = some (.int .i64 t.a) ∧ w.cell? ⟨g, o + i * 3 + 2, none⟩ = some (.int .i64 t.b) := by
  obtain ⟨g, o, hA, hg, hc⟩ := h.cells hi
  exact ⟨g, o, hA, hg, hc 0 _ rfl, hc 1 _ rfl, hc 2 _ rfl⟩
theorem bitLen_le (x : Nat) : Lib.bitLen x ≤ 64 := by
  have : ∀ f y, Lib.bitLenAux f y ≤ f := by
    intro f
    induction f with
    | zero => intro y; simp [Lib.bitLenAux]
    | succ f ih => intro y; simp only [Lib.bitLenAux]; have := ih (y / 2); split <;> omega
  exact this 64 x
theorem results_tmp4 {fn : Func} {t0 t1 t2 t3 : Tmp} (h : fn.results = #[.tmp t0, .tmp t1, .tmp t2, .tmp t3]) (tmps : Array Value) (P : Program) (w : World) :
    (results fn tmps).run P w = .ok (.tuple #[tmps.getD t0 undef, tmps.getD t1 undef, tmps.getD t2 undef, tmps.getD t3 undef]) w := by
  simp [results, h]
theorem results_tmp5 {fn : Func} {t0 t1 t2 t3 t4 : Tmp} (h : fn.results = #[.tmp t0, .tmp t1, .tmp t2, .tmp t3, .tmp t4]) (tmps : Array Value) (P : Program) (w : World) :
    (results fn tmps).run P w = .ok (.tuple #[tmps.getD t0 undef, tmps.getD t1 undef, tmps.getD t2 undef, tmps.getD t3 undef, tmps.getD t4 undef]) w := by
  simp [results, h]
end Go.Proofs.Ytmajepinbldneaa
