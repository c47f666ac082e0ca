/- How arguments that can be read as data lie in memory: structs, arrays, slices of structs. -/
import Derived.Test.YtmajepinbldneaaStr
import Derived.Test.YtmajepinbldneaaProg
import Derived.ProofKit
import Derived.OpenShut
import Derived.Deep.Slices
namespace Go.Proofs.Ytmajepinbldneaa
set_option linter.unusedVariables false
set_option linter.unusedSimpArgs false
open Go.RowKit Go.WideShapes
set_option maxRecDepth 100000

/-- Whatever reads as data of type t is an element's cells, and that element is in order. -/
def Rd {α : Type} (t : TypeId) (f : α → List Value) (ok : α → Prop) : Prop :=
  ∀ {H : Type} {enc : TypeId × Value → H} {w : World} {base : Nat} {spare : Nat → Bool} {held : Bool} {fuel : Nat} {cs : List Value} {x : DataW H × List MemPlace},
    DataW.trod enc Try.prog w base spare held fuel t cs = some x → ∃ a, cs = f a ∧ ok a
def I64 (x : Int) : Prop := -9223372036854775808 ≤ x ∧ x ≤ 9223372036854775807
theorem wf_u64 {n : Int} (h : (Lit.int .u64 n).wf = true) : U n := by
  simp [Lit.wf, IntKind.min, IntKind.max, IntKind.bits, IntKind.signed] at h; unfold U; omega
theorem wf_u8 {n : Int} (h : (Lit.int .u8 n).wf = true) : U8 n := by
  simp [Lit.wf, IntKind.min, IntKind.max, IntKind.bits, IntKind.signed] at h; unfold U8; omega
theorem wf_i64 {n : Int} (h : (Lit.int .i64 n).wf = true) : I64 n := by
  simp [Lit.wf, IntKind.min, IntKind.max, IntKind.bits, IntKind.signed] at h; unfold I64; omega
theorem rdU64 : Rd 23 u64Cells U := fun h => by
  obtain ⟨n, rfl, _, hw⟩ := DataW.trod_int Try.underlying23 h
  exact ⟨n, rfl, wf_u64 hw⟩
theorem rdByte : Rd 5 byteCells U8 := fun h => by
  obtain ⟨n, rfl, _, hw⟩ := DataW.trod_int Try.underlying5 h
  exact ⟨n, rfl, wf_u8 hw⟩
theorem rdInt : Rd 3 intCells I64 := fun h => by
  obtain ⟨n, rfl, _, hw⟩ := DataW.trod_int Try.underlying3 h
  exact ⟨n, rfl, wf_i64 hw⟩
theorem cells_block : Try.prog.cellsOf 25 = 2 := by kernel_rfl
theorem cells_u64 : Try.prog.cellsOf 23 = 1 := by kernel_rfl
theorem cells_int : Try.prog.cellsOf 3 = 1 := by kernel_rfl
theorem cells_bool : Try.prog.cellsOf 4 = 1 := by kernel_rfl
theorem cells_byte : Try.prog.cellsOf 5 = 1 := by kernel_rfl
theorem cells_sealed : Try.prog.cellsOf 27 = 4 := by kernel_rfl
theorem cells_val : Try.prog.cellsOf 29 = 9 := by kernel_rfl
theorem cells_sub : Try.prog.cellsOf 39 = 2 := by kernel_rfl
theorem cells_part : Try.prog.cellsOf 41 = 11 := by kernel_rfl
theorem rdBlk : Rd 25 Blk.cells (fun b => U b.a ∧ U b.b) := fun {H enc w base spare held fuel cs x} h => by
  obtain ⟨xs, n, _, _, hl, hx, hf⟩ := DataW.trod_array Try.underlying25 h
  match cs, hl.trans cells_block, xs, hx with
  | [c0, c1], _, [x0, x1], _ =>
    have h0 := hf 0 (by omega)
    have h1 := hf 1 (by omega)
    simp [cells_u64] at h0 h1
    obtain ⟨a, e0, ua⟩ := rdU64 h0
    obtain ⟨b, e1, ub⟩ := rdU64 h1
    simp only [u64Cells, List.cons.injEq, and_true] at e0 e1
    subst e0 e1
    exact ⟨⟨a, b⟩, rfl, ua, ub⟩
theorem rdSub : Rd 39 Sub.cells Sub.ok := fun {H enc w base spare held fuel cs x} h => by
  obtain ⟨xs, n, _, _, hl, hx, hf⟩ := DataW.trod_struct Try.underlying39 h
  match cs, hl.trans cells_sub, xs, hx with
  | [c0, c1], _, [x0, x1], _ =>
    have h0 := hf 0 _ rfl
    have h1 := hf 1 _ rfl
    simp [cells_u64] at h0 h1
    obtain ⟨a, e0, ua⟩ := rdU64 h0
    obtain ⟨b, e1, ub⟩ := rdU64 h1
    simp only [u64Cells, List.cons.injEq, and_true] at e0 e1
    subst e0 e1
    exact ⟨⟨a, b⟩, rfl, ua, ub⟩
theorem rdSealed : Rd 27 (fun s : Blk × Blk => s.1.cells ++ s.2.cells) (fun s => (U s.1.a ∧ U s.1.b) ∧ U s.2.a ∧ U s.2.b) := fun {H enc w base spare held fuel cs x} h => by
  obtain ⟨xs, n, _, _, hl, hx, hf⟩ := DataW.trod_struct Try.underlying27 h
  match cs, hl.trans cells_sealed, xs, hx with
  | [c0, c1, c2, c3], _, [x0, x1], _ =>
    have h0 := hf 0 _ rfl
    have h1 := hf 1 _ rfl
    simp [cells_block] at h0 h1
    obtain ⟨a, e0, ua⟩ := rdBlk h0
    obtain ⟨b, e1, ub⟩ := rdBlk h1
    exact ⟨⟨a, b⟩, by simp only [← e0, ← e1, List.cons_append, List.nil_append], ua, ub⟩
theorem rdVal : Rd 29 Val.cells (fun v => v.ok ∧ I64 v.t) := fun {H enc w base spare held fuel cs x} h => by
  obtain ⟨xs, n, _, _, hl, hx, hf⟩ := DataW.trod_struct Try.underlying29 h
  match cs, hl.trans cells_val, xs, hx with
  | [c0, c1, c2, c3, c4, c5, c6, c7, c8], _, [x0, x1, x2, x3, x4], _ =>
    have h0 := hf 0 _ rfl
    have h1 := hf 1 _ rfl
    have h2 := hf 2 _ rfl
    have h3 := hf 3 _ rfl
    have h4 := hf 4 _ rfl
    simp [cells_block, cells_bool, cells_sealed, cells_int] at h0 h1 h2 h3 h4
    obtain ⟨b0, e0, _⟩ := DataW.trod_bool Try.underlying4 h0
    obtain ⟨b1, e1, _⟩ := DataW.trod_bool Try.underlying4 h1
    obtain ⟨⟨b2, b3⟩, e2, u2, u3⟩ := rdBlk h2
    obtain ⟨⟨⟨s0, s1⟩, ⟨s2, s3⟩⟩, e3, ⟨u4, u5⟩, u6, u7⟩ := rdSealed h3
    obtain ⟨t, e4, u8⟩ := rdInt h4
    simp only [intCells, Blk.cells, List.cons_append, List.nil_append, List.cons.injEq, and_true] at e0 e1 e2 e3 e4
    obtain ⟨rfl, rfl⟩ := e2
    obtain ⟨rfl, rfl, rfl, rfl⟩ := e3
    subst e0 e1 e4
    exact ⟨⟨b0, b1, b2, b3, s0, s1, s2, s3, t⟩, rfl, ⟨u2, u3, u4, u5, u6, u7⟩, u8⟩
theorem rdPart : Rd 41 Part.cells (fun p => p.ok ∧ I64 p.w.t) := fun {H enc w base spare held fuel cs x} h => by
  obtain ⟨xs, n, _, _, hl, hx, hf⟩ := DataW.trod_struct Try.underlying41 h
  match cs, hl.trans cells_part, xs, hx with
  | [c0, c1, c2, c3, c4, c5, c6, c7, c8, c9, c10], _, [x0, x1], _ =>
    have h0 := hf 0 _ rfl
    have h1 := hf 1 _ rfl
    simp [cells_sub, cells_val] at h0 h1
    obtain ⟨s, e0, u0⟩ := rdSub h0
    obtain ⟨v, e1, u1, u2⟩ := rdVal h1
    simp only [Sub.cells, Val.cells, List.cons.injEq, and_true] at e0 e1
    obtain ⟨rfl, rfl⟩ := e0
    obtain ⟨rfl, rfl, rfl, rfl, rfl, rfl, rfl, rfl, rfl⟩ := e1
    exact ⟨⟨s, v⟩, rfl, ⟨u0, u1⟩, u2⟩
/-- A slice that came in. -/
theorem rdSlice {α : Type} {f : α → List Value} {ok : α → Prop} {sz : Nat} {t e : TypeId} (ht : Try.prog.underlying t = some (.slice e)) (hc : Try.prog.cellsOf e = sz) (h0 : 0 < sz) (hr : Rd e f ok) (hf : ∀ x, (f x).length = sz)
    {H : Type} {enc : TypeId × Value → H} {w : World} {spare : Nat → Bool} {held : Bool} {fuel : Nat} {cs : List Value} {x : DataW H × List MemPlace}
    (h : DataW.trod enc Try.prog w 0 spare held fuel t cs = some x) :
    ∃ (A : Option Addr) (cap : Nat) (xs : List α), cs = [.slice A xs.length cap] ∧ xs.length ≤ cap ∧ cap ≤ 9223372036854775807 ∧ Sl f sz w A xs ∧ ∀ a ∈ xs, ok a := by
  rcases Go.Deep.open_slice ht h with ⟨rfl, _⟩ | ⟨a, len, cap, m, n, D, Pl, rfl, _, hl, hm, hmm, _, hi⟩
  · exact ⟨none, 0, [], rfl, by simp, by omega, .inl rfl, by simp⟩
  · have hlm : len ≤ m := by rw [hmm]; split <;> omega
    have key : ∀ i, i < len → ∃ y, ok y ∧ ∀ j u, (f y)[j]? = some u → w.cell? (a.add (i * sz + j)) = some u := by
      intro i hil
      obtain ⟨cs', h1, h2⟩ := hi i (by omega)
      rw [hc] at h1
      obtain ⟨_, hcl, hat⟩ := World.cells?_some h1
      obtain ⟨y, rfl, hy⟩ := hr h2
      refine ⟨y, hy, fun j u hu => ?_⟩
      have hj : j < sz := by rw [← hf y]; exact (List.getElem?_eq_some_iff.1 hu).1
      have := hat j hj
      rw [hu] at this
      rw [← this]
      congr 1
      unfold Addr.add
      by_cases q1 : i * sz = 0 <;> by_cases q2 : j = 0 <;> simp [q1, q2, Nat.add_assoc]
    have mk : ∀ k, k ≤ len → ∃ xs : List α, xs.length = k ∧ (∀ y ∈ xs, ok y) ∧ ∀ i y, xs[i]? = some y → ∀ j u, (f y)[j]? = some u → w.cell? (a.add (i * sz + j)) = some u := by
      intro k
      induction k with
      | zero => exact fun _ => ⟨[], rfl, by simp, fun i y hy => by simp at hy⟩
      | succ k ih =>
        intro hk
        obtain ⟨xs, hx, ho, hcell⟩ := ih (by omega)
        obtain ⟨y, hy, hyc⟩ := key k (by omega)
        refine ⟨xs ++ [y], by simp [hx], fun z hz => ?_, fun i z hz j u hu => ?_⟩
        · rcases List.mem_append.1 hz with hz | hz
          · exact ho z hz
          · simp at hz; subst hz; exact hy
        · rcases Nat.lt_or_ge i k with hik | hik
          · rw [List.getElem?_append_left (by omega)] at hz
            exact hcell i z hz j u hu
          · have hik' : i = k := by
              have := (List.getElem?_eq_some_iff.1 hz).1
              simp [hx] at this; omega
            subst hik'
            rw [List.getElem?_append_right (by omega)] at hz
            simp [hx] at hz; subst hz
            exact hyc j u hu
    obtain ⟨xs, hx, ho, hcell⟩ := mk len (Nat.le_refl _)
    subst hx
    refine ⟨some a, cap, xs, rfl, hl, by simpa [maxLen] using hm, ?_, ho⟩
    rcases xs with _ | ⟨y, ys⟩
    · exact .inl rfl
    · right
      obtain ⟨g, o, s⟩ := a
      have hs : s = none := by
        have hp : 0 < (f y).length := by rw [hf]; exact h0
        have := hcell 0 y rfl 0 _ (List.getElem?_eq_getElem hp)
        simp [Addr.add, World.cell?] at this
        split at this
        · split at this
          · cases this
          · rename_i hns; cases s <;> simp_all
        · cases this
      subst hs
      have hg : g < w.heap.size := by
        have hp : 0 < (f y).length := by rw [hf]; exact h0
        exact World.block_lt_of_cell? w _ (by have := hcell 0 y rfl 0 _ (List.getElem?_eq_getElem hp); simpa [Addr.add] using this)
      refine ⟨g, o, rfl, hg, fun i z hz j u hu => ?_⟩
      rw [← hcell i z hz j u hu]
      congr 1
      unfold Addr.add
      split <;> simp_all [Nat.add_assoc]
end Go.Proofs.Ytmajepinbldneaa
