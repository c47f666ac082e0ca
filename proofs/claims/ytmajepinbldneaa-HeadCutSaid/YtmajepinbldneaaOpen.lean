/- Arguments of laws, opened. -/
import Derived.Test.YtmajepinbldneaaRead
import Derived.SizedLaws
import Derived.ProofKit
import Derived.Carry
import Derived.ChangeShapes
import Derived.WideShapes
namespace Go.Proofs.Ytmajepinbldneaa
set_option linter.unusedVariables false
set_option linter.unusedSimpArgs false
open Go.RowKit Go.WideShapes
set_option maxRecDepth 100000
theorem cells_hdr : Try.prog.cellsOf 31 = 13 := by kernel_rfl
theorem cells_pts : Try.prog.cellsOf 22 = 1 := by kernel_rfl
theorem cells_i64 : Try.prog.cellsOf 2 = 1 := by kernel_rfl
theorem rdI64 : Rd 2 intCells I64 := fun h => by
  obtain ⟨n, rfl, _, hw⟩ := DataW.trod_int Try.underlying2 h
  exact ⟨n, rfl, wf_i64 hw⟩
theorem cells_entry : Try.prog.cellsOf 59 = 11 := by kernel_rfl
theorem rdEntry : Rd 59 Entry.cells (fun p => p.ok ∧ I64 p.v.t) := fun {H enc w base spare held fuel cs x} h => by
  obtain ⟨xs, n, _, _, hl, hx, hf⟩ := DataW.trod_struct Try.underlying59 h
  match cs, hl.trans cells_entry, xs, hx with
  | [c0, c1, c2, c3, c4, c5, c6, c7, c8, c9, c10], _, [x0, x1], _ =>
    have h0 := hf 0 _ rfl
    have h1 := hf 1 _ rfl
    simp [cells_sub, cells_val] at h0 h1
    obtain ⟨s, e0, u0⟩ := rdSub h0
    obtain ⟨v, e1, u1, u2⟩ := rdVal h1
    simp only [Sub.cells, Val.cells, List.cons.injEq, and_true] at e0 e1
    obtain ⟨rfl, rfl⟩ := e0
    obtain ⟨rfl, rfl, rfl, rfl, rfl, rfl, rfl, rfl, rfl⟩ := e1
    exact ⟨⟨s, v⟩, rfl, ⟨u0, u1⟩, u2⟩
theorem cells_term : Try.prog.cellsOf 69 = 3 := by kernel_rfl
theorem rdTerm : Rd 69 Term.cells (fun t => I64 t.k ∧ I64 t.a ∧ I64 t.b) := fun {H enc w base spare held fuel cs x} h => by
  obtain ⟨xs, n, _, _, hl, hx, hf⟩ := DataW.trod_struct Try.underlying69 h
  match cs, hl.trans cells_term, xs, hx with
  | [c0, c1, c2], _, [x0, x1, x2], _ =>
    have h0 := hf 0 _ rfl
    have h1 := hf 1 _ rfl
    have h2 := hf 2 _ rfl
    simp [cells_int] at h0 h1 h2
    obtain ⟨a, e0, u0⟩ := rdInt h0
    obtain ⟨b, e1, u1⟩ := rdInt h1
    obtain ⟨c, e2, u2⟩ := rdInt h2
    simp only [intCells, List.cons.injEq, and_true] at e0 e1 e2
    subst e0 e1 e2
    exact ⟨⟨a, b, c⟩, rfl, u0, u1, u2⟩
section
variable {H : Type} {enc : TypeId × Value → H} {W : World} {spare : Nat → Bool} {held : Bool} {v : Value} {d : DataW H} {ps : List MemPlace} {base : Nat}
theorem openHdr (h : DataW.Trod enc Try.prog W 0 spare held 31 v d ps) (hv : Value.okWide Try.prog W .any base 31 v) :
    ∃ (sc hh ep : Int) (A : Option Addr) (cap : Nat) (l : List Part) (pay : Val), v = .agg #[Value.int .i64 sc, .int .i64 hh, .int .i64 ep, .slice A l.length cap, .bool pay.sym, .bool pay.sealed, .int .u64 pay.b0, .int .u64 pay.b1, .int .u64 pay.c0, .int .u64 pay.c1, .int .u64 pay.t0, .int .u64 pay.t1, .int .i64 pay.t] ∧ (I64 sc ∧ I64 hh ∧ I64 ep) ∧ l.length ≤ cap ∧ cap ≤ 9223372036854775807 ∧ Sl Part.cells 11 W A l ∧ (∀ p ∈ l, p.ok) ∧ pay.ok ∧ I64 pay.t ∧ ∀ p ∈ l, I64 p.w.t := by
  obtain ⟨cs, rfl, hcs⟩ := okWide_struct Try.underlying31 hv
  obtain ⟨fuel, h⟩ := h
  obtain ⟨xs, n, _, _, hl, hx, hf⟩ := DataW.trod_struct Try.underlying31 h
  obtain ⟨cs⟩ := cs
  simp only [Value.cells] at hl hf
  match cs, hl.trans cells_hdr, xs, hx with
  | [c0, c1, c2, c3, c4, c5, c6, c7, c8, c9, c10, c11, c12], _, [x0, x1, x2, x3, x4], _ =>
    have h0 := hf 0 _ rfl
    have h1 := hf 1 _ rfl
    have h2 := hf 2 _ rfl
    have h3 := hf 3 _ rfl
    have h4 := hf 4 _ rfl
    simp [cells_int, cells_i64, cells_pts, cells_val] at h0 h1 h2 h3 h4
    obtain ⟨a, e0, u0⟩ := rdInt h0
    obtain ⟨b, e1, u1⟩ := rdInt h1
    obtain ⟨c, e2, u2⟩ := rdI64 h2
    obtain ⟨A, cap, l, e3, hcap, hcm, hs, hk⟩ := rdSlice Try.underlying22 cells_part (by decide) rdPart (fun _ => rfl) h3
    obtain ⟨p, e4, u4, u5⟩ := rdVal h4
    simp only [intCells, Val.cells, List.cons.injEq, and_true] at e0 e1 e2 e3 e4
    obtain ⟨rfl, rfl, rfl, rfl, rfl, rfl, rfl, rfl, rfl⟩ := e4
    subst e0 e1 e2 e3
    exact ⟨a, b, c, A, cap, l, p, rfl, ⟨u0, u1, u2⟩, hcap, hcm, hs, fun q hq => (hk q hq).1, u4, u5, fun q hq => (hk q hq).2⟩
theorem openInt (h : DataW.Trod enc Try.prog W 0 spare held 3 v d ps) (hv : Value.okWide Try.prog W .any base 3 v) : ∃ k : Int, v = .int .i64 k ∧ I64 k := by
  obtain ⟨k, rfl⟩ := okWide_int Try.underlying3 hv
  obtain ⟨fuel, h⟩ := h
  obtain ⟨a, e, u⟩ := rdInt h
  simp [Value.cells, intCells] at e
  exact ⟨k, rfl, e ▸ u⟩
theorem openU64 (h : DataW.Trod enc Try.prog W 0 spare held 23 v d ps) (hv : Value.okWide Try.prog W .any base 23 v) : ∃ k : Int, v = .int .u64 k ∧ U k := by
  obtain ⟨k, rfl⟩ := okWide_int Try.underlying23 hv
  obtain ⟨fuel, h⟩ := h
  obtain ⟨a, e, u⟩ := rdU64 h
  simp [Value.cells, u64Cells] at e
  exact ⟨k, rfl, e ▸ u⟩
theorem openI64 (h : DataW.Trod enc Try.prog W 0 spare held 2 v d ps) (hv : Value.okWide Try.prog W .any base 2 v) : ∃ k : Int, v = .int .i64 k ∧ I64 k := by
  obtain ⟨k, rfl⟩ := okWide_int Try.underlying2 hv
  obtain ⟨fuel, h⟩ := h
  obtain ⟨a, e, u⟩ := rdI64 h
  simp [Value.cells, intCells] at e
  exact ⟨k, rfl, e ▸ u⟩
theorem openSl {α : Type} {f : α → List Value} {ok : α → Prop} {sz : Nat} {t e : TypeId} (ht : Try.prog.underlying t = some (.slice e)) (hc : Try.prog.cellsOf e = sz) (h0 : 0 < sz) (hr : Rd e f ok) (hf : ∀ x, (f x).length = sz)
    (h : DataW.Trod enc Try.prog W 0 spare held t v d ps) (hv : Value.okWide Try.prog W .any base t v) :
    ∃ (A : Option Addr) (cap : Nat) (xs : List α), v = .slice A xs.length cap ∧ xs.length ≤ cap ∧ cap ≤ 9223372036854775807 ∧ Sl f sz W A xs ∧ ∀ a ∈ xs, ok a := by
  obtain ⟨a, len, cap, rfl⟩ := okWide_slice ht hv
  obtain ⟨fuel, h⟩ := h
  obtain ⟨A, cap', xs, e1, h1⟩ := rdSlice ht hc h0 hr hf h
  simp only [Value.cells, List.cons.injEq, and_true] at e1
  rw [Value.slice.injEq] at e1
  obtain ⟨rfl, rfl, rfl⟩ := e1
  exact ⟨_, _, xs, rfl, h1⟩
theorem openBytes (h : DataW.Trod enc Try.prog W 0 spare held 35 v d ps) (hv : Value.okWide Try.prog W .any base 35 v) :
    ∃ (A : Option Addr) (cap : Nat) (xs : List Int), v = .slice A xs.length cap ∧ xs.length ≤ cap ∧ cap ≤ 9223372036854775807 ∧ Sl byteCells 1 W A xs ∧ ∀ a ∈ xs, U8 a := openSl Try.underlying35 cells_byte (by decide) rdByte (fun _ => rfl) h hv
theorem openU64s (h : DataW.Trod enc Try.prog W 0 spare held 61 v d ps) (hv : Value.okWide Try.prog W .any base 61 v) :
    ∃ (A : Option Addr) (cap : Nat) (xs : List Int), v = .slice A xs.length cap ∧ xs.length ≤ cap ∧ cap ≤ 9223372036854775807 ∧ Sl u64Cells 1 W A xs ∧ ∀ a ∈ xs, U a := openSl Try.underlying61 cells_u64 (by decide) rdU64 (fun _ => rfl) h hv
theorem openEntries (h : DataW.Trod enc Try.prog W 0 spare held 53 v d ps) (hv : Value.okWide Try.prog W .any base 53 v) :
    ∃ (A : Option Addr) (cap : Nat) (xs : List Entry), v = .slice A xs.length cap ∧ xs.length ≤ cap ∧ cap ≤ 9223372036854775807 ∧ Sl Entry.cells 11 W A xs ∧ ∀ a ∈ xs, a.ok ∧ I64 a.v.t := openSl Try.underlying53 cells_entry (by decide) rdEntry (fun _ => rfl) h hv
theorem openTerms (h : DataW.Trod enc Try.prog W 0 spare held 70 v d ps) (hv : Value.okWide Try.prog W .any base 70 v) :
    ∃ (A : Option Addr) (cap : Nat) (xs : List Term), v = .slice A xs.length cap ∧ xs.length ≤ cap ∧ cap ≤ 9223372036854775807 ∧ Sl Term.cells 3 W A xs ∧ ∀ t ∈ xs, I64 t.k ∧ I64 t.a ∧ I64 t.b := openSl Try.underlying70 cells_term (by decide) rdTerm (fun _ => rfl) h hv
end
end Go.Proofs.Ytmajepinbldneaa
