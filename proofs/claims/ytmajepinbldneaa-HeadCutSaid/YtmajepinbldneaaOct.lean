/- The walks of mix.Octets, seal.Octets, head.put. -/
import Derived.Test.YtmajepinbldneaaOwn
import Derived.Test.YtmajepinbldneaaOctP
import Derived.Test.YtmajepinbldneaaProg
namespace Go.Proofs.Ytmajepinbldneaa
set_option linter.unusedVariables false
set_option linter.unusedSimpArgs false
open Go.RowKit
attribute [local go_sem ↓] Go.wp_at_zero Go.wp_at_succ
theorem infoU8 : (Try.prog.info? 5).map (fun i => (i.zero, i.size, i.bytes)) = some (some (.int .u8 0), 1, 1) := by kernel_rfl
/-- A slice of the call's own comes back. -/
def RetOwn {α : Type} (f : α → List Value) (sz : Nat) (ty : TypeId) (w : World) (xs : List α) (e : Ending) (w' : World) : Prop :=
  ∃ v, e = .returned v ∧ Own f sz ty w' w.heap.size v xs ∧ Below w.heap.size w w'
set_option maxHeartbeats 1000000 in
theorem mixOctets_any (a b : Int) (w : World) : Calls Try.prog 69 #[.agg #[.int .u64 a, .int .u64 b]] w (RetOwn byteCells 1 5 w (octB ⟨a, b⟩)) := by
  have hmk : ∀ w, (Instr.makeSlice 35 (.int .i64 16) (.int .i64 16)).run Try.prog w = .ok (.slice (some ⟨w.heap.size, 0, none⟩) 16 16) (w.alloc (.cells #[.int .u8 0, .int .u8 0, .int .u8 0, .int .u8 0, .int .u8 0, .int .u8 0, .int .u8 0, .int .u8 0, .int .u8 0, .int .u8 0, .int .u8 0, .int .u8 0, .int .u8 0, .int .u8 0, .int .u8 0, .int .u8 0] 5)) := fun _ => by kernel_rfl
  go_enter Try.func69, Try.ntmps69
  go_wp2
  refine wp_loop_rounds 17 ?_
  iterate 17 (rw [rounds_succ]; go_wp2)
  go_ret
  refine ⟨_, rfl, ?_, (by repeat (first | exact Below.refl _ _ | assumption | refine Below.drew ?_ | refine Below.drewN ?_ _ | refine Below.alloc ?_ (by first | omega | (simp; done) | (simp; omega)) _ | refine Below.setCell ?_ (by first | omega | (simp; done) | (simp; omega)) _ | refine Below.trans ?_ (Below.mono ‹Below _ _ _› (by first | omega | (simp; done) | (simp; omega)))))⟩
  exact Own.lit (xs := octB ⟨a, b⟩) encByte (w.alloc _) (w.heap.size + 1) _ (by simp) (by rw [octB_lit]; rfl) (by omega) (by rw [octB_length]; omega)
/-- put(b, n, k): b of the caller's own, behind it n's lowest k octets. -/
def RetGrows (base : Nat) (w : World) (v : Value) (zs : List Int) (e : Ending) (w' : World) : Prop :=
  ∃ v', e = .returned v' ∧ Grows byteCells 1 5 base w w' v v' zs
set_option maxHeartbeats 400000 in
theorem headPut_any (base : Nat) (v : Value) (xs : List Int) (n : Int) (k : Nat) (w : World) (hn : U n) (hk : k ≤ 8) (hown : Own byteCells 1 5 w base v xs) (hbase : base ≤ w.heap.size) (hl : xs.length ≤ 1000000000) :
    Calls Try.prog 51 #[v, .int .u64 n, .int .i64 k] w (RetGrows base w v (xs ++ le n k)) := by
  have HO := Lib.hid hown; clear hown
  have HL := Lib.hid hl; clear hl
  go_enter Try.func51, Try.ntmps51
  go_wp2
  go_loopw [0, 9] (fun b i wr => ∃ j : Nat, j ≤ k ∧ i = .int .i64 j ∧ Grows byteCells 1 5 base w wr v b (xs ++ le n j)) (fun _ i _ => k - (intOf i).toNat)
  case atStart => exact ⟨0, by omega, rfl, by simpa [le] using Grows.refl HO.out⟩
  case round =>
    obtain ⟨j, hj, rfl, hg⟩ := hrel
    have HG := Lib.hid hg; clear hg
    by_cases hlt : j < k
    · have e1 : (xs ++ le n j).length + 1 ≤ 1000000009 := by have := HL.out; simp [le_length]; omega
      have E1 := Lib.hid e1; clear e1
      go_wp2_with (at_builtin; refine wpList_app rfl encByte _ base 35 5 _ _ Try.underlying35 infoU8 rfl _ _ (by rfl) u0 (xs ++ le n j) (by rfl) (HG.out.own.alloc _) _ _ _ [byteAt n j] (by rfl) rfl (Sl.new _ _ _ _ rfl) ?_ ?_ ?_ ?_)
      · have := E1.out; simp only [List.length_singleton]; omega
      · have := E1.out; simp only [List.length_singleton]; omega
      · have := HG.out.grown.size; simp; omega
      intro v1 w1 hg1
      have hg2 := HG.out.trans (hg1.from_ (by repeat (first | exact Below.refl _ _ | assumption | refine Below.drew ?_ | refine Below.drewN ?_ _ | refine Below.alloc ?_ (by first | omega | (simp; done) | (simp; omega)) _ | refine Below.setCell ?_ (by first | omega | (simp; done) | (simp; omega)) _ | refine Below.trans ?_ (Below.mono ‹Below _ _ _› (by first | omega | (simp; done) | (simp; omega))))))
      clear hg1
      have HG2 := Lib.hid hg2; clear hg2
      go_wp2
      go_roundw
      case rel => exact ⟨j + 1, by omega, by go_num, by rw [le_succ]; exact HG2.out⟩
      case measure => simp [intOf]; omega
    · have : j = k := by omega
      subst this
      go_wp2_with fail
      go_ret
      exact ⟨_, rfl, HG.out⟩
set_option maxHeartbeats 400000 in
set_option maxRecDepth 100000 in
theorem sealOctets_any (c0 c1 t0 t1 : Int) (w : World) : Calls Try.prog 52 #[.agg #[.int .u64 c0, .int .u64 c1, .int .u64 t0, .int .u64 t1]] w (RetOwn byteCells 1 5 w (octB ⟨c0, c1⟩ ++ octB ⟨t0, t1⟩)) := by
  go_enter Try.func52, Try.ntmps52
  go_wp2
  have hk0 : ∀ o, (w.alloc (.cells #[Value.int .u64 c0, .int .u64 c1, .int .u64 t0, .int .u64 t1] 27)).cell? ⟨w.heap.size, o, none⟩ = (#[Value.int .u64 c0, .int .u64 c1, .int .u64 t0, .int .u64 t1])[o]? := fun o => by go_simp
  have HK0 := Lib.hid hk0; clear hk0
  go_region_held3 (fun w' => ∀ o, w'.cell? ⟨w.heap.size, o, none⟩ = (#[Value.int .u64 c0, .int .u64 c1, .int .u64 t0, .int .u64 t1])[o]?) (first | go_simp | assumption)
    (first
      | (go_at_call_of 69 (Value.agg #[Value.int IntKind.u64 c0, Value.int IntKind.u64 c1]); refine (mixOctets_any _ _ _).mono ?_; rintro e w1 ⟨v1, rfl, ho1, hb1⟩; have hk1 : ∀ o, w1.cell? ⟨w.heap.size, o, none⟩ = (#[Value.int .u64 c0, .int .u64 c1, .int .u64 t0, .int .u64 t1])[o]? := fun o => (hb1.cell (p := ⟨w.heap.size, o, none⟩) (by simp)).trans (HK0.out o))
      | (go_at_call_of 69 (Value.agg #[Value.int IntKind.u64 t0, Value.int IntKind.u64 t1]); refine (mixOctets_any _ _ _).mono ?_; rintro e w2 ⟨v2, rfl, ho2, hb2⟩; have hk2 : ∀ o, w2.cell? ⟨w.heap.size, o, none⟩ = (#[Value.int .u64 c0, .int .u64 c1, .int .u64 t0, .int .u64 t1])[o]? := fun o => (hb2.cell (p := ⟨w.heap.size, o, none⟩) (by have := hb1.size; simp at this; simp; omega)).trans (hk1 o); obtain ⟨A2, c2, rfl, _, hs2⟩ := ho2.sl encByte; have ho3 := (ho1.below hb2).mono (base' := w.heap.size + 1) (by simp); have hz1 := hb1.size; (try simp at hz1); have hz2 := hb2.size)
      | ((refine step_app (by rfl) encByte _ (w.heap.size + 1) 35 5 _ _ Try.underlying35 infoU8 rfl _ _ (by rfl) v1 (octB ⟨c0, c1⟩) (by rfl) ho3 A2 _ c2 (octB ⟨t0, t1⟩) (by rfl) rfl hs2 (by rw [octB_length, octB_length]; omega) (by rw [octB_length, octB_length]; omega) (by omega) ?_); intro v3 w3 hg3; have hk3 : ∀ o, w3.cell? ⟨w.heap.size, o, none⟩ = (#[Value.int .u64 c0, .int .u64 c1, .int .u64 t0, .int .u64 t1])[o]? := fun o => ((hg3.below ho3 (by omega)).cell (p := ⟨w.heap.size, o, none⟩) (by simp)).trans (hk2 o); have hb3 := hg3.below ho3 (by omega)))
  go_wp2
  go_ret
  exact ⟨_, rfl, hg3.own.mono (by omega), (by repeat (first | exact Below.refl _ _ | assumption | refine Below.drew ?_ | refine Below.drewN ?_ _ | refine Below.alloc ?_ (by first | omega | (simp; done) | (simp; omega)) _ | refine Below.setCell ?_ (by first | omega | (simp; done) | (simp; omega)) _ | refine Below.trans ?_ (Below.mono ‹Below _ _ _› (by first | omega | (simp; done) | (simp; omega)))))⟩
end Go.Proofs.Ytmajepinbldneaa
