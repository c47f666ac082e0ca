/- '==' and '!=' of the program's structs and arrays, as one Bool each. -/
import Derived.Test.YtmajepinbldneaaBase
import Derived.Test.YtmajepinbldneaaProg
import Derived.Laws.StructEq
namespace Go.Proofs.Ytmajepinbldneaa
set_option linter.unusedVariables false
set_option linter.unusedSimpArgs false
open Go.RowKit
section
variable {P : Program} {d : Nat} {xs ys : Array Value} {f : Field} {fs : List Field} {a b : Value} {r s : Bool} {w : World}
theorem eqField (hn : f.name ≠ "_") (ha : (part f.type xs f.offset).run P w = .ok a w) (hb : (part f.type ys f.offset).run P w = .ok b w)
    (he : (Op.equalIn d f.type a b).run P w = .ok r w) (hr : (Op.eqFields d xs ys fs).run P w = .ok s w) : (Op.eqFields d xs ys (f :: fs)).run P w = .ok (r && s) w := by
  simp only [Op.eqFields, if_pos hn, Sem.run_bind, ha, hb, he, Result.andThen_ok]
  cases r <;> simp [hr]
theorem eqFieldLast (hn : f.name ≠ "_") (ha : (part f.type xs f.offset).run P w = .ok a w) (hb : (part f.type ys f.offset).run P w = .ok b w)
    (he : (Op.equalIn d f.type a b).run P w = .ok r w) : (Op.eqFields d xs ys [f]).run P w = .ok r w := by
  have := eqField (fs := []) (s := true) hn ha hb he (by simp [Op.eqFields])
  rwa [Bool.and_true] at this
theorem eqStruct {t : TypeId} {fs : Array Field} (hu : P.underlying t = some (.struct fs)) (hp : P.stoodInHeld t = false) (h : (Op.eqFields d xs ys fs.toList).run P w = .ok r w) :
    (Op.equalIn (d + 1) t (.agg xs) (.agg ys)).run P w = .ok r w := by
  have hf : P.fieldsOf t = fs := by simp [Program.fieldsOf, hu]
  rw [run_equalIn_struct (P := P) w d t xs ys (by rw [hf]; exact hu) hp, hf]
  exact h
theorem eqlOf {t : TypeId} (h : (Op.equal t (.agg xs) (.agg ys)).run P w = .ok r w) : (binOp .eql t (.agg xs) (.agg ys)).run P w = .ok (.bool r) w := by
  simp [binOp, h]
theorem neqOf {t : TypeId} (h : (Op.equal t (.agg xs) (.agg ys)).run P w = .ok r w) : (binOp .neq t (.agg xs) (.agg ys)).run P w = .ok (.bool !r) w := by
  simp [binOp, h]
end
variable (w : World)
theorem eqIn_int (d : Nat) (k : IntKind) (t : TypeId) (h : Try.prog.underlying t = some (.int k)) (a b : Int) : (Op.equalIn (d + 1) t (.int k a) (.int k b)).run Try.prog w = .ok (a == b) w := by
  simp [Op.equalIn, run_underlying h]
theorem eqIn_bool (d : Nat) (a b : Bool) : (Op.equalIn (d + 1) 4 (.bool a) (.bool b)).run Try.prog w = .ok (a == b) w := run_equalIn_bool w d _ a b Try.underlying4
theorem eqIn_blk (d : Nat) (a b a' b' : Int) : (Op.equalIn (d + 2) 25 (.agg #[.int .u64 a, .int .u64 b]) (.agg #[.int .u64 a', .int .u64 b'])).run Try.prog w = .ok (a == a' && b == b') w := by
  have h1 : (sizeOf 23).run Try.prog w = .ok 1 w := by kernel_rfl
  have p0 : ∀ x y : Int, (part 23 #[.int .u64 x, .int .u64 y] (0 * 1)).run Try.prog w = .ok (.int .u64 x) w := fun x y => by kernel_rfl
  have p1 : ∀ x y : Int, (part 23 #[.int .u64 x, .int .u64 y] (1 * 1)).run Try.prog w = .ok (.int .u64 y) w := fun x y => by kernel_rfl
  have e := fun x y => eqIn_int w d .u64 23 Try.underlying23 x y
  rw [Op.equalIn]
  simp only [Sem.run_bind, run_underlying Try.underlying25, Result.andThen_ok, h1]
  by_cases e0 : a = a' <;> by_cases e1 : b = b' <;> simp [Std.Legacy.Range.forIn_eq_forIn_range', List.range', p0, p1, e, Result.andThen, e0, e1]
theorem eqIn_sub (d : Nat) (a b a' b' : Int) : (Op.equalIn (d + 2) 39 (.agg #[.int .u64 a, .int .u64 b]) (.agg #[.int .u64 a', .int .u64 b'])).run Try.prog w = .ok (a == a' && b == b') w := by
  refine eqStruct Try.underlying39 (by kernel_rfl) ?_
  have e := fun x y => eqIn_int w d .u64 23 Try.underlying23 x y
  exact eqField (by decide) (by kernel_rfl) (by kernel_rfl) (e _ _) (eqFieldLast (by decide) (by kernel_rfl) (by kernel_rfl) (e _ _))
theorem eqIn_sealed (d : Nat) (c0 c1 t0 t1 c0' c1' t0' t1' : Int) : (Op.equalIn (d + 3) 27 (.agg #[.int .u64 c0, .int .u64 c1, .int .u64 t0, .int .u64 t1]) (.agg #[.int .u64 c0', .int .u64 c1', .int .u64 t0', .int .u64 t1'])).run Try.prog w = .ok (sealedEqB c0 c1 t0 t1 c0' c1' t0' t1') w := by
  refine eqStruct Try.underlying27 (by kernel_rfl) ?_
  exact eqField (by decide) (by kernel_rfl) (by kernel_rfl) (eqIn_blk w d _ _ _ _) (eqFieldLast (by decide) (by kernel_rfl) (by kernel_rfl) (eqIn_blk w d _ _ _ _))
theorem eqIn_val (d : Nat) (x0 x1 y0 y1 : Bool) (x2 x3 x4 x5 x6 x7 x8 y2 y3 y4 y5 y6 y7 y8 : Int) :
    (Op.equalIn (d + 4) 29 (.agg #[.bool x0, .bool x1, .int .u64 x2, .int .u64 x3, .int .u64 x4, .int .u64 x5, .int .u64 x6, .int .u64 x7, .int .i64 x8]) (.agg #[.bool y0, .bool y1, .int .u64 y2, .int .u64 y3, .int .u64 y4, .int .u64 y5, .int .u64 y6, .int .u64 y7, .int .i64 y8])).run Try.prog w
      = .ok (Val.eqB ⟨x0, x1, x2, x3, x4, x5, x6, x7, x8⟩ ⟨y0, y1, y2, y3, y4, y5, y6, y7, y8⟩) w := by
  refine eqStruct Try.underlying29 (by kernel_rfl) ?_
  exact eqField (by decide) (by kernel_rfl) (by kernel_rfl) (eqIn_bool w _ _ _) (eqField (by decide) (by kernel_rfl) (by kernel_rfl) (eqIn_bool w _ _ _)
    (eqField (by decide) (by kernel_rfl) (by kernel_rfl) (eqIn_blk w _ _ _ _ _) (eqField (by decide) (by kernel_rfl) (by kernel_rfl) (eqIn_sealed w _ _ _ _ _ _ _ _ _)
      (eqFieldLast (by decide) (by kernel_rfl) (by kernel_rfl) (eqIn_int w _ .i64 3 Try.underlying3 _ _)))))
theorem eqIn_part (d : Nat) (i j i' j' : Int) (x0 x1 y0 y1 : Bool) (x2 x3 x4 x5 x6 x7 x8 y2 y3 y4 y5 y6 y7 y8 : Int) :
    (Op.equalIn (d + 5) 41 (.agg #[.int .u64 i, .int .u64 j, .bool x0, .bool x1, .int .u64 x2, .int .u64 x3, .int .u64 x4, .int .u64 x5, .int .u64 x6, .int .u64 x7, .int .i64 x8]) (.agg #[.int .u64 i', .int .u64 j', .bool y0, .bool y1, .int .u64 y2, .int .u64 y3, .int .u64 y4, .int .u64 y5, .int .u64 y6, .int .u64 y7, .int .i64 y8])).run Try.prog w
      = .ok (Part.eqB ⟨⟨i, j⟩, ⟨x0, x1, x2, x3, x4, x5, x6, x7, x8⟩⟩ ⟨⟨i', j'⟩, ⟨y0, y1, y2, y3, y4, y5, y6, y7, y8⟩⟩) w := by
  refine eqStruct Try.underlying41 (by kernel_rfl) ?_
  exact eqField (by decide) (by kernel_rfl) (by kernel_rfl) (eqIn_sub w _ _ _ _ _) (eqFieldLast (by decide) (by kernel_rfl) (by kernel_rfl) (eqIn_val w d _ _ _ _ _ _ _ _ _ _ _ _ _ _ _ _ _ _))
theorem eqIn_entry (d : Nat) (i j i' j' : Int) (x0 x1 y0 y1 : Bool) (x2 x3 x4 x5 x6 x7 x8 y2 y3 y4 y5 y6 y7 y8 : Int) :
    (Op.equalIn (d + 5) 59 (.agg #[.int .u64 i, .int .u64 j, .bool x0, .bool x1, .int .u64 x2, .int .u64 x3, .int .u64 x4, .int .u64 x5, .int .u64 x6, .int .u64 x7, .int .i64 x8]) (.agg #[.int .u64 i', .int .u64 j', .bool y0, .bool y1, .int .u64 y2, .int .u64 y3, .int .u64 y4, .int .u64 y5, .int .u64 y6, .int .u64 y7, .int .i64 y8])).run Try.prog w
      = .ok (Entry.eqB ⟨⟨i, j⟩, ⟨x0, x1, x2, x3, x4, x5, x6, x7, x8⟩⟩ ⟨⟨i', j'⟩, ⟨y0, y1, y2, y3, y4, y5, y6, y7, y8⟩⟩) w := by
  refine eqStruct Try.underlying59 (by kernel_rfl) ?_
  exact eqField (by decide) (by kernel_rfl) (by kernel_rfl) (eqIn_sub w _ _ _ _ _) (eqFieldLast (by decide) (by kernel_rfl) (by kernel_rfl) (eqIn_val w d _ _ _ _ _ _ _ _ _ _ _ _ _ _ _ _ _ _))
theorem eqIn_term (d : Nat) (k a b k' a' b' : Int) : (Op.equalIn (d + 2) 69 (.agg #[.int .i64 k, .int .i64 a, .int .i64 b]) (.agg #[.int .i64 k', .int .i64 a', .int .i64 b'])).run Try.prog w = .ok (Term.eqB ⟨k, a, b⟩ ⟨k', a', b'⟩) w := by
  refine eqStruct Try.underlying69 (by kernel_rfl) ?_
  have e := fun x y => eqIn_int w d .i64 3 Try.underlying3 x y
  exact eqField (by decide) (by kernel_rfl) (by kernel_rfl) (e _ _) (eqField (by decide) (by kernel_rfl) (by kernel_rfl) (e _ _) (eqFieldLast (by decide) (by kernel_rfl) (by kernel_rfl) (e _ _)))
theorem eql_sub (i j i' j' : Int) : (binOp .eql 39 (.agg #[.int .u64 i, .int .u64 j]) (.agg #[.int .u64 i', .int .u64 j'])).run Try.prog w = .ok (.bool (i == i' && j == j')) w := eqlOf (eqIn_sub w 9998 _ _ _ _)
theorem neq_sub (i j i' j' : Int) : (binOp .neq 39 (.agg #[.int .u64 i, .int .u64 j]) (.agg #[.int .u64 i', .int .u64 j'])).run Try.prog w = .ok (.bool !(i == i' && j == j')) w := neqOf (eqIn_sub w 9998 _ _ _ _)
theorem eql_blk (a b a' b' : Int) : (binOp .eql 25 (.agg #[.int .u64 a, .int .u64 b]) (.agg #[.int .u64 a', .int .u64 b'])).run Try.prog w = .ok (.bool (a == a' && b == b')) w := eqlOf (eqIn_blk w 9998 _ _ _ _)
theorem neq_blk (a b a' b' : Int) : (binOp .neq 25 (.agg #[.int .u64 a, .int .u64 b]) (.agg #[.int .u64 a', .int .u64 b'])).run Try.prog w = .ok (.bool !(a == a' && b == b')) w := neqOf (eqIn_blk w 9998 _ _ _ _)
theorem eql_term (k a b k' a' b' : Int) : (binOp .eql 69 (.agg #[.int .i64 k, .int .i64 a, .int .i64 b]) (.agg #[.int .i64 k', .int .i64 a', .int .i64 b'])).run Try.prog w = .ok (.bool (Term.eqB ⟨k, a, b⟩ ⟨k', a', b'⟩)) w := eqlOf (eqIn_term w 9998 _ _ _ _ _ _)
theorem neq_term (k a b k' a' b' : Int) : (binOp .neq 69 (.agg #[.int .i64 k, .int .i64 a, .int .i64 b]) (.agg #[.int .i64 k', .int .i64 a', .int .i64 b'])).run Try.prog w = .ok (.bool !(Term.eqB ⟨k, a, b⟩ ⟨k', a', b'⟩)) w := neqOf (eqIn_term w 9998 _ _ _ _ _ _)
theorem eql_sealed (c0 c1 t0 t1 c0' c1' t0' t1' : Int) : (binOp .eql 27 (.agg #[.int .u64 c0, .int .u64 c1, .int .u64 t0, .int .u64 t1]) (.agg #[.int .u64 c0', .int .u64 c1', .int .u64 t0', .int .u64 t1'])).run Try.prog w = .ok (.bool (sealedEqB c0 c1 t0 t1 c0' c1' t0' t1')) w := eqlOf (eqIn_sealed w 9997 _ _ _ _ _ _ _ _)
theorem neq_sealed (c0 c1 t0 t1 c0' c1' t0' t1' : Int) : (binOp .neq 27 (.agg #[.int .u64 c0, .int .u64 c1, .int .u64 t0, .int .u64 t1]) (.agg #[.int .u64 c0', .int .u64 c1', .int .u64 t0', .int .u64 t1'])).run Try.prog w = .ok (.bool !(sealedEqB c0 c1 t0 t1 c0' c1' t0' t1')) w := neqOf (eqIn_sealed w 9997 _ _ _ _ _ _ _ _)
theorem eql_val (x0 x1 : Bool) (x2 x3 x4 x5 x6 x7 x8 : Int) (y0 y1 : Bool) (y2 y3 y4 y5 y6 y7 y8 : Int) : (binOp .eql 29 (.agg #[.bool x0, .bool x1, .int .u64 x2, .int .u64 x3, .int .u64 x4, .int .u64 x5, .int .u64 x6, .int .u64 x7, .int .i64 x8]) (.agg #[.bool y0, .bool y1, .int .u64 y2, .int .u64 y3, .int .u64 y4, .int .u64 y5, .int .u64 y6, .int .u64 y7, .int .i64 y8])).run Try.prog w = .ok (.bool (Val.eqB ⟨x0, x1, x2, x3, x4, x5, x6, x7, x8⟩ ⟨y0, y1, y2, y3, y4, y5, y6, y7, y8⟩)) w := eqlOf (eqIn_val w 9996 _ _ _ _ _ _ _ _ _ _ _ _ _ _ _ _ _ _)
theorem neq_val (x0 x1 : Bool) (x2 x3 x4 x5 x6 x7 x8 : Int) (y0 y1 : Bool) (y2 y3 y4 y5 y6 y7 y8 : Int) : (binOp .neq 29 (.agg #[.bool x0, .bool x1, .int .u64 x2, .int .u64 x3, .int .u64 x4, .int .u64 x5, .int .u64 x6, .int .u64 x7, .int .i64 x8]) (.agg #[.bool y0, .bool y1, .int .u64 y2, .int .u64 y3, .int .u64 y4, .int .u64 y5, .int .u64 y6, .int .u64 y7, .int .i64 y8])).run Try.prog w = .ok (.bool !(Val.eqB ⟨x0, x1, x2, x3, x4, x5, x6, x7, x8⟩ ⟨y0, y1, y2, y3, y4, y5, y6, y7, y8⟩)) w := neqOf (eqIn_val w 9996 _ _ _ _ _ _ _ _ _ _ _ _ _ _ _ _ _ _)
theorem eql_part (i j i' j' : Int) (x0 x1 : Bool) (x2 x3 x4 x5 x6 x7 x8 : Int) (y0 y1 : Bool) (y2 y3 y4 y5 y6 y7 y8 : Int) : (binOp .eql 41 (.agg #[.int .u64 i, .int .u64 j, .bool x0, .bool x1, .int .u64 x2, .int .u64 x3, .int .u64 x4, .int .u64 x5, .int .u64 x6, .int .u64 x7, .int .i64 x8]) (.agg #[.int .u64 i', .int .u64 j', .bool y0, .bool y1, .int .u64 y2, .int .u64 y3, .int .u64 y4, .int .u64 y5, .int .u64 y6, .int .u64 y7, .int .i64 y8])).run Try.prog w = .ok (.bool (Part.eqB ⟨⟨i, j⟩, ⟨x0, x1, x2, x3, x4, x5, x6, x7, x8⟩⟩ ⟨⟨i', j'⟩, ⟨y0, y1, y2, y3, y4, y5, y6, y7, y8⟩⟩)) w := eqlOf (eqIn_part w 9995 _ _ _ _ _ _ _ _ _ _ _ _ _ _ _ _ _ _ _ _ _ _)
theorem neq_part (i j i' j' : Int) (x0 x1 : Bool) (x2 x3 x4 x5 x6 x7 x8 : Int) (y0 y1 : Bool) (y2 y3 y4 y5 y6 y7 y8 : Int) : (binOp .neq 41 (.agg #[.int .u64 i, .int .u64 j, .bool x0, .bool x1, .int .u64 x2, .int .u64 x3, .int .u64 x4, .int .u64 x5, .int .u64 x6, .int .u64 x7, .int .i64 x8]) (.agg #[.int .u64 i', .int .u64 j', .bool y0, .bool y1, .int .u64 y2, .int .u64 y3, .int .u64 y4, .int .u64 y5, .int .u64 y6, .int .u64 y7, .int .i64 y8])).run Try.prog w = .ok (.bool !(Part.eqB ⟨⟨i, j⟩, ⟨x0, x1, x2, x3, x4, x5, x6, x7, x8⟩⟩ ⟨⟨i', j'⟩, ⟨y0, y1, y2, y3, y4, y5, y6, y7, y8⟩⟩)) w := neqOf (eqIn_part w 9995 _ _ _ _ _ _ _ _ _ _ _ _ _ _ _ _ _ _ _ _ _ _)
theorem eql_entry (i j i' j' : Int) (x0 x1 : Bool) (x2 x3 x4 x5 x6 x7 x8 : Int) (y0 y1 : Bool) (y2 y3 y4 y5 y6 y7 y8 : Int) : (binOp .eql 59 (.agg #[.int .u64 i, .int .u64 j, .bool x0, .bool x1, .int .u64 x2, .int .u64 x3, .int .u64 x4, .int .u64 x5, .int .u64 x6, .int .u64 x7, .int .i64 x8]) (.agg #[.int .u64 i', .int .u64 j', .bool y0, .bool y1, .int .u64 y2, .int .u64 y3, .int .u64 y4, .int .u64 y5, .int .u64 y6, .int .u64 y7, .int .i64 y8])).run Try.prog w = .ok (.bool (Entry.eqB ⟨⟨i, j⟩, ⟨x0, x1, x2, x3, x4, x5, x6, x7, x8⟩⟩ ⟨⟨i', j'⟩, ⟨y0, y1, y2, y3, y4, y5, y6, y7, y8⟩⟩)) w := eqlOf (eqIn_entry w 9995 _ _ _ _ _ _ _ _ _ _ _ _ _ _ _ _ _ _ _ _ _ _)
theorem neq_entry (i j i' j' : Int) (x0 x1 : Bool) (x2 x3 x4 x5 x6 x7 x8 : Int) (y0 y1 : Bool) (y2 y3 y4 y5 y6 y7 y8 : Int) : (binOp .neq 59 (.agg #[.int .u64 i, .int .u64 j, .bool x0, .bool x1, .int .u64 x2, .int .u64 x3, .int .u64 x4, .int .u64 x5, .int .u64 x6, .int .u64 x7, .int .i64 x8]) (.agg #[.int .u64 i', .int .u64 j', .bool y0, .bool y1, .int .u64 y2, .int .u64 y3, .int .u64 y4, .int .u64 y5, .int .u64 y6, .int .u64 y7, .int .i64 y8])).run Try.prog w = .ok (.bool !(Entry.eqB ⟨⟨i, j⟩, ⟨x0, x1, x2, x3, x4, x5, x6, x7, x8⟩⟩ ⟨⟨i', j'⟩, ⟨y0, y1, y2, y3, y4, y5, y6, y7, y8⟩⟩)) w := neqOf (eqIn_entry w 9995 _ _ _ _ _ _ _ _ _ _ _ _ _ _ _ _ _ _ _ _ _ _)
end Go.Proofs.Ytmajepinbldneaa
