/- Operations that make, write, call. -/
import Derived.Test.YtmajepinbldneaaEngD
namespace Go.Proofs.Ytmajepinbldneaa
set_option linter.unusedVariables false
set_option linter.unusedSimpArgs false
open Go.RowKit
/-- Whatever the operation leaves meets K. -/
def Ef (P : Program) (e : Env) (s : SOp) (w : World) (K : Value → World → Prop) : Prop :=
  ∀ (o : Oper) (n : Nat) (a : Act) (K' : Act → World → Prop) (Q' : Exit → Act → World → Prop), cOp P o.op = some s → Fits n e a → (∀ v w', K v w' → K' (a.put o.dst v) w') → o.wp P a w K' Q'
/-- A call's answer. -/
def RV (K : Value → World → Prop) : Ending → World → Prop := fun e w => ∃ v, e = .returned v ∧ K v w
section
variable {P : Program} {e : Env} {w : World} {K : Value → World → Prop}
theorem Ef.mono {s : SOp} {K' : Value → World → Prop} (h : Ef P e s w K) (hk : ∀ v w', K v w' → K' v w') : Ef P e s w K' := fun o n a Kk Q' hc hf hK => h o n a Kk Q' hc hf fun v w' hv => hK v w' (hk v w' hv)
theorem Ef.quiet {s : SOp} {v : Value} (h : Qt P (· = w) e s v) (hk : K v w) : Ef P e s w K := fun o n a K' Q' hc hf hK => by
  unfold Oper.wp
  rw [h o n a w hc hf rfl]
  exact hK v w hk
theorem Ef.ofRun {s : SOp} {v : Value} {w' : World} (h : ∀ (o : Oper) (n : Nat) (a : Act), cOp P o.op = some s → Fits n e a → (execOp a.eval o).run P w = .ok (.value v) w') (hk : K v w') : Ef P e s w K := fun o n a K' Q' hc hf hK => by
  unfold Oper.wp
  rw [h o n a hc hf]
  exact hK v w' hk
theorem Ef.ofRunU {s : SOp} {w' : World} (h : ∀ (o : Oper) (n : Nat) (a : Act), cOp P o.op = some s → Fits n e a → (execOp a.eval o).run P w = .ok .skip w') (hk : K undef w') : Ef P e s w K := fun o n a K' Q' hc hf hK => by
  unfold Oper.wp
  rw [h o n a hc hf]
  exact hK undef w' hk
theorem isFunc_spec {f : Nat} (h : isFunc P f = true) : ∃ fn, P.funcs[f]? = some fn ∧ fn.body ≠ none ∧ fn.name ≠ "runtime.NumGoroutine" := by
  unfold isFunc at h
  split at h
  · rename_i fn hfn
    simp only [Bool.and_eq_true, Bool.not_eq_true'] at h
    exact ⟨fn, hfn, by intro hb; rw [hb] at h; simp at h, by intro hb; rw [hb] at h; simp at h⟩
  · cases h
theorem run_callFunc {f : Nat} (h : isFunc P f = true) (args : Array Value) : (callFunc f args).run P w = .ok (.enter f args) w := by
  obtain ⟨fn, h1, h2, h3⟩ := isFunc_spec h
  simp [callFunc, program, Sem.run, h1, h2, h3]
theorem upon_call {o : Oper} {a : Act} {K' : Act → World → Prop} {Q' : Exit → Act → World → Prop} {f : Nat} {args : Array Value} (hK : ∀ v w', K v w' → K' (a.put o.dst v) w') (h : Calls P f args w (RV K)) :
    o.upon P a K' Q' (.ok (.enter f args) w) := by
  refine Calls.mono h ?_
  rintro en w' ⟨v, rfl, hv⟩
  exact hK v w' hv
theorem Ef.call {f : Nat} {args : List Od} {vs : List Value} (ha : evs e args = some vs) (h : Calls P f vs.toArray w (RV K)) : Ef P e (.call f args) w K := fun o n a K' Q' hc hf hK => by
  obtain ⟨dst, op, type, pos, after, guard⟩ := o
  dsimp only at hc
  have hw2 := cOp_wants hc
  cases op with
  | call c =>
    obtain ⟨callee, cargs, argTypes⟩ := c
    have key : ∀ (y : Operand), callee = .value y → y = .func f → isFunc P f = true → cOds cargs.toList = some args → (Oper.mk dst (.call ⟨callee, cargs, argTypes⟩) type pos after guard).wp P a w K' Q' := by
      intro y h1 h2 h3 h4
      subst h1 h2
      unfold Oper.wp
      have e1 : cargs.map a.eval = vs.toArray := Array.toList_inj.1 (by rw [Array.toList_map]; simpa using hf.evs h4 ha)
      have : (execOp a.eval ⟨dst, .call ⟨.value (.func f), cargs, argTypes⟩, type, pos, after, guard⟩).run P w = .ok (.enter f vs.toArray) w := by
        simp [execOp, resolve, invoke, Deferred.ofValue, Act.eval, e1, run_callFunc h3]
      rw [this]
      exact upon_call hK h
    cases callee with
    | value x =>
      cases x with
      | func g =>
        simp only [cOp] at hc
        split at hc
        · rename_i hg
          obtain ⟨xs, h1, h2⟩ := Option.map_eq_some_iff.1 hc
          cases h2
          exact key _ rfl rfl hg h1
        · cases hc
      | _ =>
        simp only [cOp, Option.bind_eq_some_iff, Option.map_eq_some_iff] at hc
        obtain ⟨y, h1, xs, h2, h3⟩ := hc
        cases h3
    | invoke r m => simp only [cOp] at hc; cases hc
    | builtin b =>
      cases b
      case len =>
        simp only [cOp] at hc
        split at hc
        · split at hc
          · obtain ⟨_, _, h3⟩ := Option.map_eq_some_iff.1 hc; cases h3
          · obtain ⟨_, _, h3⟩ := Option.map_eq_some_iff.1 hc; cases h3
          · cases hc
          · cases hc
        · cases hc
      case append =>
        simp only [cOp] at hc
        split at hc
        · split at hc
          · split at hc
            · simp only [Option.bind_eq_some_iff, Option.some.injEq] at hc
              obtain ⟨_, _, _, _, _, _, _, _, _, _, h3⟩ := hc
              cases h3
            · cases hc
          · cases hc
        · cases hc
      case min =>
        simp only [cOp] at hc
        split at hc
        · simp only [Option.bind_eq_some_iff, Option.some.injEq] at hc
          obtain ⟨_, _, _, _, h3⟩ := hc
          cases h3
        · cases hc
      case max =>
        simp only [cOp] at hc
        split at hc
        · simp only [Option.bind_eq_some_iff, Option.some.injEq] at hc
          obtain ⟨_, _, _, _, h3⟩ := hc
          cases h3
        · cases hc
      all_goals (simp only [cOp] at hc; cases hc)
  | _ => simp [wants] at hw2
theorem Ef.callv {f : Nat} {x : Od} {args : List Od} {vs : List Value} {first captured : Array Value} (hx : ev e x = some (.func (.func f) first captured)) (hfn : isFunc P f = true) (ha : evs e args = some vs) (h : Calls P f ((first ++ vs.toArray) ++ captured) w (RV K)) : Ef P e (.callv x args) w K := fun o n a K' Q' hc hf hK => by
  obtain ⟨dst, op, type, pos, after, guard⟩ := o
  dsimp only at hc
  have hw2 := cOp_wants hc
  cases op with
  | call c =>
    obtain ⟨callee, cargs, argTypes⟩ := c
    cases callee with
    | value y =>
      have key : cOd y = some x → cOds cargs.toList = some args → (Oper.mk dst (.call ⟨.value y, cargs, argTypes⟩) type pos after guard).wp P a w K' Q' := by
        intro h1 h4
        unfold Oper.wp
        have e1 : cargs.map a.eval = vs.toArray := Array.toList_inj.1 (by rw [Array.toList_map]; simpa using hf.evs h4 ha)
        have : (execOp a.eval ⟨dst, .call ⟨.value y, cargs, argTypes⟩, type, pos, after, guard⟩).run P w = .ok (.enter f ((first ++ vs.toArray) ++ captured)) w := by
          simp [execOp, resolve, invoke, Deferred.ofValue, hf.ev h1 hx, e1, run_callFunc hfn]
        rw [this]
        exact upon_call hK h
      cases y with
      | func g =>
        simp only [cOp] at hc
        split at hc
        · obtain ⟨xs, h1, h2⟩ := Option.map_eq_some_iff.1 hc; cases h2
        · cases hc
      | _ =>
        simp only [cOp, Option.bind_eq_some_iff, Option.map_eq_some_iff] at hc
        obtain ⟨y, h1, xs, h2, h3⟩ := hc
        cases h3
        exact key h1 h2
    | invoke r m => simp only [cOp] at hc; cases hc
    | builtin b =>
      cases b
      case len =>
        simp only [cOp] at hc
        split at hc
        · split at hc
          · obtain ⟨_, _, h3⟩ := Option.map_eq_some_iff.1 hc; cases h3
          · obtain ⟨_, _, h3⟩ := Option.map_eq_some_iff.1 hc; cases h3
          · cases hc
          · cases hc
        · cases hc
      case append =>
        simp only [cOp] at hc
        split at hc
        · split at hc
          · split at hc
            · simp only [Option.bind_eq_some_iff, Option.some.injEq] at hc
              obtain ⟨_, _, _, _, _, _, _, _, _, _, h3⟩ := hc
              cases h3
            · cases hc
          · cases hc
        · cases hc
      case min =>
        simp only [cOp] at hc
        split at hc
        · simp only [Option.bind_eq_some_iff, Option.some.injEq] at hc
          obtain ⟨_, _, _, _, h3⟩ := hc
          cases h3
        · cases hc
      case max =>
        simp only [cOp] at hc
        split at hc
        · simp only [Option.bind_eq_some_iff, Option.some.injEq] at hc
          obtain ⟨_, _, _, _, h3⟩ := hc
          cases h3
        · cases hc
      all_goals (simp only [cOp] at hc; cases hc)
  | _ => simp [wants] at hw2
theorem Ef.box {t : Nat} {x : Od} {v : Value} {cs : List Value} (hx : ev e x = some v) (hv : cellsV v = some cs) (hk : K (.pointer (some ⟨w.heap.size, 0, none⟩)) (w.alloc (.cells ⟨cs⟩ t))) : Ef P e (.box t x) w K :=
  Ef.ofRun (fun o n a hc hf => by
    obtain ⟨dst, op, type, pos, after, guard⟩ := o
    dsimp only at hc
    have hw2 := cOp_wants hc
    cases op with
    | box t' y =>
      obtain ⟨y', h1, h2⟩ := Option.map_eq_some_iff.1 hc
      cases h2
      simp [execOp, Instr.box, newVar, newRow, hf.ev h1 hx, cellsV_eq hv]
    | _ => simp [wants] at hw2) hk
theorem Ef.new {t : Nat} {cs : List Value} (hk : K (.pointer (some ⟨w.heap.size, 0, none⟩)) (w.alloc (.cells ⟨cs⟩ t))) : Ef P e (.new t cs) w K :=
  Ef.ofRun (fun o n a hc hf => by
    obtain ⟨dst, op, type, pos, after, guard⟩ := o
    dsimp only at hc
    have hw2 := cOp_wants hc
    cases op with
    | alloc t' =>
      obtain ⟨z, h1, h2⟩ := Option.map_eq_some_iff.1 hc
      cases h2
      simp [execOp, Instr.alloc, newVar, newRow, run_zeroOf w h1]
    | _ => simp [wants] at hw2) hk
theorem Ef.bsl {t len sz : Nat} {cells r : List Value} {parts : List (Nat × Nat × Od)} {vs : List (Nat × Nat × Value)} (h1 : evParts e parts = some vs) (h2 : fillL cells vs = some r)
    (hk : K (.slice (some ⟨w.heap.size, 0, none⟩) len len) (w.alloc (.cells ⟨r⟩ t))) : Ef P e (.bsl t len sz cells parts) w K :=
  Ef.ofRun (fun o n a hc hf => by
    obtain ⟨dst, op, type, pos, after, guard⟩ := o
    dsimp only at hc
    have hw2 := cOp_wants hc
    cases op with
    | buildSlice t' len' ps =>
      simp only [cOp] at hc
      split at hc
      · rename_i el hu
        simp only [Option.bind_eq_some_iff] at hc
        obtain ⟨s, c1, z, c2, hc⟩ := hc
        split at hc
        · cases hc
        · rename_i hlim
          obtain ⟨qs, c3, c4⟩ := Option.map_eq_some_iff.1 hc
          cases c4
          have h3 := run_fillL hf c3 h1 h2
          have h6 : (ps.map fun (i, x) => (i, a.eval x)).toList = ps.toList.map fun (i, x) => (i, a.eval x) := by simp
          simp only [execOp, Instr.buildSlice, Sem.run_bind, run_underlying hu, Result.andThen_ok, run_szOf w c1]
          rw [if_neg hlim]
          by_cases h0 : len * sz = 0
          · simp only [h0, if_true] at h3 ⊢
            have h8 : ((Array.range 0).map fun i => (#[] : Array Value)[i % (#[] : Array Value).size]!) = ⟨[]⟩ := by simp [Array.range_zero']
            have h3' : Instr.fill (fun i => some (i * sz, sz)) ⟨[]⟩ (ps.toList.map fun (i, x) => (i, a.eval x)) = some ⟨r⟩ := h3
            simp only [Sem.run_bind, Sem.run_pure, Result.andThen_ok]
            rw [h6, h8, h3']
            simp [newRow]
          · simp only [h0, if_false] at h3 ⊢
            simp only [Sem.run_bind, run_zeroOf w c2, Result.andThen_ok, Sem.run_pure]
            rw [h6]
            have h8 : ∀ A : Array Value, A = ⟨A.toList⟩ := fun _ => rfl
            rw [h8 ((Array.range (len * sz)).map _), h3]
            simp [newRow]
      · cases hc
    | _ => simp [wants] at hw2) hk
theorem Ef.st {m : Nat} {x y : Od} {b o : Nat} {v : Value} {cs : List Value} (hx : ev e x = some (.pointer (some ⟨b, o, none⟩))) (hy : ev e y = some v) (hv : cellsV v = some cs) (hl : cs.length = m) (ht : w.there b o cs.length) (h1 : ∀ u ∈ cs, u.oneCell' = true)
    (hk : K undef (w.setCells b o cs)) : Ef P e (.st m x y) w K :=
  Ef.ofRunU (fun op n a hc hf => by
    obtain ⟨dst, op, type, pos, after, guard⟩ := op
    dsimp only at hc
    have hw2 := cOp_wants hc
    cases op with
    | store t p q =>
      simp only [cOp, Option.bind_eq_some_iff, Option.map_eq_some_iff] at hc
      obtain ⟨x', c1, y', c2, m', c3, c4⟩ := hc
      cases c4
      have key := run_storeVar_mid (P := P) w b o t ⟨cs⟩ (by simpa using ht) (by rw [show (P.info? t).map (·.size) = some m from c3]; simp [hl]) (all_oneCell_toArray h1)
      have key2 : (storeVar t ⟨b, o, none⟩ v).run P w = .ok () (w.setCells b o cs) := by
        have : (storeVar t ⟨b, o, none⟩ v) = (storeVar t ⟨b, o, none⟩ (.agg ⟨cs⟩)) := by
          unfold storeVar
          rw [cellsV_eq hv]
          rfl
        rw [this]; exact key
      simp [execOp, Instr.storeAt, Instr.sureAddr, hf.ev c1 hx, hf.ev c2 hy, key2]
    | _ => simp [wants] at hw2) hk
theorem Ef.app {α : Type} {f : α → List Value} {t el sz by_ : Nat} {z : Value} {x y : Od} {v : Value} {A : Option Addr} {c : Nat} {xs ys : List α} {m : Nat} (E : Enc f sz) (hx : ev e x = some v) (hy : ev e y = some (.slice A m c)) (hm : m = ys.length) (hown : Own f sz el w 0 v xs) (hr : Sl f sz w A ys)
    (hz : z.cells.size = sz) (hl : xs.length + ys.length ≤ 9223372036854775807) (hb : (xs.length + ys.length) * by_ ≤ 140737488355328)
    (hk : ∀ v' w', Grows f sz el 0 w w' v v' (xs ++ ys) → K v' w') : Ef P e (.app t el sz by_ z x y) w K := fun o n a K' Q' hc hf hK => by
  subst hm
  obtain ⟨dst, op, type, pos, after, guard⟩ := o
  dsimp only at hc
  have hw2 := cOp_wants hc
  cases op with
  | call cl =>
    obtain ⟨callee, cargs, argTypes⟩ := cl
    cases callee with
    | value x =>
      exfalso
      cases x with
      | func g =>
        simp only [cOp] at hc
        split at hc
        · obtain ⟨xs, h1, h2⟩ := Option.map_eq_some_iff.1 hc; cases h2
        · cases hc
      | _ =>
        simp only [cOp, Option.bind_eq_some_iff, Option.map_eq_some_iff] at hc
        obtain ⟨y, h1, xs, h2, h3⟩ := hc
        cases h3
    | invoke r m => simp only [cOp] at hc; cases hc
    | builtin b =>
      cases b
      case append =>
        simp only [cOp] at hc
        split at hc
        · rename_i t1 t2 x1 y1 hat har
          split at hc
          · rename_i htt
            subst htt
            split at hc
            · rename_i el' hu
              simp only [Option.bind_eq_some_iff, Option.some.injEq] at hc
              obtain ⟨s, c1, b', c2, z', c3, x', c4, y', c5, c6⟩ := hc
              cases c6
              have ha : cargs = #[x1, y1] := by rw [← Array.toArray_toList (xs := cargs), har]
              have hat' : argTypes = #[t, t] := by rw [← Array.toArray_toList (xs := argTypes), hat]
              subst ha hat'
              have hinfo : (P.info? el).map (fun i => (i.zero, i.size, i.bytes)) = some (some z, sz, by_) := by
                obtain ⟨i, i1, i2⟩ := Option.map_eq_some_iff.1 c1
                obtain ⟨i', i3, i4⟩ := Option.map_eq_some_iff.1 c2
                obtain ⟨i'', i5, i6⟩ := Option.bind_eq_some_iff.1 c3
                rw [i1] at i3 i5
                cases i3
                cases i5
                simp [i1, i2, i4, i6]
              obtain ⟨v', w', hrun, hg⟩ := run_app (P := P) E w 0 t type el z by_ hu hinfo hz v xs hown A c ys hr hl hb (Nat.zero_le _)
              unfold Oper.wp
              have : (execOp a.eval ⟨dst, .call ⟨.builtin .append, #[x1, y1], #[t, t]⟩, type, pos, after, guard⟩).run P w = .ok (.value v') w' := by
                simp only [execOp, resolve, invoke, builtin, Sem.run_bind, Sem.run_pure, Result.andThen_ok, List.map_toArray, List.map_cons, List.map_nil, hf.ev c4 hx, hf.ev c5 hy, hrun]
              rw [this]
              exact hK v' w' (hk v' w' hg)
            · cases hc
          · cases hc
        · cases hc
      case len =>
        exfalso
        simp only [cOp] at hc
        split at hc
        · split at hc
          · obtain ⟨_, _, h3⟩ := Option.map_eq_some_iff.1 hc; cases h3
          · obtain ⟨_, _, h3⟩ := Option.map_eq_some_iff.1 hc; cases h3
          · cases hc
          · cases hc
        · cases hc
      case min =>
        exfalso
        simp only [cOp] at hc
        split at hc
        · simp only [Option.bind_eq_some_iff, Option.some.injEq] at hc
          obtain ⟨_, _, _, _, h3⟩ := hc
          cases h3
        · cases hc
      case max =>
        exfalso
        simp only [cOp] at hc
        split at hc
        · simp only [Option.bind_eq_some_iff, Option.some.injEq] at hc
          obtain ⟨_, _, _, _, h3⟩ := hc
          cases h3
        · cases hc
      all_goals (exfalso; simp only [cOp] at hc; cases hc)
  | _ => simp [wants] at hw2
end
end Go.Proofs.Ytmajepinbldneaa
