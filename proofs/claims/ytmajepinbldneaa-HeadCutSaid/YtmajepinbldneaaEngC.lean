/- What the quiet operations yield is right. -/
import Derived.Test.YtmajepinbldneaaEngB
namespace Go.Proofs.Ytmajepinbldneaa
set_option linter.unusedVariables false
set_option linter.unusedSimpArgs false
open Go.RowKit
section
variable {P : Program} (w : World)
theorem run_isAgg {t : Nat} {d : TypeDesc} (h : P.underlying t = some d) : (isAgg t).run P w = .ok (isRowD d) w := by
  unfold isAgg
  rw [Sem.run_bind, run_underlying h w]
  cases d <;> rfl
theorem run_szOf {t m : Nat} (h : szOf P t = some m) : (sizeOf t).run P w = .ok m w := by
  obtain ⟨i, h1, h2⟩ := Option.map_eq_some_iff.1 h
  simp [sizeOf, typeInfo, h1, h2]
theorem run_part {t off m : Nat} {d : TypeDesc} {l : List Value} {v : Value} (hd : P.underlying t = some d) (hn : szOf P t = some m) (h : partV off m (isRowD d) l = some v) :
    (part t ⟨l⟩ off).run P w = .ok v w := by
  unfold part
  rw [Sem.run_bind, run_isAgg w hd]
  cases hr : isRowD d
  · simp only [partV, hr, cond_false] at h
    rw [nthV_eq] at h
    simp [h]
  · simp only [partV, hr, cond_true, Option.bind_eq_some_iff, Option.some.injEq] at h
    obtain ⟨r, h1, rfl⟩ := h
    obtain ⟨h2, rfl⟩ := win_eq h1
    simp only [Result.andThen_ok, if_true, Sem.run_bind, run_szOf w hn, Sem.run_pure]
    congr 2
    apply Array.toList_inj.1
    simp
theorem zip_fold : ∀ (vs : List Value) (k off : Nat) (cs : Array Value), (vs.zipIdx k).foldl (fun cs (p : Value × Nat) => cs.setIfInBounds (off + p.2) p.1) cs = ((vs.zipIdx).foldl (fun cs (p : Value × Nat) => cs.setIfInBounds (off + k + p.2) p.1) cs) := by
  intro vs
  induction vs with
  | nil => intro k off cs; rfl
  | cons v vs ih =>
    intro k off cs
    simp only [List.zipIdx_cons, List.foldl_cons, Nat.add_zero, Nat.zero_add]
    rw [ih (k + 1) off, ih 1 (off + k), Nat.add_assoc off k 1]
theorem fold_set : ∀ (vs : List Value) (off : Nat) (cs : List Value), off + vs.length ≤ cs.length →
    (vs.zipIdx.foldl (fun (cs : Array Value) (p : Value × Nat) => cs.setIfInBounds (off + p.2) p.1) ⟨cs⟩).toList = cs.take off ++ vs ++ cs.drop (off + vs.length) := by
  intro vs
  induction vs with
  | nil => intro off cs h; simp
  | cons v vs ih =>
    intro off cs h
    simp only [List.length_cons] at h
    simp only [List.zipIdx_cons, List.foldl_cons, Nat.zero_add, Nat.add_zero, List.setIfInBounds_toArray]
    rw [zip_fold vs 1 off]
    have := ih (off + 1) (cs.set off v) (by simp; omega)
    rw [this]
    have e1 : (cs.set off v).take (off + 1) = cs.take off ++ [v] := by
      rw [List.take_succ_eq_append_getElem (by simp; omega), List.getElem_set_self, List.take_set_of_le (by omega)]
    have e2 : (cs.set off v).drop (off + 1 + vs.length) = cs.drop (off + (vs.length + 1)) := by
      rw [List.drop_set_of_lt (by omega)]
      congr 1; omega
    rw [e1, e2]
    simp
theorem run_fillL {e : Env} {n : Nat} {a : Act} (hf : Fits n e a) {place : Nat → Option (Nat × Nat)} : ∀ {ps : List (Nat × Operand)} {qs : List (Nat × Nat × Od)} {vs : List (Nat × Nat × Value)} {cs r : List Value},
    cParts place ps = some qs → evParts e qs = some vs → fillL cs vs = some r → Instr.fill place ⟨cs⟩ (ps.map fun (i, x) => (i, a.eval x)) = some ⟨r⟩
  | [], qs, vs, cs, r, h1, h2, h3 => by
    simp [cParts] at h1; subst h1
    simp [evParts] at h2; subst h2
    simp [fillL] at h3; subst h3
    rfl
  | (i, x) :: ps, qs, vs, cs, r, h1, h2, h3 => by
    simp only [cParts, Option.bind_eq_some_iff, Option.some.injEq] at h1
    obtain ⟨p, hp, y, hy, qs', hq, rfl⟩ := h1
    simp only [evParts, Option.bind_eq_some_iff, Option.some.injEq] at h2
    obtain ⟨v, hv, vs', hvs, rfl⟩ := h2
    simp only [fillL, Option.bind_eq_some_iff] at h3
    obtain ⟨us, hus, h3⟩ := h3
    cases hl : Nat.beq us.length p.2
    · rw [hl] at h3; cases h3
    · rw [hl] at h3
      simp only [cond_true, Option.bind_eq_some_iff] at h3
      obtain ⟨cs', hp', h3⟩ := h3
      have hl' := Nat.eq_of_beq_eq_true hl
      obtain ⟨hb, hcs⟩ := putAt_eq hp'
      have ih := run_fillL hf hq hvs h3
      simp only [List.map_cons, Instr.fill, hp, hf.ev hy hv, cellsV_eq hus]
      rw [if_neg (by simp; omega)]
      have e1 : us.toArray.zipIdx.foldl (fun (cs : Array Value) (p_1 : Value × Nat) => match p_1 with | (c, j) => cs.setIfInBounds (p.1 + j) c) { toList := cs } = { toList := cs' } := by
        apply Array.toList_inj.1
        rw [hcs, ← fold_set us p.1 cs hb]
        simp
      rw [e1]
      exact ih
theorem run_places {fs : List Field} {pl : List (Nat × Nat)} (h : placesOf P fs = some pl) : (fs.mapM (m := Sem) fun f => do pure (f.offset, ← sizeOf f.type)).run P w = .ok pl w := by
  induction fs generalizing pl with
  | nil => simp [placesOf] at h; subst h; simp
  | cons f fs ih =>
    simp only [placesOf, Option.bind_eq_some_iff, Option.some.injEq] at h
    obtain ⟨s, h1, ps, h2, rfl⟩ := h
    simp only [List.mapM_cons, Sem.run_bind, run_szOf w h1, Result.andThen_ok, Sem.run_pure, ih h2]
theorem run_zeroOf {t : Nat} {z : Value} (h : zeroOf P t = some z) : (zeroValue t).run P w = .ok z w := by
  obtain ⟨i, h1, h2⟩ := Option.bind_eq_some_iff.1 h
  simp [zeroValue, typeInfo, h1, h2]
theorem pv_run {e : Env} {n : Nat} {a : Act} (hf : Fits n e a) {o : Oper} {s : SOp} {v : Value} (hc : cOp P o.op = some s) (h : pv e s = some v) : (execOp a.eval o).run P w = .ok (.value v) w := by
  obtain ⟨dst, op, type, pos, after, guard⟩ := o
  dsimp only at hc
  cases op with
  | move x =>
    obtain ⟨y, h1, rfl⟩ := Option.map_eq_some_iff.1 hc
    simp only [execOp, hf.ev h1 h, Sem.run_pure]
  | assign x =>
    obtain ⟨y, h1, rfl⟩ := Option.map_eq_some_iff.1 hc
    simp only [execOp, hf.ev h1 h, Sem.run_pure]
  | pick c x y =>
    simp only [cOp, Option.bind_eq_some_iff, Option.some.injEq] at hc
    obtain ⟨c', h1, x', h2, y', h3, rfl⟩ := hc
    simp only [pv] at h
    split at h
    · rename_i p hp
      cases p
      · simp only [cond_false] at h
        simp [execOp, hf.ev h1 hp, hf.ev h3 h, asBool]
      · simp only [cond_true] at h
        simp [execOp, hf.ev h1 hp, hf.ev h2 h, asBool]
    · cases h
  | unOp op t x =>
    obtain ⟨y, h1, rfl⟩ := Option.map_eq_some_iff.1 hc
    simp only [pv, Option.bind_eq_some_iff] at h
    obtain ⟨u, h2, h3⟩ := h
    unfold unV at h3
    split at h3
    · cases h3; simp [execOp, hf.ev h1 h2, Op.unary]
    · cases h3; simp [execOp, hf.ev h1 h2, Op.unary, Op.intArith]
    · cases h3
  | binOp op t x y yt =>
    simp only [cOp, Option.bind_eq_some_iff] at hc
    obtain ⟨x', h1, y', h2, hc⟩ := hc
    have key : ∀ u z, ev e x' = some u → ev e y' = some z → binV op u z = some v → (execOp a.eval ⟨dst, .binOp op t x y yt, type, pos, after, guard⟩).run P w = .ok (.value v) w := fun u z hu hz hb => by
      have := binV_run (P := P) w (t := t) (X := x) (Y := y) hb
      simp only [execOp, hf.ev h1 hu, hf.ev h2 hz]
      rw [Sem.run_bind, this]
      rfl
    have key2 : ∀ neg, op = (if neg then BinOp.neq else BinOp.eql) → boolT P t = true → pv e (.eqb neg x' y') = some v → (execOp a.eval ⟨dst, .binOp op t x y yt, type, pos, after, guard⟩).run P w = .ok (.value v) w := fun neg ho hb hv => by
      have ht : P.underlying t = some .bool := by
        unfold boolT at hb
        split at hb
        · assumption
        · cases hb
      simp only [pv] at hv
      split at hv
      · rename_i p q hp hq
        cases neg <;> simp only [cond_false, cond_true, Option.some.injEq] at hv <;> subst hv <;> subst ho <;>
          simp [execOp, hf.ev h1 hp, hf.ev h2 hq, eqGuard_at_bool, binOp, Op.equal, Op.maxDepth, run_equalIn_bool w 9999 _ _ _ ht]
      · cases hv
    have done : ∀ op', some (SOp.bin op' x' y') = some s → op = op' → (execOp a.eval ⟨dst, .binOp op t x y yt, type, pos, after, guard⟩).run P w = .ok (.value v) w := fun op' hs ho => by
      cases hs
      subst ho
      simp only [pv, Option.bind_eq_some_iff] at h
      obtain ⟨u, h3, z, h4, h5⟩ := h
      exact key u z h3 h4 h5
    cases op
    case eql =>
      simp only at hc
      split at hc
      · exact done _ hc rfl
      · split at hc
        · rename_i hb; cases hc; exact key2 false rfl hb h
        · split at hc <;> cases hc <;> simp [pv] at h
    case neq =>
      simp only at hc
      split at hc
      · exact done _ hc rfl
      · split at hc
        · rename_i hb; cases hc; exact key2 true rfl hb h
        · split at hc <;> cases hc <;> simp [pv] at h
    all_goals exact done _ hc rfl
  | convert src dst x =>
    simp only [cOp, Option.bind_eq_some_iff] at hc
    obtain ⟨x', h1, hc⟩ := hc
    split at hc
    · rename_i k' k hk' hk
      cases hc
      simp only [pv] at h
      split at h
      · rename_i k2 m hm
        cases h
        simp only [execOp, hf.ev h1 hm]
        simp [convert, run_underlying hk', run_underlying hk, Conv.intToInt]
      · cases h
    · split at hc <;> cases hc <;> simp [pv] at h
    · cases hc; simp [pv] at h
  | extract x i =>
    obtain ⟨y, h1, rfl⟩ := Option.map_eq_some_iff.1 hc
    simp only [pv] at h
    split at h
    · rename_i l hl
      rw [nthV_eq] at h
      simp [execOp, hf.ev h1 hl, Instr.extract, h]
    · cases h
  | field t x i =>
    simp only [cOp, Option.bind_eq_some_iff] at hc
    obtain ⟨x', h1, hc⟩ := hc
    split at hc
    · rename_i fs hu
      split at hc
      · rename_i f hfi
        simp only [Option.bind_eq_some_iff, Option.some.injEq] at hc
        obtain ⟨m, hm, d, hd, rfl⟩ := hc
        simp only [pv] at h
        split at h
        · rename_i l hl
          have := run_part (P := P) w hd hm h
          simp [execOp, hf.ev h1 hl, Instr.field, run_underlying hu, hfi, asAgg, this]
        · cases h
      · cases hc
    · cases hc
  | index t x i =>
    simp only [cOp, Option.bind_eq_some_iff] at hc
    obtain ⟨x', h1, i', h2, hc⟩ := hc
    split at hc
    · rename_i len el hu
      simp only [Option.bind_eq_some_iff, Option.some.injEq] at hc
      obtain ⟨m, hm, d, hd, rfl⟩ := hc
      simp only [pv] at h
      split at h
      · rename_i l k j hl hj
        cases hb : Nat.blt j len
        · rw [hb] at h; cases h
        · rw [hb] at h
          simp only [cond_true] at h
          have hlt : j < len := Nat.le_of_ble_eq_true hb
          have := run_part (P := P) w hd hm h
          simp [execOp, hf.ev h1 hl, hf.ev h2 hj, Instr.index, run_underlying hu, asIntOf, hlt, run_szOf w hm, this]
      · cases h
    · cases hc; simp [pv] at h
  | build t parts =>
    simp only [cOp, Option.bind_eq_some_iff] at hc
    obtain ⟨z, hz, hc⟩ := hc
    split at hc
    · rename_i fs hu
      simp only [Option.bind_eq_some_iff, Option.map_eq_some_iff] at hc
      obtain ⟨pl, hpl, ps, hps, rfl⟩ := hc
      simp only [pv, Option.bind_eq_some_iff, Option.some.injEq] at h
      obtain ⟨vs, hvs, r, hr, rfl⟩ := h
      have h3 := run_fillL hf hps hvs hr
      have h4 := run_places (P := P) w hpl
      have h5 : (fs.mapM (m := Sem) fun f => do pure (f.offset, ← sizeOf f.type)).run P w = .ok ⟨pl⟩ w := by
        rw [← Array.toArray_toList (xs := fs), List.mapM_toArray, Sem.run_map, h4]
        rfl
      simp only [execOp, Instr.build, Sem.run_bind, run_zeroOf w hz, Result.andThen_ok, run_underlying hu, h5]
      have h6 : (parts.map fun (i, x) => (i, a.eval x)).toList = parts.toList.map fun (i, x) => (i, a.eval x) := by simp
      rw [h6]
      have h7 : (fun i => ({ toList := pl } : Array (Nat × Nat))[i]?) = fun (i : Nat) => pl[i]? := by funext i; simp
      rw [h7]
      have h8 : z.cells = ⟨z.cells.toList⟩ := rfl
      rw [h8, h3]
      rfl
    · rename_i len el hu
      simp only [Option.bind_eq_some_iff, Option.map_eq_some_iff] at hc
      obtain ⟨m, hm, ps, hps, rfl⟩ := hc
      simp only [pv, Option.bind_eq_some_iff, Option.some.injEq] at h
      obtain ⟨vs, hvs, r, hr, rfl⟩ := h
      have h3 := run_fillL hf hps hvs hr
      simp only [execOp, Instr.build, Sem.run_bind, run_zeroOf w hz, Result.andThen_ok, run_underlying hu, run_szOf w hm]
      have h6 : (parts.map fun (i, x) => (i, a.eval x)).toList = parts.toList.map fun (i, x) => (i, a.eval x) := by simp
      rw [h6]
      have h8 : z.cells = ⟨z.cells.toList⟩ := rfl
      rw [h8, h3]
      rfl
    · cases hc
  | fieldAddr t x i =>
    simp only [cOp, Option.bind_eq_some_iff] at hc
    obtain ⟨x', h1, hc⟩ := hc
    split at hc
    · rename_i fs hu
      split at hc
      · rename_i f hfi
        simp only [Option.bind_eq_some_iff] at hc
        obtain ⟨m, hm, hc⟩ := hc
        split at hc
        · cases hc
        · rename_i hm0
          cases hc
          simp only [pv] at h
          split at h
          · rename_i b o hb
            have h9 : v = .pointer (some ((⟨b, o, none⟩ : Addr).add f.offset)) := by
              rw [Addr.add_mid]
              cases h0 : Nat.beq f.offset 0
              · rw [h0] at h; cases h; rfl
              · rw [h0] at h; cases h
                rw [Nat.eq_of_beq_eq_true h0]
                rfl
            subst h9
            simp [execOp, hf.ev h1 hb, Instr.fieldAt, run_underlying hu, hfi, Instr.sureAddr, fieldPlace, run_szOf w hm, hm0]
          · cases h
      · cases hc
    · cases hc
  | nilCheck x =>
    obtain ⟨y, h1, rfl⟩ := Option.map_eq_some_iff.1 hc
    simp only [pv] at h
    split at h
    · rename_i ad hb; cases h; simp [execOp, hf.ev h1 hb]
    · rename_i g p q hb; cases h; simp [execOp, hf.ev h1 hb]
    · cases h
  | indexAddr t x i =>
    simp only [cOp, Option.bind_eq_some_iff] at hc
    obtain ⟨x', h1, i', h2, hc⟩ := hc
    split at hc
    · obtain ⟨m, hm, rfl⟩ := Option.map_eq_some_iff.1 hc; simp [pv] at h
    · rename_i len el hu
      obtain ⟨m, hm, rfl⟩ := Option.map_eq_some_iff.1 hc
      simp only [pv] at h
      split at h
      · rename_i b o k j hb hj
        cases hl : Nat.blt j len
        · rw [hl] at h; cases h
        · rw [hl] at h
          cases h
          have hlt : j < len := Nat.le_of_ble_eq_true hl
          simp [execOp, hf.ev h1 hb, hf.ev h2 hj, Instr.indexAt, run_underlying hu, asIntOf, hlt, run_szOf w hm, Instr.sureAddr, Addr.add_mid]
      · cases h
    · cases hc
  | makeFunc fn first captured =>
    simp only [cOp, Option.bind_eq_some_iff, Option.some.injEq] at hc
    obtain ⟨xs, h1, ys, h2, rfl⟩ := hc
    simp only [pv, Option.bind_eq_some_iff, Option.some.injEq] at h
    obtain ⟨us, h3, vs, h4, rfl⟩ := h
    have e1 : first.map a.eval = us.toArray := Array.toList_inj.1 (by rw [Array.toList_map]; simpa using hf.evs h1 h3)
    have e2 : captured.map a.eval = vs.toArray := Array.toList_inj.1 (by rw [Array.toList_map]; simpa using hf.evs h2 h4)
    simp [execOp, Instr.makeFunc, e1, e2]
  | call c =>
    obtain ⟨callee, args, argTypes⟩ := c
    cases callee with
    | value x =>
      cases x with
      | func f =>
        simp only [cOp] at hc
        split at hc
        · obtain ⟨xs, h1, rfl⟩ := Option.map_eq_some_iff.1 hc; simp [pv] at h
        · cases hc; simp [pv] at h
      | _ =>
        simp only [cOp, Option.bind_eq_some_iff, Option.map_eq_some_iff] at hc
        obtain ⟨y, h1, xs, h2, rfl⟩ := hc
        simp [pv] at h
    | invoke r m => simp only [cOp] at hc; cases hc; simp [pv] at h
    | builtin b =>
      cases b
      case len =>
        simp only [cOp] at hc
        split at hc
        · rename_i t x ht hx
          have ha : args = #[x] := by rw [← Array.toArray_toList (xs := args), hx]
          have hat : argTypes = #[t] := by rw [← Array.toArray_toList (xs := argTypes), ht]
          subst ha hat
          split at hc
          · rename_i el hu
            obtain ⟨y, h1, rfl⟩ := Option.map_eq_some_iff.1 hc
            simp only [pv] at h
            split at h
            · rename_i A m c hv
              cases h
              simp [execOp, resolve, invoke, builtin, Builtin.len_, run_underlying hu, hf.ev h1 hv, goInt]
            · cases h
          · rename_i hu
            obtain ⟨y, h1, rfl⟩ := Option.map_eq_some_iff.1 hc
            simp only [pv] at h
            split at h
            · rename_i st hv
              cases h
              simp [execOp, resolve, invoke, builtin, Builtin.len_, run_underlying hu, hf.ev h1 hv, goInt]
            · cases h
          · rename_i k el hu
            cases hc
            simp only [pv, ev, Option.some.injEq] at h
            subst h
            simp [execOp, resolve, invoke, builtin, Builtin.len_, run_underlying hu, goInt]
          · cases hc; simp [pv] at h
        · cases hc; simp [pv] at h
      case min =>
        simp only [cOp] at hc
        split at hc
        · rename_i x y hx
          have ha : args = #[x, y] := by rw [← Array.toArray_toList (xs := args), hx]
          subst ha
          simp only [Option.bind_eq_some_iff, Option.some.injEq] at hc
          obtain ⟨x', h1, y', h2, rfl⟩ := hc
          simp only [pv] at h
          split at h
          · rename_i k p k' q hp hq
            cases h
            simp [execOp, resolve, invoke, builtin, Builtin.min_, Builtin.min2, hf.ev h1 hp, hf.ev h2 hq]
          · cases h
        · cases hc; simp [pv] at h
      case max =>
        simp only [cOp] at hc
        split at hc
        · rename_i x y hx
          have ha : args = #[x, y] := by rw [← Array.toArray_toList (xs := args), hx]
          subst ha
          simp only [Option.bind_eq_some_iff, Option.some.injEq] at hc
          obtain ⟨x', h1, y', h2, rfl⟩ := hc
          simp only [pv] at h
          split at h
          · rename_i k p k' q hp hq
            cases h
            simp [execOp, resolve, invoke, builtin, Builtin.max_, Builtin.max2, hf.ev h1 hp, hf.ev h2 hq]
          · cases h
        · cases hc; simp [pv] at h
      case append =>
        simp only [cOp] at hc
        split at hc
        · split at hc
          · split at hc
            · simp only [Option.bind_eq_some_iff, Option.some.injEq] at hc
              obtain ⟨_, _, _, _, _, _, _, _, _, _, rfl⟩ := hc
              simp [pv] at h
            · cases hc
          · cases hc; simp [pv] at h
        · cases hc; simp [pv] at h
      all_goals (simp only [cOp] at hc; cases hc; simp [pv] at h)
  | load t x =>
    simp only [cOp, Option.bind_eq_some_iff, Option.some.injEq] at hc
    obtain ⟨_, _, _, _, _, _, rfl⟩ := hc
    simp [pv] at h
  | slice t x lo hi mx =>
    simp only [cOp, Option.bind_eq_some_iff] at hc
    obtain ⟨_, _, _, _, _, _, _, _, hc⟩ := hc
    split at hc
    · obtain ⟨_, _, rfl⟩ := Option.map_eq_some_iff.1 hc; simp [pv] at h
    · obtain ⟨_, _, rfl⟩ := Option.map_eq_some_iff.1 hc; simp [pv] at h
    · cases hc; simp [pv] at h
  | box t x => obtain ⟨_, _, rfl⟩ := Option.map_eq_some_iff.1 hc; simp [pv] at h
  | alloc t => obtain ⟨_, _, rfl⟩ := Option.map_eq_some_iff.1 hc; simp [pv] at h
  | store t x y =>
    simp only [cOp, Option.bind_eq_some_iff, Option.map_eq_some_iff] at hc
    obtain ⟨_, _, _, _, _, _, rfl⟩ := hc
    simp [pv] at h
  | buildSlice t len parts =>
    simp only [cOp] at hc
    split at hc
    · simp only [Option.bind_eq_some_iff] at hc
      obtain ⟨_, _, _, _, hc⟩ := hc
      split at hc
      · cases hc
      · obtain ⟨_, _, rfl⟩ := Option.map_eq_some_iff.1 hc; simp [pv] at h
    · cases hc
  | makeSlice t l c =>
    simp only [cOp] at hc
    split at hc
    · simp only [Option.bind_eq_some_iff, Option.some.injEq] at hc
      obtain ⟨_, _, _, _, _, _, _, _, _, _, rfl⟩ := hc
      simp [pv] at h
    · cases hc
  | _ => simp only [cOp] at hc; cases hc; simp [pv] at h
theorem Qt.pure {S : World → Prop} {e : Env} {s : SOp} {v : Value} (h : pv e s = some v) : Qt P S e s v := fun o n a w hc hf _ => pv_run w hf hc h
/-- Which operation has this plain form. -/
def wants : SOp → Op → Bool
  | .ld .., .load .. => true
  | .ld .., _ => false
  | .at_ .., .indexAddr .. => true
  | .at_ .., _ => false
  | .ata .., .indexAddr .. => true
  | .ata .., _ => false
  | .slc .., .slice .. => true
  | .slc .., _ => false
  | .slcA .., .slice .. => true
  | .slcA .., _ => false
  | .st .., .store .. => true
  | .st .., _ => false
  | .box .., .box .. => true
  | .box .., _ => false
  | .new .., .alloc .. => true
  | .new .., _ => false
  | .bsl .., .buildSlice .. => true
  | .bsl .., _ => false
  | .mks .., .makeSlice .. => true
  | .mks .., _ => false
  | .app .., .call .. => true
  | .app .., _ => false
  | .call .., .call .. => true
  | .call .., _ => false
  | .callv .., .call .. => true
  | .callv .., _ => false
  | .str .., .convert .. => true
  | .str .., _ => false
  | .eqv .., .binOp .. => true
  | .eqv .., _ => false
  | .bin .., .binOp .. => true
  | .bin .., _ => false
  | .pick .., .pick .. => true
  | .pick .., _ => false
  | .mm .., .call .. => true
  | .mm .., _ => false
  | .idx .., .index .. => true
  | .idx .., _ => false
  | _, _ => true
theorem cOp_wants {op : Op} {s : SOp} (hc : cOp P op = some s) : wants s op = true := by
  cases op <;> simp only [cOp] at hc <;> (try (cases hc; rfl)) <;> (try (simp only [Option.bind_eq_some_iff, Option.map_eq_some_iff] at hc)) <;> (try (grind [wants]))
  case fieldAddr t x i =>
    obtain ⟨_, _, hc⟩ := hc
    split at hc
    · split at hc
      · simp only [Option.bind_eq_some_iff] at hc
        obtain ⟨_, _, hc⟩ := hc
        split at hc <;> cases hc <;> rfl
      · cases hc
    · cases hc
  case field t x i =>
    obtain ⟨_, _, hc⟩ := hc
    split at hc
    · split at hc
      · simp only [Option.bind_eq_some_iff, Option.some.injEq] at hc
        obtain ⟨_, _, _, _, rfl⟩ := hc
        rfl
      · cases hc
    · cases hc
  case indexAddr t x i =>
    obtain ⟨_, _, _, _, hc⟩ := hc
    split at hc
    · obtain ⟨_, _, rfl⟩ := Option.map_eq_some_iff.1 hc; rfl
    · obtain ⟨_, _, rfl⟩ := Option.map_eq_some_iff.1 hc; rfl
    · cases hc
  case index t x i =>
    obtain ⟨_, _, _, _, hc⟩ := hc
    split at hc
    · simp only [Option.bind_eq_some_iff, Option.some.injEq] at hc
      obtain ⟨_, _, _, _, rfl⟩ := hc
      rfl
    · cases hc; rfl
  case build t parts =>
    obtain ⟨z, _, hc⟩ := hc
    split at hc
    · simp only [Option.bind_eq_some_iff, Option.map_eq_some_iff] at hc
      obtain ⟨_, _, _, _, rfl⟩ := hc
      rfl
    · simp only [Option.bind_eq_some_iff, Option.map_eq_some_iff] at hc
      obtain ⟨_, _, _, _, rfl⟩ := hc
      rfl
    · cases hc
  case buildSlice t l parts =>
    split at hc
    · simp only [Option.bind_eq_some_iff] at hc
      obtain ⟨_, _, _, _, hc⟩ := hc
      split at hc
      · cases hc
      · obtain ⟨_, _, rfl⟩ := Option.map_eq_some_iff.1 hc; rfl
    · cases hc
  case makeSlice t l c =>
    split at hc
    · simp only [Option.bind_eq_some_iff, Option.some.injEq] at hc
      obtain ⟨_, _, _, _, _, _, _, _, _, _, rfl⟩ := hc
      rfl
    · cases hc
  case slice t x lo hi mx =>
    obtain ⟨_, _, _, _, _, _, _, _, hc⟩ := hc
    split at hc
    · obtain ⟨_, _, rfl⟩ := Option.map_eq_some_iff.1 hc; rfl
    · obtain ⟨_, _, rfl⟩ := Option.map_eq_some_iff.1 hc; rfl
    · cases hc; rfl
  case call c =>
    obtain ⟨callee, args, argTypes⟩ := c
    cases callee with
    | value x =>
      cases x with
      | func f =>
        simp only at hc
        split at hc
        · obtain ⟨_, _, rfl⟩ := Option.map_eq_some_iff.1 hc; rfl
        · cases hc; rfl
      | _ =>
        simp only [Option.bind_eq_some_iff, Option.map_eq_some_iff] at hc
        obtain ⟨_, _, _, _, rfl⟩ := hc
        rfl
    | invoke r m => simp only at hc; cases hc; rfl
    | builtin b =>
      cases b
      case len =>
        simp only at hc
        split at hc
        · split at hc
          · obtain ⟨_, _, rfl⟩ := Option.map_eq_some_iff.1 hc; rfl
          · obtain ⟨_, _, rfl⟩ := Option.map_eq_some_iff.1 hc; rfl
          · cases hc; rfl
          · cases hc; rfl
        · cases hc; rfl
      case append =>
        simp only at hc
        split at hc
        · split at hc
          · split at hc
            · simp only [Option.bind_eq_some_iff, Option.some.injEq] at hc
              obtain ⟨_, _, _, _, _, _, _, _, _, _, rfl⟩ := hc
              rfl
            · cases hc
          · cases hc; rfl
        · cases hc; rfl
      case min =>
        simp only at hc
        split at hc
        · simp only [Option.bind_eq_some_iff, Option.some.injEq] at hc
          obtain ⟨_, _, _, _, rfl⟩ := hc
          rfl
        · cases hc; rfl
      case max =>
        simp only at hc
        split at hc
        · simp only [Option.bind_eq_some_iff, Option.some.injEq] at hc
          obtain ⟨_, _, _, _, rfl⟩ := hc
          rfl
        · cases hc; rfl
      all_goals (simp only at hc; cases hc; rfl)
end
end Go.Proofs.Ytmajepinbldneaa
