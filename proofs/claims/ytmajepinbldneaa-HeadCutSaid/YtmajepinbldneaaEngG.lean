/- Regions that draw their order; a function's begin and end. -/
import Derived.Test.YtmajepinbldneaaEngF
namespace Go.Proofs.Ytmajepinbldneaa
set_option linter.unusedVariables false
set_option linter.unusedSimpArgs false
open Go.RowKit
def SD (P : Program) (n : Nat) (S : World → Prop) (t : DT) (k : List KI) (R : Env → World → Prop) (e : Env) (w : World) : Prop :=
  ∀ ops fuel listed, Region.noSelect ops = true → buildT P n ops fuel listed = some t → ∀ a, Fits n e a → S w → wpAnyH P .any ops (lift n (post P n R k)) S fuel listed a w
def altsT (P : Program) (n : Nat) (ops : Array Oper) (f : Nat) (listed : Array Bool) (is : List Nat) : Option DT :=
  is.foldr (fun i acc => (ops[i]?).bind fun o => (cStep P n ops o).bind fun s => (buildT P n ops f (listed.setIfInBounds i true)).bind fun t => acc.bind fun u => some (.eff s t u)) (some .none)
def SDA (P : Program) (n : Nat) (S : World → Prop) (t : DT) (k : List KI) (R : Env → World → Prop) (e : Env) (w : World) : Prop :=
  ∀ ops fuel listed is, Region.noSelect ops = true → altsT P n ops fuel listed is = some t → ∀ a, Fits n e a → S w → ∀ i ∈ is, wpOp P ops (lift n (post P n R k)) i (fun a' w' => S w' ∧ wpAnyH P .any ops (lift n (post P n R k)) S fuel (listed.setIfInBounds i true) a' w') a w
theorem wpAnyH_weak {P : Program} {md : Region.Mode} {ops : Array Oper} {Q : Exit → Act → World → Prop} {S S' : World → Prop} (hS : ∀ w, S' w → S w) : ∀ (fuel : Nat) (listed : Array Bool) (a : Act) (w : World), wpAnyH P md ops Q S' fuel listed a w → wpAnyH P md ops Q S fuel listed a w
  | 0, _, _, _, h => h
  | fuel + 1, _, _, _, h => ⟨h.1, fun i hi => wpOp_mono (fun a' w' h' => ⟨hS w' h'.1, wpAnyH_weak hS fuel _ a' w' h'.2⟩) (h.2 i hi)⟩
section
variable {P : Program} {n : Nat} {k : List KI} {R : Env → World → Prop} {e : Env} {w : World} {S : World → Prop}
theorem lift_panic {Q : Exit → Env → World → Prop} {c : List PanicEntry} {a a' : Act} {w : World} (h : lift n Q (.panic c) a w) : lift n Q (.panic c) a' w := absurd rfl (h.1 c)
theorem D.nil (h : SK P n k R e w) : SD P n S .nil k R e w := fun ops fuel listed hs hb a hf hS => by
  have hr : Region.ready .any ops listed = [] := by
    cases fuel with
    | zero =>
      simp only [buildT] at hb
      split at hb
      · assumption
      · cases hb
    | succ f =>
      simp only [buildT] at hb
      split at hb
      · assumption
      · split at hb
        · simp only [Option.bind_eq_some_iff] at hb
          obtain ⟨_, _, _, _, _, _, h⟩ := hb
          cases h
        · rename_i hx _
          simp only [List.foldr_cons, Option.bind_eq_some_iff] at hb
          obtain ⟨_, _, _, _, _, _, _, _, h⟩ := hb
          cases h
  exact wpAnyH_done hr ⟨fun _ h => (by cases h), e, h, hf⟩ fuel
theorem quiet_parts {ops : Array Oper} {fuel : Nat} {listed : Array Bool} {s : St} {t : DT} (hb : buildT P n ops fuel listed = some (.quiet s t)) :
    ∃ f i o, fuel = f + 1 ∧ ops[i]? = some o ∧ cStep P n ops o = some s ∧ buildT P n ops f (listed.setIfInBounds i true) = some t ∧ Region.free .any ops listed i = true ∧ (Region.ready .any ops listed).contains i = true := by
  cases fuel with
  | zero =>
    simp only [buildT] at hb
    split at hb <;> cases hb
  | succ f =>
    simp only [buildT] at hb
    split at hb
    · cases hb
    · rename_i r rs hr
      split at hb
      · rename_i i hfi
        simp only [Option.bind_eq_some_iff, Option.some.injEq, DT.quiet.injEq] at hb
        obtain ⟨o, h1, s', h2, t', h3, rfl, rfl⟩ := hb
        have hq := List.find?_some hfi
        simp only [Bool.and_eq_true] at hq
        have hm := List.mem_of_find?_eq_some hfi
        exact ⟨f, i, o, rfl, h1, h2, h3, hq.2, by rw [hr]; simpa using hm⟩
      · simp only [List.foldr_cons, Option.bind_eq_some_iff] at hb
        obtain ⟨_, _, _, _, _, _, _, _, h⟩ := hb
        cases h
theorem D.quietAny {d : Nat} {g : Option (Nat × Bool)} {s : SOp} {v : Value} {t : DT}
    (hy : ∀ ops o a, cOp P o.op = some s → cGuard ops o.guard = some g → Fits n e a → YieldsIf P ops S o v a)
    (h : SD P n S t k R ((d, v) :: e) w) : SD P n S (.quiet ⟨some d, g, s⟩ t) k R e w := fun ops fuel listed hs hb a hf hS => by
  obtain ⟨f, i, o, rfl, h1, h2, h3, h4, h5⟩ := quiet_parts hb
  obtain ⟨c1, c2, c3, c4⟩ := cStep_some h2
  refine wpAnyH_take h1 hs h4 h5 (fun c a w hp => lift_panic hp) (hy ops o a c1 c2 hf) hS ?_
  rw [c3]
  exact h ops f _ hs h3 _ (hf.put (c4 d rfl) v) hS
theorem guard_none {ops : Array Oper} {o : Oper} (h : cGuard ops o.guard = some none) : o.guard = none := by
  cases hgd : o.guard with
  | none => rfl
  | some p =>
    rw [hgd] at h
    obtain ⟨j, b⟩ := p
    simp only [cGuard, Option.map_eq_some_iff] at h
    obtain ⟨_, _, h⟩ := h
    cases h
theorem D.quiet {d : Nat} {s : SOp} {v : Value} {t : DT} (hq : Qt P S e s v) (h : SD P n S t k R ((d, v) :: e) w) : SD P n S (.quiet ⟨some d, none, s⟩ t) k R e w :=
  D.quietAny (fun ops o a c1 c2 hf => .inl ⟨by simp [Region.wanted, guard_none c2], fun w' hw' => hq o n a w' c1 hf hw'⟩) h
theorem D.quietT {d g : Nat} {b want : Bool} {s : SOp} {v : Value} {t : DT} (hg : fnd e g = some (.bool b)) (hb : Bool.xor b want = false) (hq : Qt P S e s v) (h : SD P n S t k R ((d, v) :: e) w) : SD P n S (.quiet ⟨some d, some (g, want), s⟩ t) k R e w :=
  D.quietAny (fun ops o a c1 c2 hf => .inl ⟨by rw [wanted_of c2 hf hg]; cases b <;> cases want <;> simp_all, fun w' hw' => hq o n a w' c1 hf hw'⟩) h
theorem D.quietS {d g : Nat} {b want : Bool} {s : SOp} {t : DT} (hg : fnd e g = some (.bool b)) (hb : Bool.xor b want = true) (h : SD P n S t k R ((d, undef) :: e) w) : SD P n S (.quiet ⟨some d, some (g, want), s⟩ t) k R e w :=
  D.quietAny (fun ops o a c1 c2 hf => .inr ⟨by rw [wanted_of c2 hf hg]; cases b <;> cases want <;> simp_all, rfl⟩) h
theorem D.guard {g : Nat} {b want : Bool} {t : DT} (hg : fnd e g = some (.bool b)) (h1 : b = want → SD P n S t k R e w) (h2 : b = (!want) → SD P n S t k R e w) : SD P n S t k R e w := by
  by_cases h : b = want
  · exact h1 h
  · exact h2 (by cases b <;> cases want <;> simp_all)
theorem D.alts {s : St} {t u : DT} (h : SDA P n S (.eff s t u) k R e w) : SD P n S (.eff s t u) k R e w := fun ops fuel listed hs hb a hf hS => by
  cases fuel with
  | zero =>
    simp only [buildT] at hb
    split at hb <;> cases hb
  | succ f =>
    simp only [buildT] at hb
    split at hb
    · cases hb
    · rename_i r rs hr
      split at hb
      · simp only [Option.bind_eq_some_iff] at hb
        obtain ⟨_, _, _, _, _, _, h⟩ := hb
        cases h
      · exact wpAnyH_all hr (by simp) (h ops f listed _ hs hb a hf hS)
theorem A.no : SDA P n S .none k R e w := fun ops fuel listed is hs hb a hf hS i hi => by
  cases is with
  | nil => cases hi
  | cons j js =>
    simp only [altsT, List.foldr_cons, Option.bind_eq_some_iff] at hb
    obtain ⟨_, _, _, _, _, _, _, _, h⟩ := hb
    cases h
theorem A.effAny {s : St} {t u : DT}
    (hy : ∀ ops o a fuel listed, Region.noSelect ops = true → cOp P o.op = some s.s → cGuard ops o.guard = some s.g → o.dst = s.d → (∀ j, s.d = some j → j < n) → buildT P n ops fuel listed = some t → Fits n e a → S w → ∀ i, ops[i]? = some o →
      wpOp P ops (lift n (post P n R k)) i (fun a' w' => S w' ∧ wpAnyH P .any ops (lift n (post P n R k)) S fuel listed a' w') a w)
    (h2 : SDA P n S u k R e w) : SDA P n S (.eff s t u) k R e w := fun ops fuel listed is hs hb a hf hS i hi => by
  cases is with
  | nil => cases hi
  | cons j js =>
    simp only [altsT, List.foldr_cons, Option.bind_eq_some_iff, Option.some.injEq, DT.eff.injEq] at hb
    obtain ⟨o, h1, s', h3, t', h4, u', h5, rfl, rfl, rfl⟩ := hb
    rcases List.mem_cons.1 hi with rfl | hi
    · obtain ⟨c1, c2, c3, c4⟩ := cStep_some h3
      exact hy ops o a fuel _ hs c1 c2 c3 c4 h4 hf hS i h1
    · exact h2 ops fuel listed js hs h5 a hf hS i hi
theorem A.eff {d : Option Nat} {s : SOp} {t u : DT} (h : Ef P e s w (fun v w' => S w' ∧ SD P n S t k R (putE d v e) w')) (h2 : SDA P n S u k R e w) : SDA P n S (.eff ⟨d, none, s⟩ t u) k R e w :=
  A.effAny (fun ops o a fuel listed hs c1 c2 c3 c4 hb hf hS i hi => by
    unfold wpOp
    simp only [hi]
    rw [if_pos (by simp [Region.wanted, guard_none c2])]
    refine .inl (h o n a _ _ c1 hf fun v w' hv => ⟨hv.1, hv.2 ops fuel listed hs hb _ ?_ hv.1⟩)
    rw [c3]
    exact hf.putE c4 v) h2
theorem A.effT {d : Option Nat} {g : Nat} {b want : Bool} {s : SOp} {t u : DT} (hg : fnd e g = some (.bool b)) (hbw : Bool.xor b want = false) (h : Ef P e s w (fun v w' => S w' ∧ SD P n S t k R (putE d v e) w')) (h2 : SDA P n S u k R e w) : SDA P n S (.eff ⟨d, some (g, want), s⟩ t u) k R e w :=
  A.effAny (fun ops o a fuel listed hs c1 c2 c3 c4 hb hf hS i hi => by
    unfold wpOp
    simp only [hi]
    rw [if_pos (by rw [wanted_of c2 hf hg]; cases b <;> cases want <;> simp_all)]
    refine .inl (h o n a _ _ c1 hf fun v w' hv => ⟨hv.1, hv.2 ops fuel listed hs hb _ ?_ hv.1⟩)
    rw [c3]
    exact hf.putE c4 v) h2
theorem A.effS {d g : Nat} {b want : Bool} {s : SOp} {t u : DT} (hg : fnd e g = some (.bool b)) (hbw : Bool.xor b want = true) (h : SD P n S t k R ((d, undef) :: e) w) (h2 : SDA P n S u k R e w) : SDA P n S (.eff ⟨some d, some (g, want), s⟩ t u) k R e w :=
  A.effAny (fun ops o a fuel listed hs c1 c2 c3 c4 hb hf hS i hi => by
    unfold wpOp
    simp only [hi]
    rw [if_neg (by rw [wanted_of c2 hf hg]; cases b <;> cases want <;> simp_all)]
    refine ⟨hS, h ops fuel listed hs hb _ ?_ hS⟩
    rw [c3]
    exact hf.put (c4 d rfl) undef) h2
theorem D.eff {d : Option Nat} {s : SOp} {t : DT} (h : Ef P e s w (fun v w' => S w' ∧ SD P n S t k R (putE d v e) w')) : SD P n S (.eff ⟨d, none, s⟩ t .none) k R e w := D.alts (A.eff h A.no)
theorem D.effT {d : Option Nat} {g : Nat} {b want : Bool} {s : SOp} {t : DT} (hg : fnd e g = some (.bool b)) (hbw : Bool.xor b want = false) (h : Ef P e s w (fun v w' => S w' ∧ SD P n S t k R (putE d v e) w')) : SD P n S (.eff ⟨d, some (g, want), s⟩ t .none) k R e w := D.alts (A.effT hg hbw h A.no)
theorem D.effS {d g : Nat} {b want : Bool} {s : SOp} {t : DT} (hg : fnd e g = some (.bool b)) (hbw : Bool.xor b want = true) (h : SD P n S t k R ((d, undef) :: e) w) : SD P n S (.eff ⟨some d, some (g, want), s⟩ t .none) k R e w := D.alts (A.effS hg hbw h A.no)
theorem D.weak {S' : World → Prop} {t : DT} (hS : ∀ w, S' w → S w) (hw : S' w) (h : SD P n S' t k R e w) : SD P n S t k R e w := fun ops fuel listed hs hb a hf _ => wpAnyH_weak hS fuel listed a w (h ops fuel listed hs hb a hf hw)
theorem K.draw (S : World → Prop) {t : DT} (hS : S { w with drawn := w.drawn + 1 }) (h : SD P n S t k R e { w with drawn := w.drawn + 1 }) : SK P n (.code (.draw t) :: k) R e w := fun code hc a hf => by
  obtain ⟨id, ops, rfl, h1, h2, h3⟩ := comp_inv hc
  exact wp_region_held h2 (h ops _ _ h1 h3 a hf hS)
end
/-- A result. -/
inductive CR where
  | t (n : Nat)
  | c (a m : Nat) (agg : Bool)
def cRes (P : Program) : List ResultVar → Option (List CR)
  | [] => some []
  | .tmp t :: r => (cRes P r).bind fun l => some (.t t :: l)
  | .cell a t :: r => (szOf P t).bind fun m => (P.underlying t).bind fun d => (cRes P r).bind fun l => some (.c a m (isRowD d) :: l)
structure FC where
  n : Nat
  rs : List CR
  body : SC
def compF (P : Program) (f : Nat) : Option FC := (P.funcs[f]?).bind fun fn => (cRes P fn.results.toList).bind fun rs => fn.body.bind fun b => (comp P fn.ntmps b).bind fun c => some ⟨fn.ntmps, rs, c⟩
def argsE : Nat → List Value → Env
  | _, [] => []
  | i, v :: vs => (i, v) :: argsE (i + 1) vs
/-- A variable in memory reads as v. -/
def LdP (w : World) (b o m : Nat) (agg : Bool) (v : Value) : Prop :=
  (agg = true ∧ ∃ vs : List Value, vs.length = m ∧ v = .agg vs.toArray ∧ ∀ j u, vs[j]? = some u → w.cell? ⟨b, o + j, none⟩ = some u) ∨ (agg = false ∧ w.cell? ⟨b, o, none⟩ = some v)
def ResL (e : Env) (w : World) : List CR → List Value → Prop
  | [], [] => True
  | .t t :: r, v :: vs => fnd e t = some v ∧ ResL e w r vs
  | .c a m agg :: r, v :: vs => (∃ b o, fnd e a = some (.pointer (some ⟨b, o, none⟩)) ∧ LdP w b o m agg v) ∧ ResL e w r vs
  | _, _ => False
def retV : List Value → Value
  | [v] => v
  | vs => .tuple vs.toArray
theorem LdP.bx {w0 w : World} {X : List Nat} {M : List Ent} (h : At w0 X M w) {i b o m t : Nat} {agg : Bool} {cs : List Value} {v : Value} (hi : nthE M i = some (bx b t cs)) (hv : partV o m agg cs = some v) : LdP w b o m agg v := by
  have := part_cells (w := w) (b := b) (o := 0) hv fun j u hu => by rw [Nat.zero_add, h.has.cell_bx hi]; exact hu
  rwa [Nat.zero_add] at this
section
variable {P : Program} {w : World}
theorem fnd_argsE : ∀ (vs : List Value) (i t : Nat) (v : Value), fnd (argsE i vs) t = some v → i ≤ t ∧ vs[t - i]? = some v
  | [], i, t, v, h => by simp [argsE, fnd] at h
  | u :: vs, i, t, v, h => by
    simp only [argsE] at h
    rw [fnd_cons] at h
    split at h
    · rename_i e1; subst e1; cases h; simp
    · rename_i e1
      obtain ⟨h1, h2⟩ := fnd_argsE vs (i + 1) t v h
      refine ⟨by omega, ?_⟩
      have : t - i = (t - (i + 1)) + 1 := by omega
      rw [this]
      simpa using h2
theorem run_res {e : Env} {n : Nat} {a : Act} (hf : Fits n e a) {f : ResultVar → Sem Value} (f1 : ∀ t, f (.tmp t) = pure (a.tmps.getD t undef)) (f2 : ∀ a' t, f (.cell a' t) = do loadVar t (← asAddr (a.tmps.getD a' undef))) :
    ∀ {rs : List ResultVar} {l : List CR} {vs : List Value}, cRes P rs = some l → ResL e w l vs → (rs.mapM (m := Sem) f).run P w = .ok vs w
  | [], l, vs, h1, h2 => by
    simp [cRes] at h1; subst h1
    cases vs with
    | nil => simp
    | cons v vs => simp [ResL] at h2
  | .tmp t :: rs, l, vs, h1, h2 => by
    simp only [cRes, Option.bind_eq_some_iff, Option.some.injEq] at h1
    obtain ⟨l', h3, rfl⟩ := h1
    cases vs with
    | nil => simp [ResL] at h2
    | cons v vs =>
      obtain ⟨h4, h5⟩ := h2
      have := hf.has t v h4
      simp only [List.mapM_cons, Sem.run_bind, f1, Sem.run_pure, Result.andThen_ok, run_res hf f1 f2 h3 h5]
      simp [this]
  | .cell a' ty :: rs, l, vs, h1, h2 => by
    simp only [cRes, Option.bind_eq_some_iff, Option.some.injEq] at h1
    obtain ⟨m, h6, d, h7, l', h3, rfl⟩ := h1
    cases vs with
    | nil => simp [ResL] at h2
    | cons v vs =>
      obtain ⟨⟨b, o, h8, h9⟩, h5⟩ := h2
      have h10 := hf.has a' _ h8
      have h11 := run_loadVar_any (P := P) (w := w) h6 h7 h9
      have h12 : a.tmps.getD a' undef = .pointer (some ⟨b, o, none⟩) := by simp [h10]
      simp only [List.mapM_cons, Sem.run_bind, f2, h12, asAddr, Sem.run_pure, Result.andThen_ok, h11, run_res hf f1 f2 h3 h5]
/-- The end of a function. -/
def Rt (rs : List CR) (Rp : Ending → World → Prop) (e : Env) (w : World) : Prop := ∃ vs, ResL e w rs vs ∧ Rp (.returned (retV vs)) w
theorem C.ret {rs : List CR} {Rp : Ending → World → Prop} {e : Env} (vs : List Value) (h : ResL e w rs vs) (h2 : Rp (.returned (retV vs)) w) : Rt rs Rp e w := ⟨vs, h, h2⟩
theorem C.start {f : Nat} {args : List Value} {Rp : Ending → World → Prop} {c : FC} (hc : compF P f = some c) (hn : args.length ≤ c.n) (h : SK P c.n [.code c.body] (Rt c.rs Rp) (argsE 0 args) w) : Calls P f args.toArray w Rp := by
  simp only [compF, Option.bind_eq_some_iff, Option.some.injEq] at hc
  obtain ⟨fn, h1, rs, h2, b, h3, sc, h4, rfl⟩ := hc
  refine calls_of_wp h1 h3 (wp_mono (h b h4 _ ?_) ?_)
  · refine ⟨by simp; simp at hn; omega, fun t v ht => ?_, rfl⟩
    obtain ⟨h5, h6⟩ := fnd_argsE args 0 t v ht
    have hlt := (List.getElem?_eq_some_iff.1 h6).1
    rw [Array.getElem?_append_left (by simpa using hlt)]
    simpa using h6
  · rintro ex a' w' ⟨hp, e', hq, hf⟩
    have hres : Rt rs Rp e' w' → ∃ v, (results fn a'.tmps).run P w' = .ok v w' ∧ Rp (.returned v) w' := by
      rintro ⟨vs, h5, h6⟩
      refine ⟨retV vs, ?_, h6⟩
      unfold results
      rw [Sem.run_bind]
      rw [← Array.toArray_toList (xs := fn.results), List.mapM_toArray, Sem.run_map, run_res hf (fun _ => rfl) (fun _ _ => rfl) h2 h5]
      simp only [Result.andThen_ok, Sem.run_pure]
      cases vs with
      | nil => rfl
      | cons v vs => cases vs <;> rfl
    cases ex with
    | panic c => exact absurd rfl (hp c)
    | normal =>
      obtain ⟨v, h5, h6⟩ := hres hq.2
      exact ⟨hf.def_, v, h5, h6⟩
    | ret =>
      obtain ⟨v, h5, h6⟩ := hres hq.2
      exact ⟨hf.def_, v, h5, h6⟩
    | exit id => exact hq.1.elim
    | goto l => exact hq.1.elim
    | outgrown => exact hq.1.elim
end
end Go.Proofs.Ytmajepinbldneaa
