/- The moves of a walk: what makes and writes; regions that draw. -/
import Derived.Test.YtmajepinbldneaaEngH
namespace Go.Proofs.Ytmajepinbldneaa
set_option linter.unusedVariables false
set_option linter.unusedSimpArgs false
open Go.RowKit
def pickE (M : List Ent) : List Nat → Option (List Ent)
  | [] => some []
  | i :: r => (nthE M i).bind fun e => (pickE M r).bind fun es => some (e :: es)
theorem pickE_mem {M : List Ent} : ∀ {l : List Nat} {M' : List Ent}, pickE M l = some M' → ∀ e ∈ M', e ∈ M
  | [], M', h, e, he => by simp [pickE] at h; subst h; cases he
  | i :: r, M', h, e, he => by
    simp only [pickE, Option.bind_eq_some_iff, Option.some.injEq] at h
    obtain ⟨x, h1, es, h2, rfl⟩ := h
    rcases List.mem_cons.1 he with rfl | he
    · exact List.mem_of_getElem? (by rw [← nthE_eq]; exact h1)
    · exact pickE_mem h2 e he
/-- Those of a list that a mask of ones and noughts keeps. -/
def maskE : List Ent → List Nat → Option (List Ent)
  | [], [] => some []
  | _ :: M, 0 :: r => maskE M r
  | e :: M, _ :: r => (maskE M r).bind fun s => some (e :: s)
  | _, _ => none
theorem maskE_sub : ∀ {M : List Ent} {l : List Nat} {M' : List Ent}, maskE M l = some M' → M'.Sublist M
  | [], [], M', h => by simp [maskE] at h; subst h; exact .slnil
  | [], _ :: _, M', h => by simp [maskE] at h
  | _ :: _, [], M', h => by simp [maskE] at h
  | e :: M, 0 :: r, M', h => .cons _ (maskE_sub (l := r) (by simpa [maskE] using h))
  | e :: M, (_ + 1) :: r, M', h => by
    simp only [maskE, Option.bind_eq_some_iff, Option.some.injEq] at h
    obtain ⟨s, h1, rfl⟩ := h
    exact .cons_cons _ (maskE_sub h1)
section
variable {P : Program} {n : Nat} {k : List KI} {R : Env → World → Prop} {e : Env} {w w0 : World} {X : List Nat} {M : List Ent} {S : World → Prop} {K : Value → World → Prop}
theorem Has.pick {M' : List Ent} (h : Has w0 X M w) (l : List Nat) (hp : pickE M l = some M') : Has w0 X M' w := ⟨h.size, h.old, fun e he => h.ent e (pickE_mem hp e he)⟩
theorem At.keep {M' : List Ent} (h : At w0 X M w) (l : List Nat) (hp : maskE M l = some M') : At w0 X M' w := h.sub (maskE_sub hp)
theorem At.pick {M' : List Ent} (h : At w0 X M w) (l : List Nat) (hp : pickE M l = some M') : Has w0 X M' w := h.has.pick l hp
theorem Ef.boxA {t : Nat} {x : Od} {v : Value} {cs : List Value} (hA : At w0 X M w) (hx : ev e x = some v) (hv : cellsV v = some cs) (h : ∀ b w', At w0 X (bx b t cs :: M) w' → K (.pointer (some ⟨b, 0, none⟩)) w') : Ef P e (.box t x) w K := Ef.box hx hv (h _ _ (hA.alloc cs t))
theorem Ef.newA {t : Nat} {cs : List Value} (hA : At w0 X M w) (h : ∀ b w', At w0 X (bx b t cs :: M) w' → K (.pointer (some ⟨b, 0, none⟩)) w') : Ef P e (.new t cs) w K := Ef.new (h _ _ (hA.alloc cs t))
theorem Ef.bslA {t len sz : Nat} {cells r : List Value} {parts : List (Nat × Nat × Od)} {vs : List (Nat × Nat × Value)} (hA : At w0 X M w) (h1 : evParts e parts = some vs) (h2 : fillL cells vs = some r) (h : ∀ b w', At w0 X (bx b t r :: M) w' → K (.slice (some ⟨b, 0, none⟩) len len) w') :
    Ef P e (.bsl t len sz cells parts) w K := Ef.bsl h1 h2 (h _ _ (hA.alloc r t))
/-- append onto a slice of the call's own; what is appended reads as ys. -/
theorem Ef.appA {α : Type} {f : α → List Value} {t el sz by_ : Nat} {z : Value} {x y : Od} {v : Value} {A : Option Addr} {c i : Nat} {xs : List α} (ys : List α) {m : Nat} {M' : Value → List Ent} (E : Enc f sz) (hA : At w0 X M w) (hx : ev e x = some v) (hi : nthE M i = some (ow f sz el v xs)) (hy : ev e y = some (.slice A m c)) (hm : m = ys.length) (hr : Sl f sz w A ys)
    (hz : z.cells.size = sz) (hl : xs.length + ys.length ≤ 9223372036854775807) (hb : (xs.length + ys.length) * by_ ≤ 140737488355328) (hM : ∀ v', setE M i (ow f sz el v' (xs ++ ys)) = some (M' v'))
    (hk : ∀ v' w', At w0 X (M' v') w' → K v' w') : Ef P e (.app t el sz by_ z x y) w K :=
  Ef.app E hx hy hm (hA.nth hi) hr hz hl hb fun v' w' hg => hk v' w' (hA.grow hi (hM v') hg)
/-- append onto nil. -/
theorem Ef.appN {α : Type} {f : α → List Value} {t el sz by_ : Nat} {z : Value} {x y : Od} {A : Option Addr} {c : Nat} (ys : List α) {m : Nat} (E : Enc f sz) (hA : At w0 X M w) (hx : ev e x = some (.slice none 0 0)) (hy : ev e y = some (.slice A m c)) (hm : m = ys.length) (hr : Sl f sz w A ys)
    (hz : z.cells.size = sz) (hl : ys.length ≤ 9223372036854775807) (hb : ys.length * by_ ≤ 140737488355328) (hk : ∀ v' w', At w0 X (ow f sz el v' ys :: M) w' → K v' w') : Ef P e (.app t el sz by_ z x y) w K :=
  Ef.app E hx hy hm (Own.nil f sz el w 0) hr hz (by simpa using hl) (by simpa using hb) fun v' w' hg => hk v' w' ((hA.addNil f sz el).grow (i := 0) rfl rfl hg)
/-- One element, made on the spot. -/
theorem Ef.app1 {α : Type} {f : α → List Value} {t el sz by_ : Nat} {z : Value} {x y : Od} {v : Value} {b c i j : Nat} {xs : List α} (p : α) {cs : List Value} {M' : Value → List Ent} (E : Enc f sz) (hA : At w0 X M w) (hx : ev e x = some v) (hi : nthE M i = some (ow f sz el v xs)) (hy : ev e y = some (.slice (some ⟨b, 0, none⟩) 1 c)) (hj : nthE M j = some (bx b el cs)) (hp : cs = f p)
    (hz : z.cells.size = sz) (hl : xs.length + 1 ≤ 9223372036854775807) (hb : (xs.length + 1) * by_ ≤ 140737488355328) (hM : ∀ v', setE M i (ow f sz el v' (xs ++ [p])) = some (M' v'))
    (hk : ∀ v' w', At w0 X (M' v') w' → K v' w') : Ef P e (.app t el sz by_ z x y) w K :=
  Ef.appA [p] E hA hx hi hy rfl (hA.has.sl_bx E hj (by simp [hp])) hz hl hb hM hk
/-- A store into a slice of the call's own. -/
theorem Ef.stOw {α : Type} {f : α → List Value} {m : Nat} {x y : Od} {g sz t i c q kk j : Nat} {xs : List α} {p p' : α} {v : Value} {vs : List Value} {M' : List Ent} (E : Enc f sz) (hA : At w0 X M w) (hx : ev e x = some (.pointer (some ⟨g, 0 + kk * sz + j, none⟩))) (hi : nthE M i = some (ow f sz t (.slice (some ⟨g, 0, none⟩) q c) xs)) (hp : xs[kk]? = some p)
    (hy : ev e y = some v) (hv : cellsV v = some vs) (hl : lenIs vs m = true) (h1 : oneL vs = true) (hp' : putAt (f p) j vs = some (f p')) (hM : setE M i (ow f sz t (.slice (some ⟨g, 0, none⟩) q c) (xs.set kk p')) = some M') (h : ∀ w', At w0 X M' w' → K undef w') : Ef P e (.st m x y) w K := by
  have ho : Own f sz t w 0 (.slice (some ⟨g, 0, none⟩) q c) xs := hA.nth hi
  obtain ⟨hlen, hput⟩ := putAt_eq hp'
  have hkk : kk < xs.length := (List.getElem?_eq_some_iff.1 hp).1
  rcases ho.2 with ⟨h2, _⟩ | ⟨g', cap, cur, h2, h3, h4, h5, h6, h7, h8⟩
  · cases h2
  · cases h2
    have hfl := flat_len E xs
    have hsz : (f p).length = sz := E.len p
    have hmul : (kk + 1) * sz ≤ xs.length * sz := Nat.mul_le_mul_right _ hkk
    have hcl : cur.toList.length = c * sz := by simpa using h7
    have hcap : xs.length * sz ≤ c * sz := Nat.mul_le_mul_right _ h5
    rw [Nat.add_mul, Nat.one_mul] at hmul
    have hfit : 0 + kk * sz + j + vs.length ≤ cur.toList.length := by omega
    have hin : w.heap[g]? = some (.cells ⟨cur.toList⟩ t (0, 0)) := h4
    obtain ⟨r, hr⟩ : ∃ r, r = cur.toList.take (0 + kk * sz + j) ++ vs ++ cur.toList.drop (0 + kk * sz + j + vs.length) := ⟨_, rfl⟩
    have hpA : ∀ (cs : List Value) (o : Nat) (us : List Value), o + us.length ≤ cs.length → putAt cs o us = some (cs.take o ++ us ++ cs.drop (o + us.length)) := by
      intro cs
      induction cs with
      | nil =>
        intro o us hh
        have : o = 0 := by simp at hh; omega
        subst this
        have : us = [] := List.eq_nil_of_length_eq_zero (by simp only [List.length_nil] at hh; omega)
        subst this; rfl
      | cons a cs ih =>
        intro o us hh
        cases o with
        | zero =>
          cases us with
          | nil => rfl
          | cons u us => simp only [putAt]; rw [ih 0 us (by simp at hh ⊢; omega)]; simp
        | succ o =>
          simp only [putAt]
          rw [ih o us (by simp at hh ⊢; omega)]
          have e2 : o + 1 + us.length = (o + us.length) + 1 := by omega
          simp [e2]
    have hset := setCells_bx (t := t) hin (hpA cur.toList _ vs hfit)
    rw [← hr] at hset
    refine Ef.st hx hy hv (lenIs_spec hl) (fun a ha => ⟨?_, frozen_of_row w g _ cur t h4⟩) (oneL_spec h1) (h _ (hA.set hi hM (setCells_grown g vs _ w) (ow_loc _ _ _ _ _) ?_ fun b hb => ?_))
    · rw [cell_of_row w g _ cur t _ h4]
      have : 0 + kk * sz + j + a < cur.size := by omega
      rw [Array.getElem?_eq_getElem this]; rfl
    · refine ⟨?_, .inr ⟨g, c, r.toArray, ?_, Nat.zero_le _, hset, ?_, h6, ?_, ?_⟩⟩
      · rw [flat_len E, List.length_set]
      · simp
      · simpa using h5
      · rw [hr]
        simp only [List.size_toArray, List.length_append, List.length_take, List.length_drop]
        omega
      · show List.take ((xs.set kk p').length * sz) r = (xs.set kk p').flatMap f
        rw [hr, List.length_set]
        apply List.ext_getElem?
        intro q
        have hx8 : ∀ a, a < xs.length * sz → cur.toList[a]? = (xs.flatMap f)[a]? := fun a ha => by
          rw [← h8, List.getElem?_take_of_lt ha]
        have hnew : ∀ a, (f p')[a]? = if a < j then (f p)[a]? else if a < j + vs.length then vs[a - j]? else (f p)[a]? := by
          intro a
          rw [hput]
          by_cases q1 : a < j
          · rw [if_pos q1, List.append_assoc, List.getElem?_append_left (by rw [List.length_take]; omega), List.getElem?_take_of_lt q1]
          · rw [if_neg q1]
            by_cases q2 : a < j + vs.length
            · rw [if_pos q2, List.getElem?_append_left (by rw [List.length_append, List.length_take]; omega), List.getElem?_append_right (by rw [List.length_take]; omega)]
              congr 1
              rw [List.length_take]; omega
            · rw [if_neg q2, List.getElem?_append_right (by rw [List.length_append, List.length_take]; omega), List.getElem?_drop]
              congr 1
              rw [List.length_append, List.length_take]; omega
        by_cases hq : q < xs.length * sz
        · rw [List.getElem?_take_of_lt hq]
          obtain ⟨u, hu⟩ : ∃ u, ((xs.set kk p').flatMap f)[q]? = some u := ⟨_, List.getElem?_eq_getElem (by rw [flat_len E, List.length_set]; exact hq)⟩
          obtain ⟨a, xa, b, ha, hb, rfl⟩ := flat_back E _ _ _ hu
          have hbs : b < sz := by rw [← E.len xa]; exact (List.getElem?_eq_some_iff.1 hb).1
          rw [hu, ← hb]
          by_cases hak : a = kk
          · subst hak
            rw [List.getElem?_set_self hkk] at ha
            cases ha
            rw [hnew b]
            have hold : (xs.flatMap f)[a * sz + b]? = (f p)[b]? := by
              rw [flat_at E xs a p hp b ((f p)[b]'(by omega)) (List.getElem?_eq_getElem _)]
              exact (List.getElem?_eq_getElem _).symm
            by_cases q1 : b < j
            · rw [if_pos q1, List.append_assoc, List.getElem?_append_left (by rw [List.length_take]; omega), List.getElem?_take_of_lt (by omega), hx8 _ hq, hold]
            · rw [if_neg q1]
              by_cases q2 : b < j + vs.length
              · rw [if_pos q2, List.getElem?_append_left (by rw [List.length_append, List.length_take]; omega), List.getElem?_append_right (by rw [List.length_take]; omega)]
                congr 1
                rw [List.length_take]; omega
              · rw [if_neg q2, List.getElem?_append_right (by rw [List.length_append, List.length_take]; omega), List.getElem?_drop]
                rw [← hold, ← hx8 _ hq]
                congr 1
                rw [List.length_append, List.length_take]; omega
          · rw [List.getElem?_set_ne (fun e1 => hak e1.symm)] at ha
            have hold : (xs.flatMap f)[a * sz + b]? = (f xa)[b]? := by
              rw [flat_at E xs a xa ha b ((f xa)[b]'(by rw [E.len]; exact hbs)) (List.getElem?_eq_getElem _)]
              exact (List.getElem?_eq_getElem _).symm
            rw [← hold, ← hx8 _ hq]
            rcases Nat.lt_or_ge a kk with hlt | hge
            · have : (a + 1) * sz ≤ kk * sz := Nat.mul_le_mul_right _ hlt
              rw [Nat.add_mul, Nat.one_mul] at this
              rw [List.append_assoc, List.getElem?_append_left (by rw [List.length_take]; omega), List.getElem?_take_of_lt (by omega)]
            · have : (kk + 1) * sz ≤ a * sz := Nat.mul_le_mul_right _ (by omega)
              rw [Nat.add_mul, Nat.one_mul] at this
              rw [List.getElem?_append_right (by rw [List.length_append, List.length_take]; omega), List.getElem?_drop]
              congr 1
              rw [List.length_append, List.length_take]; omega
        · have hq2 : xs.length * sz ≤ q := Nat.not_lt.1 hq
          rw [List.getElem?_eq_none (Nat.le_trans (List.length_take_le _ _) (Nat.not_lt.1 hq)), List.getElem?_eq_none (by rw [flat_len E, List.length_set]; exact Nat.not_lt.1 hq)]
    · cases hb
      have h9 := (setCells_grown g vs (0 + kk * sz + j) w).size
      have h10 := hA.lt (ow f sz t (.slice (some ⟨g, 0, none⟩) xs.length c) xs) (List.mem_of_getElem? (by rw [← nthE_eq]; exact hi)) g rfl
      exact ⟨Nat.lt_of_lt_of_le h10 h9, .inl rfl⟩
theorem O.ef {d : Nat} {s : SOp} {l : List St} (h : Ef P e s w (fun v w' => SO P n l k R ((d, v) :: e) w')) : SO P n (⟨some d, none, s⟩ :: l) k R e w := O.eff h
theorem O.ef0 {s : SOp} {l : List St} (h : Ef P e s w (fun _ w' => SO P n l k R e w')) : SO P n (⟨none, none, s⟩ :: l) k R e w := O.eff h
theorem D.q {d : Nat} {s : SOp} {v : Value} {t : DT} (hq : Qt P S e s v) (h : SD P n S t k R ((d, v) :: e) w) : SD P n S (.quiet ⟨some d, none, s⟩ t) k R e w := D.quiet hq h
theorem D.qg {d g : Nat} {b : Bool} {s : SOp} {v : Value} {t : DT} (hg : fnd e g = some (.bool b)) (hq : Qt P S e s v) (h : SD P n S t k R ((d, v) :: e) w) : SD P n S (.quiet ⟨some d, some (g, b), s⟩ t) k R e w := D.quietT hg (by cases b <;> rfl) hq h
theorem D.skT {d g : Nat} {s : SOp} {t : DT} (hg : fnd e g = some (.bool true)) (h : SD P n S t k R ((d, undef) :: e) w) : SD P n S (.quiet ⟨some d, some (g, false), s⟩ t) k R e w := D.quietS hg rfl h
theorem D.skF {d g : Nat} {s : SOp} {t : DT} (hg : fnd e g = some (.bool false)) (h : SD P n S t k R ((d, undef) :: e) w) : SD P n S (.quiet ⟨some d, some (g, true), s⟩ t) k R e w := D.quietS hg rfl h
theorem D.env {e' : Env} {t : DT} (hle : Le e' e) (h : SD P n S t k R e' w) : SD P n S t k R e w := fun ops fuel listed hs hb a hf hS => h ops fuel listed hs hb a (hle.fits hf) hS
theorem D.knT {d : Option Nat} {g : Nat} {b want : Bool} {s : SOp} {t : DT} (hg : fnd e g = some (.bool b)) (hb : b = true) (h1 : SD P n S (.quiet ⟨d, some (g, want), s⟩ t) k R ((g, .bool true) :: e) w) : SD P n S (.quiet ⟨d, some (g, want), s⟩ t) k R e w := D.env (le_bool (by rw [hg, hb])) h1
theorem D.knF {d : Option Nat} {g : Nat} {b want : Bool} {s : SOp} {t : DT} (hg : fnd e g = some (.bool b)) (hb : b = false) (h1 : SD P n S (.quiet ⟨d, some (g, want), s⟩ t) k R ((g, .bool false) :: e) w) : SD P n S (.quiet ⟨d, some (g, want), s⟩ t) k R e w := D.env (le_bool (by rw [hg, hb])) h1
theorem D.split {d : Option Nat} {g : Nat} {b want : Bool} {s : SOp} {t : DT} (hg : fnd e g = some (.bool b)) (h1 : b = true → SD P n S (.quiet ⟨d, some (g, want), s⟩ t) k R ((g, .bool true) :: e) w) (h2 : b = false → SD P n S (.quiet ⟨d, some (g, want), s⟩ t) k R ((g, .bool false) :: e) w) : SD P n S (.quiet ⟨d, some (g, want), s⟩ t) k R e w := by
  cases b
  · exact D.env (le_bool hg) (h2 rfl)
  · exact D.env (le_bool hg) (h1 rfl)
theorem D.ekT {d : Option Nat} {g : Nat} {b want : Bool} {s : SOp} {t u : DT} (hg : fnd e g = some (.bool b)) (hb : b = true) (h1 : SD P n S (.eff ⟨d, some (g, want), s⟩ t u) k R ((g, .bool true) :: e) w) : SD P n S (.eff ⟨d, some (g, want), s⟩ t u) k R e w := D.env (le_bool (by rw [hg, hb])) h1
theorem D.ekF {d : Option Nat} {g : Nat} {b want : Bool} {s : SOp} {t u : DT} (hg : fnd e g = some (.bool b)) (hb : b = false) (h1 : SD P n S (.eff ⟨d, some (g, want), s⟩ t u) k R ((g, .bool false) :: e) w) : SD P n S (.eff ⟨d, some (g, want), s⟩ t u) k R e w := D.env (le_bool (by rw [hg, hb])) h1
theorem D.esplit {d : Option Nat} {g : Nat} {b want : Bool} {s : SOp} {t u : DT} (hg : fnd e g = some (.bool b)) (h1 : b = true → SD P n S (.eff ⟨d, some (g, want), s⟩ t u) k R ((g, .bool true) :: e) w) (h2 : b = false → SD P n S (.eff ⟨d, some (g, want), s⟩ t u) k R ((g, .bool false) :: e) w) : SD P n S (.eff ⟨d, some (g, want), s⟩ t u) k R e w := by
  cases b
  · exact D.env (le_bool hg) (h2 rfl)
  · exact D.env (le_bool hg) (h1 rfl)
theorem D.esT {d g : Nat} {s : SOp} {t : DT} (hg : fnd e g = some (.bool true)) (h : SD P n S t k R ((d, undef) :: e) w) : SD P n S (.eff ⟨some d, some (g, false), s⟩ t .none) k R e w := D.effS hg rfl h
theorem D.esF {d g : Nat} {s : SOp} {t : DT} (hg : fnd e g = some (.bool false)) (h : SD P n S t k R ((d, undef) :: e) w) : SD P n S (.eff ⟨some d, some (g, true), s⟩ t .none) k R e w := D.effS hg rfl h
theorem D.ef {d : Nat} {s : SOp} {t : DT} (h : Ef P e s w (fun v w' => S w' ∧ SD P n S t k R ((d, v) :: e) w')) : SD P n S (.eff ⟨some d, none, s⟩ t .none) k R e w := D.eff h
theorem D.ef0 {s : SOp} {t : DT} (h : Ef P e s w (fun _ w' => S w' ∧ SD P n S t k R e w')) : SD P n S (.eff ⟨none, none, s⟩ t .none) k R e w := D.eff h
theorem D.eg {d g : Nat} {b : Bool} {s : SOp} {t : DT} (hg : fnd e g = some (.bool b)) (h : Ef P e s w (fun v w' => S w' ∧ SD P n S t k R ((d, v) :: e) w')) : SD P n S (.eff ⟨some d, some (g, b), s⟩ t .none) k R e w := D.effT hg (by cases b <;> rfl) h
theorem A.ef {d : Nat} {s : SOp} {t u : DT} (h : Ef P e s w (fun v w' => S w' ∧ SD P n S t k R ((d, v) :: e) w')) (h2 : SDA P n S u k R e w) : SDA P n S (.eff ⟨some d, none, s⟩ t u) k R e w := A.eff h h2
theorem A.ef0 {s : SOp} {t u : DT} (h : Ef P e s w (fun _ w' => S w' ∧ SD P n S t k R e w')) (h2 : SDA P n S u k R e w) : SDA P n S (.eff ⟨none, none, s⟩ t u) k R e w := A.eff h h2
theorem K.dr (hA : At w0 X M w) {M' : List Ent} (l : List Nat) (hp : pickE M l = some M') {t : DT} (h : ∀ w', At w0 X M w' → SD P n (Has w0 X M') t k R e w') : SK P n (.code (.draw t) :: k) R e w := K.draw (Has w0 X M') (hA.drew.pick l hp) (h _ hA.drew)
/-- From here on more may be asked of the world. -/
theorem D.now (hA : At w0 X M w) {M' : List Ent} (l : List Nat) (hp : pickE M l = some M') {t : DT} (h : SD P n (Has w0 X M) t k R e w) : SD P n (Has w0 X M') t k R e w := D.weak (S' := Has w0 X M) (fun _ h => h.pick l hp) hA.has h
theorem Qt.bin_ {op : BinOp} {x y : Od} {u z v : Value} (hx : ev e x = some u) (hy : ev e y = some z) (h : ∀ (w : World) t X Y, (do eqGuard op t X Y u z; binOp op t u z).run P w = .ok v w) : Qt P S e (.bin op x y) v := by
  intro o n a w hc hf hw
  obtain ⟨dst, op', type, pos, after, guard⟩ := o
  dsimp only at hc
  have hw2 := cOp_wants hc
  cases op' with
  | binOp op2 t p q yt =>
    simp only [cOp, Option.bind_eq_some_iff] at hc
    obtain ⟨x', h1, y', h2, hc⟩ := hc
    have key : op2 = op → x' = x → y' = y → (execOp a.eval ⟨dst, .binOp op2 t p q yt, type, pos, after, guard⟩).run P w = .ok (.value v) w := by
      rintro rfl rfl rfl
      have := h w t p q
      simp only [execOp, hf.ev h1 hx, hf.ev h2 hy]
      rw [Sem.run_bind, this]
      rfl
    cases op2
    case eql =>
      simp only at hc
      split at hc
      · cases hc; exact key rfl rfl rfl
      · split at hc
        · cases hc
        · split at hc <;> cases hc
    case neq =>
      simp only at hc
      split at hc
      · cases hc; exact key rfl rfl rfl
      · split at hc
        · cases hc
        · split at hc <;> cases hc
    all_goals (cases hc; exact key rfl rfl rfl)
  | _ => simp [wants] at hw2
theorem Qt.rem {x y : Od} {kk : IntKind} {a b : Int} (hx : ev e x = some (.int kk a)) (hy : ev e y = some (.int kk b)) (hb : b ≠ 0) : Qt P S e (.bin .rem x y) (.int kk (a.tmod b)) :=
  Qt.bin_ hx hy fun w t X Y => by simp [eqGuard_rem, binOp, Op.intDiv, hb]
theorem Qt.remN {x y : Od} {kk : IntKind} {a b : Int} (hx : ev e x = some (.int kk a)) (hy : ev e y = some (.int kk b)) (ha : 0 ≤ a) (hb : 0 < b) : Qt P S e (.bin .rem x y) (.int kk (a % b)) :=
  (Qt.rem hx hy (by omega)).eq (by rw [Int.tmod_eq_emod_of_nonneg ha])
theorem Qt.quoN {x y : Od} {a b : Int} (hx : ev e x = some (.int .i64 a)) (hy : ev e y = some (.int .i64 b)) (ha : 0 ≤ a ∧ a ≤ 9223372036854775807) (hb : 0 < b) : Qt P S e (.bin .quo x y) (.int .i64 (a / b)) :=
  Qt.bin_ hx hy fun w t X Y => by
    have h0 : b ≠ 0 := by omega
    have h1 : 0 ≤ a / b := Int.ediv_nonneg ha.1 (by omega)
    have h2 : a / b ≤ a := Int.ediv_le_self _ ha.1
    simp [eqGuard_quo, binOp, Op.intDiv, h0, Int.tdiv_eq_ediv_of_nonneg ha.1, wrap_i64 (a / b) ⟨by omega, by omega⟩]
theorem Qt.quoU {x y : Od} {a b : Int} (hx : ev e x = some (.int .u64 a)) (hy : ev e y = some (.int .u64 b)) (ha : 0 ≤ a ∧ a ≤ 18446744073709551615) (hb : 0 < b) : Qt P S e (.bin .quo x y) (.int .u64 (a / b)) :=
  Qt.bin_ hx hy fun w t X Y => by
    have h0 : b ≠ 0 := by omega
    have h1 : 0 ≤ a / b := Int.ediv_nonneg ha.1 (by omega)
    have h2 : a / b ≤ a := Int.ediv_le_self _ ha.1
    simp [eqGuard_quo, binOp, Op.intDiv, h0, Int.tdiv_eq_ediv_of_nonneg ha.1, wrap_u64 (a / b) ⟨by omega, by omega⟩]
theorem Qt.shrN {x y : Od} {kk k2 : IntKind} {a b : Int} (hx : ev e x = some (.int kk a)) (hy : ev e y = some (.int k2 b)) (hb : 0 ≤ b ∧ b ≤ kk.bits) : Qt P S e (.bin .shr x y) (.int kk (a / 2 ^ b.toNat)) :=
  Qt.bin_ hx hy fun w t X Y => by simp [eqGuard_shr, binOp_shr, shift_shr kk k2 a b hb.1 hb.2]
theorem Qt.shlN {x y : Od} {kk k2 : IntKind} {a b : Int} (hx : ev e x = some (.int kk a)) (hy : ev e y = some (.int k2 b)) (hb : 0 ≤ b ∧ b ≤ kk.bits) : Qt P S e (.bin .shl x y) (.int kk (kk.wrap (a * 2 ^ b.toNat))) :=
  Qt.bin_ hx hy fun w t X Y => by simp [eqGuard_shl, binOp_shl, shift_shl kk k2 a b hb.1 hb.2]
theorem Qt.shrBig {x y : Od} {kk k2 : IntKind} {a b : Int} (hx : ev e x = some (.int kk a)) (hy : ev e y = some (.int k2 b)) (hb : 0 ≤ b) : Qt P S e (.bin .shr x y) (.int kk (a / 2 ^ (min b.toNat kk.bits))) :=
  Qt.bin_ hx hy fun w t X Y => by
    have hp : (0 : Int) ≤ 2 ^ (min b.toNat kk.bits) := Int.pow_nonneg (by decide)
    have h0 : ¬ b < 0 := by omega
    simp [eqGuard_shr, binOp_shr, Op.shift, h0, Int.fdiv_eq_ediv_of_nonneg _ hp]
theorem Has.slv {α : Type} {f : α → List Value} {sz t i nn c : Nat} {A : Option Addr} {xs : List α} (E : Enc f sz) (h : Has w0 X M w) (hi : nthE M i = some (ow f sz t (.slice A nn c) xs)) : Sl f sz w A xs ∧ nn = xs.length ∧ xs.length ≤ c := by
  obtain ⟨A', c', e1, h2, hs⟩ := h.sl_ow E hi
  cases e1
  exact ⟨hs, rfl, h2⟩
theorem At.len_ow {α : Type} {f : α → List Value} {sz t i nn c : Nat} {A : Option Addr} {xs : List α} (h : At w0 X M w) (hi : nthE M i = some (ow f sz t (.slice A nn c) xs)) : c ≤ 9223372036854775807 := by
  have ho : Own f sz t w 0 (.slice A nn c) xs := h.nth hi
  rcases ho.2 with ⟨h1, _⟩ | ⟨g, cap, cur, h1, _, _, _, hm, _⟩
  · injection h1 with _ _ h1; omega
  · injection h1 with _ _ h1; subst h1; simpa [maxLen] using hm
theorem Qt.strOw {x : Od} {A : Option Addr} {len c i t : Nat} {xs : List Int} (hx : ev e x = some (.slice A len c)) (hi : nthE M i = some (ow byteCells 1 t (.slice A len c) xs)) (hl : len = xs.length) : Qt P (Has w0 X M) e (.str x) (.string (strOfNums xs)) :=
  Qt.str hx hl fun w h => (h.slv encByte hi).1
theorem Qt.strOld {x : Od} {A : Option Addr} {len c : Nat} {xs : List Int} (hx : ev e x = some (.slice A len c)) (hs : Sl byteCells 1 w0 A xs) (hl : len = xs.length) : Qt P (Has w0 [] M) e (.str x) (.string (strOfNums xs)) :=
  Qt.str hx hl fun w h => h.sl_old (by simp) hs
/-- The form of a slice of the call's own. -/
theorem At.form {α : Type} {f : α → List Value} {sz t i : Nat} {v : Value} {xs : List α} (E : Enc f sz) (h : At w0 X M w) (hi : nthE M i = some (ow f sz t v xs)) : ∃ A c, v = .slice A xs.length c ∧ xs.length ≤ c ∧ c ≤ 9223372036854775807 := by
  obtain ⟨A, c, rfl, h2, _⟩ := h.has.sl_ow E hi
  exact ⟨A, c, rfl, h2, h.len_ow hi⟩
theorem At.formN {α : Type} {f : α → List Value} {sz t i : Nat} {v : Value} {xs : List α} (E : Enc f sz) (h : At w0 X M w) (hi : nthE M i = some (ow f sz t v xs)) (hne : xs ≠ []) : ∃ g c, v = .slice (some ⟨g, 0, none⟩) xs.length c ∧ xs.length ≤ c ∧ c ≤ 9223372036854775807 := by
  obtain ⟨A, c, rfl, h2, h3⟩ := h.form E hi
  have ho : Own f sz t w 0 (.slice A xs.length c) xs := h.nth hi
  rcases ho.2 with ⟨h1, h4⟩ | ⟨g, cap, cur, h1, _⟩
  · exact absurd (List.eq_nil_of_length_eq_zero h4) hne
  · cases h1; exact ⟨g, c, rfl, h2, h3⟩
/-- A literal of the call's own, as a slice that may grow. -/
theorem At.lit {α : Type} {f : α → List Value} {sz t i b : Nat} {cs : List Value} {M' : List Ent} (xs : List α) (E : Enc f sz) (h : At w0 X M w) (hi : nthE M i = some (bx b t cs)) (hc : cs = xs.flatMap f) (hl : xs.length ≤ 9223372036854775807) (hM : setE M i (ow f sz t (.slice (some ⟨b, 0, none⟩) xs.length xs.length) xs) = some M') : At w0 X M' w := by
  refine h.conv hi hM rfl (ow_loc _ _ _ _ _) ?_
  have hb : w.heap[b]? = some (.cells ⟨cs⟩ t (0, 0)) := h.nth hi
  refine ⟨flat_len E xs, .inr ⟨b, xs.length, ⟨cs⟩, rfl, Nat.zero_le _, hb, Nat.le_refl _, by simpa [maxLen] using hl, ?_, ?_⟩⟩
  · show cs.length = _; rw [hc, flat_len E]
  · show cs.take _ = _; rw [hc, ← flat_len E]; exact List.take_length
end
end Go.Proofs.Ytmajepinbldneaa
