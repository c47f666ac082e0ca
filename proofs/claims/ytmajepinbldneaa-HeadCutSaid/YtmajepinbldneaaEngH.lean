/- The moves of a walk, ready for use. -/
import Derived.Test.YtmajepinbldneaaEngG
namespace Go.Proofs.Ytmajepinbldneaa
set_option linter.unusedVariables false
set_option linter.unusedSimpArgs false
open Go.RowKit
def argsO : Nat → List Value → Option Env
  | _, [] => some []
  | i, v :: vs => (argsO (i + 1) vs).bind fun e => some ((i, v) :: e)
theorem argsO_eq : ∀ {i : Nat} {vs : List Value} {e : Env}, argsO i vs = some e → argsE i vs = e
  | i, [], e, h => by simp [argsO] at h; subst h; rfl
  | i, v :: vs, e, h => by
    simp only [argsO, Option.bind_eq_some_iff, Option.some.injEq] at h
    obtain ⟨e', h1, rfl⟩ := h
    simp [argsE, argsO_eq h1]
section
variable {P : Program} {n : Nat} {k : List KI} {R : Env → World → Prop} {e : Env} {w w0 : World} {X : List Nat} {M : List Ent} {S : World → Prop}
theorem C.go {f n : Nat} {rs : List CR} {body : SC} {args : List Value} {e : Env} {Rp : Ending → World → Prop} (hc : compF P f = some ⟨n, rs, body⟩) (he : argsO 0 args = some e) (hn : Nat.ble args.length n = true)
    (h : SK P n [.code body] (Rt rs Rp) e w) : Calls P f args.toArray w Rp :=
  C.start hc (Nat.le_of_ble_eq_true hn) (by rw [argsO_eq he]; exact h)
/-- Pure. -/
theorem O.q {d : Nat} {s : SOp} {v : Value} {l : List St} (hq : Qt P (· = w) e s v) (h : SO P n l k R ((d, v) :: e) w) : SO P n (⟨some d, none, s⟩ :: l) k R e w := O.eff (Ef.quiet hq h)
theorem O.qt {d g : Nat} {b : Bool} {s : SOp} {v : Value} {l : List St} (hg : fnd e g = some (.bool b)) (hq : Qt P (· = w) e s v) (h : SO P n l k R ((d, v) :: e) w) : SO P n (⟨some d, some (g, b), s⟩ :: l) k R e w := O.take hg (by cases b <;> rfl) (Ef.quiet hq h)
/-- Reads. -/
theorem O.r {d : Nat} {s : SOp} {v : Value} {l : List St} (hA : At w0 X M w) (hq : Qt P (Has w0 X M) e s v) (h : SO P n l k R ((d, v) :: e) w) : SO P n (⟨some d, none, s⟩ :: l) k R e w := O.q (hq.weak (by rintro _ rfl; exact hA.has)) h
theorem O.rt {d g : Nat} {b : Bool} {s : SOp} {v : Value} {l : List St} (hg : fnd e g = some (.bool b)) (hA : At w0 X M w) (hq : Qt P (Has w0 X M) e s v) (h : SO P n l k R ((d, v) :: e) w) : SO P n (⟨some d, some (g, b), s⟩ :: l) k R e w := O.qt hg (hq.weak (by rintro _ rfl; exact hA.has)) h
/-- Hangs on what is not so. -/
theorem O.skT {d g : Nat} {s : SOp} {l : List St} (hg : fnd e g = some (.bool true)) (h : SO P n l k R ((d, undef) :: e) w) : SO P n (⟨some d, some (g, false), s⟩ :: l) k R e w := O.skip hg rfl h
theorem O.skF {d g : Nat} {s : SOp} {l : List St} (hg : fnd e g = some (.bool false)) (h : SO P n l k R ((d, undef) :: e) w) : SO P n (⟨some d, some (g, true), s⟩ :: l) k R e w := O.skip hg rfl h
theorem le_bool {g : Nat} {b : Bool} (hg : fnd e g = some (.bool b)) : Le ((g, .bool b) :: e) e := Le.cons hg (fun _ _ h => h)
/-- A test parts the ways. -/
theorem O.split {d g : Nat} {b want : Bool} {s : SOp} {l : List St} (hg : fnd e g = some (.bool b)) (h1 : b = true → SO P n (⟨some d, some (g, want), s⟩ :: l) k R ((g, .bool true) :: e) w) (h2 : b = false → SO P n (⟨some d, some (g, want), s⟩ :: l) k R ((g, .bool false) :: e) w) : SO P n (⟨some d, some (g, want), s⟩ :: l) k R e w := by
  cases b
  · exact O.env (le_bool hg) (h2 rfl)
  · exact O.env (le_bool hg) (h1 rfl)
/-- A call. -/
theorem O.c {d : Nat} {f : Nat} {args : List Od} {vs : List Value} {l : List St} (ha : evs e args = some vs) (h : Calls P f vs.toArray w (RV fun v w' => SO P n l k R ((d, v) :: e) w')) : SO P n (⟨some d, none, .call f args⟩ :: l) k R e w := O.eff (Ef.call ha h)
theorem O.cn {f : Nat} {args : List Od} {vs : List Value} {l : List St} (ha : evs e args = some vs) (h : Calls P f vs.toArray w (RV fun _ w' => SO P n l k R e w')) : SO P n (⟨none, none, .call f args⟩ :: l) k R e w := O.eff (Ef.call ha h)
theorem O.ct {d : Option Nat} {f g : Nat} {b : Bool} {args : List Od} {vs : List Value} {l : List St} (hg : fnd e g = some (.bool b)) (ha : evs e args = some vs) (h : Calls P f vs.toArray w (RV fun v w' => SO P n l k R (putE d v e) w')) : SO P n (⟨d, some (g, b), .call f args⟩ :: l) k R e w := O.take hg (by cases b <;> rfl) (Ef.call ha h)
/-- A variable in memory. -/
theorem O.box {d t : Nat} {x : Od} {v : Value} {cs : List Value} {l : List St} (hA : At w0 X M w) (hx : ev e x = some v) (hv : cellsV v = some cs) (h : ∀ b w', At w0 X (bx b t cs :: M) w' → SO P n l k R ((d, .pointer (some ⟨b, 0, none⟩)) :: e) w') : SO P n (⟨some d, none, .box t x⟩ :: l) k R e w :=
  O.eff (Ef.box hx hv (h _ _ (hA.alloc cs t)))
theorem O.new {d t : Nat} {cs : List Value} {l : List St} (hA : At w0 X M w) (h : ∀ b w', At w0 X (bx b t cs :: M) w' → SO P n l k R ((d, .pointer (some ⟨b, 0, none⟩)) :: e) w') : SO P n (⟨some d, none, .new t cs⟩ :: l) k R e w :=
  O.eff (Ef.new (h _ _ (hA.alloc cs t)))
theorem O.bsl {d t len sz : Nat} {cells r : List Value} {parts : List (Nat × Nat × Od)} {vs : List (Nat × Nat × Value)} {l : List St} (hA : At w0 X M w) (h1 : evParts e parts = some vs) (h2 : fillL cells vs = some r)
    (h : ∀ b w', At w0 X (bx b t r :: M) w' → SO P n l k R ((d, .slice (some ⟨b, 0, none⟩) len len) :: e) w') : SO P n (⟨some d, none, .bsl t len sz cells parts⟩ :: l) k R e w :=
  O.eff (Ef.bsl h1 h2 (h _ _ (hA.alloc r t)))
theorem setCells_bx {b t : Nat} : ∀ {vs : List Value} {o : Nat} {cs r : List Value} {w : World}, w.heap[b]? = some (.cells ⟨cs⟩ t (0, 0)) → putAt cs o vs = some r → (w.setCells b o vs).heap[b]? = some (.cells ⟨r⟩ t (0, 0)) := by
  have key : ∀ (vs : List Value) (o : Nat) (cs : List Value) (w : World), w.heap[b]? = some (.cells ⟨cs⟩ t (0, 0)) → o + vs.length ≤ cs.length → (w.setCells b o vs).heap[b]? = some (.cells ⟨cs.take o ++ vs ++ cs.drop (o + vs.length)⟩ t (0, 0)) := by
    intro vs
    induction vs with
    | nil => intro o cs w h hl; simpa [World.setCells] using h
    | cons v vs ih =>
      intro o cs w h hl
      simp only [List.length_cons] at hl
      have h1 := heap_setCell_same w b o ⟨cs⟩ t v h
      rw [List.setIfInBounds_toArray] at h1
      have h2 := ih (o + 1) (cs.set o v) (w.setCell ⟨b, o, none⟩ v) h1 (by simp; omega)
      unfold World.setCells
      rw [h2]
      have e1 : (cs.set o v).take (o + 1) = cs.take o ++ [v] := by
        rw [List.take_succ_eq_append_getElem (by simp; omega), List.getElem_set_self, List.take_set_of_le (by omega)]
      have e2 : (cs.set o v).drop (o + 1 + vs.length) = cs.drop (o + (vs.length + 1)) := by
        rw [List.drop_set_of_lt (by omega)]
        congr 1; omega
      rw [e1, e2]
      simp
  intro vs o cs r w h hp
  obtain ⟨h1, rfl⟩ := putAt_eq hp
  exact key vs o cs w h h1
theorem setCells_grown (b : Nat) : ∀ (vs : List Value) (o : Nat) (w : World), w.grownBy (w.setCells b o vs) (some b)
  | [], o, w => ⟨rfl, rfl, rfl, Nat.le_refl _, fun _ _ _ => rfl⟩
  | v :: vs, o, w => by
    have h := setCells_grown b vs (o + 1) (w.setCell ⟨b, o, none⟩ v)
    refine ⟨h.os, h.tape, h.output, ?_, fun j hj hne => ?_⟩
    · have := h.size
      unfold World.setCells
      simpa using this
    · unfold World.setCells
      rw [h.block j (by simpa using hj) hne, heap_setCell_other _ _ _ _ (fun e1 => hne (by rw [e1]))]
/-- All are single cells. -/
def oneL : List Value → Bool
  | [] => true
  | v :: vs => v.oneCell' && oneL vs
theorem oneL_spec : ∀ {l : List Value}, oneL l = true → ∀ u ∈ l, u.oneCell' = true
  | [], _, u, hu => by cases hu
  | v :: vs, h, u, hu => by
    simp only [oneL, Bool.and_eq_true] at h
    rcases List.mem_cons.1 hu with rfl | hu
    · exact h.1
    · exact oneL_spec h.2 u hu
def lenIs : List Value → Nat → Bool
  | [], 0 => true
  | _ :: r, n + 1 => lenIs r n
  | _, _ => false
theorem lenIs_spec : ∀ {l : List Value} {n : Nat}, lenIs l n = true → l.length = n
  | [], 0, _ => rfl
  | [], n + 1, h => by simp [lenIs] at h
  | _ :: r, 0, h => by simp [lenIs] at h
  | _ :: r, n + 1, h => by simp [lenIs_spec (l := r) (n := n) h]
/-- A store into a variable of the call's own. -/
theorem Ef.stBx {m : Nat} {x y : Od} {b o t i : Nat} {v : Value} {vs cs r : List Value} {M' : List Ent} {K : Value → World → Prop} (hA : At w0 X M w) (hx : ev e x = some (.pointer (some ⟨b, o, none⟩))) (hi : nthE M i = some (bx b t cs)) (hy : ev e y = some v) (hv : cellsV v = some vs) (hl : lenIs vs m = true) (h1 : oneL vs = true)
    (hp : putAt cs o vs = some r) (hM : setE M i (bx b t r) = some M') (h : ∀ w', At w0 X M' w' → K undef w') : Ef P e (.st m x y) w K := by
  have hb : w.heap[b]? = some (.cells ⟨cs⟩ t (0, 0)) := hA.nth hi
  obtain ⟨hlen, hr⟩ := putAt_eq hp
  refine Ef.st hx hy hv (lenIs_spec hl) (fun j hj => ⟨?_, frozen_of_row w b (o + j) ⟨cs⟩ t hb⟩) (oneL_spec h1) (h _ (hA.set hi hM (setCells_grown b vs o w) (bx_loc _ _ _) (setCells_bx hb hp) fun c hc => ?_))
  · rw [cell_of_row w b (o + j) ⟨cs⟩ t _ hb]
    have : o + j < cs.length := by omega
    simp [this]
  · cases hc
    refine ⟨?_, .inl rfl⟩
    have h2 := (setCells_grown b vs o w).size
    have h3 := hA.lt (bx b t cs) (List.mem_of_getElem? (by rw [← nthE_eq]; exact hi)) b rfl
    omega
theorem O.st {m : Nat} {x y : Od} {b o t i : Nat} {v : Value} {vs cs r : List Value} {M' : List Ent} {l : List St} (hA : At w0 X M w) (hx : ev e x = some (.pointer (some ⟨b, o, none⟩))) (hi : nthE M i = some (bx b t cs)) (hy : ev e y = some v) (hv : cellsV v = some vs) (hl : lenIs vs m = true) (h1 : oneL vs = true)
    (hp : putAt cs o vs = some r) (hM : setE M i (bx b t r) = some M') (h : ∀ w', At w0 X M' w' → SO P n l k R e w') : SO P n (⟨none, none, .st m x y⟩ :: l) k R e w := O.eff (Ef.stBx hA hx hi hy hv hl h1 hp hM h)
/-- Ways that a test leaves open. -/
theorem K.split {c : Od} {b : Bool} {x y : SC} (hc : ev e c = some (.bool b)) (h1 : b = true → SK P n (.code x :: k) R e w) (h2 : b = false → SK P n (.code y :: k) R e w) : SK P n (.code (.cond c x y) :: k) R e w := K.cond hc h1 h2
theorem K.condTh {c : Od} {b : Bool} {x y : SC} (hc : ev e c = some (.bool b)) (hb : b = true) (h1 : SK P n (.code x :: k) R e w) : SK P n (.code (.cond c x y) :: k) R e w := by subst hb; exact K.condT hc h1
theorem K.condFh {c : Od} {b : Bool} {x y : SC} (hc : ev e c = some (.bool b)) (hb : b = false) (h1 : SK P n (.code y :: k) R e w) : SK P n (.code (.cond c x y) :: k) R e w := by subst hb; exact K.condF hc h1
theorem O.knT {d : Option Nat} {g : Nat} {b want : Bool} {s : SOp} {l : List St} (hg : fnd e g = some (.bool b)) (hb : b = true) (h1 : SO P n (⟨d, some (g, want), s⟩ :: l) k R ((g, .bool true) :: e) w) : SO P n (⟨d, some (g, want), s⟩ :: l) k R e w := O.env (le_bool (by rw [hg, hb])) h1
theorem O.knF {d : Option Nat} {g : Nat} {b want : Bool} {s : SOp} {l : List St} (hg : fnd e g = some (.bool b)) (hb : b = false) (h1 : SO P n (⟨d, some (g, want), s⟩ :: l) k R ((g, .bool false) :: e) w) : SO P n (⟨d, some (g, want), s⟩ :: l) k R e w := O.env (le_bool (by rw [hg, hb])) h1
theorem Qt.bi {op : BinOp} {x y : Od} {a b z : Int} (hx : ev e x = some (.int .i64 a)) (hy : ev e y = some (.int .i64 b)) (h : binV op (.int .i64 a) (.int .i64 b) = some (.int .i64 (IntKind.i64.wrap z))) (hz : -9223372036854775808 ≤ z ∧ z ≤ 9223372036854775807) : Qt P S e (.bin op x y) (.int .i64 z) :=
  Qt.pure (by simp only [pv, hx, hy, Option.bind_some, h, wrap_i64 z hz])
theorem Qt.bu {op : BinOp} {x y : Od} {a b z : Int} (hx : ev e x = some (.int .u64 a)) (hy : ev e y = some (.int .u64 b)) (h : binV op (.int .u64 a) (.int .u64 b) = some (.int .u64 (IntKind.u64.wrap z))) (hz : 0 ≤ z ∧ z ≤ 18446744073709551615) : Qt P S e (.bin op x y) (.int .u64 z) :=
  Qt.pure (by simp only [pv, hx, hy, Option.bind_some, h, wrap_u64 z hz])
theorem Qt.ci {x : Od} {kk : IntKind} {z : Int} (hx : ev e x = some (.int kk z)) (hz : -9223372036854775808 ≤ z ∧ z ≤ 9223372036854775807) : Qt P S e (.conv .i64 x) (.int .i64 z) :=
  Qt.pure (by simp only [pv, hx, wrap_i64 z hz])
theorem Qt.cu {x : Od} {kk : IntKind} {z : Int} (hx : ev e x = some (.int kk z)) (hz : 0 ≤ z ∧ z ≤ 18446744073709551615) : Qt P S e (.conv .u64 x) (.int .u64 z) :=
  Qt.pure (by simp only [pv, hx, wrap_u64 z hz])
theorem Qt.cb {x : Od} {kk : IntKind} {z : Int} (hx : ev e x = some (.int kk z)) : Qt P S e (.conv .u8 x) (.int .u8 (z % 256)) :=
  Qt.pure (by simp only [pv, hx, wrap_u8_any z])
/-- What a step hangs on is so. -/
theorem O.g {d : Option Nat} {g : Nat} {b : Bool} {s : SOp} {l : List St} (hg : fnd e g = some (.bool b)) (h : SO P n (⟨d, none, s⟩ :: l) k R e w) : SO P n (⟨d, some (g, b), s⟩ :: l) k R e w := fun ops rest hc a hf => by
  obtain ⟨o, r, rfl, h1, h2⟩ := cSteps_cons hc
  obtain ⟨c1, c2, c3, c4⟩ := cStep_some h1
  dsimp only at c1 c2 c3 c4
  have hw := wanted_of c2 hf hg
  have hw2 : Region.wanted o (yielded ops a.tmps) = true := by rw [hw]; cases b <;> rfl
  have hd : dOk n d = true := by
    cases d with
    | none => rfl
    | some d => exact Nat.ble_eq_true_of_le (c4 d rfl)
  have := h ops ({ o with guard := none } :: r) (by simp [cSteps, cStep, c1, cGuard, hd, h2, c3]) a hf
  unfold wpList at this ⊢
  rw [if_pos hw2]
  rw [if_pos (by simp [Region.wanted])] at this
  exact this
end
end Go.Proofs.Ytmajepinbldneaa
