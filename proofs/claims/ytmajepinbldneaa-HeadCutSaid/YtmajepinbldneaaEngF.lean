/- The plain form of code, and the moves of a walk over it. -/
import Derived.Test.YtmajepinbldneaaEngE
import Derived.Deep.LoopGhost
import Derived.StillTail
namespace Go.Proofs.Ytmajepinbldneaa
set_option linter.unusedVariables false
set_option linter.unusedSimpArgs false
open Go.RowKit
/-- A step: where its value goes, what it hangs on, what it does. -/
structure St where
  d : Option Nat
  g : Option (Nat × Bool)
  s : SOp
/-- The orders that may come up. -/
inductive DT where
  | nil
  | quiet (s : St) (t : DT)
  | eff (s : St) (t alt : DT)
  | none
inductive SC where
  | skip
  | ops (l : List St)
  | draw (t : DT)
  | dtl (h t : List St)
  | seq (a b : SC)
  | cond (c : Od) (x y : SC)
  | block (id : Nat) (b : SC)
  | loop (b : SC)
  | exit (id : Nat)
  | ret
  | bad
def dOk (n : Nat) : Option Nat → Bool
  | none => true
  | some d => Nat.blt d n
def cGuard (ops : Array Oper) : Option (Nat × Bool) → Option (Option (Nat × Bool))
  | none => some none
  | some (j, b) => ((ops[j]?).bind (·.dst)).map fun d => some (d, b)
def cStep (P : Program) (n : Nat) (ops : Array Oper) (o : Oper) : Option St :=
  (cOp P o.op).bind fun s => (cGuard ops o.guard).bind fun g => bif dOk n o.dst then some ⟨o.dst, g, s⟩ else none
def cSteps (P : Program) (n : Nat) (ops : Array Oper) : List Oper → Option (List St)
  | [] => some []
  | o :: r => (cStep P n ops o).bind fun s => (cSteps P n ops r).bind fun l => some (s :: l)
def isQuiet : SOp → Bool
  | .box .. | .new .. | .st .. | .bsl .. | .mks .. | .app .. | .call .. | .callv .. | .bad => false
  | _ => true
def quietAt (P : Program) (ops : Array Oper) (i : Nat) : Bool := match ops[i]? with
  | some o => (match cOp P o.op with
    | some s => isQuiet s
    | none => false)
  | none => false
def buildT (P : Program) (n : Nat) (ops : Array Oper) : Nat → Array Bool → Option DT
  | 0, listed => match Region.ready .any ops listed with
    | [] => some .nil
    | _ => none
  | f + 1, listed => match Region.ready .any ops listed with
    | [] => some .nil
    | r :: rs => match (r :: rs).find? (fun i => quietAt P ops i && Region.free .any ops listed i) with
      | some i => (ops[i]?).bind fun o => (cStep P n ops o).bind fun s => (buildT P n ops f (listed.setIfInBounds i true)).bind fun t => some (.quiet s t)
      | none => (r :: rs).foldr (fun i acc => (ops[i]?).bind fun o => (cStep P n ops o).bind fun s => (buildT P n ops f (listed.setIfInBounds i true)).bind fun t => acc.bind fun u => some (.eff s t u)) (some .none)
def quietN (P : Program) : List Oper → Nat
  | [] => 0
  | o :: r => match cOp P o.op with
    | some s => bif isQuiet s then quietN P r + 1 else 0
    | none => 0
/-- From where on a region that draws has but one order: what comes before is quiet. -/
def tailAt (P : Program) (ops : Array Oper) : Option Nat :=
  let q := quietN P ops.toList
  bif Nat.beq q ops.size then (bif Region.lexB .any ops then some ops.size else none)
  else (List.range (q + 1)).reverse.find? fun n => Region.lexTailB .any ops n
/-- The plain form of code. -/
def comp (P : Program) (n : Nat) : Code → Option SC
  | .skip => some .skip
  | .region _ ops false => (cSteps P n ops ops.toList).map .ops
  | .region _ ops true => bif Region.noSelect ops && P.follows .mixedOrders then (match tailAt P ops with
    | some m => (cSteps P n ops ops.toList).map fun l => .dtl (l.take m) (l.drop m)
    | none => (buildT P n ops ops.size (Array.replicate ops.size false)).map .draw) else none
  | .seq a b => (comp P n a).bind fun x => (comp P n b).bind fun y => some (.seq x y)
  | .cond c a b => (cOd c).bind fun c => (comp P n a).bind fun x => (comp P n b).bind fun y => some (.cond c x y)
  | .block id b => (comp P n b).map (.block id)
  | .loop b => (comp P n b).map .loop
  | .exit id => some (.exit id)
  | .ret => some .ret
  | _ => some .bad
def CInv (P : Program) (n : Nat) : SC → Code → Prop
  | .skip, x => x = .skip
  | .ops l, x => ∃ id ops, x = .region id ops false ∧ cSteps P n ops ops.toList = some l
  | .draw t, x => ∃ id ops, x = .region id ops true ∧ Region.noSelect ops = true ∧ P.follows .mixedOrders = true ∧ buildT P n ops ops.size (Array.replicate ops.size false) = some t
  | .dtl h t, x => ∃ id ops m l, x = .region id ops true ∧ P.follows .mixedOrders = true ∧ ((m = ops.size ∧ Region.lexB .any ops = true) ∨ Region.lexTailB .any ops m = true) ∧ cSteps P n ops ops.toList = some l ∧ h = l.take m ∧ t = l.drop m
  | .seq a b, x => ∃ ca cb, x = .seq ca cb ∧ comp P n ca = some a ∧ comp P n cb = some b
  | .cond c a b, x => ∃ cc ca cb, x = .cond cc ca cb ∧ cOd cc = some c ∧ comp P n ca = some a ∧ comp P n cb = some b
  | .block id b, x => ∃ cb, x = .block id cb ∧ comp P n cb = some b
  | .loop b, x => ∃ cb, x = .loop cb ∧ comp P n cb = some b
  | .exit id, x => x = .exit id
  | .ret, x => x = .ret
  | .bad, _ => True
theorem comp_inv {P : Program} {n : Nat} {code : Code} {c : SC} (h : comp P n code = some c) : CInv P n c code := by
  cases code with
  | region id ops d =>
    cases d
    · simp only [comp, Option.map_eq_some_iff] at h
      obtain ⟨l, h1, rfl⟩ := h
      exact ⟨id, ops, rfl, h1⟩
    · simp only [comp] at h
      cases hb : (Region.noSelect ops && P.follows .mixedOrders)
      · rw [hb] at h; cases h
      · rw [hb] at h
        simp only [cond_true] at h
        simp only [Bool.and_eq_true] at hb
        cases ht : tailAt P ops with
        | none =>
          rw [ht] at h
          simp only [Option.map_eq_some_iff] at h
          obtain ⟨t, h1, rfl⟩ := h
          exact ⟨id, ops, rfl, hb.1, hb.2, h1⟩
        | some m =>
          rw [ht] at h
          simp only [Option.map_eq_some_iff] at h
          obtain ⟨l, h1, rfl⟩ := h
          refine ⟨id, ops, m, l, rfl, hb.2, ?_, h1, rfl, rfl⟩
          unfold tailAt at ht
          simp only at ht
          cases hq : Nat.beq (quietN P ops.toList) ops.size
          · rw [hq] at ht
            simp only [cond_false] at ht
            exact .inr (by simpa using List.find?_some ht)
          · rw [hq] at ht
            simp only [cond_true] at ht
            cases hx : Region.lexB .any ops
            · rw [hx] at ht; cases ht
            · rw [hx] at ht; cases ht; exact .inl ⟨rfl, rfl⟩
  | skip => simp [comp] at h; subst h; exact rfl
  | seq a b =>
    simp only [comp, Option.bind_eq_some_iff, Option.some.injEq] at h
    obtain ⟨x, h1, y, h2, rfl⟩ := h
    exact ⟨a, b, rfl, h1, h2⟩
  | cond c a b =>
    simp only [comp, Option.bind_eq_some_iff, Option.some.injEq] at h
    obtain ⟨z, h0, x, h1, y, h2, rfl⟩ := h
    exact ⟨c, a, b, rfl, h0, h1, h2⟩
  | block id b =>
    simp only [comp, Option.map_eq_some_iff] at h
    obtain ⟨x, h1, rfl⟩ := h
    exact ⟨b, rfl, h1⟩
  | loop b =>
    simp only [comp, Option.map_eq_some_iff] at h
    obtain ⟨x, h1, rfl⟩ := h
    exact ⟨b, rfl, h1⟩
  | exit id => simp [comp] at h; subst h; exact rfl
  | ret => simp [comp] at h; subst h; exact rfl
  | _ => simp [comp] at h; subst h; exact trivial
/-- No panic is let. -/
def lift (n : Nat) (Q : Exit → Env → World → Prop) (ex : Exit) (a : Act) (w : World) : Prop := (∀ c, ex ≠ .panic c) ∧ ∃ e, Q ex e w ∧ Fits n e a
def SW (P : Program) (n : Nat) (c : SC) (Q : Exit → Env → World → Prop) (e : Env) (w : World) : Prop := ∀ code, comp P n code = some c → ∀ a, Fits n e a → code.wp P (lift n Q) a w
inductive KI where
  | code (c : SC)
  | blk (id : Nat)
  | lp (I : Env → World → Prop)
def post (P : Program) (n : Nat) (R : Env → World → Prop) : List KI → Exit → Env → World → Prop
  | [], ex, e, w => (match ex with | .normal => True | .ret => True | _ => False) ∧ R e w
  | .code c :: k, ex, e, w => match ex with
    | .normal => SW P n c (post P n R k) e w
    | ex => post P n R k ex e w
  | .blk id :: k, ex, e, w => match ex with
    | .exit id' => if id' = id then post P n R k .normal e w else post P n R k (.exit id') e w
    | ex => post P n R k ex e w
  | .lp I :: k, ex, e, w => match ex with
    | .normal => I e w
    | ex => post P n R k ex e w
/-- What is still to be done is done, and meets R. -/
def SK (P : Program) (n : Nat) (k : List KI) (R : Env → World → Prop) (e : Env) (w : World) : Prop := post P n R k .normal e w
def SO (P : Program) (n : Nat) (l : List St) (k : List KI) (R : Env → World → Prop) (e : Env) (w : World) : Prop :=
  ∀ ops rest, cSteps P n ops rest = some l → ∀ a, Fits n e a → wpList P ops (lift n (post P n R k)) rest a w
section
variable {P : Program} {n : Nat} {k : List KI} {R : Env → World → Prop} {e : Env} {w : World}
theorem K.nil (h : R e w) : SK P n [] R e w := ⟨trivial, h⟩
theorem K.skip (h : SK P n k R e w) : SK P n (.code .skip :: k) R e w := fun code hc a hf => by
  cases comp_inv hc
  exact wp_skip ⟨fun _ h => (by cases h), e, h, hf⟩
theorem K.seq {x y : SC} (h : SK P n (.code x :: .code y :: k) R e w) : SK P n (.code (.seq x y) :: k) R e w := fun code hc a hf => by
  obtain ⟨a1, b1, rfl, h1, h2⟩ := comp_inv hc
  refine wp_seq (wp_mono (h a1 h1 a hf) ?_)
  rintro ex a' w' ⟨hp, e', hq, hf'⟩
  cases ex with
  | normal => exact hq b1 h2 a' hf'
  | panic c => exact absurd rfl (hp c)
  | _ => exact ⟨hp, e', hq, hf'⟩
theorem K.ops {l : List St} (h : SO P n l k R e w) : SK P n (.code (.ops l) :: k) R e w := fun code hc a hf => by
  obtain ⟨i, o, rfl, h1⟩ := comp_inv hc
  exact wp_region_list (h o o.toList h1 a hf)
theorem K.cond {c : Od} {b : Bool} {x y : SC} (hc : ev e c = some (.bool b)) (h1 : b = true → SK P n (.code x :: k) R e w) (h2 : b = false → SK P n (.code y :: k) R e w) : SK P n (.code (.cond c x y) :: k) R e w := fun code hcc a hf => by
  obtain ⟨c', a1, b1, rfl, h3, h4, h5⟩ := comp_inv hcc
  exact wp_cond_split (hf.ev h3 hc) (fun hb => h1 hb a1 h4 a hf) (fun hb => h2 hb b1 h5 a hf)
theorem K.condT {c : Od} {x y : SC} (hc : ev e c = some (.bool true)) (h1 : SK P n (.code x :: k) R e w) : SK P n (.code (.cond c x y) :: k) R e w := K.cond hc (fun _ => h1) (fun h => by cases h)
theorem K.condF {c : Od} {x y : SC} (hc : ev e c = some (.bool false)) (h1 : SK P n (.code y :: k) R e w) : SK P n (.code (.cond c x y) :: k) R e w := K.cond hc (fun h => by cases h) (fun _ => h1)
theorem K.block {id : Nat} {b : SC} (h : SK P n (.code b :: .blk id :: k) R e w) : SK P n (.code (.block id b) :: k) R e w := fun code hc a hf => by
  obtain ⟨b', rfl, h1⟩ := comp_inv hc
  refine wp_block (wp_mono (h b' h1 a hf) ?_)
  rintro ex a' w' ⟨hp, e', hq, hf'⟩
  cases ex with
  | panic c => exact absurd rfl (hp c)
  | exit id2 =>
    simp only [Exit.inBlock]
    simp only [post] at hq
    split
    · rename_i hid; rw [if_pos hid] at hq; exact ⟨fun _ h => (by cases h), e', hq, hf'⟩
    · rename_i hid; rw [if_neg hid] at hq; exact ⟨fun _ h => (by cases h), e', hq, hf'⟩
  | _ => exact ⟨hp, e', hq, hf'⟩
theorem K.blkend {id : Nat} (h : SK P n k R e w) : SK P n (.blk id :: k) R e w := h
theorem K.lpend {I : Env → World → Prop} (h : I e w) : SK P n (.lp I :: k) R e w := h
theorem post_ret (h : R e w) : ∀ k : List KI, post P n R k .ret e w
  | [] => ⟨trivial, h⟩
  | .code c :: k => post_ret h k
  | .blk id :: k => post_ret h k
  | .lp I :: k => post_ret h k
theorem K.ret (h : R e w) : SK P n (.code .ret :: k) R e w := fun code hc a hf => by
  cases comp_inv hc
  exact wp_ret ⟨fun _ h => (by cases h), e, post_ret h k, hf⟩
def popTo (id : Nat) : List KI → Option (List KI)
  | [] => none
  | .code _ :: k => popTo id k
  | .lp _ :: k => popTo id k
  | .blk id' :: k => bif Nat.beq id id' then some k else popTo id k
theorem post_exit {id : Nat} : ∀ {k k' : List KI}, popTo id k = some k' → SK P n k' R e w → post P n R k (.exit id) e w
  | [], k', h, _ => by simp [popTo] at h
  | .code _ :: k, k', h, hk => post_exit (k := k) (by simpa [popTo] using h) hk
  | .lp _ :: k, k', h, hk => post_exit (k := k) (by simpa [popTo] using h) hk
  | .blk id' :: k, k', h, hk => by
    simp only [popTo] at h
    simp only [post]
    cases hb : Nat.beq id id'
    · rw [hb] at h
      rw [if_neg (by intro e1; subst e1; simp at hb)]
      exact post_exit (k := k) h hk
    · rw [hb] at h
      cases h
      rw [if_pos (Nat.eq_of_beq_eq_true hb)]
      exact hk
theorem K.exit {id : Nat} {k' : List KI} (hp : popTo id k = some k') (h : SK P n k' R e w) : SK P n (.code (.exit id) :: k) R e w := fun code hc a hf => by
  cases comp_inv hc
  exact wp_exit ⟨fun _ h => (by cases h), e, post_exit hp h, hf⟩
theorem K.loop {X : Type} (E : X → Env) (I : X → World → Prop) (μ : X → Nat) {b : SC} (x0 : X) (hle : Le (E x0) e) (h0 : I x0 w)
    (round : ∀ x w, I x w → SK P n (.code b :: .lp (fun e' w' => ∃ x', Le (E x') e' ∧ I x' w' ∧ μ x' < μ x) :: k) R (E x) w) : SK P n (.code (.loop b) :: k) R e w := fun code hc a hf => by
  obtain ⟨b', rfl, h9⟩ := comp_inv hc
  refine wp_loop_ghost (fun m a w => ∃ x, μ x = m ∧ Fits n (E x) a ∧ I x w) (μ x0) ⟨x0, rfl, hle.fits hf, h0⟩ ?_
  rintro m a w ⟨x, rfl, hfx, hI⟩
  refine wp_mono (round x w hI b' h9 a hfx) ?_
  rintro ex a' w' ⟨hp, e', hq, hf'⟩
  cases ex with
  | panic c => exact absurd rfl (hp c)
  | normal =>
    obtain ⟨x', h1, h2, h3⟩ := hq
    exact ⟨μ x', h3, x', rfl, h1.fits hf', h2⟩
  | _ => exact ⟨hp, e', hq, hf'⟩
theorem K.env {e' : Env} (hle : Le e' e) (h : SK P n k R e' w) (hk : ∃ c k', k = .code c :: k') : SK P n k R e w := by
  obtain ⟨c, k', rfl⟩ := hk
  exact fun code hc a hf => h code hc a (hle.fits hf)
/-- Behind a piece of code all ways meet. -/
theorem K.cut {X : Type} (E : X → Env) (I : X → World → Prop) {c : SC} (h : SK P n (.code c :: .lp (fun e' w' => ∃ x, Le (E x) e' ∧ I x w') :: k) R e w) (h2 : ∀ x w, I x w → SK P n k R (E x) w) (hk : ∃ c k', k = .code c :: k') : SK P n (.code c :: k) R e w := fun code hc a hf => by
  refine wp_mono (h code hc a hf) ?_
  rintro ex a' w' ⟨hp, e', hq, hf'⟩
  cases ex with
  | panic c => exact absurd rfl (hp c)
  | normal =>
    obtain ⟨x, h1, h3⟩ := hq
    exact ⟨fun _ h => (by cases h), E x, h2 x w' h3, h1.fits hf'⟩
  | _ => exact ⟨hp, e', hq, hf'⟩
theorem O.nil (h : SK P n k R e w) : SO P n [] k R e w := fun ops rest hc a hf => by
  cases rest with
  | nil => exact ⟨fun _ h => (by cases h), e, h, hf⟩
  | cons o r =>
    simp only [cSteps, Option.bind_eq_some_iff] at hc
    obtain ⟨_, _, _, _, h⟩ := hc
    cases h
theorem cSteps_cons {ops : Array Oper} {rest : List Oper} {s : St} {l : List St} (h : cSteps P n ops rest = some (s :: l)) : ∃ o r, rest = o :: r ∧ cStep P n ops o = some s ∧ cSteps P n ops r = some l := by
  cases rest with
  | nil => simp [cSteps] at h
  | cons o r =>
    simp only [cSteps, Option.bind_eq_some_iff, Option.some.injEq, List.cons.injEq] at h
    obtain ⟨s', h1, l', h2, rfl, rfl⟩ := h
    exact ⟨o, r, rfl, h1, h2⟩
theorem cStep_some {ops : Array Oper} {o : Oper} {s : St} (h : cStep P n ops o = some s) : cOp P o.op = some s.s ∧ cGuard ops o.guard = some s.g ∧ o.dst = s.d ∧ ∀ j, s.d = some j → j < n := by
  simp only [cStep, Option.bind_eq_some_iff] at h
  obtain ⟨q, h1, g, h2, h3⟩ := h
  cases hd : dOk n o.dst
  · rw [hd] at h3; cases h3
  · rw [hd] at h3
    cases h3
    refine ⟨h1, h2, rfl, fun j hj => ?_⟩
    dsimp only at hj
    rw [hj] at hd
    exact Nat.le_of_ble_eq_true hd
theorem O.eff {d : Option Nat} {s : SOp} {l : List St} (h : Ef P e s w (fun v w' => SO P n l k R (putE d v e) w')) : SO P n (⟨d, none, s⟩ :: l) k R e w := fun ops rest hc a hf => by
  obtain ⟨o, r, rfl, h1, h2⟩ := cSteps_cons hc
  obtain ⟨c1, c2, c3, c4⟩ := cStep_some h1
  dsimp only at c1 c2 c3 c4
  have hg : o.guard = none := by
    cases hgd : o.guard with
    | none => rfl
    | some p =>
      rw [hgd] at c2
      obtain ⟨j, b⟩ := p
      simp only [cGuard, Option.map_eq_some_iff] at c2
      obtain ⟨_, _, h⟩ := c2
      cases h
  refine wpList_plain hg fun K' hK => h o n a K' _ c1 hf fun v w' hv => hK _ _ (hv ops r h2 _ ?_)
  rw [c3]
  exact hf.putE c4 v
theorem wanted_of {ops : Array Oper} {o : Oper} {g : Nat} {want b : Bool} {a : Act} (hc : cGuard ops o.guard = some (some (g, want))) (hf : Fits n e a) (hg : fnd e g = some (.bool b)) : Region.wanted o (yielded ops a.tmps) = (b == want) := by
  cases hgd : o.guard with
  | none => rw [hgd] at hc; simp [cGuard] at hc
  | some p =>
    obtain ⟨j, wt⟩ := p
    rw [hgd] at hc
    simp only [cGuard, Option.map_eq_some_iff, Option.some.injEq, Prod.mk.injEq] at hc
    obtain ⟨d, h1, rfl, rfl⟩ := hc
    simp only [Region.wanted, hgd, yielded, h1, Option.bind_some, hf.has d _ hg]
    cases b <;> cases wt <;> rfl
theorem O.skip {d g : Nat} {b want : Bool} {s : SOp} {l : List St} (hg : fnd e g = some (.bool b)) (hb : Bool.xor b want = true) (h : SO P n l k R ((d, undef) :: e) w) : SO P n (⟨some d, some (g, want), s⟩ :: l) k R e w := fun ops rest hc a hf => by
  obtain ⟨o, r, rfl, h1, h2⟩ := cSteps_cons hc
  obtain ⟨c1, c2, c3, c4⟩ := cStep_some h1
  dsimp only at c1 c2 c3 c4
  have hw := wanted_of c2 hf hg
  have hw2 : Region.wanted o (yielded ops a.tmps) = false := by rw [hw]; cases b <;> cases want <;> simp_all
  unfold wpList
  rw [if_neg (by simp [hw2])]
  rw [c3]
  exact h ops r h2 _ (hf.put (c4 d rfl) undef)
theorem O.take {d : Option Nat} {g : Nat} {b want : Bool} {s : SOp} {l : List St} (hg : fnd e g = some (.bool b)) (hb : Bool.xor b want = false) (h : Ef P e s w (fun v w' => SO P n l k R (putE d v e) w')) : SO P n (⟨d, some (g, want), s⟩ :: l) k R e w := fun ops rest hc a hf => by
  obtain ⟨o, r, rfl, h1, h2⟩ := cSteps_cons hc
  obtain ⟨c1, c2, c3, c4⟩ := cStep_some h1
  dsimp only at c1 c2 c3 c4
  have hw := wanted_of c2 hf hg
  have hw2 : Region.wanted o (yielded ops a.tmps) = true := by rw [hw]; cases b <;> cases want <;> simp_all
  refine wpList_step fun K' hK => ?_
  rw [if_pos hw2]
  refine h o n a K' _ c1 hf fun v w' hv => hK _ _ (hv ops r h2 _ ?_)
  rw [c3]
  exact hf.putE c4 v
theorem O.guard {d : Option Nat} {g : Nat} {b want : Bool} {s : SOp} {l : List St} (hg : fnd e g = some (.bool b)) (h1 : b = want → SO P n (⟨d, some (g, want), s⟩ :: l) k R e w) (h2 : b = (!want) → SO P n (⟨d, some (g, want), s⟩ :: l) k R e w) : SO P n (⟨d, some (g, want), s⟩ :: l) k R e w := by
  by_cases h : b = want
  · exact h1 h
  · exact h2 (by cases b <;> cases want <;> simp_all)
theorem O.env {e' : Env} {l : List St} (hle : Le e' e) (h : SO P n l k R e' w) : SO P n l k R e w := fun ops rest hc a hf => h ops rest hc a (hle.fits hf)
end
end Go.Proofs.Ytmajepinbldneaa
