/- What the quiet operations yield: the reckoning, and that it is right. -/
import Derived.Test.YtmajepinbldneaaEngA
import Derived.WideLaws
namespace Go.Proofs.Ytmajepinbldneaa
set_option linter.unusedVariables false
set_option linter.unusedSimpArgs false
open Go.RowKit
def shV (op : BinOp) (k : IntKind) (a b : Int) : Option Value := match op with
  | .shl => some (.int k (k.wrap (a * 2 ^ (min b.toNat k.bits))))
  | .shr => some (.int k (a / 2 ^ (min b.toNat k.bits)))
  | _ => none
def arV (op : BinOp) (k : IntKind) (a b : Int) : Option Value := match op with
  | .add => some (.int k (k.wrap (a + b)))
  | .sub => some (.int k (k.wrap (a - b)))
  | .mul => some (.int k (k.wrap (a * b)))
  | .quo => if b = 0 then none else some (.int k (k.wrap (a.tdiv b)))
  | .rem => if b = 0 then none else some (.int k (a.tmod b))
  | .and => some (.int k (bits .and k a b))
  | .or => some (.int k (bits .or k a b))
  | .xor => some (.int k (bits .xor k a b))
  | .andNot => some (.int k (bits .andNot k a b))
  | .eql => some (.bool (a == b))
  | .neq => some (.bool (a != b))
  | .lss => some (.bool (decide (a < b)))
  | .leq => some (.bool (decide (a ≤ b)))
  | .gtr => some (.bool (decide (b < a)))
  | .geq => some (.bool (decide (b ≤ a)))
  | _ => none
def isSh : BinOp → Bool
  | .shl | .shr => true
  | _ => false
def binV (op : BinOp) (x y : Value) : Option Value := match x, y with
  | .int k a, .int k' b => bif isSh op then (if b < 0 then none else shV op k a b) else (if k = k' then arV op k a b else none)
  | .string a, .string b => match op with
    | .eql => some (.bool (a.toList == b.toList))
    | .neq => some (.bool (!(a.toList == b.toList)))
    | _ => none
  | _, _ => none
section
variable {P : Program} (w : World)
theorem shV_run {op : BinOp} {k k' : IntKind} {a b : Int} {v : Value} (hb : ¬ b < 0) (h : shV op k a b = some v) : (Op.shift op k a k' b).run P w = .ok v w := by
  have hp : (0 : Int) ≤ 2 ^ (min b.toNat k.bits) := Int.pow_nonneg (by decide)
  cases op <;> simp [shV] at h <;> subst h <;> simp [Op.shift, hb, Int.fdiv_eq_ediv_of_nonneg _ hp]
theorem arV_run {op : BinOp} {k : IntKind} {t : TypeId} {a b : Int} {v : Value} (h : arV op k a b = some v) : (binOp op t (.int k a) (.int k b)).run P w = .ok v w := by
  cases op <;> simp [arV] at h
  case quo => obtain ⟨hb, rfl⟩ := h; simp [binOp, Op.intDiv, hb]
  case rem => obtain ⟨hb, rfl⟩ := h; simp [binOp, Op.intDiv, hb]
  all_goals (subst h; first | (simp [binOp, Op.intArith, Op.intCmp]; done) | (simp only [binOp_and, binOp_or, binOp_xor, binOp_andNot, intBits_and, intBits_or, intBits_xor, intBits_andNot]; rfl))
theorem binV_run {op : BinOp} {t : TypeId} {X Y : Operand} {x y v : Value} (h : binV op x y = some v) : (do eqGuard op t X Y x y; binOp op t x y).run P w = .ok v w := by
  unfold binV at h
  split at h
  · rename_i k a k' b
    rw [eqGuard_at_int, Sem.run_bind]
    simp only [Sem.run_pure, Result.andThen_ok]
    cases hs : isSh op
    · simp only [hs, cond_false] at h
      split at h
      · rename_i e; subst e; exact arV_run w h
      · cases h
    · simp only [hs, cond_true] at h
      split at h
      · cases h
      · rename_i hb
        cases op <;> simp [isSh] at hs
        · exact shV_run (k' := k') w hb h
        · exact shV_run (k' := k') w hb h
  · rename_i a b
    rw [eqGuard_at_string, Sem.run_bind]
    simp only [Sem.run_pure, Result.andThen_ok]
    cases op <;> simp at h <;> subst h <;> simp [binOp, Op.stringOp]
  · cases h
end
def unV (op : UnOp) (x : Value) : Option Value := match op, x with
  | .not, .bool b => some (.bool !b)
  | .neg, .int k n => some (.int k (k.wrap (0 - n)))
  | _, _ => none
def nthV : List Value → Nat → Option Value
  | [], _ => none
  | v :: _, 0 => some v
  | _ :: r, n + 1 => nthV r n
theorem nthV_eq : ∀ (l : List Value) (i : Nat), nthV l i = l[i]?
  | [], i => by simp [nthV]
  | v :: r, 0 => rfl
  | v :: r, i + 1 => by simpa [nthV] using nthV_eq r i
def partV (off n : Nat) (agg : Bool) (l : List Value) : Option Value := bif agg then (win off n l).bind fun r => some (.agg r.toArray) else nthV l off
def evParts (e : Env) : List (Nat × Nat × Od) → Option (List (Nat × Nat × Value))
  | [] => some []
  | (o, n, x) :: r => (ev e x).bind fun v => (evParts e r).bind fun vs => some ((o, n, v) :: vs)
def fillL (cs : List Value) : List (Nat × Nat × Value) → Option (List Value)
  | [] => some cs
  | (o, n, v) :: r => (cellsV v).bind fun vs => bif Nat.beq vs.length n then (putAt cs o vs).bind fun cs' => fillL cs' r else none
def ptr (b o : Nat) : Value := .pointer (some ⟨b, o, none⟩)
/-- What a plain operation yields. -/
def pv (e : Env) : SOp → Option Value
  | .mv x => ev e x
  | .pick c a b => match ev e c with
    | some (.bool p) => bif p then ev e a else ev e b
    | _ => none
  | .un op x => (ev e x).bind fun v => unV op v
  | .bin op x y => (ev e x).bind fun a => (ev e y).bind fun b => binV op a b
  | .eqb neg x y => match ev e x, ev e y with
    | some (.bool a), some (.bool b) => bif neg then some (.bool (!(a == b))) else some (.bool (a == b))
    | _, _ => none
  | .conv k x => match ev e x with
    | some (.int _ n) => some (.int k (k.wrap n))
    | _ => none
  | .ext x i => match ev e x with
    | some (.tuple ⟨l⟩) => nthV l i
    | _ => none
  | .fld x off n agg => match ev e x with
    | some (.agg ⟨l⟩) => partV off n agg l
    | _ => none
  | .idx x i len sz agg => match ev e x, ev e i with
    | some (.agg ⟨l⟩), some (.int _ (.ofNat j)) => bif Nat.blt j len then partV (j * sz) sz agg l else none
    | _, _ => none
  | .bld cells parts => (evParts e parts).bind fun ps => (fillL cells ps).bind fun r => some (.agg r.toArray)
  | .len x => match ev e x with
    | some (.slice _ n _) => some (.int .i64 n)
    | _ => none
  | .lens x => match ev e x with
    | some (.string s) => some (.int .i64 s.size)
    | _ => none
  | .adr x off => match ev e x with
    | some (.pointer (some ⟨b, o, none⟩)) => bif Nat.beq off 0 then some (.pointer (some ⟨b, o, none⟩)) else some (.pointer (some ⟨b, o + off, none⟩))
    | _ => none
  | .nck x => match ev e x with
    | some (.pointer (some a)) => some (.pointer (some a))
    | some (.func (.func f) a b) => some (.func (.func f) a b)
    | _ => none
  | .ata x i len sz => match ev e x, ev e i with
    | some (.pointer (some ⟨b, o, none⟩)), some (.int _ (.ofNat j)) => bif Nat.blt j len then some (.pointer (some ⟨b, o + j * sz, none⟩)) else none
    | _, _ => none
  | .mkf fn a b => (evs e a).bind fun xs => (evs e b).bind fun ys => some (.func fn xs.toArray ys.toArray)
  | .mm isMax x y => match ev e x, ev e y with
    | some (.int k a), some (.int _ b) => bif isMax then some (.int k (if a < b then b else a)) else some (.int k (if b < a then b else a))
    | _, _ => none
  | _ => none
/-- In every world of class S the operation yields v, and leaves the world as it is. -/
def Qt (P : Program) (S : World → Prop) (e : Env) (s : SOp) (v : Value) : Prop :=
  ∀ (o : Oper) (n : Nat) (a : Act) (w : World), cOp P o.op = some s → Fits n e a → S w → (execOp a.eval o).run P w = .ok (.value v) w
theorem Qt.weak {P : Program} {S S' : World → Prop} {e : Env} {s : SOp} {v : Value} (h : Qt P S e s v) (hS : ∀ w, S' w → S w) : Qt P S' e s v :=
  fun o n a w hc hf hw => h o n a w hc hf (hS w hw)
end Go.Proofs.Ytmajepinbldneaa
