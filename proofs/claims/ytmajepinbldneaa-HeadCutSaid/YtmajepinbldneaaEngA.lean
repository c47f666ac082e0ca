/- A plain form of the program's operations (types taken away), and what the quiet ones yield. -/
import Derived.Test.YtmajepinbldneaaOwn
import Derived.OrdersHeld
import Derived.Deep.MidRow
import Derived.Laws.MakeOwn
namespace Go.Proofs.Ytmajepinbldneaa
set_option linter.unusedVariables false
set_option linter.unusedSimpArgs false
open Go.RowKit

/-- An operand. -/
inductive Od where
  | t (n : Nat)
  | c (v : Value)
  | f (n : Nat)
/-- An operation, its types taken away. -/
inductive SOp where
  | mv (x : Od)
  | pick (c a b : Od)
  | un (op : UnOp) (x : Od)
  | bin (op : BinOp) (x y : Od)
  | eqv (t : Nat) (neg : Bool) (x y : Od)
  | eqb (neg : Bool) (x y : Od)
  | conv (k : IntKind) (x : Od)
  | str (x : Od)
  | ext (x : Od) (i : Nat)
  | fld (x : Od) (off n : Nat) (agg : Bool)
  | idx (x i : Od) (len sz : Nat) (agg : Bool)
  | bld (cells : List Value) (parts : List (Nat × Nat × Od))
  | len (x : Od)
  | lens (x : Od)
  | adr (x : Od) (off : Nat)
  | nck (x : Od)
  | at_ (x i : Od) (sz : Nat)
  | ata (x i : Od) (len sz : Nat)
  | ld (x : Od) (n : Nat) (agg : Bool)
  | slc (sz : Nat) (x : Od) (lo hi mx : Option Od)
  | slcA (sz n : Nat) (x : Od) (lo hi mx : Option Od)
  | mkf (fn : Fn) (first captured : List Od)
  | mm (isMax : Bool) (x y : Od)
  | box (t : Nat) (x : Od)
  | new (t : Nat) (cells : List Value)
  | st (n : Nat) (x v : Od)
  | bsl (t len sz : Nat) (cells : List Value) (parts : List (Nat × Nat × Od))
  | mks (t sz bytes : Nat) (zero : Value) (len cap : Od)
  | app (s e sz bytes : Nat) (zero : Value) (x y : Od)
  | call (f : Nat) (args : List Od)
  | callv (x : Od) (args : List Od)
  | bad

def cOd : Operand → Option Od
  | .tmp t => some (.t t)
  | .const v => some (.c v)
  | .func f => some (.f f)
  | .global _ => none
def cOds : List Operand → Option (List Od)
  | [] => some []
  | x :: r => (cOd x).bind fun y => (cOds r).bind fun ys => some (y :: ys)
def cOpt : Option Operand → Option (Option Od)
  | none => some none
  | some x => (cOd x).map some
def szOf (P : Program) (t : Nat) : Option Nat := (P.info? t).map (·.size)
def byOf (P : Program) (t : Nat) : Option Nat := (P.info? t).map (·.bytes)
def zeroOf (P : Program) (t : Nat) : Option Value := (P.info? t).bind (·.zero)
def isRowD : TypeDesc → Bool
  | .struct _ | .array _ _ => true
  | _ => false
def cParts (place : Nat → Option (Nat × Nat)) : List (Nat × Operand) → Option (List (Nat × Nat × Od))
  | [] => some []
  | (i, x) :: r => (place i).bind fun p => (cOd x).bind fun y => (cParts place r).bind fun ys => some ((p.1, p.2, y) :: ys)
def placesOf (P : Program) : List Field → Option (List (Nat × Nat))
  | [] => some []
  | f :: r => (szOf P f.type).bind fun s => (placesOf P r).bind fun ps => some ((f.offset, s) :: ps)
def isFunc (P : Program) (f : Nat) : Bool := match P.funcs[f]? with
  | some fn => fn.body.isSome && !(fn.name == "runtime.NumGoroutine")
  | none => false
def eqT (P : Program) (t : Nat) : Bool := match P.underlying t with
  | some (.struct _) | some (.array _ _) => !(P.eqGuardType P.depth t)
  | _ => false
def boolT (P : Program) (t : Nat) : Bool := match P.underlying t with
  | some .bool => true
  | _ => false
def intT (P : Program) (t : Nat) : Bool := match P.underlying t with
  | some (.int _) => true
  | some .string => true
  | _ => false

/-- The plain form of an operation. -/
def cOp (P : Program) : Op → Option SOp
  | .move x => (cOd x).map .mv
  | .assign x => (cOd x).map .mv
  | .pick c a b => (cOd c).bind fun c => (cOd a).bind fun a => (cOd b).bind fun b => some (.pick c a b)
  | .unOp op _ x => (cOd x).map (.un op)
  | .binOp op t x y _ => (cOd x).bind fun x => (cOd y).bind fun y =>
      match op with
      | .eql => if intT P t then some (.bin .eql x y) else if boolT P t then some (.eqb false x y) else if eqT P t then some (.eqv t false x y) else some .bad
      | .neq => if intT P t then some (.bin .neq x y) else if boolT P t then some (.eqb true x y) else if eqT P t then some (.eqv t true x y) else some .bad
      | op => some (.bin op x y)
  | .convert src dst x => (cOd x).bind fun x => match P.underlying src, P.underlying dst with
      | some (.int _), some (.int k) => some (.conv k x)
      | some (.slice e), some .string => (match P.underlying e with | some (.int .u8) => some (.str x) | _ => some .bad)
      | _, _ => some .bad
  | .extract x i => (cOd x).map fun x => .ext x i
  | .field t x i => (cOd x).bind fun x => match P.underlying t with
      | some (.struct fs) => (match fs[i]? with
        | some f => (szOf P f.type).bind fun n => (P.underlying f.type).bind fun d => some (.fld x f.offset n (isRowD d))
        | none => none)
      | _ => none
  | .index t x i => (cOd x).bind fun x => (cOd i).bind fun i => match P.underlying t with
      | some (.array len e) => (szOf P e).bind fun n => (P.underlying e).bind fun d => some (.idx x i len n (isRowD d))
      | _ => some .bad
  | .build t parts => (zeroOf P t).bind fun z => match P.underlying t with
      | some (.struct fs) => (placesOf P fs.toList).bind fun pl => (cParts (fun i => pl[i]?) parts.toList).map fun ps => .bld z.cells.toList ps
      | some (.array _ e) => (szOf P e).bind fun s => (cParts (fun i => some (i * s, s)) parts.toList).map fun ps => .bld z.cells.toList ps
      | _ => none
  | .fieldAddr t x i => (cOd x).bind fun x => match P.underlying t with
      | some (.struct fs) => (match fs[i]? with
        | some f => (szOf P f.type).bind fun n => if n = 0 then none else some (.adr x f.offset)
        | none => none)
      | _ => none
  | .nilCheck x => (cOd x).map .nck
  | .indexAddr t x i => (cOd x).bind fun x => (cOd i).bind fun i => match P.underlying t with
      | some (.slice e) => (szOf P e).map fun n => .at_ x i n
      | some (.array len e) => (szOf P e).map fun n => .ata x i len n
      | _ => none
  | .load t x => (cOd x).bind fun x => (szOf P t).bind fun n => (P.underlying t).bind fun d => some (.ld x n (isRowD d))
  | .slice t x lo hi mx => (cOd x).bind fun x => (cOpt lo).bind fun lo => (cOpt hi).bind fun hi => (cOpt mx).bind fun mx => match P.underlying t with
      | some (.slice e) => (szOf P e).map fun n => .slc n x lo hi mx
      | some (.array k e) => (szOf P e).map fun n => .slcA n k x lo hi mx
      | _ => some .bad
  | .makeFunc fn first captured => (cOds first.toList).bind fun a => (cOds captured.toList).bind fun b => some (.mkf fn a b)
  | .box t x => (cOd x).map (.box t)
  | .alloc t => (zeroOf P t).map fun z => .new t z.cells.toList
  | .store t x y => (cOd x).bind fun x => (cOd y).bind fun y => (szOf P t).map fun n => .st n x y
  | .buildSlice t len parts => match P.underlying t with
      | some (.slice e) => (szOf P e).bind fun s => (zeroOf P e).bind fun z => if len * s > 2 ^ 24 then none else
          (cParts (fun i => some (i * s, s)) parts.toList).map fun ps => .bsl e len s (if len * s = 0 then #[] else (Array.range (len * s)).map (z.cells[· % z.cells.size]!)).toList ps
      | _ => none
  | .makeSlice t l c => match P.underlying t with
      | some (.slice e) => (szOf P e).bind fun s => (byOf P e).bind fun b => (zeroOf P e).bind fun z => (cOd l).bind fun l => (cOd c).bind fun c => some (.mks t s b z l c)
      | _ => none
  | .call c => match c.callee with
      | .value (.func f) => if isFunc P f then (cOds c.args.toList).map fun a => .call f a else some .bad
      | .value x => (cOd x).bind fun x => (cOds c.args.toList).map fun a => .callv x a
      | .builtin .len => (match c.argTypes.toList, c.args.toList with
        | [t], [x] => (match P.underlying t with
          | some (.slice _) => (cOd x).map .len
          | some .string => (cOd x).map .lens
          | some (.array n _) => some (.mv (.c (.int .i64 n)))
          | _ => some .bad)
        | _, _ => some .bad)
      | .builtin .append => (match c.argTypes.toList, c.args.toList with
        | [t, t'], [x, y] => if t = t' then (match P.underlying t with
          | some (.slice e) => (szOf P e).bind fun s => (byOf P e).bind fun b => (zeroOf P e).bind fun z => (cOd x).bind fun x => (cOd y).bind fun y => some (.app t e s b z x y)
          | _ => none) else some .bad
        | _, _ => some .bad)
      | .builtin .min => (match c.args.toList with
        | [x, y] => (cOd x).bind fun x => (cOd y).bind fun y => some (.mm false x y)
        | _ => some .bad)
      | .builtin .max => (match c.args.toList with
        | [x, y] => (cOd x).bind fun x => (cOd y).bind fun y => some (.mm true x y)
        | _ => some .bad)
      | _ => some .bad
  | _ => some .bad

/-- What is known of the temporaries. -/
abbrev Env := List (Nat × Value)
def fnd : Env → Nat → Option Value
  | [], _ => none
  | (k, v) :: e, t => bif Nat.beq k t then some v else fnd e t
def ev (e : Env) : Od → Option Value
  | .t n => fnd e n
  | .c v => some v
  | .f n => some (.func (.func n) #[] #[])
def evs (e : Env) : List Od → Option (List Value)
  | [] => some []
  | x :: r => (ev e x).bind fun v => (evs e r).bind fun vs => some (v :: vs)
structure Fits (n : Nat) (e : Env) (a : Act) : Prop where
  size : a.tmps.size = n
  has : ∀ t v, fnd e t = some v → a.tmps[t]? = some v
  def_ : a.defers = []
theorem Fits.ev {n : Nat} {e : Env} {a : Act} (h : Fits n e a) {x : Operand} {y : Od} (hc : cOd x = some y) {v : Value} (hv : ev e y = some v) : a.eval x = v := by
  cases x with
  | tmp t => simp [cOd] at hc; subst hc; simp [Act.eval, h.has t v hv]
  | const c => simp [cOd] at hc; subst hc; simpa [Proofs.Ytmajepinbldneaa.ev, Act.eval] using hv
  | global g => simp [cOd] at hc
  | func f => simp [cOd] at hc; subst hc; simpa [Proofs.Ytmajepinbldneaa.ev, Act.eval] using hv
theorem Fits.evs {n : Nat} {e : Env} {a : Act} (h : Fits n e a) : ∀ {xs : List Operand} {ys : List Od}, cOds xs = some ys → ∀ {vs : List Value}, evs e ys = some vs → xs.map a.eval = vs
  | [], ys, hc, vs, hv => by simp [cOds] at hc; subst hc; simpa [Proofs.Ytmajepinbldneaa.evs] using hv
  | x :: r, ys, hc, vs, hv => by
    simp only [cOds, Option.bind_eq_some_iff, Option.some.injEq] at hc
    obtain ⟨y, h1, zs, h2, rfl⟩ := hc
    simp only [Proofs.Ytmajepinbldneaa.evs, Option.bind_eq_some_iff, Option.some.injEq] at hv
    obtain ⟨v, h3, us, h4, rfl⟩ := hv
    simp [h.ev h1 h3, h.evs h2 h4]
theorem fnd_cons_self (d : Nat) (v : Value) (e : Env) : fnd ((d, v) :: e) d = some v := by simp [fnd]
theorem fnd_cons (d t : Nat) (v : Value) (e : Env) : fnd ((d, v) :: e) t = if d = t then some v else fnd e t := by
  simp only [fnd]
  by_cases h : d = t
  · subst h; simp
  · rw [if_neg h]
    have : Nat.beq d t = false := by
      cases e1 : Nat.beq d t
      · rfl
      · exact absurd (Nat.eq_of_beq_eq_true e1) h
    rw [this]; rfl
theorem Fits.put {n : Nat} {e : Env} {a : Act} (h : Fits n e a) {d : Nat} (hd : d < n) (v : Value) : Fits n ((d, v) :: e) (a.put (some d) v) := by
  refine ⟨by simp [Act.put, h.size], fun t u hu => ?_, by simpa [Act.put] using h.def_⟩
  rw [fnd_cons] at hu
  simp only [Act.put, Array.getElem?_setIfInBounds]
  split at hu
  · rename_i e1
    subst e1
    rw [if_pos rfl, if_pos (by rw [h.size]; exact hd)]
    exact hu
  · rename_i e1
    rw [if_neg e1]
    exact h.has t u hu
def putE (d : Option Nat) (v : Value) (e : Env) : Env := match d with
  | some d => (d, v) :: e
  | none => e
theorem Fits.putE {n : Nat} {e : Env} {a : Act} (h : Fits n e a) {d : Option Nat} (hd : ∀ k, d = some k → k < n) (v : Value) : Fits n (putE d v e) (a.put d v) := by
  cases d with
  | none => exact h
  | some d => exact h.put (hd d rfl) v
/-- The environment says no more than another one. -/
def Le (e' e : Env) : Prop := ∀ t v, fnd e' t = some v → fnd e t = some v
theorem Le.fits {n : Nat} {e e' : Env} {a : Act} (h : Le e' e) (hf : Fits n e a) : Fits n e' a := ⟨hf.size, fun t v hv => hf.has t v (h t v hv), hf.def_⟩
theorem Le.nil (e : Env) : Le [] e := fun _ _ h => by simp [fnd] at h
theorem Le.cons {e e' : Env} {k : Nat} {v : Value} (h : fnd e k = some v) (h' : Le e' e) : Le ((k, v) :: e') e := fun t u hu => by
  rw [fnd_cons] at hu
  split at hu
  · rename_i e1; subst e1; rw [h]; exact hu
  · exact h' t u hu
/-- Cells put over cells. -/
def putAt : List Value → Nat → List Value → Option (List Value)
  | [], 0, [] => some []
  | [], _, _ => none
  | c :: cs, 0, [] => some (c :: cs)
  | c :: cs, 0, v :: vs => (putAt cs 0 vs).bind fun r => some (v :: r)
  | c :: cs, n + 1, vs => (putAt cs n vs).bind fun r => some (c :: r)
def takeL : Nat → List Value → Option (List Value)
  | 0, _ => some []
  | n + 1, [] => none
  | n + 1, x :: xs => (takeL n xs).bind fun r => some (x :: r)
/-- Cells from a place on. -/
def win (off n : Nat) : List Value → Option (List Value)
  | [] => match off, n with
    | 0, 0 => some []
    | _, _ => none
  | c :: cs => match off with
    | 0 => takeL n (c :: cs)
    | o + 1 => win o n cs
def cellsV : Value → Option (List Value)
  | .agg ⟨l⟩ => some l
  | .tuple _ => none
  | v => some [v]
theorem cellsV_eq {v : Value} {l : List Value} (h : cellsV v = some l) : v.cells = l.toArray := by
  cases v with
  | agg a => obtain ⟨l'⟩ := a; simp [cellsV] at h; subst h; rfl
  | tuple a => simp [cellsV] at h
  | _ => simp [cellsV] at h; subst h; rfl
theorem takeL_eq : ∀ {n : Nat} {xs l : List Value}, takeL n xs = some l → n ≤ xs.length ∧ l = xs.take n
  | 0, xs, l, h => by simp [takeL] at h; simp [h.symm]
  | n + 1, [], l, h => by simp [takeL] at h
  | n + 1, x :: xs, l, h => by
    simp only [takeL, Option.bind_eq_some_iff, Option.some.injEq] at h
    obtain ⟨r, h1, rfl⟩ := h
    obtain ⟨h2, rfl⟩ := takeL_eq h1
    simp; omega
theorem win_eq : ∀ {xs l : List Value} {off n : Nat}, win off n xs = some l → off + n ≤ xs.length ∧ l = (xs.drop off).take n
  | [], l, off, n, h => by
    unfold win at h
    split at h
    · simp at h; simp [h.symm]
    · cases h
  | c :: cs, l, 0, n, h => by
    obtain ⟨h1, h2⟩ := takeL_eq (xs := c :: cs) (by simpa [win] using h)
    exact ⟨by simpa using h1, by simpa using h2⟩
  | c :: cs, l, off + 1, n, h => by
    obtain ⟨h1, h2⟩ := win_eq (xs := cs) (by simpa [win] using h)
    exact ⟨by simp; omega, by simpa using h2⟩
theorem putAt_eq : ∀ {cs : List Value} {o : Nat} {vs r : List Value}, putAt cs o vs = some r → o + vs.length ≤ cs.length ∧ r = cs.take o ++ vs ++ cs.drop (o + vs.length)
  | [], 0, [], r, h => by simp [putAt] at h; subst h; simp
  | [], 0, v :: vs, r, h => by simp [putAt] at h
  | [], o + 1, vs, r, h => by simp [putAt] at h
  | c :: cs, 0, [], r, h => by simp [putAt] at h; subst h; simp
  | c :: cs, 0, v :: vs, r, h => by
    simp only [putAt, Option.bind_eq_some_iff, Option.some.injEq] at h
    obtain ⟨s, h1, rfl⟩ := h
    obtain ⟨h2, h3⟩ := putAt_eq h1
    exact ⟨by simp at h2 ⊢; omega, by simp [h3]⟩
  | c :: cs, o + 1, vs, r, h => by
    simp only [putAt, Option.bind_eq_some_iff, Option.some.injEq] at h
    obtain ⟨s, h1, rfl⟩ := h
    obtain ⟨h2, h3⟩ := putAt_eq h1
    have e2 : o + 1 + vs.length = (o + vs.length) + 1 := by omega
    exact ⟨by simp at h2 ⊢; omega, by simp [h3, e2]⟩
end Go.Proofs.Ytmajepinbldneaa
