/-
  Part 2 for the law: lemmas.
  Conditions: none.
-/
import Derived.Test.YtlfdfgokflhdbaaGreatExecReadsK1
set_option linter.unusedVariables false
set_option linter.unusedSimpArgs false
set_option linter.unusedSectionVars false
section
namespace Fw
open Go
inductive CT where
 | int (k : IntKind) | bool | str | ptr | slice | map | raw | addr
 deriving DecidableEq, Repr
@[reducible] def CT.den : CT → Type
 | .int _ => Int | .bool => Bool | .str => BA | .ptr => OA | .slice => OA × Nat × Nat | .map => Option Nat | .raw => Value | .addr => Addr
def CT.val : (c : CT) → c.den → Value
 | .int k, n => .int k n
 | .bool, b => .bool b
 | .str, s => .string s
 | .ptr, p => .pointer p
 | .slice, x => .slice x.1 x.2.1 x.2.2
 | .map, r => .map r
 | .raw, v => v
 | .addr, a => .pointer (some a)
def CT.kE : (c : CT) → Value → Option c.den
 | .int k, .int k' n => if k = k' then some n else none
 | .bool, .bool b => some b
 | .str, .string s => some s
 | .ptr, .pointer p => some p
 | .slice, .slice a n c => some (a, n, c)
 | .map, .map r => some r
 | .raw, v => some v
 | .addr, .pointer (some a) => some a
 | _, _ => none
theorem CT.FU {c : CT} {v : Value} {x : c.den} (h : c.kE v = some x) : c.val x = v := by
 cases c with
 | raw => exact (Option.some.inj h).symm
 | int k =>
  cases v <;> simp only [CT.kE] at h <;> try (cases h)
  split at h
  ·rename_i e; subst e; have h3 := Option.some.inj h; subst h3; (first | done | rfl)
  ·cases h
 | addr =>
  cases v with
  | pointer p => cases p <;> simp only [CT.kE] at h <;> first | (cases h; done) | (have h3 := Option.some.inj h; subst h3; (first | done | rfl))
  | _ => simp [CT.kE] at h
 | _ => cases v <;> simp only [CT.kE] at h <;> first | (cases h; done) | (have h3 := Option.some.inj h; subst h3; (first | done | rfl))
def CT.of : Value → CT
 | .int k _ => .int k | .bool _ => .bool | .string _ => .str | .pointer _ => .ptr | .slice _ _ _ => .slice | .map _ => .map | _ => .raw
@[reducible] def Den : List CT → Type
 | [] => Unit
 | c :: cs => c.den × Den cs
def vals : (cs : List CT) → Den cs → List Value
 | [], _ => []
 | c :: cs, x => c.val x.1 :: vals cs x.2
def ee : (cs : List CT) → List Value → Option (Den cs)
 | [], [] => some ()
 | c :: cs, v :: vs => match c.kE v, ee cs vs with
  | some x, some y => some (x, y)
  | _, _ => none
 | _, _ => none
theorem gE : ∀ {cs : List CT} {vs : List Value} {x : Den cs}, ee cs vs = some x → vals cs x = vs := by
 intro cs
 induction cs with
 | nil => intro vs x h; cases vs <;> simp [ee] at h; simp [vals]
 | cons c cs ih =>
  intro vs x h
  cases vs with
  | nil => simp [ee] at h
  | cons v vs =>
   simp only [ee] at h
   generalize h1 : c.kE v = a at h
   generalize h2 : ee cs vs = b at h
   cases a with
   | none => cases h
   | some a =>
    cases b with
    | none => cases h
    | some b =>
     have h3 := Option.some.inj h;rw [← h3];simp [vals, CT.FU h1, ih h2]
theorem lp : ∀ {cs : List CT} (x : Den cs), (vals cs x).length = cs.length := by
 intro cs
 induction cs with
 | nil => intro x; (first | done | rfl)
 | cons c cs ih => intro x; simp [vals, ih]
abbrev Shape := Bool × List CT
def Shape.mk (h : Shape) (x : Den h.2) : Value :=
 match h with
 | (true, cs) => .agg (vals cs x).toArray
 | (false, cs) => (vals cs x).headD undef
def nV (P : Program) (t : TypeId) : Bool := match P.underlying t with | some (.struct _) => true | some (.array _ _) => true | _ => false
def shapeOf (P : Program) (t : TypeId) : Option Shape :=
 match P.info? t with
 | some i => match i.zero with
  | some z => match P.underlying t with
   | some (.struct _) => if i.size = z.cells.size then some (true, z.cells.toList.map CT.of) else none
   | some (.array _ _) => if i.size = z.cells.size then some (true, z.cells.toList.map CT.of) else none
   | some (.tuple _) => none
   | some _ => if i.size = 1 then some (false, [CT.of z]) else none
   | none => none
  | none => none
 | none => none
def dJ (P : Program) (t : TypeId) : Option Nat := (P.info? t).map (·.size)
def dY (P : Program) (t : TypeId) : Nat := ((P.info? t).map (·.bytes)).getD 0
def ir (P : Program) (t : TypeId) : Option Value := (P.info? t).bind (·.zero)
@[reducible] def bR : List Shape → Type
 | [] => Unit
 | h :: hs => Den h.2 × bR hs
def Ii : (hs : List Shape) → bR hs → List Value
 | [], _ => []
 | h :: hs, x => h.mk x.1 :: Ii hs x.2
def Ao (P : Program) (t : TypeId) : Option (Bool × List Shape) :=
 match P.underlying t with
 | some (.tuple ts) => (ts.toList.mapM (shapeOf P)).map fun hs => (true, hs)
 | _ => (shapeOf P t).map fun h => (false, [h])
def gx (r : Bool × List Shape) (x : bR r.2) : Value :=
 match r with
 | (true, hs) => .tuple (Ii hs x).toArray
 | (false, hs) => (Ii hs x).headD undef
inductive AV where
 | t | f | v (x : Value) | r (x : Value)
def AV.val : AV → Value
 | .t => .bool true | .f => .bool false | .v x => x | .r x => x
def AV.ofConst : Value → AV
 | .bool true => .t
 | .bool false => .f
 | x => .v x
theorem AV.rU (x : Value) : (AV.ofConst x).val = x := by
 unfold AV.ofConst; split <;> rfl
def Shape.av (h : Shape) (x : Den h.2) : AV :=
 match h with
 | (false, [.raw]) => .r x.1
 | h => .v (Shape.mk h x)
theorem Shape.iV (h : Shape) (x : Den h.2) : (h.av x).val = h.mk x := by
 unfold Shape.av; split <;> rfl
def jk (r : Bool × List Shape) (x : bR r.2) : AV :=
 match r with
 | (false, [h]) => h.av x.1
 | r => .v (gx r x)
theorem qJ (r : Bool × List Shape) (x : bR r.2) : (jk r x).val = gx r x := by
 unfold jk; split
 ·simp [Shape.iV, gx, Ii]
 ·rfl
abbrev Fr := List (Option AV)
def Fr.av (fr : Fr) : Operand → Option AV
 | .tmp t => match fr[t]? with | some (some x) => some x | _ => none
 | .const v => some (.ofConst v)
 | .global g => some (.v (.pointer (some ⟨g, 0, none⟩)))
 | .func f => some (.v (.func (.func f) #[] #[]))
def Env := Operand → Option AV
def Env.av (ρ : Env) (x : Operand) : Option AV := ρ x
def Env.ev (ρ : Env) (x : Operand) : Option Value := (ρ x).map AV.val
def Env.eX (ρ : Env) (x : Operand) : Value := ((ρ x).map AV.val).getD undef
def Env.known (ρ : Env) (xs : List Operand) : Bool := xs.all fun x => (ρ x).isSome
def Fr.env (fr : Fr) : Env := fr.av
def Fr.put (fr : Fr) (d : Option Tmp) (x : Option AV) : Fr := match d with | some d => fr.set d x | none => fr
structure Fr.le (fr : Fr) (a : Act) : Prop where
 defers : a.defers = []
 size : fr.length ≤ a.tmps.size
 at_ : ∀ (t : Nat) (x : AV), fr[t]? = some (some x) → a.tmps[t]? = some x.val
def Env.le (ρ : Env) (a : Act) : Prop := ∀ x u, ρ x = some u → a.eval x = u.val
theorem Fr.le.env {fr : Fr} {a : Act} (h : fr.le a) : fr.env.le a := by
 intro x u e
 cases x with
 | tmp t =>
  simp only [Fr.env, Fr.av] at e
  split at e
  ·rename_i y hy
   simp at e; subst e;simp [Act.eval, h.at_ _ _ hy]
  ·simp at e
 | const v => simp [Fr.env, Fr.av] at e; subst e; simp [Act.eval, AV.rU]
 | global g => simp [Fr.env, Fr.av] at e; subst e; (first | done | rfl)
 | func f => simp [Fr.env, Fr.av] at e; subst e; (first | done | rfl)
theorem Env.le.av {ρ : Env} {a : Act} (h : ρ.le a) {x : Operand} {u : AV} (e : ρ.av x = some u) : a.eval x = u.val := h x u e
theorem Env.le.ev {ρ : Env} {a : Act} (h : ρ.le a) {x : Operand} {v : Value} (e : ρ.ev x = some v) : a.eval x = v := by
 simp only [Env.ev, Option.map_eq_some_iff] at e;obtain ⟨u, hu, rfl⟩ := e;exact h _ _ hu
theorem Env.le.eX {ρ : Env} {a : Act} (h : ρ.le a) {xs : List Operand} (e : ρ.known xs = true) : ∀ x ∈ xs, a.eval x = ρ.eX x := by
 intro x hx;have := List.all_eq_true.1 e x hx
 cases hu : ρ x with
 | none => simp [hu] at this
 | some u => rw [h _ _ hu]; simp [Env.eX, hu]
theorem Fr.le.put {fr : Fr} {a : Act} (h : fr.le a) (d : Option Tmp) {v : Value} {x : Option AV} (e : ∀ u : AV, x = some u → u.val = v) : (fr.put d x).le (a.put d v) := by
 cases d with
 | none => exact h
 | some d =>
  refine ⟨h.defers, ?_, ?_⟩
  ·simp [Fr.put, Act.put]; exact h.size
  ·intro t y ht;simp only [Fr.put] at ht;simp only [Act.put];rw [List.getElem?_set] at ht
   split at ht
   ·rename_i hd; subst hd
    split at ht
    ·rename_i hlt
     simp at ht;have := h.size;rw [Array.getElem?_setIfInBounds, if_pos rfl, if_pos (by omega), e _ ht]
    ·simp at ht
   ·rename_i hd
    rw [Array.getElem?_setIfInBounds_ne hd];exact h.at_ _ _ ht
theorem Fr.le.yE {fr : Fr} {a : Act} (h : fr.le a) {d : Nat} {x : AV} (e : a.tmps[d]? = some x.val) : Fr.le (fr.set d (some x)) a := by
 refine ⟨h.defers, by simp; exact h.size, ?_⟩;intro t y ht;rw [List.getElem?_set] at ht
 split at ht
 ·rename_i hd; subst hd
  split at ht
  ·simp at ht; subst ht; exact e
  ·simp at ht
 ·exact h.at_ _ _ ht
end Fw
end
