/-
  Part 3 for the law: lemmas.
  Conditions: none.
-/
import Derived.Test.YtlfdfgokflhdbaaGreatExecReadsK2
set_option linter.unusedVariables false
set_option linter.unusedSimpArgs false
set_option linter.unusedSectionVars false
section
namespace Fw
open Go
inductive Src where
 | sl (a : OA) (m : Nat)
 | str (s : BA)
 | zer (z : List Value) (l : Int)
structure fX (W : Type) where
 fail : W
 guard : Prop → W → W
 ite : Bool → W → W → W
 both : W → W → W
 aa : OA → (Addr → W) → W
 ld : (cs : List CT) → Addr → (Den cs → W) → W
 st : Addr → List Value → W → W
 nw : Obj → (Nat → W) → W
 call : FuncId → Array Value → (r : Bool × List Shape) → (bR r.2 → W) → W
 cy : FuncId → Array Value → (r : Bool × List Shape) → (bR r.2 → W) → W
 dR : Value → Array Value → (r : Bool × List Shape) → (bR r.2 → W) → W
 look : TypeDesc → Option Nat → Value → Value → (h : Shape) → (Den h.2 → Bool → W) → W
 gN : TypeDesc → Option Nat → Value → Value → W → W
 app : TypeId → Nat → Nat → List Value → OA → Nat → Nat → Src → (OA → Nat → Nat → W) → W
 lV : Nat → OA → Nat → OA → Nat → (Nat → W) → W
 nR : List Value → OA → Nat → W → W
 kR : TypeId → Nat → Nat → List Value → Int → Int → (Nat → W) → W
 jX : OA → Nat → (BA → W) → W
 od : TypeId → BA → (Nat → Nat → W) → W
 oc : Option Nat → (Nat → W) → W
 nY : Nat → (Value → W) → W
 nS : Nat → (Value → W) → W
 ext : Value → Nat → (h : Shape) → (Den h.2 → W) → W
 inv : Value → String → Array Value → (r : Bool × List Shape) → (bR r.2 → W) → W
 gv : TypeId → Option Nat → Value → Value → (h : Shape) → (Den h.2 → Bool → W) → W
 iQ : TypeId → Option Nat → Value → Value → W → W
 xt : FuncId → Array Value → (r : Bool × List Shape) → (bR r.2 → W) → W
 loop : (hs : List Shape) → bR hs → (bR hs → (bR hs → W) → W) → W
 join : (hs : List Shape) → ((bR hs → W) → W) → (bR hs → W) → W
 still : (cs : List CT) → Addr → Den cs → W → W
 ret : Value → W
def PH.has (s : PH) (a : Addr) (vs : List Value) : Prop := ∀ i v, vs[i]? = some v → s.cell? (a.add i) = some v
def PH.fl (s : PH) (a : Addr) : Nat → List Value → PH
 | _, [] => s
 | i, v :: vs => (s.setCell (a.add i) v).fl a (i + 1) vs
def PH.open_ (s : PH) (a : Addr) (n : Nat) : Prop := ∀ i, i < n → (s.cell? (a.add i)).isSome = true ∧ s.frozen? (a.add i) = false
def nq (s : PH) (m : Option Nat) (es : Array MapEntry) (c : Nat) : Prop :=
 match m with
 | none => es = #[]
 | some r => s r = some (.map es c)
def eF (s : PH) (sz : Nat) : Src → List Value → Prop
 | .sl none m, vs => vs = [] ∧ m * sz = 0
 | .sl (some a) m, vs => vs.length = m * sz ∧ s.has a vs
 | .str t, vs => vs = t.data.toList.map fun b => .int .u8 b.toNat
 | .zer z l, vs => 0 ≤ l ∧ l ≤ 9223372036854775807 ∧ vs = (Builtin.zeroCells z.toArray l.toNat).toList
def Src.len : Src → Nat
 | .sl _ m => m
 | .str s => s.size
 | .zer _ l => l.toNat
def bytesOf (bs : BA) : List Value := bs.data.toList.map fun b => .int .u8 b.toNat
namespace W
abbrev T := PH → Prop
def fail : T := fun _ => False
def guard (c : Prop) (k : T) : T := fun s => c ∧ k s
def br (b : Bool) (x y : T) : T := fun s => if b then x s else y s
def both (x y : T) : T := fun s => x s ∧ y s
def aa (p : OA) (k : Addr → T) : T := fun s => ∃ a, p = some a ∧ k a s
def ld (cs : List CT) (a : Addr) (k : Den cs → T) : T := fun s => ∃ x, s.has a (vals cs x) ∧ k x s
def st (a : Addr) (vs : List Value) (k : T) : T := fun s => s.open_ a vs.length ∧ (∀ v ∈ vs, v.oneCell' = true) ∧ k (s.fl a 0 vs)
def nw (o : Obj) (k : Nat → T) : T := fun s => ∀ b, s b = none → k b (s.aS b o)
def call (P : Program) (f : FuncId) (args : Array Value) (r : Bool × List Shape) (k : bR r.2 → T) : T := fun s => bu P f args s fun v s' => ∃ x, gx r x = v ∧ k x s'
def cy (P : Program) (f : FuncId) (args : Array Value) (r : Bool × List Shape) (k : bR r.2 → T) : T := fun s => ∃ x, bu P f args s (fun v s' => gx r x = v ∧ s' = s) ∧ k x s
def dR (P : Program) (f : Value) (args : Array Value) (r : Bool × List Shape) (k : bR r.2 → T) : T := fun s =>
 ∃ g first captured, f = .func (.func g) first captured ∧ (∃ fn, P.funcs[g]? = some fn ∧ fn.body.isSome = true ∧ (fn.name == "runtime.NumGoroutine") = false) ∧
  bu P g (first ++ args ++ captured) s fun v s' => ∃ x, gx r x = v ∧ k x s'
def Ie (zero : Value) (h : Shape) (k : Den h.2 → Bool → T) (s : PH) : Option (Nat × Value) → Prop
 | some (_, v) => ∃ x, h.mk x = v ∧ k x true s
 | none => ∃ x, h.mk x = zero ∧ k x false s
def look (kd : TypeDesc) (m : Option Nat) (key zero : Value) (h : Shape) (k : Den h.2 → Bool → T) : T := fun s =>
 ∃ es c res, nq s m es c ∧ Instr.findNow kd key es.toList 0 = some res ∧ Ie zero h k s res
def Ij (r : Nat) (es : Array MapEntry) (c : Nat) (key val : Value) (k : T) (s : PH) : Option (Nat × Value) → Prop
 | some (i, _) => (∃ e, es[i]? = some e ∧ Instr.sameBits 10000 e.key key = true) ∧ k (s.aS r (.map (es.modify i fun e => { e with key := key, val := val }) c))
 | none => k (s.aS r (.map (es.push { key := key, val := val, born := c }) (c + 1)))
def gN (kd : TypeDesc) (m : Option Nat) (key val : Value) (k : T) : T := fun s =>
 ∃ r es c res, m = some r ∧ s r = some (.map es c) ∧ Instr.findNow kd key es.toList 0 = some res ∧ Ij r es c key val k s res
def K6 (sz n c : Nat) (news : List Value) (k : OA → Nat → Nat → T) (s : PH) (m : Nat) : OA → Prop
 | none => k none m c s
 | some a => s.open_ (a.add (n * sz)) news.length ∧ k (some a) m c (s.fl (a.add (n * sz)) 0 news)
def app (e : TypeId) (sz bytes : Nat) (zero : List Value) (b : OA) (n c : Nat) (src : Src) (k : OA → Nat → Nat → T) : T := fun s => ∃ old news : List Value,
 eF s sz (.sl b n) old ∧ eF s sz src news ∧ (∀ v ∈ news, v.oneCell' = true) ∧ n + src.len ≤ maxLen ∧ (n + src.len) * bytes ≤ 140737488355328 ∧
 (n + src.len ≤ c → K6 sz n c news k s (n + src.len) b) ∧
 (c < n + src.len → ∀ b' c', s b' = none → n + src.len ≤ c' → c' ≤ maxLen →
   k (some ⟨b', 0, none⟩) (n + src.len) c' (s.aS b' (.cells (old.toArray ++ news.toArray ++ Builtin.zeroCells zero.toArray (c' - (n + src.len))) e)))
def K8 (n : Nat) (news : List Value) (k : Nat → T) (s : PH) : OA → Prop
 | none => k n s
 | some a => s.open_ a news.length ∧ k n (s.fl a 0 news)
def lV (sz : Nat) (b : OA) (n : Nat) (b' : OA) (m : Nat) (k : Nat → T) : T := fun s => ∃ news : List Value,
 eF s sz (.sl b' (Nat.min m n)) news ∧ (∀ v ∈ news, v.oneCell' = true) ∧ K8 (Nat.min m n) news k s b
def K7 (news : List Value) (k : T) (s : PH) : OA → Prop
 | none => k s
 | some a => s.open_ a news.length ∧ (∀ v ∈ news, v.oneCell' = true) ∧ k (s.fl a 0 news)
def nR (zero : List Value) (b : OA) (n : Nat) (k : T) : T := fun s => K7 (Builtin.zeroCells zero.toArray n).toList k s b
def kR (e : TypeId) (sz bytes : Nat) (zero : List Value) (l c : Int) (k : Nat → T) : T := fun s => 0 ≤ l ∧ l ≤ c ∧ c ≤ 9223372036854775807 ∧ bytes * c ≤ 140737488355328 ∧
 ∀ b, s b = none → k b (s.aS b (.cells (Builtin.zeroCells zero.toArray c.toNat) e))
def KI (s : PH) (n : Nat) (bs : BA) : OA → Prop
 | none => bs = .empty
 | some a => bs.size = n ∧ s.has a (bytesOf bs)
def jX (a : OA) (n : Nat) (k : BA → T) : T := fun s => ∃ bs : BA, KI s n bs a ∧ k bs s
def bytesRow (bs : BA) (c : Nat) : Array Value := bs.data.map (fun b => Value.int .u8 b.toNat) ++ Array.replicate (c - bs.size) (.int .u8 0)
def od (e : TypeId) (bs : BA) (k : Nat → Nat → T) : T := fun s => bs.size ≤ maxLen ∧ ∀ b c, s b = none → bs.size ≤ c → c ≤ maxLen → k b c (s.aS b (.cells (bytesRow bs c) e (c, c + 1)))
def Io (s : PH) : Option Nat → Obj → Prop
 | none, o => o = .mapIter none 0 #[] 0
 | some r, o => ∃ es c, s r = some (.map es c) ∧ o = .mapIter (some r) c #[] c
def oc (m : Option Nat) (k : Nat → T) : T := fun s => ∃ o, Io s m o ∧ nw o k s
def Kp (r c : Nat) (seen : Array Nat) (k : Value → T) (s : PH) : Option Nat → Prop
 | none => k (.tuple #[.bool false]) s
 | some m => ∃ es, s m = some (.map es c) ∧ (∀ e ∈ es, e.born < c) ∧ ((∀ e ∈ es, seen.contains e.born = true) → k (.tuple #[.bool false]) s) ∧
  ∀ e ∈ es, seen.contains e.born = false → k (.tuple #[.bool true, e.key, e.val]) (s.aS r (.mapIter (some m) c (seen.push e.born) c))
def nY (r : Nat) (k : Value → T) : T := fun s => ∃ m c seen, s r = some (.mapIter m c seen c) ∧ Kp r c seen k s m
def nS (r : Nat) (k : Value → T) : T := fun s => ∃ m since seen c es e, s r = some (.mapIter (some m) since seen c) ∧ s m = some (.map es c) ∧ seen.back? = some e.born ∧ es.find? (·.born == e.born) = some e ∧ k (.tuple #[e.key, e.val]) s
def ext (v : Value) (i : Nat) (h : Shape) (k : Den h.2 → T) : T := fun s => ∃ vs x, v = .tuple vs ∧ vs[i]? = some (h.mk x) ∧ k x s
def inv (P : Program) (v : Value) (nm : String) (args : Array Value) (r : Bool × List Shape) (k : bR r.2 → T) : T := fun s =>
 ∃ t x g rc fn, v = .iface t x ∧ (∀ w, (method (P.types.size + Made.depth) t x nm).run P w = .ok (g, rc) w) ∧ P.funcs[g]? = some fn ∧ fn.body.isSome = true ∧ (fn.name == "runtime.NumGoroutine") = false ∧
  bu P g (#[rc] ++ args) s fun v s' => ∃ x, gx r x = v ∧ k x s'
def keyed (P : Program) (kt : TypeId) (key : Value) (es : Array MapEntry) (res : Option (Nat × Value)) : Prop :=
 (∀ b w, (Instr.checkKey b 10000 kt key).run P w = .ok () w) ∧ ∀ w, (Instr.findKey kt key es.toList).run P w = .ok res w
def gv (P : Program) (kt : TypeId) (m : Option Nat) (key zero : Value) (h : Shape) (k : Den h.2 → Bool → T) : T := fun s =>
 ∃ es c res, nq s m es c ∧ keyed P kt key es res ∧ Ie zero h k s res
def iQ (P : Program) (kt : TypeId) (m : Option Nat) (key val : Value) (k : T) : T := fun s =>
 ∃ r es c res, m = some r ∧ s r = some (.map es c) ∧ keyed P kt key es res ∧ Ij r es c key val k s res
def xt (P : Program) (g : FuncId) (args : Array Value) (r : Bool × List Shape) (k : bR r.2 → T) : T := fun s => ∃ x, (∀ w, Sub s w → (callFunc g args).run P w = .ok (.value (gx r x)) w) ∧ k x s
def loop (hs : List Shape) (x : bR hs) (body : bR hs → (bR hs → T) → T) : T := fun s => ∃ (I : bR hs → PH → Prop) (μ : bR hs → PH → Nat), I x s ∧
 ∀ x s, I x s → body x (fun x' s' => I x' s' ∧ μ x' s' < μ x s) s
def join (hs : List Shape) (F : (bR hs → T) → T) (K : bR hs → T) : T := fun s => F K s
def still (cs : List CT) (a : Addr) (x : Den cs) (k : T) : T := fun s => s.has a (vals cs x) ∧ k s
def ret (R : Value → PH → Prop) (v : Value) : T := fun s => R v s
end W
def RP (P : Program) (R : Value → PH → Prop) : fX (PH → Prop) where
 fail := W.fail
 guard := W.guard
 ite := W.br
 both := W.both
 aa := W.aa
 ld := W.ld
 st := W.st
 nw := W.nw
 call := W.call P
 cy := W.cy P
 dR := W.dR P
 look := W.look
 gN := W.gN
 app := W.app
 lV := W.lV
 nR := W.nR
 kR := W.kR
 jX := W.jX
 od := W.od
 oc := W.oc
 nY := W.nY
 nS := W.nS
 ext := W.ext
 inv := W.inv P
 gv := W.gv P
 iQ := W.iQ P
 xt := W.xt P
 loop := W.loop
 join := W.join
 still := W.still
 ret := W.ret R
def toSlice (P : Program) (d : TypeId) : Option TypeId := match P.underlying d with | some (.slice e) => some e | _ => none
theorem AD {P : Program} {d e : TypeId} (h : toSlice P d = some e) : P.underlying d = some (.slice e) := by
 unfold toSlice at h
 split at h
 ·rename_i he; cases h; exact he
 ·cases h
def plainKey : TypeDesc → Bool | .string => true | .int _ => true | .bool => true | _ => false
def dh : Value → List Value
 | .agg cs => cs.toList
 | v => [v]
def yF (P : Program) (t : TypeId) (cs : Array Value) (off : Nat) : Option Value :=
 match dJ P t with
 | some n => if nV P t then some (.agg (cs.extract off (off + n))) else cs[off]?
 | none => none
def vJ (eq : TypeId → Value → Value → Option Bool) (P : Program) : Array Value → Array Value → List Field → Option Bool
 | _, _, [] => some true
 | xs, ys, f :: fs =>
  if f.name ≠ "_" then
   match yF P f.type xs f.offset, yF P f.type ys f.offset with
   | some px, some py =>
    match eq f.type px py, vJ eq P xs ys fs with
    | some a, some b => some (a && b)
    | _, _ => none
   | _, _ => none
  else vJ eq P xs ys fs
def pP (P : Program) : Nat → TypeId → Value → Value → Option Bool
 | 0, _, _, _ => none
 | d + 1, t, x, y =>
  match P.underlying t, x, y with
  | some .bool, .bool a, .bool b => some (a == b)
  | some (.int _), .int k a, .int k' b => if k = k' then some (a == b) else none
  | some .string, .string a, .string b => some (a == b)
  | some (.struct fs), .agg xs, .agg ys => if P.stoodInHeld t then none else vJ (pP P d) P xs ys fs.toList
  | _, _, _ => none
def sZ : Operand → Bool
 | .const (.pointer none) | .const (.slice none 0 0) | .const (.map none) => true
 | _ => false
def gP : Operand → Value → Bool
 | .const (.pointer none), .pointer _ => true
 | .const (.slice none 0 0), .slice _ _ _ => true
 | .const (.map none), .map _ => true
 | _, _ => false
def zX (P : Program) (t : TypeId) : Value → Option Bool
 | .pointer p => match P.underlying t with | some (.pointer _) => some p.isNone | _ => none
 | .slice a _ _ => match P.underlying t with | some (.slice _) => some a.isNone | _ => none
 | .map r => match P.underlying t with | some (.map _ _) => some r.isNone | _ => none
 | _ => none
def jD : BinOp → Bool | .neq => true | _ => false
def KN : BinOp → Bool | .quo => true | _ => false
def KO : BinOp → Bool | .shl => true | _ => false
def lT (neg : Bool) (b : Bool) : Value := if neg then .bool (!b) else .bool b
def dK (ρ : Env) (o : Option Operand) (dflt : Int) : Option Int :=
 match o with
 | none => some dflt
 | some x => match ρ.ev x with | some (.int _ n) => some n | _ => none
section
variable {W : Type} (π : fX W) (P : Program) (ρ : Env)
def rL (P : Program) (o : Oper) (v : Value) : AV :=
 match o.op with
 | .extract _ _ => (match shapeOf P o.type with | some (false, [.raw]) => .r v | _ => .v v)
 | _ => .v v
theorem FV (P : Program) (o : Oper) (v : Value) : (rL P o v).val = v := by
 unfold rL; split
 ·split <;> rfl
 ·rfl
theorem HS {P : Program} {o : Oper} {v : Value} (h : ∀ a b, o.op ≠ .extract a b) : rL P o v = .v v := by
 unfold rL; split
 ·rename_i a b e; exact absurd e (h a b)
 ·rfl
def GK : Value → Bool
 | .func (.func _) _ _ => true
 | _ => false
theorem I2 {v : Value} (h : GK v = true) : ∃ g a b, v = .func (.func g) a b := by
 unfold GK at h; split at h
 ·exact ⟨_, _, _, rfl⟩
 ·cases h
def dG (o : Oper) (put : AV → W) : W :=
 if ρ.known o.op.operands.toList then
  match dz P (execOp ρ.eX o) with
  | some (.value v) => put (rL P o v)
  | _ => π.fail
 else π.fail
def kS (o : Oper) (put : AV → W) : W :=
 if ρ.known o.op.operands.toList then
  match fk P (execOp ρ.eX o) with
  | some (ob, k) => π.nw ob fun b => match dz P (k b) with
   | some (.value v) => put (.v v)
   | _ => π.fail
  | _ => π.fail
 else π.fail
def jY (o : Oper) (op : BinOp) (t : TypeId) (x y : Operand) (put : AV → W) : W :=
 match op with
 | .add => match ρ.ev x, ρ.ev y with
  | some (.string a), some (.string b) => π.guard (((a.size + b.size : Nat) : Int) ≤ IntKind.i64.max) (put (.v (.string (a ++ b))))
  | _, _ => dG π P ρ o put
 | .eql | .neq =>
  if sZ y then match ρ.ev x with
   | some v => match zX P t v with
    | some b => if gP y v then put (.v (lT (jD op) b)) else π.fail
    | none => π.fail
   | none => π.fail
  else match ρ.ev x, ρ.ev y with
  | some (.agg xs), some (.agg ys) =>
   if P.eqGuardType P.depth t then π.fail else
   match pP P 9 t (.agg xs) (.agg ys) with
   | some b => put (.v (lT (jD op) b))
   | none => π.fail
  | _, _ => dG π P ρ o put
 | .quo | .rem => match ρ.ev x, ρ.ev y with
  | some (.int k a), some (.int k' b) => if k = k' then
    match y with
    | .const _ => dG π P ρ o put
    | _ => π.guard (b ≠ 0) (put (.v (.int k (if KN op then k.wrap (a.tdiv b) else a.tmod b))))
   else π.fail
  | _, _ => π.fail
 | .shl | .shr => match ρ.ev x, ρ.ev y with
  | some (.int k a), some (.int _ b) =>
    match y with
    | .const _ => dG π P ρ o put
    | _ => π.guard (0 ≤ b) (put (.v (.int k (if KO op then k.wrap (a * 2 ^ min b.toNat k.bits) else a.fdiv (2 ^ min b.toNat k.bits)))))
  | _, _ => π.fail
 | _ => dG π P ρ o put
def jx (t : TypeId) (x : Operand) (lo hi mx : Option Operand) (put : AV → W) : W :=
 match ρ.ev x with
 | some (.string s) => match P.underlying t, mx with
  | some .string, none => match dK ρ lo 0, dK ρ hi s.size with
   | some l, some h => π.guard (0 ≤ l ∧ l ≤ h ∧ h ≤ s.size) (put (.v (.string (s.extract l.toNat h.toNat))))
   | _, _ => π.fail
  | _, _ => π.fail
 | some (.slice a len cap) => match P.underlying t with
  | some (.slice e) => match dJ P e with
   | some sz => match mx, hi with
    | none, _ => match dK ρ lo 0, dK ρ hi len with
     | some l, some h => π.guard (0 ≤ l ∧ l ≤ h ∧ h ≤ cap) (put (.v (.slice (if cap = l.toNat then a else a.map (·.add (l.toNat * sz))) (h.toNat - l.toNat) (cap - l.toNat))))
     | _, _ => π.fail
    | some _, some _ => match dK ρ lo 0, dK ρ hi len, dK ρ mx cap with
     | some l, some h, some m => π.guard (0 ≤ l ∧ l ≤ h ∧ h ≤ m ∧ m ≤ cap) (put (.v (.slice (if m.toNat = l.toNat then a else a.map (·.add (l.toNat * sz))) (h.toNat - l.toNat) (m.toNat - l.toNat))))
     | _, _, _ => π.fail
    | some _, none => π.fail
   | none => π.fail
  | _ => π.fail
 | _ => π.fail
def jB (q : Bool) (o : Oper) (c : Call) (put : AV → W) : W :=
 if ρ.known c.args.toList then
  let args := c.args.map ρ.eX
  match c.callee with
  | .value f => match Ao P o.type with
   | some r => match ρ.av f with
    | some (.v (.func (.func g) first captured)) => match P.funcs[g]? with
     | some fn => if fn.body.isSome && !(fn.name == "runtime.NumGoroutine") then
       if q then π.cy g (first ++ args ++ captured) r fun x => put (jk r x)
       else π.call g (first ++ args ++ captured) r fun x => put (jk r x)
      else if fn.body.isNone && !q then π.xt g (first ++ args ++ captured) r fun x => put (jk r x)
      else π.fail
     | none => π.fail
    | some (.r v) => if q then π.fail else π.dR v args r fun x => put (jk r x)
    | _ => π.fail
   | none => π.fail
  | .invoke recv name => match Ao P o.type, ρ.ev recv with
   | some r, some v => if q then π.fail else π.inv v name args r fun x => put (jk r x)
   | _, _ => π.fail
  | .builtin .append => match (c.argTypes[0]? : Option TypeId), (args[0]? : Option Value), (args[1]? : Option Value) with
   | some t, some (.slice b n cp), some x => match P.underlying t with
    | some (.slice e) => match dJ P e, ir P e, (match c.argTypes[1]?.bind P.underlying, x with
      | some (.slice _), .slice b' m _ => some (Src.sl b' m)
      | some .string, .string s => some (Src.str s)
      | some (.int _), .int _ l => some (Src.zer (((ir P e).map fun z => z.cells.toList).getD []) l)
      | _, _ => none) with
     | some sz, some z, some src => if z.cells.size = sz ∧ 0 < sz ∧ 0 < dY P e then
       π.app e sz (dY P e) z.cells.toList b n cp src fun b' n' c' => put (.v (.slice b' n' c'))
      else π.fail
     | _, _, _ => π.fail
    | _ => π.fail
   | _, _, _ => π.fail
  | .builtin .copy => match (c.argTypes[0]? : Option TypeId), (args[0]? : Option Value), (args[1]? : Option Value) with
   | some t, some (.slice b n _), some (.slice b' m _) => match P.underlying t with
    | some (.slice e) => match dJ P e with
     | some sz => π.lV sz b n b' m fun k => put (.v (.int .i64 k))
     | none => π.fail
    | _ => π.fail
   | _, _, _ => π.fail
  | .builtin .clear => match (c.argTypes[0]? : Option TypeId), (args[0]? : Option Value) with
   | some t, some (.slice b n _) => match P.underlying t with
    | some (.slice e) => match ir P e with
     | some z => π.nR z.cells.toList b n (put (.v (.tuple #[])))
     | none => π.fail
    | _ => π.fail
   | _, _ => π.fail
  | .builtin .len | .builtin .cap | .builtin .min | .builtin .max => dG π P ρ o put
  | _ => π.fail
 else π.fail
def gd (q : Bool) (o : Oper) (pt : Option AV → W) : W :=
 let put (x : AV) : W := pt (some x)
 match o.op with
 | .move x | .assign x => match ρ.av x with
  | some u => put u
  | none => π.fail
 | .pick c a b => match ρ.av c with
  | some .t => (match ρ.av a with | some u => put u | none => π.fail)
  | some .f => (match ρ.av b with | some u => put u | none => π.fail)
  | some (.v (.bool q)) => π.ite q (match ρ.av a with | some u => put u | none => π.fail) (match ρ.av b with | some u => put u | none => π.fail)
  | _ => π.fail
 | .load t x => match ρ.ev x with
  | some (.pointer (some a)) => match shapeOf P t with
   | some h => π.ld h.2 a fun y => put (h.av y)
   | none => π.fail
  | _ => π.fail
 | .store t x y => match ρ.ev x, ρ.av y with
  | some (.pointer (some a)), some u => match dJ P t with
   | some n =>
    match u with
    | .r v => if n = 1 then π.guard (v.oneCell' = true) (π.st a [v] (pt none)) else π.fail
    | u => if (dh u.val).length = n then π.st a (dh u.val) (pt none) else π.fail
   | none => π.fail
  | _, _ => π.fail
 | .nilCheck x => match ρ.av x with
  | some (.v (.pointer p)) => π.aa p fun a => put (.v (.pointer (some a)))
  | some (.v (.func (.func g) a b)) => put (.v (.func (.func g) a b))
  | some (.r v) => π.guard (GK v = true) (put (.r v))
  | _ => π.fail
 | .binOp op t x y _ => jY π P ρ o op t x y put
 | .unOp op _ x => match op, ρ.av x with
  | .not, some .t => put .f
  | .not, some .f => put .t
  | _, _ => dG π P ρ o put
 | .alloc _ | .box _ _ | .buildSlice _ _ _ | .makeMap _ _ => kS π P ρ o put
 | .indexAddr t x i => match ρ.ev x, ρ.ev i with
  | some (.slice a len _), some (.int _ i) => match P.underlying t with
   | some (.slice e) => match dJ P e with
    | some sz => π.guard (0 ≤ i ∧ i < len) (π.aa a fun a => put (.v (.pointer (some (a.add (i.toNat * sz))))))
    | none => π.fail
   | _ => π.fail
  | some (.pointer (some a)), some (.int _ i) => match P.underlying t with
   | some (.array len e) => match dJ P e with
    | some sz => π.guard (0 ≤ i ∧ i < len) (put (.v (.pointer (some (a.add (i.toNat * sz))))))
    | none => π.fail
   | _ => π.fail
  | _, _ => π.fail
 | .index t x i => match ρ.ev x, ρ.ev i with
  | some (.string s), some (.int _ i) => match P.underlying t with
   | some .string => π.guard (0 ≤ i ∧ i < s.size) (put (.v (.int .u8 ((s[i.toNat]?.getD 0).toNat : Int))))
   | _ => π.fail
  | _, _ => π.fail
 | .slice t x lo hi mx => jx π P ρ t x lo hi mx put
 | .lookup t m key ok => match ρ.ev m, ρ.ev key with
  | some (.map r), some kv => match P.underlying t with
   | some (.map kt e) => match P.underlying kt, shapeOf P e, ir P e with
    | some kd, some h, some z =>
     if plainKey kd then
      π.look kd r kv z h fun x b => if ok then put (.v (.tuple #[h.mk x, .bool b])) else put (h.av x)
     else π.gv kt r kv z h fun x b => if ok then put (.v (.tuple #[h.mk x, .bool b])) else put (h.av x)
    | _, _, _ => π.fail
   | _ => π.fail
  | _, _ => π.fail
 | .mapUpdate t m key x => match ρ.ev m, ρ.ev key, ρ.ev x with
  | some (.map r), some kv, some v => match P.underlying t with
   | some (.map kt _) => match P.underlying kt with
    | some kd => if plainKey kd then π.gN kd r kv v (pt none) else π.iQ kt r kv v (pt none)
    | none => π.fail
   | _ => π.fail
  | _, _, _ => π.fail
 | .insert t m key x => match ρ.ev m, ρ.ev key, ρ.ev x with
  | some (.map r), some kv, some v => match P.underlying t with
   | some (.map kt _) => match P.underlying kt with
    | some kd => if plainKey kd then π.gN kd r kv v (pt none) else π.iQ kt r kv v (pt none)
    | none => π.fail
   | _ => π.fail
  | _, _, _ => π.fail
 | .makeSlice t l c => match ρ.ev l, ρ.ev c with
  | some (.int _ l), some (.int _ c) => match P.underlying t with
   | some (.slice e) => match dJ P e, ir P e with
    | some sz, some z => if z.cells.size = sz ∧ 0 < sz then π.kR e sz (dY P e) z.cells.toList l c fun b => put (.v (.slice (some ⟨b, 0, none⟩) l.toNat c.toNat)) else π.fail
    | _, _ => π.fail
   | _ => π.fail
  | _, _ => π.fail
 | .convert s d x => match toSlice P d with
  | some e => match ρ.ev x, P.underlying s, P.underlying e with
   | some (.string bs), some .string, some (.int .u8) => π.od e bs fun b c => put (.v (.slice (some ⟨b, 0, none⟩) bs.size c))
   | _, _, _ => π.fail
  | none => match ρ.ev x with
   | some (.slice a n _) => match P.underlying s, P.underlying d with
    | some (.slice e), some .string => (match P.underlying e with
     | some (.int .u8) => π.jX a n fun bs => put (.v (.string bs))
     | _ => π.fail)
    | _, _ => π.fail
   | _ => dG π P ρ o put
 | .range t m => match ρ.ev m with
  | some (.map r) => match P.underlying t with
   | some (.map _ _) => π.oc r fun b => put (.v (.pointer (some ⟨b, 0, none⟩)))
   | _ => π.fail
  | _ => π.fail
 | .next it isStr => match ρ.ev it, isStr with
  | some (.pointer (some a)), false => π.guard (a.off = 0) (π.nY a.block fun t => put (.r t))
  | _, _ => π.fail
 | .entry it => match ρ.ev it with
  | some (.pointer (some a)) => π.guard (a.off = 0) (π.nS a.block fun t => put (.r t))
  | _ => π.fail
 | .extract x i => match ρ.av x with
  | some (.r v) => match shapeOf P o.type with
   | some h => π.ext v i h fun y => put (h.av y)
   | none => π.fail
  | _ => dG π P ρ o put
 | .fieldAddr _ _ _ | .field _ _ _ | .build _ _ | .makeFunc _ _ _ | .makeInterface _ _ => dG π P ρ o put
 | .call c => jB π P ρ q o c put
 | _ => π.fail
def fP {W : Type} (π : fX W) (P : Program) (fr : Fr) (q : Bool) (o : Oper) (k : Fr → W) : W := gd π P fr.env q o fun x => k (fr.put o.dst x)
def dW (fr : Fr) (q : Bool) (ops : Array Oper) (i : Nat) (k : Fr → W) : W :=
 match ops[i]? with
 | none => π.fail
 | some o => match o.guard with
  | none => fP π P fr q o k
  | some (j, want) => match (ops[j]?).bind (·.dst) with
   | some d => match fr[d]? with
    | some (some .t) => if want then fP π P fr q o k else k (fr.put o.dst (some (.v undef)))
    | some (some .f) => if want then k (fr.put o.dst (some (.v undef))) else fP π P fr q o k
    | some (some (.v (.bool b))) => π.ite b
      (let fr' : Fr := fr.set d (some .t); if want then fP π P fr' q o k else k (fr'.put o.dst (some (.v undef))))
      (let fr' : Fr := fr.set d (some .f); if want then k (fr'.put o.dst (some (.v undef))) else fP π P fr' q o k)
    | some (some (.v (.tuple _))) => k (fr.put o.dst (some (.v undef)))
    | _ => π.fail
   | none => π.fail
end
end Fw
end
