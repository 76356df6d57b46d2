/-
  The interpreter over abstract states: regions, code, calls.
-/
import Derived.Test.YtcfehggjkidhkaaGreatDoorB9
namespace Go.B
open Go

structure Fr where
  t : Tr Value
  n : Nat

def Fr.get (fr : Fr) (i : Nat) : Value := match fr.t.get i with | some v => v | none => undef
def Fr.put (fr : Fr) (dst : Option Tmp) (v : Value) : Option Fr :=
  match dst with
  | none => some fr
  | some d => bif Nat.blt d fr.n then some ⟨fr.t.set d (some v), fr.n⟩ else none

def Fr.ev (base : Nat) (fr : Fr) : Operand → Value
  | .tmp t => fr.get t
  | .const v => bif flatter v then v else undef
  | .global g => bif Nat.blt g base then .pointer (some ⟨g, 0, none⟩) else undef
  | .func f => .func (.func f) #[] #[]

def orr {α : Type} (a : Option α) (b : Option α) : Option α := match a with | some x => some x | none => b
def keep (σ : St) : Option Value → Option (Value × St)
  | some v => some (v, σ)
  | none => none

/-- An operation that is no call of a function. -/
def Env.op (E : Env) (ρ : Operand → Value) (σ : St) (o : Oper) : Option (Value × St) :=
  match o.op with
  | .move x | .assign x => some (ρ x, σ)
  | .pick c a b => keep σ (Env.opPick ρ c a b)
  | .load t x => E.opLoad ρ σ t x
  | .store t x y => E.opStore ρ σ t x y
  | .alloc t => E.opAlloc σ t
  | .box t x => Env.opBox ρ σ t x
  | .build t ps => keep σ (E.opBuild ρ t ps)
  | .buildSlice t n ps => E.opBuildSlice ρ σ t n ps
  | .nilCheck x => keep σ (Env.opNil ρ x)
  | .fieldAddr s x f => keep σ (E.opField ρ s x f)
  | .indexAddr t x i => keep σ (E.opIndex ρ t x i)
  | .slice t x lo hi mx => keep σ (match ρ x with | .slice (some _) _ _ => E.opSlice ρ σ t x lo hi mx | _ => E.plain ρ o)
  | .extract x i => keep σ (Env.opExtract ρ x i)
  | .field t x f => keep σ (E.opPart ρ t x f)
  | .index t x i => keep σ (match ρ x with | .agg _ => E.opAt ρ t x i | _ => E.plain ρ o)
  | .makeFunc fn a b => some (Env.opFunc ρ fn a b, σ)
  | .makeSlice t l c => E.opMake ρ σ t l c
  | .makeMap t none => Env.opMakeMap σ
  | .lookup t x i ok => keep σ (E.opLookup ρ σ t x i ok)
  | .mapUpdate t x i y => E.opUpdate ρ σ t x i y
  | .range t x => E.opRange ρ σ t x
  | .next x s => E.opNext ρ σ x s
  | .entry x => keep σ (E.opEntry ρ σ x)
  | .convert s d x => keep σ (match ρ x with | .slice (some _) _ _ => E.opString ρ σ s d x | _ => E.plain ρ o)
  | .binOp op t x y _ => keep σ (orr (E.plain ρ o) (E.opEq ρ op t x y))
  | .unOp .. | .makeInterface .. | .typeAssert .. => keep σ (E.plain ρ o)
  | .call c => match c.callee with
    | .builtin .append => match c.args.toList, c.argTypes.toList with
      | [s, x], [t, tx] => E.opAppend ρ σ s x t tx
      | _, _ => none
    | .builtin .copy => match c.args.toList, c.argTypes.toList with
      | [x, y], [t, _] => E.opCopy ρ σ x y t
      | _, _ => none
    | .builtin .delete => match c.args.toList, c.argTypes.toList with
      | [x, i], [t, _] => E.opDelete ρ σ t x i
      | _, _ => none
    | .builtin .len => match c.args.toList, c.argTypes.toList with
      | [x], [t] => keep σ (match ρ x with | .slice .. => E.opLen ρ x t | .map (some _) => E.opLenMap ρ σ x t | _ => E.plain ρ o)
      | _, _ => none
    | .builtin .min | .builtin .max => keep σ (E.plain ρ o)
    | _ => none
  | _ => none

/-- What is called: the function, its arguments. -/
def Env.callee (ρ : Operand → Value) (o : Oper) : Option (FuncId × List Value) :=
  match o.op with
  | .call c => match c.callee with
    | .value f => match ρ f with
      | .func (.func g) ⟨l⟩ ⟨k⟩ => some (g, l ++ (c.args.toList.map ρ ++ k))
      | _ => none
    | _ => none
  | _ => none

abbrev CallF := FuncId → List Value → St → Option (Value × St)

def isCall (o : Oper) : Bool := match o.op with | .call c => (match c.callee with | .value _ => true | _ => false) | _ => false

def Env.any (E : Env) (call : CallF) (fr : Fr) (σ : St) (o : Oper) : Option (Value × St) :=
  bif isCall o then match Env.callee (fr.ev E.base) o with
    | some (g, args) => call g args σ
    | none => none
  else E.op (fr.ev E.base) σ o

/-- Is an operation wanted? -/
def wants (ops : Array Oper) (fr : Fr) (o : Oper) : Bool :=
  match o.guard with
  | none => true
  | some (j, b) => match (ops[j]?).bind (·.dst) with
    | some d => match fr.t.get d with
      | some (.bool c) => c == b
      | _ => false
    | none => false

def Env.run (E : Env) (call : CallF) (ops : Array Oper) : List Oper → Fr → St → Option (Fr × St)
  | [], fr, σ => some (fr, σ)
  | o :: rest, fr, σ =>
    bif wants ops fr o then
      match E.any call fr σ o with
      | some (v, σ') => match fr.put o.dst v with
        | some fr' => E.run call ops rest fr' σ'
        | none => none
      | none => none
    else match fr.put o.dst undef with
      | some fr' => E.run call ops rest fr' σ
      | none => none

/-! drawn regions -/

/-- Operations that hang on no memory and turn none (0), that read (1), that make a variable (2), others (3). -/
def cls (o : Op) : Nat :=
  match o with
  | .move _ | .assign _ | .pick .. | .build .. | .nilCheck _ | .fieldAddr .. | .indexAddr .. | .extract .. | .field .. | .index .. | .makeFunc .. | .binOp .. | .unOp .. | .makeInterface .. | .typeAssert .. => 0
  | .load .. | .lookup .. | .slice .. | .convert .. => 1
  | .call c => match c.callee with
    | .builtin .len | .builtin .min | .builtin .max => 1
    | _ => 3
  | .alloc _ => 2
  | _ => 3

/-- Which operations stand ahead of each one, as bits. -/
def masks : List Nat → List Oper → List Nat
  | done, [] => done
  | done, o :: rest => masks (done ++ [o.after.toList.foldl (fun s e => bif Region.binds .any e then s ||| (1 <<< e.on) ||| done.getD e.on 0 else s) 0]) rest

def hasBit (m i : Nat) : Bool := Nat.beq ((m >>> i) % 2) 1

/-- The same value, for values without parts. -/
def vbeq : Value → Value → Bool
  | .bool a, .bool b => a == b
  | .int k a, .int l b => decide (k = l) && decide (a = b)
  | .string a, .string b => decide (a = b)
  | .float k a, .float l b => decide (k = l) && Nat.beq a b
  | .pointer none, .pointer none => true
  | .pointer (some a), .pointer (some b) => decide (a = b)
  | .slice none n c, .slice none m d => Nat.beq n m && Nat.beq c d
  | .slice (some a) n c, .slice (some b) m d => decide (a = b) && Nat.beq n m && Nat.beq c d
  | .map none, .map none => true
  | .map (some a), .map (some b) => Nat.beq a b
  | .nilFunc, .nilFunc => true
  | .nilIface, .nilIface => true
  | _, _ => false
def vbeqs : List Value → List Value → Bool
  | [], [] => true
  | a :: l, b :: k => vbeq a b && vbeqs l k
  | _, _ => false
def vbeq' : Value → Value → Bool
  | .agg ⟨l⟩, .agg ⟨k⟩ => vbeqs l k
  | a, b => vbeq a b

/-- The variables are made first. -/
def Env.allocs (E : Env) : List Oper → Fr → St → Option (Fr × St)
  | [], fr, σ => some (fr, σ)
  | o :: rest, fr, σ =>
    bif Nat.beq (cls o.op) 2 then
      match E.op (fr.ev E.base) σ o with
      | some (v, σ') => match fr.put o.dst v with
        | some fr' => E.allocs rest fr' σ'
        | none => none
      | none => none
    else E.allocs rest fr σ

/-- One that reads: the frame it has, its value, how many others (3) stand ahead. -/
structure Rd where
  i : Nat
  o : Oper
  fr : Fr
  v : Value
  seg : Nat

/-- All but the variables, in the order of the text: the frame, the state, what was read, the others' places and the states ahead of each. -/
def Env.text (E : Env) (call : CallF) (ops : Array Oper) : Nat → List Oper → Fr → St → List Rd → List Nat → List St → Option (Fr × St × List Rd × List Nat × List St)
  | _, [], fr, σ, rds, ch, ss => some (fr, σ, rds, ch, ss ++ [σ])
  | i, o :: rest, fr, σ, rds, ch, ss =>
    bif Nat.beq (cls o.op) 2 then E.text call ops (i + 1) rest fr σ rds ch ss else
    bif wants ops fr o then
      match E.any call fr σ o with
      | some (v, σ') => match fr.put o.dst v with
        | some fr' =>
          bif Nat.beq (cls o.op) 3 then E.text call ops (i + 1) rest fr' σ' rds (ch ++ [i]) (ss ++ [σ])
          else bif Nat.beq (cls o.op) 1 then E.text call ops (i + 1) rest fr' σ (⟨i, o, fr, v, ch.length⟩ :: rds) ch ss
          else E.text call ops (i + 1) rest fr' σ rds ch ss
        | none => none
      | none => none
    else match fr.put o.dst undef with
      | some fr' => E.text call ops (i + 1) rest fr' σ rds ch ss
      | none => none

/-- The others stand one behind the other. -/
def chained (ms : List Nat) : List Nat → Bool
  | c :: d :: r => hasBit (ms.getD d 0) c && chained ms (d :: r)
  | _ => true

/-- May operation i go on behind just s of the others? -/
def may (ms : List Nat) (i : Nat) : Nat → List Nat → Bool
  | _, [] => true
  | 0, d :: r => !(hasBit (ms.getD i 0) d) && may ms i 0 r
  | s + 1, d :: r => !(hasBit (ms.getD d 0) i) && may ms i s r

def Env.steady (E : Env) (ms ch : List Nat) (r : Rd) : Nat → List St → Bool
  | _, [] => true
  | s, σ :: rest => (Nat.beq s r.seg || !(may ms r.i s ch) || (match E.op (r.fr.ev E.base) σ r.o with | some (v, _) => vbeq' v r.v | none => false)) && E.steady ms ch r (s + 1) rest

def Env.drawn (E : Env) (call : CallF) (ops : Array Oper) (fr : Fr) (σ : St) : Option (Fr × St) :=
  match E.allocs ops.toList fr σ with
  | some (fr1, σ1) => match E.text call ops 0 ops.toList fr1 σ1 [] [] [] with
    | some (fr2, σ2, rds, ch, ss) =>
      match ch with
      | [] => some (fr2, σ2)
      | _ => let ms := masks [] ops.toList
        bif chained ms ch && rds.all (fun r => E.steady ms ch r 0 ss) then some (fr2, σ2) else none
    | none => none
  | none => none

/-! code -/

inductive Ex where
  | normal
  | exit (id : Nat)
  | ret

def loopN (f : Fr → St → Option (Ex × Fr × St)) : Nat → Fr → St → Option (Ex × Fr × St)
  | 0, _, _ => none
  | n + 1, fr, σ => match f fr σ with
    | some (.normal, fr', σ') => loopN f n fr' σ'
    | r => r

def Env.code (E : Env) (call : CallF) (fuel : Nat) : Code → Fr → St → Option (Ex × Fr × St)
  | .skip, fr, σ => some (.normal, fr, σ)
  | .label _, fr, σ => some (.normal, fr, σ)
  | .region _ ops d, fr, σ => match (bif d then E.drawn call ops fr σ else E.run call ops ops.toList fr σ) with
    | some (fr', σ') => some (.normal, fr', σ')
    | none => none
  | .seq a b, fr, σ => match E.code call fuel a fr σ with
    | some (.normal, fr', σ') => E.code call fuel b fr' σ'
    | r => r
  | .cond c a b, fr, σ => match fr.ev E.base c with
    | .bool true => E.code call fuel a fr σ
    | .bool false => E.code call fuel b fr σ
    | _ => none
  | .block id b, fr, σ => match E.code call fuel b fr σ with
    | some (.exit j, fr', σ') => bif Nat.beq j id then some (.normal, fr', σ') else some (.exit j, fr', σ')
    | r => r
  | .scope b, fr, σ => E.code call fuel b fr σ
  | .loop b, fr, σ => loopN (fun fr σ => E.code call fuel b fr σ) fuel fr σ
  | .exit id, fr, σ => some (.exit id, fr, σ)
  | .ret, fr, σ => some (.ret, fr, σ)
  | _, _, _ => none

/-- The results. -/
def Env.result (E : Env) (fr : Fr) (σ : St) : ResultVar → Option Value
  | .tmp t => some (fr.get t)
  | .cell t ty => match addrOf (fr.get t) with
    | some a => E.loadVar σ ty a
    | none => none
def Env.results (E : Env) (fr : Fr) (σ : St) : List ResultVar → Option (List Value)
  | [] => some []
  | r :: rs => match E.result fr σ r, E.results fr σ rs with
    | some v, some l => some (v :: l)
    | _, _ => none
def tupled : List Value → Value
  | [v] => v
  | l => .tuple ⟨l⟩

def frame (args : List Value) (n : Nat) : Fr := ⟨Tr.ofList args 0 .e, n⟩

def Env.fn (E : Env) (fuel : Nat) : Nat → CallF
  | 0, _, _, _ => none
  | d + 1, f, args, σ => match E.P.funcs[f]? with
    | some fn => match fn.body with
      | some c => bif Nat.ble args.length fn.ntmps && Nat.blt fn.ntmps 4294967295 then
          match E.code (E.fn fuel d) fuel c (frame args fn.ntmps) σ with
          | some (.exit _, _, _) => none
          | some (_, fr, σ') => match E.results fr σ' fn.results.toList with
            | some l => some (tupled l, σ')
            | none => none
          | none => none
        else none
      | none => none
    | none => none
end Go.B
