/-
  The interpreter over abstract states: regions, code, calls.
-/
import Derived.Test.YtjioijajmkdefaaGreatDoorBQ
namespace Go.B
open Go

structure Fr where
  t : Nat → Value
  n : Nat
  df : List (FuncId × List Value)

def Fr.get (fr : Fr) (i : Nat) : Value := fr.t i
def Fr.put (fr : Fr) (dst : Option Tmp) (v : Value) : Option Fr :=
  match dst with
  | none => some fr
  | some d => bif Nat.blt d fr.n then some ⟨fun i => bif Nat.beq i d then v else fr.t i, fr.n, fr.df⟩ else none

def Fr.ev (base : Nat) (fr : Fr) : Operand → Value
  | .tmp t => fr.get t
  | .const v => bif flatter v then v else undef
  | .global g => bif Nat.blt g base then .pointer (some ⟨g, 0, none⟩) else undef
  | .func f => .func (.func f) #[] #[]

def orr {α : Type} (a : Option α) (b : Option α) : Option α := match a with | some x => some x | none => b
def keep (σ : St) : Option Value → Option (Value × St)
  | some v => some (v, σ)
  | none => none

/-- An operation that is no call of a function. -/
def Env.op (E : Env) (ρ : Operand → Value) (σ : St) (o : Oper) : Option (Value × St) :=
  match o.op with
  | .move x | .assign x => some (ρ x, σ)
  | .pick c a b => keep σ (Env.opPick ρ c a b)
  | .load t x => E.opLoad ρ σ t x
  | .store t x y => E.opStore ρ σ t x y
  | .alloc t => E.opAlloc σ t
  | .box t x => Env.opBox ρ σ t x
  | .build t ps => keep σ (E.opBuild ρ t ps)
  | .buildSlice t n ps => E.opBuildSlice ρ σ t n ps
  | .nilCheck x => keep σ (Env.opNil ρ x)
  | .fieldAddr s x f => keep σ (E.opField ρ s x f)
  | .indexAddr t x i => keep σ (E.opIndex ρ t x i)
  | .slice t x lo hi mx => keep σ (match ρ x with | .slice (some _) _ _ => E.opSlice ρ σ t x lo hi mx | .pointer (some _) => E.opSliceA ρ σ t x lo hi mx | _ => E.plain ρ o)
  | .extract x i => keep σ (Env.opExtract ρ x i)
  | .field t x f => keep σ (E.opPart ρ t x f)
  | .index t x i => keep σ (match ρ x with | .agg _ => E.opAt ρ t x i | _ => E.plain ρ o)
  | .makeFunc fn a b => some (Env.opFunc ρ fn a b, σ)
  | .makeSlice t l c => E.opMake ρ σ t l c
  | .makeMap t none => Env.opMakeMap σ
  | .lookup t x i ok => keep σ (E.opLookup ρ σ t x i ok)
  | .mapUpdate t x i y => E.opUpdate ρ σ t x i y
  | .range t x => E.opRange ρ σ t x
  | .next x s => E.opNext ρ σ x s
  | .entry x => keep σ (E.opEntry ρ σ x)
  | .convert s d x => keep σ (match ρ x with | .slice (some _) _ _ => E.opString ρ σ s d x | _ => E.plain ρ o)
  | .binOp op t x y _ => keep σ (orr (Env.opQuick ρ op x y) (orr (E.plain ρ o) (E.opEq ρ op t x y)))
  | .unOp .. | .makeInterface .. | .typeAssert .. => keep σ (E.plain ρ o)
  | .call c => match c.callee with
    | .builtin .append => match c.args.toList, c.argTypes.toList with
      | [s, x], [t, tx] => E.opAppend ρ σ s x t tx
      | _, _ => none
    | .builtin .copy => match c.args.toList, c.argTypes.toList with
      | [x, y], [t, _] => E.opCopy ρ σ x y t
      | _, _ => none
    | .builtin .delete => match c.args.toList, c.argTypes.toList with
      | [x, i], [t, _] => E.opDelete ρ σ t x i
      | _, _ => none
    | .builtin .len => match c.args.toList, c.argTypes.toList with
      | [x], [t] => keep σ (match ρ x with | .slice .. => E.opLen ρ x t | .map (some _) => E.opLenMap ρ σ x t | _ => E.plain ρ o)
      | _, _ => none
    | .builtin .min | .builtin .max => keep σ (E.plain ρ o)
    | _ => none
  | _ => none

/-- What is called: the function, its arguments. -/
def Env.callee (ρ : Operand → Value) (o : Oper) : Option (FuncId × List Value) :=
  match o.op with
  | .call c => match c.callee with
    | .value f => match ρ f with
      | .func (.func g) ⟨l⟩ ⟨k⟩ => some (g, l ++ (c.args.toList.map ρ ++ k))
      | _ => none
    | _ => none
  | _ => none

/-- How a call ends. -/
inductive Out where
  | ret (v : Value)
  | pan (v : Value)
abbrev CallF := FuncId → List Value → St → Option (Out × St)
def retd : Option (Value × St) → Option (Out × St)
  | some (v, σ) => some (.ret v, σ)
  | none => none

def isCall (o : Oper) : Bool := match o.op with | .call c => (match c.callee with | .value _ => true | _ => false) | _ => false

/-- A value without parts, or a function. -/
def flatF : Value → Bool
  | .func (.func _) ⟨[]⟩ ⟨[]⟩ => true
  | v => flatter v
/-- A function without a body: what it answers, if it touches no world. -/
def Env.bare (E : Env) (g : FuncId) : Bool := match E.P.funcs[g]? with | some fn => fn.body.isNone | none => false
def Env.ext (E : Env) (ρ : Operand → Value) (o : Oper) : Option Value :=
  bif o.op.operands.toList.all (fun x => flatF (ρ x)) then
    match pur E.P (execOp ρ o) with
    | some (.value v) => bif flatter v then some v else none
    | _ => none
  else none
/-- What is thrown. -/
def thrown (ρ : Operand → Value) (o : Oper) : Option Value :=
  match (match o.op with
    | .panic x => some x
    | .call c => (match c.callee, c.args.toList with | .builtin .panic, [x] => some x | _, _ => none)
    | _ => none) with
  | some x => (match ρ x with | .iface t v => some (.iface t v) | _ => none)
  | none => none
def isThrow (o : Oper) : Bool := match o.op with | .panic _ => true | .call c => (match c.callee with | .builtin .panic => true | _ => false) | _ => false
def Env.any (E : Env) (call : CallF) (fr : Fr) (σ : St) (o : Oper) : Option (Out × St) :=
  bif isCall o then match Env.callee (fr.ev E.base) o with
    | some (g, args) => bif E.bare g then retd (keep σ (E.ext (fr.ev E.base) o)) else call g args σ
    | none => none
  else bif isThrow o then match thrown (fr.ev E.base) o with
    | some v => some (.pan v, σ)
    | none => none
  else retd (E.op (fr.ev E.base) σ o)

/-- Is an operation wanted? -/
def wants (ops : Array Oper) (fr : Fr) (o : Oper) : Bool :=
  match o.guard with
  | none => true
  | some (j, b) => match (ops[j]?).bind (·.dst) with
    | some d => match fr.t d with
      | .bool c => c == b
      | _ => false
    | none => false

/-- What is put off: the function, its arguments. -/
def Env.late (ρ : Operand → Value) (o : Oper) : Option (FuncId × List Value) :=
  match o.op with
  | .defer c => match c.callee with
    | .value f => match ρ f with
      | .func (.func g) ⟨l⟩ ⟨k⟩ => some (g, l ++ (c.args.toList.map ρ ++ k))
      | _ => none
    | _ => none
  | _ => none
def isLate (o : Oper) : Bool := match o.op with | .defer _ => true | _ => false

inductive Ex where
  | normal
  | exit (id : Nat)
  | ret
  | pan (v : Value)

def Env.run (E : Env) (call : CallF) (ops : Array Oper) : List Oper → Fr → St → Option (Ex × Fr × St)
  | [], fr, σ => some (.normal, fr, σ)
  | o :: rest, fr, σ =>
    bif wants ops fr o then
      bif isLate o then match Env.late (fr.ev E.base) o with
        | some p => match Fr.put ⟨fr.t, fr.n, p :: fr.df⟩ o.dst undef with
          | some fr' => E.run call ops rest fr' σ
          | none => none
        | none => none
      else match E.any call fr σ o with
      | some (.ret v, σ') => match fr.put o.dst v with
        | some fr' => E.run call ops rest fr' σ'
        | none => none
      | some (.pan v, σ') => some (.pan v, fr, σ')
      | none => none
    else match fr.put o.dst undef with
      | some fr' => E.run call ops rest fr' σ
      | none => none

/-! drawn regions -/

/-- Operations that hang on no memory and turn none (0), that read (1), that make a variable (2), others (3). -/
def cls (o : Op) : Nat :=
  match o with
  | .move _ | .assign _ | .pick .. | .build .. | .nilCheck _ | .fieldAddr .. | .indexAddr .. | .extract .. | .field .. | .index .. | .makeFunc .. | .binOp .. | .unOp .. | .makeInterface .. | .typeAssert .. => 0
  | .load .. | .lookup .. | .slice .. | .convert .. => 1
  | .call c => match c.callee with
    | .builtin .len | .builtin .min | .builtin .max => 1
    | _ => 3
  | .alloc _ => 2
  | _ => 3

/-- Which operations stand ahead of each one, as bits. -/
def masks : List Nat → List Oper → List Nat
  | done, [] => done
  | done, o :: rest => masks (done ++ [o.after.toList.foldl (fun s e => bif Region.binds .any e then s ||| (1 <<< e.on) ||| done.getD e.on 0 else s) 0]) rest

def hasBit (m i : Nat) : Bool := Nat.beq ((m >>> i) % 2) 1

/-- The same value, for values without parts. -/
def vbeq : Value → Value → Bool
  | .bool a, .bool b => a == b
  | .int k a, .int l b => decide (k = l) && decide (a = b)
  | .string a, .string b => decide (a = b)
  | .float k a, .float l b => decide (k = l) && Nat.beq a b
  | .pointer none, .pointer none => true
  | .pointer (some a), .pointer (some b) => decide (a = b)
  | .slice none n c, .slice none m d => Nat.beq n m && Nat.beq c d
  | .slice (some a) n c, .slice (some b) m d => decide (a = b) && Nat.beq n m && Nat.beq c d
  | .map none, .map none => true
  | .map (some a), .map (some b) => Nat.beq a b
  | .nilFunc, .nilFunc => true
  | .nilIface, .nilIface => true
  | _, _ => false
def vbeqs : List Value → List Value → Bool
  | [], [] => true
  | a :: l, b :: k => vbeq a b && vbeqs l k
  | _, _ => false
def vbeq' : Value → Value → Bool
  | .agg ⟨l⟩, .agg ⟨k⟩ => vbeqs l k
  | a, b => vbeq a b

/-- The variables are made first. -/
def Env.allocs (E : Env) : List Oper → Fr → St → Option (Fr × St)
  | [], fr, σ => some (fr, σ)
  | o :: rest, fr, σ =>
    bif Nat.beq (cls o.op) 2 then
      match E.op (fr.ev E.base) σ o with
      | some (v, σ') => match fr.put o.dst v with
        | some fr' => E.allocs rest fr' σ'
        | none => none
      | none => none
    else E.allocs rest fr σ

/-- One that reads: the frame it has, its value, how many others (3) stand ahead. -/
structure Rd where
  i : Nat
  o : Oper
  fr : Fr
  v : Value
  seg : Nat

/-- All but the variables, in the order of the text: the frame, the state, what was read, the others' places and the states ahead of each. -/
def Env.text (E : Env) (call : CallF) (ops : Array Oper) : Nat → List Oper → Fr → St → List Rd → List Nat → List St → Option (Fr × St × List Rd × List Nat × List St)
  | _, [], fr, σ, rds, ch, ss => some (fr, σ, rds, ch, ss ++ [σ])
  | i, o :: rest, fr, σ, rds, ch, ss =>
    bif Nat.beq (cls o.op) 2 then E.text call ops (i + 1) rest fr σ rds ch ss else
    bif wants ops fr o then
      match E.any call fr σ o with
      | some (.ret v, σ') => match fr.put o.dst v with
        | some fr' =>
          bif Nat.beq (cls o.op) 3 then E.text call ops (i + 1) rest fr' σ' rds (ch ++ [i]) (ss ++ [σ])
          else bif Nat.beq (cls o.op) 1 then E.text call ops (i + 1) rest fr' σ (⟨i, o, fr, v, ch.length⟩ :: rds) ch ss
          else E.text call ops (i + 1) rest fr' σ rds ch ss
        | none => none
      | _ => none
    else match fr.put o.dst undef with
      | some fr' => E.text call ops (i + 1) rest fr' σ rds ch ss
      | none => none

/-- The others stand one behind the other. -/
def chained (ms : List Nat) : List Nat → Bool
  | c :: d :: r => hasBit (ms.getD d 0) c && chained ms (d :: r)
  | _ => true

/-- May operation i go on behind just s of the others? -/
def may (ms : List Nat) (i : Nat) : Nat → List Nat → Bool
  | _, [] => true
  | 0, d :: r => !(hasBit (ms.getD i 0) d) && may ms i 0 r
  | s + 1, d :: r => !(hasBit (ms.getD d 0) i) && may ms i s r

def Env.steady (E : Env) (ms ch : List Nat) (r : Rd) : Nat → List St → Bool
  | _, [] => true
  | s, σ :: rest => (Nat.beq s r.seg || !(may ms r.i s ch) || (match E.op (r.fr.ev E.base) σ r.o with | some (v, _) => vbeq' v r.v | none => false)) && E.steady ms ch r (s + 1) rest

def Env.drawn (E : Env) (call : CallF) (ops : Array Oper) (fr : Fr) (σ : St) : Option (Fr × St) :=
  match E.allocs ops.toList fr σ with
  | some (fr1, σ1) => match E.text call ops 0 ops.toList fr1 σ1 [] [] [] with
    | some (fr2, σ2, rds, ch, ss) =>
      match ch with
      | [] => some (fr2, σ2)
      | _ => let ms := masks [] ops.toList
        bif chained ms ch && rds.all (fun r => E.steady ms ch r 0 ss) then some (fr2, σ2) else none
    | none => none
  | none => none

/-! code -/

def loopN (f : Fr → St → Option (Ex × Fr × St)) : Nat → Fr → St → Option (Ex × Fr × St)
  | 0, _, _ => none
  | n + 1, fr, σ => match f fr σ with
    | some (.normal, fr', σ') => loopN f n fr' σ'
    | r => r

def Env.code (E : Env) (call : CallF) (fuel : Nat) : Code → Fr → St → Option (Ex × Fr × St)
  | .skip, fr, σ => some (.normal, fr, σ)
  | .label _, fr, σ => some (.normal, fr, σ)
  | .region _ ops d, fr, σ => bif d then match E.drawn call ops fr σ with
      | some (fr', σ') => some (.normal, fr', σ')
      | none => none
    else E.run call ops ops.toList fr σ
  | .seq a b, fr, σ => match E.code call fuel a fr σ with
    | some (.normal, fr', σ') => E.code call fuel b fr' σ'
    | r => r
  | .cond c a b, fr, σ => match fr.ev E.base c with
    | .bool true => E.code call fuel a fr σ
    | .bool false => E.code call fuel b fr σ
    | _ => none
  | .block id b, fr, σ => match E.code call fuel b fr σ with
    | some (.exit j, fr', σ') => bif Nat.beq j id then some (.normal, fr', σ') else some (.exit j, fr', σ')
    | r => r
  | .scope b, fr, σ => E.code call fuel b fr σ
  | .loop b, fr, σ => loopN (fun fr σ => E.code call fuel b fr σ) fuel fr σ
  | .exit id, fr, σ => some (.exit id, fr, σ)
  | .ret, fr, σ => some (.ret, fr, σ)
  | _, _, _ => none

/-- The results. -/
def Env.result (E : Env) (fr : Fr) (σ : St) : ResultVar → Option Value
  | .tmp t => some (fr.get t)
  | .cell t ty => match addrOf (fr.get t) with
    | some a => E.loadVar σ ty a
    | none => none
def Env.results (E : Env) (fr : Fr) (σ : St) : List ResultVar → Option (List Value)
  | [] => some []
  | r :: rs => match E.result fr σ r, E.results fr σ rs with
    | some v, some l => some (v :: l)
    | _, _ => none
def tupled : List Value → Value
  | [v] => v
  | l => .tuple ⟨l⟩

def frame (args : List Value) (n : Nat) : Fr := ⟨fun i => args.getD i undef, n, []⟩

/-! what was put off -/
/-- Does the function return, or is it thrown through; or was that caught? -/
inductive PM where
  | ret
  | pan (v : Value)
  | caught (v : Value)
def isRec (o : Oper) : Bool := match o.op with | .call c => (match c.callee with | .builtin .recover => true | _ => false) | _ => false
def PM.got : PM → Value × PM
  | .pan v => (v, .caught v)
  | m => (.nilIface, m)
def PM.settle : PM → PM
  | .caught _ => .ret
  | m => m
def Env.drun (E : Env) (call : CallF) (ops : Array Oper) : List Oper → Fr → PM → St → Option (Fr × PM × St)
  | [], fr, m, σ => some (fr, m, σ)
  | o :: rest, fr, m, σ =>
    bif wants ops fr o then
      bif isRec o then match fr.put o.dst m.got.1 with
        | some fr' => E.drun call ops rest fr' m.got.2 σ
        | none => none
      else match E.any call fr σ o with
      | some (.ret v, σ') => match fr.put o.dst v with
        | some fr' => E.drun call ops rest fr' m σ'
        | none => none
      | _ => none
    else match fr.put o.dst undef with
      | some fr' => E.drun call ops rest fr' m σ
      | none => none
def tagM (m : PM) : Option (Ex × Fr × St) → Option (Ex × Fr × PM × St)
  | some (ex, fr, σ) => some (ex, fr, m, σ)
  | none => none
/-- The code of what was put off. -/
def Env.dcode (E : Env) (call : CallF) (fuel : Nat) : Code → Fr → PM → St → Option (Ex × Fr × PM × St)
  | .region id ops d, fr, m, σ => bif !d && ops.toList.any isRec then match E.drun call ops ops.toList fr m σ with
      | some (fr', m', σ') => some (.normal, fr', m', σ')
      | none => none
    else tagM m (E.code call fuel (.region id ops d) fr σ)
  | .seq a b, fr, m, σ => match E.dcode call fuel a fr m σ with
    | some (.normal, fr', m', σ') => E.dcode call fuel b fr' m' σ'
    | r => r
  | .cond c a b, fr, m, σ => match fr.ev E.base c with
    | .bool true => E.dcode call fuel a fr m σ
    | .bool false => E.dcode call fuel b fr m σ
    | _ => none
  | c, fr, m, σ => tagM m (E.code call fuel c fr σ)

def fits (args : List Value) (fn : Func) : Bool := Nat.ble args.length fn.ntmps && Nat.blt fn.ntmps 4294967295
def Env.dfn (E : Env) (call : CallF) (fuel : Nat) (f : FuncId) (args : List Value) (m : PM) (σ : St) : Option (PM × St) :=
  match E.P.funcs[f]? with
  | some fn => match fn.body with
    | some c => bif fits args fn then match E.dcode call fuel c (frame args fn.ntmps) m σ with
        | some (.exit _, _, _, _) => none
        | some (.pan _, _, _, _) => none
        | some (_, fr, m', σ') => match fr.df, E.results fr σ' fn.results.toList with
          | [], some _ => some (m', σ')
          | _, _ => none
        | none => none
      else none
    | none => none
  | none => none
def lates (late : FuncId → List Value → PM → St → Option (PM × St)) : List (FuncId × List Value) → PM → St → Option (PM × St)
  | [], m, σ => some (m, σ)
  | (g, args) :: r, m, σ => match late g args m σ with
    | some (m', σ') => lates late r m'.settle σ'
    | none => none

/-- The end of a function. -/
def Env.fin (E : Env) (call : CallF) (fuel : Nat) (fn : Func) (fr : Fr) (m : PM) (σ : St) : Option (Out × St) :=
  match lates (E.dfn call fuel) fr.df m σ with
  | some (.ret, σ') => match E.results fr σ' fn.results.toList with
    | some l => some (.ret (tupled l), σ')
    | none => none
  | some (.pan v, σ') => some (.pan v, σ')
  | _ => none
def Env.last (E : Env) (call : CallF) (fuel : Nat) (fn : Func) : Ex → Fr → St → Option (Out × St)
  | .normal, fr, σ => E.fin call fuel fn fr .ret σ
  | .ret, fr, σ => E.fin call fuel fn fr .ret σ
  | .pan v, fr, σ => E.fin call fuel fn fr (.pan v) σ
  | .exit _, _, _ => none
def Env.body (E : Env) (call : CallF) (fuel : Nat) (f : FuncId) (args : List Value) (σ : St) : Option (Out × St) :=
  match E.P.funcs[f]? with
  | some fn => match fn.body with
    | some c => bif fits args fn then
        match E.code call fuel c (frame args fn.ntmps) σ with
        | some (ex, fr, σ1) => E.last call fuel fn ex fr σ1
        | none => none
      else none
    | none => none
  | none => none
def Env.fn (E : Env) (X : CallF) (fuel : Nat) : Nat → CallF
  | 0, f, args, σ => X f args σ
  | d + 1, f, args, σ => match X f args σ with
    | some r => some r
    | none => E.body (E.fn X fuel d) fuel f args σ
end Go.B
