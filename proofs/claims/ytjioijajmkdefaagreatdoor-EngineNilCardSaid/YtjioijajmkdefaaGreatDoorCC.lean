/-
  The interpreter with continuations: regions, code, functions.
-/
import Derived.Test.YtjioijajmkdefaaGreatDoorCB
namespace Go.B
open Go

abbrev FT := Nat → Value
abbrev DF := List (FuncId × List Value)
abbrev KK := Ex → DF → FT → St → R
def upd (t : FT) (dst : Option Tmp) (v : Value) : FT := match dst with | none => t | some d => fun i => bif Nat.beq i d then v else t i
def evF (base : Nat) (t : FT) : Operand → Value
  | .tmp i => t i
  | .const v => bif flatter v then v else undef
  | .global g => bif Nat.blt g base then .pointer (some ⟨g, 0, none⟩) else undef
  | .func f => .func (.func f) #[] #[]
/-- A call: what it returns; what it throws. -/
def callB (x : R) (k : Value → St → R) (P : Value → St → R) : R := match x with
  | some (.ret v, σ) => k v σ
  | some (.pan v, σ) => P v σ
  | none => none
/-- A call in a function that catches nothing. -/
def callR (x : R) (k : Value → St → R) : R := callB x k fun v σ => some (.pan v, σ)
def thr (v : Value) (k : Value → R) : R := match v with | .iface t u => k (.iface t u) | _ => none
def clo (v : Value) (k : FuncId → List Value → List Value → R) : R := match v with | .func (.func g) ⟨l⟩ ⟨c⟩ => k g l c | _ => none
def cevF : Operand → Value
  | .const v => v
  | .func f => .func (.func f) #[] #[]
  | _ => undef
/-- A function without a body. -/
def extV (E : Env) (g : FuncId) (vs : List Value) : Option Value := E.ext cevF (opr (.call { callee := .value (.func g), args := ⟨vs.map .const⟩, argTypes := #[] }))

def Env.anyK (E : Env) (call : CallF) (ρ : Operand → Value) (σ : St) (p : Op) (k : Value → St → R) (P : Value → St → R) : R :=
  match p with
  | .call c => match c.callee with
    | .value f => (match f with
      | .func g => bif E.bare g then bnd (extV E g (c.args.toList.map ρ)) fun v => k v σ else callB (call g (c.args.toList.map ρ) σ) k P
      | f => clo (ρ f) fun g l cc => bif E.bare g then none else callB (call g (l ++ (c.args.toList.map ρ ++ cc)) σ) k P)
    | .builtin .panic => (match c.args.toList with | [x] => thr (ρ x) fun v => P v σ | _ => none)
    | _ => E.opK ρ σ p k
  | .panic x => thr (ρ x) fun v => P v σ
  | _ => E.opK ρ σ p k

def gdK (ops : Array Oper) (t : FT) (o : Oper) (a b : FT → R) : R := match o.guard with
  | none => a t
  | some (j, c) => match (ops[j]?).bind (·.dst) with
    | none => b t
    | some d => cnd (t d) (bif c then a (upd t (some d) (.bool true)) else b (upd t (some d) (.bool true))) (bif c then b (upd t (some d) (.bool false)) else a (upd t (some d) (.bool false)))

def Env.runK (E : Env) (call : CallF) (L : Bool) (ops : Array Oper) : List Oper → DF → FT → St → KK → R
  | [], df, t, σ, K => K .normal df t σ
  | o :: rest, df, t, σ, K => gdK ops t o
      (fun t => bif isLate o then (bif L then (match Env.late (evF E.base t) o with | some p => E.runK call L ops rest (p :: df) (upd t o.dst undef) σ K | none => none) else none)
        else E.anyK call (evF E.base t) σ o.op (fun v σ' => E.runK call L ops rest df (upd t o.dst v) σ' K) (fun v σ' => K (.pan v) df t σ'))
      (fun t => E.runK call L ops rest df (upd t o.dst undef) σ K)

/-! drawn regions -/
structure RdK where
  i : Nat
  o : Oper
  t : FT
  v : Value
  seg : Nat
def smK (v u : Value) (k : R) : R := bif vbeq' v u then k else none
def Env.allocsK (E : Env) : List Oper → FT → St → (FT → St → R) → R
  | [], t, σ, K => K t σ
  | o :: rest, t, σ, K => bif Nat.beq (cls o.op) 2 then E.opK (evF E.base t) σ o.op (fun v σ' => E.allocsK rest (upd t o.dst v) σ' K) else E.allocsK rest t σ K
def Env.textK (E : Env) (call : CallF) (ops : Array Oper) : Nat → List Oper → FT → St → List RdK → List Nat → List St → (FT → St → List RdK → List Nat → List St → R) → R
  | _, [], t, σ, rds, ch, ss, K => K t σ rds ch (ss ++ [σ])
  | i, o :: rest, t, σ, rds, ch, ss, K =>
    bif Nat.beq (cls o.op) 2 then E.textK call ops (i + 1) rest t σ rds ch ss K else
    gdK ops t o
      (fun t => E.anyK call (evF E.base t) σ o.op (fun v σ' =>
          bif Nat.beq (cls o.op) 3 then E.textK call ops (i + 1) rest (upd t o.dst v) σ' rds (ch ++ [i]) (ss ++ [σ]) K
          else bif Nat.beq (cls o.op) 1 then E.textK call ops (i + 1) rest (upd t o.dst v) σ (⟨i, o, t, v, ch.length⟩ :: rds) ch ss K
          else E.textK call ops (i + 1) rest (upd t o.dst v) σ rds ch ss K) (fun _ _ => none))
      (fun t => E.textK call ops (i + 1) rest (upd t o.dst undef) σ rds ch ss K)
def Env.stdyK (E : Env) (ms ch : List Nat) (r : RdK) : Nat → List St → R → R
  | _, [], k => k
  | s, σ :: rest, k => bif Nat.beq s r.seg || !(may ms r.i s ch) then E.stdyK ms ch r (s + 1) rest k else E.opK (evF E.base r.t) σ r.o.op (fun v _ => smK v r.v (E.stdyK ms ch r (s + 1) rest k))
def Env.allK (E : Env) (ms ch : List Nat) (ss : List St) : List RdK → R → R
  | [], k => k
  | r :: rds, k => E.stdyK ms ch r 0 ss (E.allK ms ch ss rds k)
def Env.drawnK (E : Env) (call : CallF) (ops : Array Oper) (t : FT) (σ : St) (K : FT → St → R) : R :=
  E.allocsK ops.toList t σ fun t1 σ1 => E.textK call ops 0 ops.toList t1 σ1 [] [] [] fun t2 σ2 rds ch ss =>
    match ch with
    | [] => K t2 σ2
    | c :: cs => bif chained (masks [] ops.toList) (c :: cs) then E.allK (masks [] ops.toList) (c :: cs) ss rds (K t2 σ2) else none

/-! code -/
def thenK (L : Bool) (k : DF → FT → St → R) (K : KK) : KK := fun ex df t σ => match ex with
  | .normal => k (bif L then df else []) t σ
  | .exit id => K (.exit id) df t σ
  | .ret => K .ret df t σ
  | .pan v => K (.pan v) df t σ
def blkK (id : Nat) (K : KK) : KK := fun ex df t σ => match ex with
  | .exit j => bif Nat.beq j id then K .normal df t σ else K (.exit j) df t σ
  | .normal => K .normal df t σ
  | .ret => K .ret df t σ
  | .pan v => K (.pan v) df t σ
def lpK (body : DF → FT → St → KK → R) (L : Bool) : Nat → DF → FT → St → KK → R
  | 0, _, _, _, _ => none
  | n + 1, df, t, σ, K => body df t σ (thenK L (fun df t σ => lpK body L n df t σ K) K)

def Env.codeK (E : Env) (call : CallF) (fuel : Nat) (L : Bool) : Code → DF → FT → St → KK → R
  | .skip, df, t, σ, K => K .normal df t σ
  | .label _, df, t, σ, K => K .normal df t σ
  | .region _ ops d, df, t, σ, K => bif d then E.drawnK call ops t σ (fun t σ => K .normal df t σ) else E.runK call L ops ops.toList df t σ K
  | .seq a b, df, t, σ, K => E.codeK call fuel L a df t σ (thenK L (fun df t σ => E.codeK call fuel L b df t σ K) K)
  | .cond c a b, df, t, σ, K => cnd (evF E.base t c) (E.codeK call fuel L a df t σ K) (E.codeK call fuel L b df t σ K)
  | .block id b, df, t, σ, K => E.codeK call fuel L b df t σ (blkK id K)
  | .scope b, df, t, σ, K => E.codeK call fuel L b df t σ K
  | .loop b, df, t, σ, K => lpK (fun df t σ K => E.codeK call fuel L b df t σ K) L fuel df t σ K
  | .exit id, df, t, σ, K => K (.exit id) df t σ
  | .ret, df, t, σ, K => K .ret df t σ
  | _, _, _, _, _ => none

def Env.resK (E : Env) (t : FT) (σ : St) : List ResultVar → (List Value → R) → R
  | [], k => k []
  | .tmp i :: rs, k => E.resK t σ rs fun l => k (t i :: l)
  | .cell i ty :: rs, k => match E.agg? ty with
    | some true => (match szc E.P ty with | some n => bnd (ldn E n σ (t i)) fun v => E.resK t σ rs fun l => k (v :: l) | none => none)
    | some false => bnd (ld1 E σ (t i)) fun v => E.resK t σ rs fun l => k (v :: l)
    | none => none
/-- The end, behind what was put off. -/
def finD (E : Env) (call : CallF) (fuel : Nat) (df : DF) (m : PM) (σ : St) (k : St → R) : R := match lates (E.dfn call fuel) df m σ with
  | some (.ret, σ') => k σ'
  | some (.pan v, σ') => some (.pan v, σ')
  | _ => none
def lastK (E : Env) (call : CallF) (fuel : Nat) (L : Bool) (rs : List ResultVar) : KK := fun ex df t σ => match ex with
  | .exit _ => none
  | .pan v => bif L then finD E call fuel df (.pan v) σ (fun σ => E.resK t σ rs fun l => some (.ret (tupled l), σ)) else some (.pan v, σ)
  | .normal => bif L then finD E call fuel df .ret σ (fun σ => E.resK t σ rs fun l => some (.ret (tupled l), σ)) else E.resK t σ rs fun l => some (.ret (tupled l), σ)
  | .ret => bif L then finD E call fuel df .ret σ (fun σ => E.resK t σ rs fun l => some (.ret (tupled l), σ)) else E.resK t σ rs fun l => some (.ret (tupled l), σ)

/-- All that is written is there. -/
def okDst (n : Nat) : Code → Bool
  | .region _ ops _ => ops.toList.all fun o => match o.dst with | some d => Nat.blt d n | none => true
  | .seq a b => okDst n a && okDst n b
  | .cond _ a b => okDst n a && okDst n b
  | .block _ b => okDst n b
  | .scope b => okDst n b
  | .loop b => okDst n b
  | _ => true
def argF (args : List Value) : FT := fun i => args.getD i undef
/-- A function's body. -/
def Env.funK (E : Env) (call : CallF) (fuel : Nat) (L : Bool) (fn : Func) (args : List Value) (σ : St) : R := match fn.body with
  | some c => E.codeK call fuel L c [] (argF args) σ (lastK E call fuel L fn.results.toList)
  | none => none
end Go.B
