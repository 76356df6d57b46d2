/-
  The interpreter once more, with continuations: what an operation does, on values.
-/
import Derived.Test.YtjioijajmkdefaaGreatDoorBJ
namespace Go.B
open Go

abbrev R := Option (Out × St)
def bnd {α β : Type} (x : Option α) (k : α → Option β) : Option β := match x with | some a => k a | none => none
theorem bnd_some {α β : Type} (a : α) (k : α → Option β) : bnd (some a) k = k a := rfl
theorem bnd_is {α β : Type} {x : Option α} {k : α → Option β} {r : β} (h : bnd x k = some r) : ∃ a, x = some a ∧ k a = some r := by
  cases x with
  | none => cases h
  | some a => exact ⟨a, rfl, h⟩
/-- Which way? -/
def cnd {β : Type} (v : Value) (a b : Option β) : Option β := match v with | .bool true => a | .bool false => b | _ => none
theorem cnd_is {β : Type} {v : Value} {a b : Option β} {r : β} (h : cnd v a b = some r) : (v = .bool true ∧ a = some r) ∨ (v = .bool false ∧ b = some r) := by
  unfold cnd at h
  split at h
  · exact .inl ⟨rfl, h⟩
  · exact .inr ⟨rfl, h⟩
  · cases h
/-- Goes on, if that holds. -/
def iff' {β : Type} (c : Bool) (a : Option β) : Option β := bif c then a else none
theorem iff_is {β : Type} {c : Bool} {a : Option β} {r : β} (h : iff' c a = some r) : c = true ∧ a = some r := by
  cases c
  · cases h
  · exact ⟨rfl, h⟩

/-! values -/
def fld (off : Nat) (v : Value) : Option Value := match addrOf v with | some a => some (.pointer (some ⟨a.block, a.off + off, none⟩)) | none => none
def ld1 (E : Env) (σ : St) (v : Value) : Option Value := match addrOf v with | some a => E.load σ a | none => none
def ldn (E : Env) (n : Nat) (σ : St) (v : Value) : Option Value := match addrOf v with
  | some a => (match E.loads σ a.block a.off n with | some l => some (.agg ⟨l⟩) | none => none)
  | none => none
def st1 (E : Env) (σ : St) (p v : Value) : Option St := match addrOf p with | some a => E.store σ a v | none => none
def stn (E : Env) (n : Nat) (σ : St) (p v : Value) : Option St := match addrOf p with | some a => bif Nat.beq v.cells.toList.length n then E.stores σ a.block a.off v.cells.toList else none | none => none
/-- A new row of cells. -/
def nw {β : Type} (ty : TypeId) (l : List Value) (σ : St) (k : Value → St → β) : β := k (.pointer (some ⟨σ.nx, 0, none⟩)) (σ.new (blkOf l ty))
def nws {β : Type} (ty : TypeId) (n c : Nat) (l : List Value) (σ : St) (k : Value → St → β) : β := k (.slice (some ⟨σ.nx, 0, none⟩) n c) (σ.new (blkOf l ty))
def ixs (n : Nat) (v i : Value) : Option Value := match natOf i with
  | none => none
  | some k => (match v with | .slice (some a) len _ => bif Nat.blt k len && !a.spot.isSome then some (.pointer (some ⟨a.block, a.off + k * n, none⟩)) else none | _ => none)
def ixa (len n : Nat) (v i : Value) : Option Value := match natOf i with
  | none => none
  | some k => (match v with | .pointer (some a) => bif Nat.blt k len && !a.spot.isSome then some (.pointer (some ⟨a.block, a.off + k * n, none⟩)) else none | _ => none)
def nck (v : Value) : Option Value := match v with | .pointer (some a) => some (.pointer (some a)) | _ => none
def xtr (i : Nat) (v : Value) : Option Value := match v with | .tuple ⟨l⟩ => l[i]? | _ => none
def prt1 (off : Nat) (v : Value) : Option Value := match v with | .agg ⟨l⟩ => l[off]? | _ => none
def prtn (off n : Nat) (v : Value) : Option Value := match v with | .agg ⟨l⟩ => some (.agg ⟨(l.drop off).take n⟩) | _ => none
def at1 (len n : Nat) (v i : Value) : Option Value := match natOf i with
  | none => none
  | some k => (match v with | .agg ⟨l⟩ => bif Nat.blt k len then l[k * n]? else none | _ => none)
def atn (len n : Nat) (v i : Value) : Option Value := match natOf i with
  | none => none
  | some k => (match v with | .agg ⟨l⟩ => bif Nat.blt k len then some (.agg ⟨(l.drop (k * n)).take n⟩) else none | _ => none)
def bld (pl : Nat → Option (Nat × Nat)) (z : Array Value) (ps : List (Nat × Value)) : Option Value := match Instr.fill pl z ps with | some r => some (.agg r) | none => none
def bls (len n : Nat) (z : Array Value) (ps : List (Nat × Value)) : Option (List Value) := match Instr.fill (fun i => some (i * n, n)) z ps with
  | some r => bif Nat.beq r.toList.length (len * n) then some r.toList else none
  | none => none

def opr (p : Op) : Oper := { (default : Oper) with op := p }
/-- The operands of an operation on given values. -/
def two (v w : Value) : Operand → Value
  | .tmp 0 => v
  | .tmp _ => w
  | .const z => z
  | _ => undef
def opd (c : Bool) (i : Nat) (v : Value) : Operand := bif c then .const v else .tmp i
def isC? : Operand → Bool | .const _ => true | _ => false
def bin (E : Env) (op : BinOp) (t : TypeId) (cx cy : Bool) (v w : Value) : Option Value :=
  let ρ := two v w
  let x := opd cx 0 v
  let y := opd cy 1 w
  orr (Env.opQuick ρ op x y) (orr (E.plain ρ (opr (.binOp op t x y 0))) (E.opEq ρ op t x y))
/-- One operand. -/
def pl1 (E : Env) (p : Operand → Op) (v : Value) : Option Value := E.plain (two v v) (opr (p (.tmp 0)))
/-- Two. -/
def pl2 (E : Env) (p : Operand → Operand → Op) (v w : Value) : Option Value := E.plain (two v w) (opr (p (.tmp 0) (.tmp 1)))
def sat (E : Env) (t : TypeId) (v i : Value) : Option Value := match v with | .string _ => pl2 E (fun x i => .index t x i) v i | _ => none
def notV (v : Value) : Option Value := match v with | .bool b => some (.bool (!b)) | _ => none
def cvi (k : IntKind) (v : Value) : Option Value := match v with
  | .int _ (.ofNat n) => bif Nat.blt n (capOf k) then some (.int k (.ofNat n)) else some (.int k (k.wrap (.ofNat n)))
  | .int _ n => some (.int k (k.wrap n))
  | _ => none
def lns (v : Value) : Option Value := match v with | .slice _ n _ => some (goInt n) | _ => none
def lnt (v : Value) : Option Value := match v with | .string s => some (goInt s.size) | _ => none
def slc (E : Env) (t : TypeId) (σ : St) (v : Value) (lo hi mx : Option Value) : Option Value :=
  let o : Option Value → Nat → Option Operand := fun x i => x.map fun _ => .tmp i
  let ρ : Operand → Value := fun x => match x with | .tmp 0 => v | .tmp 1 => lo.getD undef | .tmp 2 => hi.getD undef | _ => mx.getD undef
  match v with
  | .slice (some _) _ _ => E.opSlice ρ σ t (.tmp 0) (o lo 1) (o hi 2) (o mx 3)
  | .pointer (some _) => E.opSliceA ρ σ t (.tmp 0) (o lo 1) (o hi 2) (o mx 3)
  | _ => E.plain ρ (opr (.slice t (.tmp 0) (o lo 1) (o hi 2) (o mx 3)))
def app (E : Env) (t tx : TypeId) (σ : St) (s x : Value) : Option (Value × St) := E.opAppend (two s x) σ (.tmp 0) (.tmp 1) t tx
def cpy (E : Env) (t : TypeId) (σ : St) (x y : Value) : Option (Value × St) := E.opCopy (two x y) σ (.tmp 0) (.tmp 1) t
def mks (E : Env) (t : TypeId) (σ : St) (l c : Value) : Option (Value × St) := E.opMake (two l c) σ t (.tmp 0) (.tmp 1)
def lkp (E : Env) (t : TypeId) (ok : Bool) (σ : St) (x i : Value) : Option Value := E.opLookup (two x i) σ t (.tmp 0) (.tmp 1) ok
def upm (E : Env) (t : TypeId) (σ : St) (x i y : Value) : Option (Value × St) := E.opUpdate (fun z => match z with | .tmp 0 => x | .tmp 1 => i | _ => y) σ t (.tmp 0) (.tmp 1) (.tmp 2)
def dlt (E : Env) (t : TypeId) (σ : St) (x i : Value) : Option (Value × St) := E.opDelete (two x i) σ t (.tmp 0) (.tmp 1)
def rng (E : Env) (t : TypeId) (σ : St) (x : Value) : Option (Value × St) := E.opRange (two x x) σ t (.tmp 0)
def nxt (E : Env) (s : Bool) (σ : St) (x : Value) : Option (Value × St) := E.opNext (two x x) σ (.tmp 0) s
def ent (E : Env) (σ : St) (x : Value) : Option Value := E.opEntry (two x x) σ (.tmp 0)
def str (E : Env) (s d : TypeId) (σ : St) (v : Value) : Option Value := match v with
  | .slice (some _) _ _ => E.opString (two v v) σ s d (.tmp 0)
  | _ => E.plain (two v v) (opr (.convert s d (.tmp 0)))
def lnm (E : Env) (t : TypeId) (σ : St) (v : Value) : Option Value := match v with
  | .map (some _) => E.opLenMap (two v v) σ (.tmp 0) t
  | _ => none
/-- The least, the greatest. -/
def mnx (E : Env) (b : Builtin) (ts : Array TypeId) (v w : Value) : Option Value := E.plain (two v w) (opr (.call { callee := .builtin b, args := #[.tmp 0, .tmp 1], argTypes := ts }))
def ofc (P : Program) (s : TypeId) (f : Nat) : Option Nat := match P.underlying s with
  | some (.struct fs) => (match fs[f]? with
    | some fd => (match (P.info? fd.type).map (·.size) with | some n => bif Nat.beq n 0 then none else some fd.offset | none => none)
    | none => none)
  | _ => none
def pfc (P : Program) (s : TypeId) (f : Nat) : Option (TypeId × Nat) := match P.underlying s with
  | some (.struct fs) => (match fs[f]? with | some fd => some (fd.type, fd.offset) | none => none)
  | _ => none
def szc (P : Program) (t : TypeId) : Option Nat := (P.info? t).map (·.size)
def lst (ρ : Operand → Value) (ps : Array (Nat × Operand)) : List (Nat × Value) := ps.toList.map fun p => (p.1, ρ p.2)

/-- An operation that is no call. -/
def Env.opK {β : Type} (E : Env) (ρ : Operand → Value) (σ : St) (p : Op) (k : Value → St → Option β) : Option β :=
  match p with
  | .move x | .assign x => k (ρ x) σ
  | .pick c a b => cnd (ρ c) (k (ρ a) σ) (k (ρ b) σ)
  | .load t x => match E.agg? t with
    | some true => (match szc E.P t with | some n => bnd (ldn E n σ (ρ x)) fun v => k v σ | none => none)
    | some false => bnd (ld1 E σ (ρ x)) fun v => k v σ
    | none => none
  | .store t x y => match E.agg? t, szc E.P t with
    | some false, some 1 => bnd (st1 E σ (ρ x) (ρ y)) fun σ' => k undef σ'
    | some _, some n => bnd (stn E n σ (ρ x) (ρ y)) fun σ' => k undef σ'
    | _, _ => none
  | .alloc t => match (E.P.info? t).bind (·.zero) with
    | some z => bif flats z.cells.toList then nw (unit E.P t) z.cells.toList σ k else none
    | none => none
  | .box t x => nw t (ρ x).cells.toList σ k
  | .build t ps => match (E.P.info? t).bind (·.zero), E.P.underlying t with
    | some z, some (.struct fs) => (match E.places fs.toList with
      | some pl => bif flats z.cells.toList then bnd (bld (fun i => pl[i]?) z.cells (lst ρ ps)) fun v => k v σ else none
      | none => none)
    | some z, some (.array _ e) => (match szc E.P e with
      | some n => bif flats z.cells.toList then bnd (bld (fun i => some (i * n, n)) z.cells (lst ρ ps)) fun v => k v σ else none
      | none => none)
    | _, _ => none
  | .buildSlice t len ps => match E.P.underlying t with
    | some (.slice e) => (match szc E.P e, (E.P.info? e).bind (·.zero) with
      | some n, some z => bif !(Nat.blt 16777216 (len * n) || Nat.beq n 0) && flats ((Array.range (len * n)).map (z.cells[· % z.cells.size]!)).toList then
          bnd (bls len n ((Array.range (len * n)).map (z.cells[· % z.cells.size]!)) (lst ρ ps)) fun l => nws e len len l σ k else none
      | _, _ => none)
    | _ => none
  | .nilCheck x => bnd (nck (ρ x)) fun v => k v σ
  | .fieldAddr s x f => match ofc E.P s f with
    | some off => bnd (fld off (ρ x)) fun v => k v σ
    | none => none
  | .indexAddr t x i => match E.P.underlying t with
    | some (.array len e) => (match szc E.P e with | some n => bnd (ixa len n (ρ x) (ρ i)) fun v => k v σ | none => none)
    | some (.slice e) => (match szc E.P e with | some n => bnd (ixs n (ρ x) (ρ i)) fun v => k v σ | none => none)
    | _ => none
  | .slice t x lo hi mx => bnd (slc E t σ (ρ x) (lo.map ρ) (hi.map ρ) (mx.map ρ)) fun v => k v σ
  | .extract x i => bnd (xtr i (ρ x)) fun v => k v σ
  | .field t x f => match pfc E.P t f with
    | some (ft, off) => (match E.agg? ft with
      | some true => (match szc E.P ft with | some n => bnd (prtn off n (ρ x)) fun v => k v σ | none => none)
      | some false => bnd (prt1 off (ρ x)) fun v => k v σ
      | none => none)
    | none => none
  | .index t x i => match E.P.underlying t with
    | some (.array len e) => (match szc E.P e, E.agg? e with
      | some n, some true => bnd (atn len n (ρ x) (ρ i)) fun v => k v σ
      | some n, some false => bnd (at1 len n (ρ x) (ρ i)) fun v => k v σ
      | _, _ => none)
    | some .string => bnd (sat E t (ρ x) (ρ i)) fun v => k v σ
    | _ => none
  | .makeFunc fn a b => k (.func fn ⟨a.toList.map ρ⟩ ⟨b.toList.map ρ⟩) σ
  | .makeSlice t l c => bnd (mks E t σ (ρ l) (ρ c)) fun r => k r.1 r.2
  | .makeMap _ none => k (.map (some σ.nx)) (σ.new (.map [] 0))
  | .lookup t x i ok => bnd (lkp E t ok σ (ρ x) (ρ i)) fun v => k v σ
  | .mapUpdate t x i y => bnd (upm E t σ (ρ x) (ρ i) (ρ y)) fun r => k r.1 r.2
  | .range t x => bnd (rng E t σ (ρ x)) fun r => k r.1 r.2
  | .next x s => bnd (nxt E s σ (ρ x)) fun r => k r.1 r.2
  | .entry x => bnd (ent E σ (ρ x)) fun v => k v σ
  | .convert s d x => match E.P.underlying s, E.P.underlying d with
    | some (.int _), some (.int kd) => bnd (cvi kd (ρ x)) fun v => k v σ
    | _, _ => bnd (str E s d σ (ρ x)) fun v => k v σ
  | .binOp op t x y _ => bnd (bin E op t (isC? x) (isC? y) (ρ x) (ρ y)) fun v => k v σ
  | .unOp op t x => match op with
    | .not => bnd (notV (ρ x)) fun v => k v σ
    | _ => bnd (pl1 E (fun x => .unOp op t x) (ρ x)) fun v => k v σ
  | .makeInterface t x => bnd (pl1 E (fun x => .makeInterface t x) (ρ x)) fun v => k v σ
  | .typeAssert x t a ok => bnd (pl1 E (fun x => .typeAssert x t a ok) (ρ x)) fun v => k v σ
  | .call c => match c.callee with
    | .builtin .append => (match c.args.toList, c.argTypes.toList with
      | [s, x], [t, tx] => bnd (app E t tx σ (ρ s) (ρ x)) fun r => k r.1 r.2
      | _, _ => none)
    | .builtin .copy => (match c.args.toList, c.argTypes.toList with
      | [x, y], [t, _] => bnd (cpy E t σ (ρ x) (ρ y)) fun r => k r.1 r.2
      | _, _ => none)
    | .builtin .delete => (match c.args.toList, c.argTypes.toList with
      | [x, i], [t, _] => bnd (dlt E t σ (ρ x) (ρ i)) fun r => k r.1 r.2
      | _, _ => none)
    | .builtin .len => (match c.args.toList, c.argTypes.toList with
      | [x], [t] => (match E.P.underlying t with
        | some (.slice _) => bnd (lns (ρ x)) fun v => k v σ
        | some .string => bnd (lnt (ρ x)) fun v => k v σ
        | _ => bnd (lnm E t σ (ρ x)) fun v => k v σ)
      | _, _ => none)
    | .builtin .min => (match c.args.toList with | [x, y] => bnd (mnx E .min c.argTypes (ρ x) (ρ y)) fun v => k v σ | _ => none)
    | .builtin .max => (match c.args.toList with | [x, y] => bnd (mnx E .max c.argTypes (ρ x) (ρ y)) fun v => k v σ | _ => none)
    | _ => none
  | _ => none
end Go.B
