/-
  Normal forms: a function's code with continuations is what a program of ours has printed.
-/
import Derived.Test.YtjioijajmkdefaaGreatDoorCD
namespace Go.B
open Go

def codeOf (fn : Func) : Code := match fn.body with | some c => c | none => .skip
def cl : Code → Code | .seq a _ => a | c => c
def cr : Code → Code | .seq _ b => b | c => c
def ct : Code → Code | .cond _ a _ => a | c => c
def ce : Code → Code | .cond _ _ b => b | c => c
def cc : Code → Operand | .cond c _ _ => c | _ => .const undef
def cb : Code → Code | .block _ b => b | .loop b => b | .scope b => b | c => c
def gptr (base g : Nat) : Value := bif Nat.blt g base then .pointer (some ⟨g, 0, none⟩) else undef
def bs (l : List UInt8) : ByteArray := ⟨⟨l⟩⟩
def sv (l : List UInt8) : Value := .string (bs l)
def plc (l : List (Nat × Nat)) : Nat → Option (Nat × Nat) := fun i => l[i]?
def pla (n : Nat) : Nat → Option (Nat × Nat) := fun i => some (i * n, n)
def bn2 {β : Type} (x : Option (Value × St)) (k : Value → St → Option β) : Option β := bnd x fun r => k r.1 r.2
def dfr (v : Value) (args : List Value) (df : DF) : DF := match v with | .func (.func g) ⟨l⟩ ⟨k⟩ => (g, l ++ (args ++ k)) :: df | _ => df

section
variable {E : Env} {call : CallF} {fuel : Nat} {c : Code} {K : KK}

theorem thenK_false {k k' : FT → St → R} {g : DF → FT → St → R} (h : ∀ t s, g [] t s = k' t s) : thenK false g K = thenK false (fun _ t s => k' t s) K := by
  funext ex df t s
  cases ex with
  | normal => exact h t s
  | _ => rfl
theorem nfRF : ∀ t s, E.codeK call fuel false c [] t s K = E.codeK call fuel false c [] t s K := fun _ _ => rfl
theorem nfSF {fa fb : FT → St → R} (hc : c = .seq (cl c) (cr c)) (hb : ∀ t s, E.codeK call fuel false (cr c) [] t s K = fb t s)
    (ha : ∀ t s, E.codeK call fuel false (cl c) [] t s (thenK false (fun _ t s => fb t s) K) = fa t s) : ∀ t s, E.codeK call fuel false c [] t s K = fa t s := fun t s => by
  rw [hc]
  show E.codeK call fuel false (cl c) [] t s (thenK false (fun df t s => E.codeK call fuel false (cr c) df t s K) K) = fa t s
  rw [thenK_false (k := fb) (k' := fb) hb]
  exact ha t s
theorem nfCF {fa fb : FT → St → R} (hc : c = .cond (cc c) (ct c) (ce c)) (ha : ∀ t s, E.codeK call fuel false (ct c) [] t s K = fa t s)
    (hb : ∀ t s, E.codeK call fuel false (ce c) [] t s K = fb t s) : ∀ t s, E.codeK call fuel false c [] t s K = cnd (evF E.base t (cc c)) (fa t s) (fb t s) := fun t s => by
  rw [hc]
  show cnd (evF E.base t (cc c)) (E.codeK call fuel false (ct c) [] t s K) (E.codeK call fuel false (ce c) [] t s K) = _
  rw [ha, hb]; rfl
theorem nfBF (id : Nat) {fa : FT → St → R} (hc : c = .block id (cb c)) (ha : ∀ t s, E.codeK call fuel false (cb c) [] t s (blkK id K) = fa t s) : ∀ t s, E.codeK call fuel false c [] t s K = fa t s := fun t s => by
  rw [hc]; exact ha t s
theorem nfOF {fa : FT → St → R} (hc : c = .scope (cb c)) (ha : ∀ t s, E.codeK call fuel false (cb c) [] t s K = fa t s) : ∀ t s, E.codeK call fuel false c [] t s K = fa t s := fun t s => by
  rw [hc]; exact ha t s
theorem nfLF {F : Nat → FT → St → R} (hc : c = .loop (cb c)) (h0 : ∀ t s, F 0 t s = none) (hs : ∀ n t s, E.codeK call fuel false (cb c) [] t s (thenK false (fun _ t s => F n t s) K) = F (n + 1) t s) :
    ∀ t s, E.codeK call fuel false c [] t s K = F fuel t s := fun t s => by
  rw [hc]
  show lpK (fun df t s K => E.codeK call fuel false (cb c) df t s K) false fuel [] t s K = F fuel t s
  have key : ∀ n t s, lpK (fun df t s K => E.codeK call fuel false (cb c) df t s K) false n [] t s K = F n t s := by
    intro n
    induction n with
    | zero => intro t s; rw [h0]; rfl
    | succ n ih =>
      intro t s
      show E.codeK call fuel false (cb c) [] t s (thenK false (fun df t s => lpK (fun df t s K => E.codeK call fuel false (cb c) df t s K) false n df t s K) K) = _
      rw [thenK_false (k := F n) (k' := F n) ih]
      exact hs n t s
  exact key fuel t s

/-! functions that put off -/
theorem nfRT : ∀ d t s, E.codeK call fuel true c d t s K = E.codeK call fuel true c d t s K := fun _ _ _ => rfl
theorem nfST {fa fb : DF → FT → St → R} (hc : c = .seq (cl c) (cr c)) (hb : ∀ d t s, E.codeK call fuel true (cr c) d t s K = fb d t s)
    (ha : ∀ d t s, E.codeK call fuel true (cl c) d t s (thenK true (fun d t s => fb d t s) K) = fa d t s) : ∀ d t s, E.codeK call fuel true c d t s K = fa d t s := fun d t s => by
  rw [hc]
  show E.codeK call fuel true (cl c) d t s (thenK true (fun df t s => E.codeK call fuel true (cr c) df t s K) K) = fa d t s
  rw [show (fun df t s => E.codeK call fuel true (cr c) df t s K) = fb from funext fun d => funext fun t => funext fun s => hb d t s]
  exact ha d t s
theorem nfCT {fa fb : DF → FT → St → R} (hc : c = .cond (cc c) (ct c) (ce c)) (ha : ∀ d t s, E.codeK call fuel true (ct c) d t s K = fa d t s)
    (hb : ∀ d t s, E.codeK call fuel true (ce c) d t s K = fb d t s) : ∀ d t s, E.codeK call fuel true c d t s K = cnd (evF E.base t (cc c)) (fa d t s) (fb d t s) := fun d t s => by
  rw [hc]
  show cnd (evF E.base t (cc c)) (E.codeK call fuel true (ct c) d t s K) (E.codeK call fuel true (ce c) d t s K) = _
  rw [ha, hb]; rfl
theorem nfBT (id : Nat) {fa : DF → FT → St → R} (hc : c = .block id (cb c)) (ha : ∀ d t s, E.codeK call fuel true (cb c) d t s (blkK id K) = fa d t s) : ∀ d t s, E.codeK call fuel true c d t s K = fa d t s := fun d t s => by
  rw [hc]; exact ha d t s
theorem nfOT {fa : DF → FT → St → R} (hc : c = .scope (cb c)) (ha : ∀ d t s, E.codeK call fuel true (cb c) d t s K = fa d t s) : ∀ d t s, E.codeK call fuel true c d t s K = fa d t s := fun d t s => by
  rw [hc]; exact ha d t s
theorem nfLT {F : Nat → DF → FT → St → R} (hc : c = .loop (cb c)) (h0 : ∀ d t s, F 0 d t s = none) (hs : ∀ n d t s, E.codeK call fuel true (cb c) d t s (thenK true (fun d t s => F n d t s) K) = F (n + 1) d t s) :
    ∀ d t s, E.codeK call fuel true c d t s K = F fuel d t s := fun d t s => by
  rw [hc]
  show lpK (fun df t s K => E.codeK call fuel true (cb c) df t s K) true fuel d t s K = F fuel d t s
  have key : ∀ n d t s, lpK (fun df t s K => E.codeK call fuel true (cb c) df t s K) true n d t s K = F n d t s := by
    intro n
    induction n with
    | zero => intro d t s; rw [h0]; rfl
    | succ n ih =>
      intro d t s
      show E.codeK call fuel true (cb c) d t s (thenK true (fun df t s => lpK (fun df t s K => E.codeK call fuel true (cb c) df t s K) true n df t s K) K) = _
      rw [show (fun df t s => lpK (fun df t s K => E.codeK call fuel true (cb c) df t s K) true n df t s K) = F n from funext fun d => funext fun t => funext fun s => ih d t s]
      exact hs n d t s
  exact key fuel d t s
end
end Go.B
