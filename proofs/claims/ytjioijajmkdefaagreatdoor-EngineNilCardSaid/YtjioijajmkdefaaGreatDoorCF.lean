/-
  Calls by a table of printed functions.
-/
import Derived.Test.YtjioijajmkdefaaGreatDoorCE
namespace Go.B
open Go Go.RowKit

abbrev LeafF := CallF → Nat → List Value → St → R
inductive DT where
  | nil
  | leaf (g : Nat) (f : LeafF)
  | node (p : Nat) (l r : DT)
def DT.get (call : CallF) (fuel : Nat) (g : Nat) (args : List Value) (σ : St) : DT → R
  | .nil => none
  | .leaf h f => bif Nat.beq g h then f call fuel args σ else none
  | .node p l r => bif Nat.blt g p then l.get call fuel g args σ else r.get call fuel g args σ
def DT.all (Q : Nat → LeafF → Prop) : DT → Prop
  | .nil => True
  | .leaf h f => Q h f
  | .node _ l r => l.all Q ∧ r.all Q
theorem DT.get_is {Q : Nat → LeafF → Prop} {call : CallF} {fuel g : Nat} {args : List Value} {σ : St} {r : Out × St} : ∀ {t : DT}, t.all Q → t.get call fuel g args σ = some r → ∃ f, Q g f ∧ f call fuel args σ = some r
  | .nil, _, h => by cases h
  | .leaf k f, hq, h => by
    unfold DT.get at h
    rw [nbeq] at h
    by_cases e : g = k
    · subst e; simp at h; exact ⟨f, hq, h⟩
    · simp [e] at h
  | .node p l r', hq, h => by
    unfold DT.get at h
    cases hb : Nat.blt g p
    · rw [hb, cond_false] at h; exact DT.get_is hq.2 h
    · rw [hb, cond_true] at h; exact DT.get_is hq.1 h
/-- A printed function is the body's. -/
def LeafOK (E : Env) (g : Nat) (f : LeafF) : Prop := ∀ call fuel args σ r, f call fuel args σ = some r → E.body call fuel g args σ = some r

def a0 (l : List Value) (k : R) : R := match l with | [] => k | _ => none
def a1 (l : List Value) (k : Value → R) : R := match l with | [a] => k a | _ => none
def a2 (l : List Value) (k : Value → Value → R) : R := match l with | [a, b] => k a b | _ => none
def a3 (l : List Value) (k : Value → Value → Value → R) : R := match l with | [a, b, c] => k a b c | _ => none
def a4 (l : List Value) (k : Value → Value → Value → Value → R) : R := match l with | [a, b, c, d] => k a b c d | _ => none
def a5 (l : List Value) (k : Value → Value → Value → Value → Value → R) : R := match l with | [a, b, c, d, e] => k a b c d e | _ => none
def a6 (l : List Value) (k : Value → Value → Value → Value → Value → Value → R) : R := match l with | [a, b, c, d, e, f] => k a b c d e f | _ => none
def a7 (l : List Value) (k : Value → Value → Value → Value → Value → Value → Value → R) : R := match l with | [a, b, c, d, e, f, g] => k a b c d e f g | _ => none

def fnOK (E : Env) (g : Nat) (fn : Func) (n : Nat) : Prop := E.P.funcs[g]? = some fn ∧ (Nat.ble n fn.ntmps && Nat.blt fn.ntmps 4294967295) = true ∧ (match fn.body with | some c => okDst fn.ntmps c | none => false) = true
theorem leafOf {E : Env} {g : Nat} {fn : Func} {n : Nat} {L : Bool} (h : fnOK E g fn n) {call : CallF} {fuel : Nat} {args : List Value} {σ : St} {r : Out × St} (hl : args.length = n) (hk : E.funK call fuel L fn args σ = some r) : E.body call fuel g args σ = some r :=
  funK_sound h.1 (by unfold fits; rw [hl]; exact h.2.1) h.2.2 hk
section
variable {E : Env} {g : Nat} {fn : Func} {L : Bool}
theorem leaf0 (h : fnOK E g fn 0) {F : CallF → Nat → St → R} (e : ∀ call fuel σ, E.funK call fuel L fn [] σ = F call fuel σ) : LeafOK E g (fun call fuel l σ => a0 l (F call fuel σ)) := fun call fuel args σ r hr => by
  match args, hr with | [], hr => exact leafOf h rfl ((e call fuel σ).trans hr)
theorem leaf1 (h : fnOK E g fn 1) {F : CallF → Nat → Value → St → R} (e : ∀ call fuel x0 σ, E.funK call fuel L fn [x0] σ = F call fuel x0 σ) : LeafOK E g (fun call fuel l σ => a1 l fun x0 => F call fuel x0 σ) := fun call fuel args σ r hr => by
  match args, hr with | [x0], hr => exact leafOf h rfl ((e call fuel x0 σ).trans hr)
theorem leaf2 (h : fnOK E g fn 2) {F : CallF → Nat → Value → Value → St → R} (e : ∀ call fuel x0 x1 σ, E.funK call fuel L fn [x0, x1] σ = F call fuel x0 x1 σ) : LeafOK E g (fun call fuel l σ => a2 l fun x0 x1 => F call fuel x0 x1 σ) := fun call fuel args σ r hr => by
  match args, hr with | [x0, x1], hr => exact leafOf h rfl ((e call fuel x0 x1 σ).trans hr)
theorem leaf3 (h : fnOK E g fn 3) {F : CallF → Nat → Value → Value → Value → St → R} (e : ∀ call fuel x0 x1 x2 σ, E.funK call fuel L fn [x0, x1, x2] σ = F call fuel x0 x1 x2 σ) : LeafOK E g (fun call fuel l σ => a3 l fun x0 x1 x2 => F call fuel x0 x1 x2 σ) := fun call fuel args σ r hr => by
  match args, hr with | [x0, x1, x2], hr => exact leafOf h rfl ((e call fuel x0 x1 x2 σ).trans hr)
theorem leaf4 (h : fnOK E g fn 4) {F : CallF → Nat → Value → Value → Value → Value → St → R} (e : ∀ call fuel x0 x1 x2 x3 σ, E.funK call fuel L fn [x0, x1, x2, x3] σ = F call fuel x0 x1 x2 x3 σ) : LeafOK E g (fun call fuel l σ => a4 l fun x0 x1 x2 x3 => F call fuel x0 x1 x2 x3 σ) := fun call fuel args σ r hr => by
  match args, hr with | [x0, x1, x2, x3], hr => exact leafOf h rfl ((e call fuel x0 x1 x2 x3 σ).trans hr)
theorem leaf5 (h : fnOK E g fn 5) {F : CallF → Nat → Value → Value → Value → Value → Value → St → R} (e : ∀ call fuel x0 x1 x2 x3 x4 σ, E.funK call fuel L fn [x0, x1, x2, x3, x4] σ = F call fuel x0 x1 x2 x3 x4 σ) : LeafOK E g (fun call fuel l σ => a5 l fun x0 x1 x2 x3 x4 => F call fuel x0 x1 x2 x3 x4 σ) := fun call fuel args σ r hr => by
  match args, hr with | [x0, x1, x2, x3, x4], hr => exact leafOf h rfl ((e call fuel x0 x1 x2 x3 x4 σ).trans hr)
theorem leaf6 (h : fnOK E g fn 6) {F : CallF → Nat → Value → Value → Value → Value → Value → Value → St → R} (e : ∀ call fuel x0 x1 x2 x3 x4 x5 σ, E.funK call fuel L fn [x0, x1, x2, x3, x4, x5] σ = F call fuel x0 x1 x2 x3 x4 x5 σ) : LeafOK E g (fun call fuel l σ => a6 l fun x0 x1 x2 x3 x4 x5 => F call fuel x0 x1 x2 x3 x4 x5 σ) := fun call fuel args σ r hr => by
  match args, hr with | [x0, x1, x2, x3, x4, x5], hr => exact leafOf h rfl ((e call fuel x0 x1 x2 x3 x4 x5 σ).trans hr)
theorem leaf7 (h : fnOK E g fn 7) {F : CallF → Nat → Value → Value → Value → Value → Value → Value → Value → St → R} (e : ∀ call fuel x0 x1 x2 x3 x4 x5 x6 σ, E.funK call fuel L fn [x0, x1, x2, x3, x4, x5, x6] σ = F call fuel x0 x1 x2 x3 x4 x5 x6 σ) : LeafOK E g (fun call fuel l σ => a7 l fun x0 x1 x2 x3 x4 x5 x6 => F call fuel x0 x1 x2 x3 x4 x5 x6 σ) := fun call fuel args σ r hr => by
  match args, hr with | [x0, x1, x2, x3, x4, x5, x6], hr => exact leafOf h rfl ((e call fuel x0 x1 x2 x3 x4 x5 x6 σ).trans hr)
end

/-- Calls by the table. -/
def callS (T : DT) (X : CallF) (fuel : Nat) : Nat → CallF
  | 0, g, args, σ => X g args σ
  | d + 1, g, args, σ => match X g args σ with
    | some r => some r
    | none => T.get (callS T X fuel d) fuel g args σ
theorem callS_ok {E : Env} {w0 : World} {T : DT} {X : CallF} (hE : E.ok w0) (hX : CallOK E w0 X) (hS : E.sound) (hT : T.all (LeafOK E)) (fuel : Nat) : ∀ d, CallOK E w0 (callS T X fuel d)
  | 0 => hX
  | d + 1 => fun g args σ out σ' h => by
    have ih := callS_ok hE hX hS hT fuel d
    simp only [callS] at h
    split at h
    · rename_i r hr
      simp only [Option.some.injEq] at h
      subst h
      exact hX g args σ out σ' hr
    · obtain ⟨f, hf, hr⟩ := DT.get_is hT h
      exact body_sim hE ih hS fuel g args σ out σ' (hf _ _ _ _ _ hr)
/-- A call with plain arguments and a plain result, by the table. -/
theorem table_below {E : Env} {w : World} {T : DT} {X : CallF} (hE : E.ok w) (hX : CallOK E w X) (hS : E.sound) (hT : T.all (LeafOK E)) (hb : E.base ≤ w.heap.size) (fuel d f : Nat) {args : List Value} (hargs : flats args = true) {v : Value} (hv : flatter v = true) (h : isVal v (callS T X fuel d f args ⟨.e, E.base⟩) = true) :
    Calls E.P f ⟨args⟩ w fun e w' => e = .returned v ∧ Below w.heap.size w w' := by
  obtain ⟨σ, hσ⟩ := isVal_eq h
  have := (callS_ok hE hX hS hT fuel d f args ⟨.e, E.base⟩ _ σ hσ).2 _ w ⟨args⟩ rfl (VL.of_flats hargs) (start_rel hb)
  refine this.mono ?_
  rintro e w' ⟨M', ⟨v', rfl, hvv⟩, hr, _⟩
  exact ⟨by rw [flatter_eq hvv hv], hr.os, hr.tape, hr.output, hr.size, hr.old⟩
end Go.B
