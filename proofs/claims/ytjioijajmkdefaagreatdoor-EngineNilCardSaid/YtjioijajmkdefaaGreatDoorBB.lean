/-
  The interpreter is right: an operation, a row of operations.
-/
import Derived.Test.YtjioijajmkdefaaGreatDoorBA
import Derived.Tactics
namespace Go.B
open Go

section
variable {E : Env} {w0 : World} {M : Mp} {σ : St} {w : World} {ρ ρ' : Operand → Value} {o : Oper}

theorem keep_some {σ' : St} {x : Option Value} {v : Value} (h : keep σ x = some (v, σ')) : x = some v ∧ σ' = σ := by
  cases x with
  | none => simp [keep] at h
  | some u => simp [keep] at h; exact ⟨by rw [h.1], h.2.symm⟩
theorem orr_some {α : Type} {a b : Option α} {x : α} (h : orr a b = some x) : a = some x ∨ b = some x := by
  cases a with
  | none => exact .inr h
  | some y => exact .inl h

theorem args2 {c : Call} {b : Builtin} {s x : Operand} {t u : TypeId} (h1 : c.callee = .builtin b) (h2 : c.args.toList = [s, x]) (h3 : c.argTypes.toList = [t, u]) : c = { callee := .builtin b, args := #[s, x], argTypes := #[t, u] } := by
  obtain ⟨ca, ⟨ar⟩, ⟨ty⟩⟩ := c
  simp only at h1 h2 h3
  subst h1 h2 h3; rfl
theorem args1 {c : Call} {b : Builtin} {x : Operand} {t : TypeId} (h1 : c.callee = .builtin b) (h2 : c.args.toList = [x]) (h3 : c.argTypes.toList = [t]) : c = { callee := .builtin b, args := #[x], argTypes := #[t] } := by
  obtain ⟨ca, ⟨ar⟩, ⟨ty⟩⟩ := c
  simp only at h1 h2 h3
  subst h1 h2 h3; rfl

theorem op_sim (hE : E.ok w0) (hb : M.base = E.base) (hr : Rel E.P w0 M σ w) (hρ : RR M ρ ρ') {v : Value} {σ' : St} (h : E.op ρ σ o = some (v, σ')) : OSim E w0 M σ w (execOp ρ' o) v σ' := by
  unfold Env.op at h
  split at h
  · rename_i x ho; simp only [Option.some.injEq, Prod.mk.injEq] at h; obtain ⟨rfl, rfl⟩ := h; exact opMove_sim hr hρ (.inl ho)
  · rename_i x ho; simp only [Option.some.injEq, Prod.mk.injEq] at h; obtain ⟨rfl, rfl⟩ := h; exact opMove_sim hr hρ (.inr ho)
  · rename_i c a b ho; have k := keep_some h; clear h; obtain ⟨h, rfl⟩ := k; exact opPick_sim hr hρ ho h
  · rename_i t x ho; exact opLoad_sim hE hb hr hρ ho h
  · rename_i t x y ho; exact opStore_sim hb hr hρ ho h
  · rename_i t ho; exact opAlloc_sim hr ho h
  · rename_i t x ho; exact opBox_sim hr hρ ho h
  · rename_i t ps ho; have k := keep_some h; clear h; obtain ⟨h, rfl⟩ := k; exact opBuild_sim hr hρ ho h
  · rename_i t n ps ho; exact opBuildSlice_sim hr hρ ho h
  · rename_i x ho; have k := keep_some h; clear h; obtain ⟨h, rfl⟩ := k; exact opNil_sim hr hρ ho h
  · rename_i s x f ho; have k := keep_some h; clear h; obtain ⟨h, rfl⟩ := k; exact opField_sim hr hρ ho h
  · rename_i t x i ho; have k := keep_some h; clear h; obtain ⟨h, rfl⟩ := k; exact opIndex_sim hr hρ ho h
  · rename_i t x lo hi mx ho
    have k := keep_some h; clear h; obtain ⟨h, rfl⟩ := k
    split at h
    · exact opSlice_sim hb hr hρ ho h
    · exact opSliceA_sim hb hr hρ ho h
    · exact plain_sim hr hρ h
  · rename_i x i ho; have k := keep_some h; clear h; obtain ⟨h, rfl⟩ := k; exact opExtract_sim hr hρ ho h
  · rename_i t x f ho; have k := keep_some h; clear h; obtain ⟨h, rfl⟩ := k; exact opPart_sim hr hρ ho h
  · rename_i t x i ho
    have k := keep_some h; clear h; obtain ⟨h, rfl⟩ := k
    split at h
    · exact opAt_sim hr hρ ho h
    · exact plain_sim hr hρ h
  · rename_i fn a b ho; simp only [Option.some.injEq, Prod.mk.injEq] at h; obtain ⟨rfl, rfl⟩ := h; exact opFunc_sim hr hρ ho
  · rename_i t l c ho; exact opMake_sim hr hρ ho h
  · rename_i t ho; exact opMakeMap_sim hr ho h
  · rename_i t x i ok ho; have k := keep_some h; clear h; obtain ⟨h, rfl⟩ := k; exact opLookup_sim hb hr hρ ho h
  · rename_i t x i y ho; exact opUpdate_sim hb hr hρ (.inl ho) h
  · rename_i t x ho; exact opRange_sim hb hr hρ ho h
  · rename_i x s ho; exact opNext_sim hb hr hρ ho h
  · rename_i x ho; have k := keep_some h; clear h; obtain ⟨h, rfl⟩ := k; exact opEntry_sim hb hr hρ ho h
  · rename_i s d x ho
    have k := keep_some h; clear h; obtain ⟨h, rfl⟩ := k
    split at h
    · exact opString_sim hE hb hr hρ ho h
    · exact plain_sim hr hρ h
  · rename_i op t x y ty ho
    have k := keep_some h; clear h; obtain ⟨h, rfl⟩ := k
    rcases orr_some h with h | h
    · exact opQuick_sim hr hρ ho h
    rcases orr_some h with h | h
    · exact plain_sim hr hρ h
    · exact opEq_sim hr hρ ho h
  · have k := keep_some h; clear h; obtain ⟨h, rfl⟩ := k; exact plain_sim hr hρ h
  · have k := keep_some h; clear h; obtain ⟨h, rfl⟩ := k; exact plain_sim hr hρ h
  · have k := keep_some h; clear h; obtain ⟨h, rfl⟩ := k; exact plain_sim hr hρ h
  · rename_i c ho
    split at h
    · rename_i hc
      split at h <;> try (simp at h; done)
      rename_i s x t tx h2 h3
      rw [args2 hc h2 h3] at ho
      exact opAppend_sim hE hb hr hρ ho h
    · rename_i hc
      split at h <;> try (simp at h; done)
      rename_i x y t ty h2 h3
      rw [args2 hc h2 h3] at ho
      exact opCopy_sim hE hb hr hρ ho h
    · rename_i hc
      split at h <;> try (simp at h; done)
      rename_i x i t ty h2 h3
      rw [args2 hc h2 h3] at ho
      exact opDelete_sim hb hr hρ ho h
    · rename_i hc
      split at h <;> try (simp at h; done)
      rename_i x t h2 h3
      rw [args1 hc h2 h3] at ho
      have k := keep_some h; clear h; obtain ⟨h, rfl⟩ := k
      split at h
      · exact opLen_sim hr hρ ho h
      · exact opLenMap_sim hb hr hρ ho h
      · exact plain_sim hr hρ h
    · have k := keep_some h; clear h; obtain ⟨h, rfl⟩ := k; exact plain_sim hr hρ h
    · have k := keep_some h; clear h; obtain ⟨h, rfl⟩ := k; exact plain_sim hr hρ h
    · simp at h
  · simp at h
end

/-! frames -/

/-- What is put off. -/
inductive DL (M : Mp) : List (FuncId × List Value) → List Deferred → Prop
  | nil : DL M [] []
  | cons {g : FuncId} {args : List Value} {fst cap : Array Value} {l : List (FuncId × List Value)} {ds : List Deferred} (h : VL M args (fst ++ cap).toList) (t : DL M l ds) : DL M ((g, args) :: l) ({ target := .fn (.func g) cap, args := fst } :: ds)
theorem DL.mono {M M' : Mp} (hm : M.le M') : ∀ {l : List (FuncId × List Value)} {ds : List Deferred}, DL M l ds → DL M' l ds
  | _, _, .nil => .nil
  | _, _, .cons h t => .cons (h.mono hm) (DL.mono hm t)

structure FR (M : Mp) (fr : Fr) (a : Act) : Prop where
  sz : a.tmps.size = fr.n
  v : ∀ i, V M (fr.get i) (a.tmps.getD i undef)
  df : DL M fr.df a.defers

theorem FR.mono {M M' : Mp} (hm : M.le M') {fr : Fr} {a : Act} (h : FR M fr a) : FR M' fr a := ⟨h.sz, fun i => (h.v i).mono hm, h.df.mono hm⟩

theorem Fr.get_put {fr fr' : Fr} {d : Nat} {v : Value} (hn : fr.n < 4294967296) (h : fr.put (some d) v = some fr') (i : Nat) : fr'.get i = if i = d then v else fr.get i := by
  simp only [Fr.put, blt_iff] at h
  by_cases hd : d < fr.n
  · simp only [hd, decide_true, cond_true, Option.some.injEq] at h
    subst h
    simp only [Fr.get, nbeq]
    by_cases e : i = d <;> simp [e]
  · simp [hd] at h
theorem Fr.put_n {fr fr' : Fr} {dst : Option Tmp} {v : Value} (h : fr.put dst v = some fr') : fr'.n = fr.n := by
  cases dst with
  | none => simp [Fr.put] at h; rw [h]
  | some d =>
    simp only [Fr.put, blt_iff] at h
    by_cases hd : d < fr.n
    · simp [hd] at h; rw [← h]
    · simp [hd] at h
theorem Fr.put_df {fr fr' : Fr} {dst : Option Tmp} {v : Value} (h : fr.put dst v = some fr') : fr'.df = fr.df := by
  cases dst with
  | none => simp [Fr.put] at h; rw [h]
  | some d =>
    simp only [Fr.put, blt_iff] at h
    by_cases hd : d < fr.n
    · simp [hd] at h; rw [← h]
    · simp [hd] at h
theorem Fr.put_lt {fr fr' : Fr} {d : Nat} {v : Value} (h : fr.put (some d) v = some fr') : d < fr.n := by
  simp only [Fr.put, blt_iff] at h
  by_cases hd : d < fr.n
  · exact hd
  · simp [hd] at h

theorem FR.put {M : Mp} {fr fr' : Fr} {a : Act} (hn : fr.n < 4294967296) (h : FR M fr a) {dst : Option Tmp} {v v' : Value} (hv : V M v v') (hp : fr.put dst v = some fr') : FR M fr' (a.put dst v') := by
  cases dst with
  | none => simp [Fr.put] at hp; subst hp; exact h
  | some d =>
    have hd := Fr.put_lt hp
    refine ⟨by simp [Act.put, h.sz, Fr.put_n hp], fun i => ?_, by rw [Fr.put_df hp]; exact h.df⟩
    rw [Fr.get_put hn hp]
    by_cases e : i = d
    · subst e
      have : i < a.tmps.size := by rw [h.sz]; exact hd
      simp [Act.put, Array.getD_eq_getD_getElem?, Array.getElem?_setIfInBounds, this, hv]
    · rw [if_neg e]
      have := h.v i
      simpa [Act.put, Array.getD_eq_getD_getElem?, Array.getElem?_setIfInBounds, Ne.symm e] using this

theorem V.bool_left {M : Mp} {b : Bool} {v : Value} (h : V M (.bool b) v) : v = .bool b := flat_eq h rfl
theorem V.bool_right {M : Mp} {b : Bool} {v : Value} (h : V M v (.bool b)) : v = .bool b := by cases h; rfl

theorem FR.yields {M : Mp} {fr : Fr} {a : Act} (h : FR M fr a) (d : Nat) (c : Bool) : fr.t d = .bool c ↔ a.tmps[d]? = some (.bool c) := by
  have hv := h.v d
  constructor
  · intro e
    have e1 : fr.get d = .bool c := e
    rw [e1] at hv
    have := hv.bool_left
    rw [Array.getD_eq_getD_getElem?] at this
    cases hx : a.tmps[d]? with
    | none => rw [hx] at this; simp [undef] at this
    | some u => rw [hx] at this; simp at this; rw [this]
  · intro e
    rw [Array.getD_eq_getD_getElem?, e] at hv
    exact hv.bool_right

theorem wants_eq {M : Mp} {fr : Fr} {a : Act} (h : FR M fr a) (ops : Array Oper) (o : Oper) : wants ops fr o = Region.wanted o (yielded ops a.tmps) := by
  unfold wants Region.wanted
  cases o.guard with
  | none => rfl
  | some p =>
    obtain ⟨j, b⟩ := p
    simp only [yielded]
    cases hd : (ops[j]?).bind (·.dst) with
    | none => simp [hd]
    | some d =>
      simp only [hd, Option.bind_some]
      have hy := h.yields d
      cases hx : fr.t d with
      | bool c => rw [(hy c).1 hx]; cases c <;> cases b <;> rfl
      | _ =>
          cases ht : a.tmps[d]? with
          | none => simp
          | some u' => cases u' with
            | bool c => rw [(hy c).2 ht] at hx; cases hx
            | _ => simp

/-- Operands of the plain kinds. -/
def okOpd (base : Nat) : Operand → Bool
  | .const v => flatter v
  | .global g => Nat.blt g base
  | _ => true
def okOper (base : Nat) (o : Oper) : Bool := !(sel o.op) && o.op.operands.toList.all (okOpd base)

def rho (base : Nat) (a : Act) : Operand → Value
  | .tmp t => a.tmps.getD t undef
  | .const v => bif flatter v then v else undef
  | .global g => bif Nat.blt g base then .pointer (some ⟨g, 0, none⟩) else undef
  | .func f => .func (.func f) #[] #[]

theorem rho_eval {base : Nat} {a : Act} {x : Operand} (h : okOpd base x = true) : a.eval x = rho base a x := by
  cases x with
  | tmp t => rfl
  | const v => simp only [okOpd] at h; simp [Act.eval, rho, h]
  | global g => simp only [okOpd] at h; simp [Act.eval, rho, h]
  | func f => rfl
theorem rho_exec {base : Nat} {a : Act} {o : Oper} (h : okOper base o = true) : execOp a.eval o = execOp (rho base a) o := by
  simp only [okOper, Bool.and_eq_true] at h
  refine execOp_congr o (fun cs b e => ?_) fun x hx => rho_eval (List.all_eq_true.1 h.2 x (Array.mem_toList_iff.2 hx))
  rw [e] at h; simp [sel] at h
theorem FR.rr {M : Mp} {base : Nat} (hb : M.base = base) {fr : Fr} {a : Act} (h : FR M fr a) : RR M (fr.ev base) (rho base a) := by
  intro x
  cases x with
  | tmp t => exact h.v t
  | const v =>
    simp only [Fr.ev, rho]
    cases hf : flatter v
    · exact V.of_flatter rfl
    · exact V.of_flatter hf
  | global g =>
    simp only [Fr.ev, rho, blt_iff]
    by_cases hg : g < base
    · simp only [hg, decide_true, cond_true]; exact .ptr _ _ (.inl ⟨by rw [hb]; exact hg, rfl⟩)
    · simp only [hg, decide_false, cond_false]; exact V.of_flatter rfl
  | func f => exact .func _ .nil .nil

/-- How a call ends in the world. -/
def OutR (M : Mp) : Out → Ending → Prop
  | .ret v, e => ∃ v', e = .returned v' ∧ V M v v'
  | .pan v, e => ∃ v', e = .panicked [{ v := v', recovered := false }] ∧ V M v v'
def CallOK (E : Env) (w0 : World) (call : CallF) : Prop :=
  ∀ g args σ out σ', call g args σ = some (out, σ') →
    (∃ fn, E.P.funcs[g]? = some fn ∧ fn.body.isSome = true ∧ fn.name ≠ "runtime.NumGoroutine") ∧
    ∀ (M : Mp) (w : World) (args' : Array Value), M.base = E.base → VL M args args'.toList → Rel E.P w0 M σ w →
      Calls E.P g args' w fun e w' => ∃ M', OutR M' out e ∧ Rel E.P w0 M' σ' w' ∧ Stp M M' σ σ'
/-- How code is left. -/
def ExR (M : Mp) : Ex → Exit → Prop
  | .normal, e => e = .normal
  | .exit id, e => e = .exit id
  | .ret, e => e = .ret
  | .pan v, e => ∃ v', e = .panic [{ v := v', recovered := false }] ∧ V M v v'

theorem run_enter {P : Program} {g : FuncId} {fn : Func} (h1 : P.funcs[g]? = some fn) (h2 : fn.body.isSome = true) (h3 : fn.name ≠ "runtime.NumGoroutine") (args : Array Value) (w : World) : (callFunc g args).run P w = .ok (.enter g args) w := by
  have h4 : fn.body.isNone = false := by cases hb : fn.body <;> simp [hb] at h2 ⊢
  have h5 : (fn.name == "runtime.NumGoroutine") = false := by simpa using h3
  simp only [callFunc, Sem.run_bind, run_program, Result.andThen_ok, h1, h5, h4]
  rfl

theorem flatF_eq {M : Mp} {v v' : Value} (hv : V M v v') (h : flatF v = true) : v' = v := by
  unfold flatF at h
  split at h
  · cases hv with
    | func _ hl hk => cases hl; cases hk; rfl
  · exact flatter_eq hv h
/-- A function without a body. -/
theorem ext_sim {E : Env} {w0 w : World} {M : Mp} {σ : St} {ρ ρ' : Operand → Value} {o : Oper} {c : Call} (ho : o.op = .call c) (hr : Rel E.P w0 M σ w) (hρ : RR M ρ ρ') {v : Value} (h : E.ext ρ o = some v) : OSim E w0 M σ w (execOp ρ' o) v σ := by
  unfold Env.ext at h
  cases ha : o.op.operands.toList.all (fun x => flatF (ρ x))
  · rw [ha] at h; simp at h
  · rw [ha, cond_true] at h
    have he : execOp ρ' o = execOp ρ o := execOp_congr o (fun cs b e => by rw [e] at ho; cases ho) fun x hx => flatF_eq (hρ x) (List.all_eq_true.1 ha x (Array.mem_toList_iff.2 hx))
    split at h <;> try (simp at h; done)
    rename_i u hp
    have hrun := pur_run (w := w) hp
    cases hf : flatter u
    · simp [hf] at h
    · simp only [hf, cond_true, Option.some.injEq] at h
      subst h
      exact .same hr (.inl (he ▸ hrun)) (V.of_flatter hf)

/-- One operation, call or not. -/
theorem retd_some {x : Option (Value × St)} {out : Out} {σ : St} (h : retd x = some (out, σ)) : ∃ v, out = .ret v ∧ x = some (v, σ) := by
  unfold retd at h
  split at h <;> try (simp at h; done)
  simp only [Option.some.injEq, Prod.mk.injEq] at h
  obtain ⟨rfl, rfl⟩ := h
  exact ⟨_, rfl, rfl⟩
theorem run_throw {P : Program} {t : TypeId} {v : Value} (w : World) : (Instr.panic (.iface t v)).run P w = .halt (.panic (.iface t v)) w := by
  simp [Instr.panic, goPanic]
theorem thrown_sim {P : Program} {w : World} {M : Mp} {ρ ρ' : Operand → Value} (hρ : RR M ρ ρ') {o : Oper} {v : Value} (h : thrown ρ o = some v) :
    ∃ v', (execOp ρ' o).run P w = .halt (.panic v') w ∧ V M v v' := by
  unfold thrown at h
  split at h <;> try (simp at h; done)
  rename_i x hx
  have hxx := hρ x
  split at h <;> try (simp at h; done)
  rename_i t u hu
  simp only [Option.some.injEq] at h
  subst h
  rw [hu] at hxx
  generalize hv' : ρ' x = v' at hxx
  cases hxx with
  | iface _ hv =>
  rename_i u'
  refine ⟨.iface t u', ?_, .iface t hv⟩
  unfold execOp
  split at hx
  · rename_i y hop
    simp only [Option.some.injEq] at hx
    subst hx
    rw [hop]
    simp only [hv', Sem.run_bind, run_throw]; rfl
  · rename_i c hop
    split at hx <;> try (simp at hx; done)
    rename_i y hc hargs
    simp only [Option.some.injEq] at hx
    subst hx
    rw [hop]
    have e : c.args.map ρ' = #[ρ' y] := by
      have : c.args = #[y] := by cases hca : c.args; rw [hca] at hargs; simp at hargs; rw [hargs]
      rw [this]; simp
    simp only [resolve, hc, Sem.run_bind, Sem.run_pure, Result.andThen_ok, invoke, builtin, e, hv']
    simp only [Array.getD, run_throw, Sem.run_bind]
    simp [run_throw]
  · simp at hx
theorem any_sim {E : Env} {w0 w : World} {M : Mp} {σ σ' : St} {call : CallF} (hE : E.ok w0) (hc : CallOK E w0 call) (hb : M.base = E.base) {fr : Fr} {a : Act} (hf : FR M fr a) (hr : Rel E.P w0 M σ w) {o : Oper} (ho : okOper E.base o = true) {out : Out}
    (h : E.any call fr σ o = some (out, σ')) {K : Act → World → Prop} {Q : Exit → Act → World → Prop}
    (hK : ∀ M' v v' w', out = .ret v → V M' v v' → Rel E.P w0 M' σ' w' → Stp M M' σ σ' → K (a.put o.dst v') w')
    (hP : ∀ M' v v' w', out = .pan v → V M' v v' → Rel E.P w0 M' σ' w' → Stp M M' σ σ' → Q (.panic [{ v := v', recovered := false }]) a w') : o.wp E.P a w K Q := by
  unfold Env.any at h
  have hex := rho_exec (a := a) ho
  have hrr := hf.rr hb
  unfold Oper.wp
  rw [hex]
  rcases Bool.eq_false_or_eq_true (isCall o) with hi | hi
  · rw [hi, cond_true] at h
    split at h <;> try (simp at h; done)
    rename_i g args hcal
    unfold Env.callee at hcal
    split at hcal <;> try (simp at hcal; done)
    rename_i c hop
    split at hcal <;> try (simp at hcal; done)
    rename_i f hcf
    split at hcal <;> try (simp at hcal; done)
    rename_i g' l k hfv
    simp only [Option.some.injEq, Prod.mk.injEq] at hcal
    obtain ⟨rfl, rfl⟩ := hcal
    rcases Bool.eq_false_or_eq_true (E.bare g') with hbare | hbare
    · rw [hbare, cond_true] at h
      obtain ⟨v, rfl, h2⟩ := retd_some h
      have k := keep_some h2; clear h h2; obtain ⟨h, rfl⟩ := k
      obtain ⟨M', v', w', hd, hv, hr', hs⟩ := ext_sim hop hr hrr h
      rcases hd with hd | ⟨hd, rfl⟩
      · rw [hd]; exact hK M' v v' w' rfl hv hr' hs
      · rw [hd]; exact hK M' v undef w' rfl hv hr' hs
    rw [hbare, cond_false] at h
    obtain ⟨⟨fn, e1, e2, e3⟩, hcall⟩ := hc _ _ _ _ _ h
    have hfr := hrr f
    rw [hfv] at hfr
    generalize hfv' : rho E.base a f = fv' at hfr
    cases hfr with
    | func _ hl hk =>
      rename_i l' k'
      have hargs : VL M (l ++ (c.args.toList.map (fr.ev E.base) ++ k)) ((⟨l'⟩ ++ c.args.map (rho E.base a) ++ ⟨k'⟩ : Array Value)).toList := by
        simp only [Array.toList_append, Array.toList_map, List.append_assoc]
        exact hl.append ((map_rel hrr _).append hk)
      have hrun : (execOp (rho E.base a) o).run E.P w = .ok (.enter g' (⟨l'⟩ ++ c.args.map (rho E.base a) ++ ⟨k'⟩)) w := by
        unfold execOp
        rw [hop]
        simp only [resolve, hcf, hfv', Deferred.ofValue, Sem.run_bind, Sem.run_pure, Result.andThen_ok, invoke]
        exact run_enter e1 e2 e3 _ w
      rw [hrun]
      refine (hcall M w _ hb hargs hr).mono ?_
      rintro e w' ⟨M', ho, hr', hs⟩
      cases out with
      | ret v => obtain ⟨v', rfl, hv⟩ := ho; exact hK M' v v' w' rfl hv hr' hs
      | pan v => obtain ⟨v', rfl, hv⟩ := ho; exact hP M' v v' w' rfl hv hr' hs
  · rw [hi, cond_false] at h
    rcases Bool.eq_false_or_eq_true (isThrow o) with ht | ht
    · rw [ht, cond_true] at h
      split at h <;> try (simp at h; done)
      rename_i u hu
      simp only [Option.some.injEq, Prod.mk.injEq] at h
      obtain ⟨rfl, rfl⟩ := h
      obtain ⟨u', hrun, hv⟩ := thrown_sim (w := w) hrr hu
      rw [hrun, Oper.upon_panic]
      exact hP M u u' w rfl hv hr (.refl M σ)
    rw [ht, cond_false] at h
    obtain ⟨v, rfl, h2⟩ := retd_some h
    obtain ⟨M', v', w', hd, hv, hr', hs⟩ := op_sim hE hb hr hrr h2
    rcases hd with hd | ⟨hd, rfl⟩
    · rw [hd]; exact hK M' v v' w' rfl hv hr' hs
    · rw [hd]; exact hK M' v undef w' rfl hv hr' hs

/-- What is put off is put off. -/
theorem late_sim {E : Env} {w : World} {M : Mp} (hb : M.base = E.base) {fr : Fr} {a : Act} {o : Oper} (ho : okOper E.base o = true) (hf : FR M fr a) {p : FuncId × List Value} (h : Env.late (fr.ev E.base) o = some p) :
    ∃ d, (execOp a.eval o).run E.P w = .ok (.defer d) w ∧ ∀ l ds, DL M l ds → DL M (p :: l) (d :: ds) := by
  have hrr := hf.rr hb
  unfold Env.late at h
  split at h <;> try (simp at h; done)
  rename_i c hop
  split at h <;> try (simp at h; done)
  rename_i f hcf
  split at h <;> try (simp at h; done)
  rename_i g l k hfv
  simp only [Option.some.injEq] at h
  subst h
  have hfr := hrr f
  rw [hfv] at hfr
  generalize hfv' : rho E.base a f = fv' at hfr
  cases hfr with
  | func _ hl hk =>
    rename_i l' k'
    have hargs : VL M (l ++ (c.args.toList.map (fr.ev E.base) ++ k)) (((⟨l'⟩ ++ c.args.map (rho E.base a) : Array Value) ++ ⟨k'⟩ : Array Value)).toList := by
      simp only [Array.toList_append, Array.toList_map, List.append_assoc]
      exact hl.append ((map_rel hrr _).append hk)
    refine ⟨{ target := .fn (.func g) ⟨k'⟩, args := ⟨l'⟩ ++ c.args.map (rho E.base a) }, ?_, fun l2 ds hd => .cons hargs hd⟩
    rw [rho_exec ho]
    unfold execOp
    rw [hop]
    simp only [resolve, hcf, hfv', Deferred.ofValue, Sem.run_bind, Sem.run_pure, Result.andThen_ok]

theorem run_sim {E : Env} {w0 : World} {call : CallF} (hE : E.ok w0) (hc : CallOK E w0 call) {ops : Array Oper} {Q : Exit → Act → World → Prop} :
    ∀ (l : List Oper) (M : Mp) (fr fr' : Fr) (ex : Ex) (σ σ' : St) (a : Act) (w : World), M.base = E.base → l.all (okOper E.base) = true → fr.n < 4294967296 → E.run call ops l fr σ = some (ex, fr', σ') → FR M fr a → Rel E.P w0 M σ w →
      (∀ M' a' w' e, ExR M' ex e → FR M' fr' a' → Rel E.P w0 M' σ' w' → Stp M M' σ σ' → fr'.n = fr.n → Q e a' w') → wpList E.P ops Q l a w
  | [], M, fr, fr', ex, σ, σ', a, w, hb, _, _, h, hf, hr, hK => by
    simp only [Env.run, Option.some.injEq, Prod.mk.injEq] at h
    obtain ⟨rfl, rfl, rfl⟩ := h
    exact hK M a w _ rfl hf hr (.refl M σ) rfl
  | o :: l, M, fr, fr', ex, σ, σ', a, w, hb, hok, hn, h, hf, hr, hK => by
    simp only [List.all_cons, Bool.and_eq_true] at hok
    unfold Env.run at h
    unfold wpList
    rw [← wants_eq hf ops o]
    rcases Bool.eq_false_or_eq_true (wants ops fr o) with hw | hw
    · rw [hw, cond_true] at h
      rw [hw, if_pos rfl]
      rcases Bool.eq_false_or_eq_true (isLate o) with hil | hil
      · rw [hil, cond_true] at h
        split at h <;> try (simp at h; done)
        rename_i p hlate
        split at h <;> try (simp at h; done)
        rename_i fr1 hput
        obtain ⟨d, hrun, hd⟩ := late_sim (w := w) hb hok.1 hf hlate
        refine .inl ?_
        unfold Oper.wp
        rw [hrun, Oper.upon_defer]
        have hf1 : FR M ⟨fr.t, fr.n, p :: fr.df⟩ { a with defers := d :: a.defers } := ⟨hf.sz, hf.v, hd _ _ hf.df⟩
        have hnn : fr1.n = fr.n := Fr.put_n (fr := ⟨fr.t, fr.n, p :: fr.df⟩) hput
        have hf' := FR.put (fr := ⟨fr.t, fr.n, p :: fr.df⟩) (by exact hn) hf1 (V.of_flatter (v := undef) rfl) hput
        exact run_sim hE hc l M fr1 fr' ex σ σ' _ w hb hok.2 (by rw [hnn]; exact hn) h hf' hr fun M'' a'' w'' e q0 q1 q2 q3 q4 => hK M'' a'' w'' e q0 q1 q2 q3 (q4.trans hnn)
      rw [hil, cond_false] at h
      split at h <;> try (simp at h; done)
      · rename_i v σ1 hany
        split at h <;> try (simp at h; done)
        rename_i fr1 hput
        refine .inl (any_sim hE hc hb hf hr hok.1 hany (fun M' v0 v' w' he hv hr' hs => ?_) (fun _ _ _ _ he => by cases he))
        cases he
        have hf' := (hf.mono hs.le).put hn hv hput
        refine run_sim hE hc l M' fr1 fr' ex σ1 σ' _ w' (hs.le.base.trans hb) hok.2 (by rw [Fr.put_n hput]; exact hn) h hf' hr' fun M'' a'' w'' e q0 q1 q2 q3 q4 => hK M'' a'' w'' e q0 q1 q2 (hs.trans q3) (q4.trans (Fr.put_n hput))
      · rename_i v σ1 hany
        simp only [Option.some.injEq, Prod.mk.injEq] at h
        obtain ⟨rfl, rfl, rfl⟩ := h
        refine .inl (any_sim hE hc hb hf hr hok.1 hany (fun _ _ _ _ he => by cases he) (fun M' v0 v' w' he hv hr' hs => ?_))
        cases he
        exact hK M' a w' _ ⟨v', rfl, hv⟩ (hf.mono hs.le) hr' hs rfl
    · rw [hw, cond_false] at h
      rw [hw, if_neg (by simp)]
      split at h <;> try (simp at h; done)
      rename_i fr1 hput
      have hf' := hf.put hn (V.of_flatter (v := undef) rfl) hput
      exact run_sim hE hc l M fr1 fr' ex σ σ' _ w hb hok.2 (by rw [Fr.put_n hput]; exact hn) h hf' hr fun M'' a'' w'' e q0 q1 q2 q3 q4 => hK M'' a'' w'' e q0 q1 q2 q3 (q4.trans (Fr.put_n hput))
end Go.B
