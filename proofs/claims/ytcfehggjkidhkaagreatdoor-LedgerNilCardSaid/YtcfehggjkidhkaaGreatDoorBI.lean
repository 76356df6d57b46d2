/-
  The interpreter is right: results, functions.
-/
import Derived.Test.YtcfehggjkidhkaaGreatDoorBH
namespace Go.B
open Go

def resG (tmps : Array Value) : ResultVar → Sem Value
  | .tmp t => pure (tmps.getD t undef)
  | .cell a t => do loadVar t (← asAddr (tmps.getD a undef))

theorem result_sim {E : Env} {w0 w : World} {M : Mp} {σ : St} (hE : E.ok w0) (hb : M.base = E.base) (hr : Rel E.P w0 M σ w) {fr : Fr} {a : Act} (hf : FR M fr a) {r : ResultVar} {v : Value} (h : E.result fr σ r = some v) :
    ∃ v', (resG a.tmps r).run E.P w = .ok v' w ∧ V M v v' := by
  cases r with
  | tmp t =>
    simp only [Env.result, Option.some.injEq] at h
    subst h
    exact ⟨a.tmps.getD t undef, rfl, hf.v t⟩
  | cell t ty =>
    simp only [Env.result] at h
    split at h <;> try (simp at h; done)
    rename_i b hb'
    obtain ⟨_, b', e1, e2⟩ := addr_rel hb' (hf.v t)
    obtain ⟨v', h1, h2⟩ := loadVar_sim hE hb hr e2 h
    refine ⟨v', ?_, h2⟩
    simp only [resG, e1, asAddr, Sem.run_bind, Sem.run_pure, Result.andThen_ok]
    exact h1

theorem results_sim {E : Env} {w0 w : World} {M : Mp} {σ : St} (hE : E.ok w0) (hb : M.base = E.base) (hr : Rel E.P w0 M σ w) {fr : Fr} {a : Act} (hf : FR M fr a) : ∀ (rs : List ResultVar) (l : List Value), E.results fr σ rs = some l →
    ∃ l', (rs.mapM (resG a.tmps)).run E.P w = .ok l' w ∧ VL M l l'
  | [], l, h => by
    simp only [Env.results, Option.some.injEq] at h
    subst h
    exact ⟨[], rfl, .nil⟩
  | r :: rs, l, h => by
    simp only [Env.results] at h
    split at h <;> try (simp at h; done)
    rename_i v l1 h1 h2
    simp only [Option.some.injEq] at h
    subst h
    obtain ⟨v', e1, e2⟩ := result_sim hE hb hr hf h1
    obtain ⟨l', f1, f2⟩ := results_sim hE hb hr hf rs l1 h2
    refine ⟨v' :: l', ?_, .cons e2 f2⟩
    rw [List.mapM_cons]
    simp only [Sem.run_bind, Sem.run_pure, Result.andThen_ok, e1, f1]

theorem tupled_sim {E : Env} {w0 w : World} {M : Mp} {σ : St} (hE : E.ok w0) (hb : M.base = E.base) (hr : Rel E.P w0 M σ w) {fr : Fr} {a : Act} (hf : FR M fr a) {fn : Func} {l : List Value} (h : E.results fr σ fn.results.toList = some l) :
    ∃ v', (results fn a.tmps).run E.P w = .ok v' w ∧ V M (tupled l) v' := by
  obtain ⟨l', h1, h2⟩ := results_sim hE hb hr hf _ _ h
  have e : (fn.results.mapM (resG a.tmps)).run E.P w = .ok l'.toArray w := by
    rw [Array.mapM_eq_mapM_toList]
    simp only [map_eq_pure_bind, Sem.run_bind, h1, Result.andThen_ok, Sem.run_pure]
  have hg : (fun r => match r with
    | ResultVar.tmp t => (pure (a.tmps.getD t undef) : Sem Value)
    | ResultVar.cell x t => do loadVar t (← asAddr (a.tmps.getD x undef))) = resG a.tmps := by
    funext r; cases r <;> rfl
  have hrun : (results fn a.tmps).run E.P w = .ok (if h : l'.toArray.size = 1 then l'.toArray[0] else .tuple l'.toArray) w := by
    show Sem.run _ _ _ = _
    unfold results
    erw [hg]
    simp only [Sem.run_bind, e, Result.andThen_ok, Sem.run_pure]
  refine ⟨_, hrun, ?_⟩
  match l, l', h2 with
  | [], [], _ => exact .tuple .nil
  | [v], [v'], .cons hv .nil => exact hv
  | v :: u :: k, v' :: u' :: k', hh =>
    have : ¬ (v' :: u' :: k').toArray.size = 1 := by simp
    rw [dif_neg this]
    exact .tuple hh

theorem frame_FR {M : Mp} {args : List Value} {args' : Array Value} {n : Nat} (h : VL M args args'.toList) (hl : args.length ≤ n) (hn : n < 4294967296) :
    FR M (frame args n) { tmps := args' ++ Array.replicate (n - args'.size) undef, defers := [] } := by
  have hsz : args'.size = args.length := by have := h.length; simpa using this
  refine ⟨by simp [frame]; omega, fun i => ?_, rfl⟩
  have hget : (frame args n).get i = (args[i]?).getD undef := by
    show (match (Tr.ofList args 0 .e : Tr Value).get i with | some v => v | none => undef) = _
    rcases Nat.lt_or_ge i args.length with hi | hi
    · rw [Tr.get_ofList args 0 _ i (by omega), if_pos (by omega)]
      simp only [Nat.sub_zero, List.getElem?_eq_getElem hi, Option.getD_some]
    · rw [List.getElem?_eq_none hi, Option.getD_none]
      rw [Tr.get_ofList args 0 _ i (by omega), if_neg (by omega)]
      rfl
  rw [hget, Array.getD_eq_getD_getElem?]
  rcases Nat.lt_or_ge i args.length with hi | hi
  · have e1 : args[i]? = some args[i] := List.getElem?_eq_getElem hi
    obtain ⟨v', h1, h2⟩ := h.get i _ e1
    rw [Array.getElem?_append_left (by omega), e1, ← Array.getElem?_toList, h1]
    exact h2
  · rw [List.getElem?_eq_none hi]
    have : ((args' ++ Array.replicate (n - args'.size) undef)[i]?).getD undef = undef := by
      rw [Array.getElem?_append_right (by omega)]
      cases hx : (Array.replicate (n - args'.size) undef)[i - args'.size]? with
      | none => rfl
      | some u =>
        obtain ⟨_, hx⟩ := Array.getElem?_eq_some_iff.1 hx
        simp at hx; simp [hx]
    rw [this]
    exact V.of_flatter rfl

/-- What is asked of the program. -/
structure Env.sound (E : Env) : Prop where
  mixed : E.P.follows .mixedOrders = true
  body : ∀ (f : FuncId) (fn : Func) (c : Code), E.P.funcs[f]? = some fn → fn.body = some c → okCode E.base c = true ∧ fn.name ≠ "runtime.NumGoroutine"

theorem fn_sim {E : Env} {w0 : World} (hE : E.ok w0) (hS : E.sound) (fuel : Nat) : ∀ d, CallOK E w0 (E.fn fuel d)
  | 0 => fun g args σ v σ' h => by simp [Env.fn] at h
  | d + 1 => fun g args σ v σ' h => by
    have ih := fn_sim hE hS fuel d
    simp only [Env.fn] at h
    split at h <;> try (simp at h; done)
    rename_i fn hfn
    split at h <;> try (simp at h; done)
    rename_i c hbody
    cases hcond : Nat.ble args.length fn.ntmps && Nat.blt fn.ntmps 4294967295
    · rw [hcond, cond_false] at h; cases h
    rw [hcond, cond_true] at h
    obtain ⟨k1, k2⟩ := (Bool.and_eq_true _ _).mp hcond
    rw [blt_iff, decide_eq_true_eq] at k2
    have k1 := Nat.le_of_ble_eq_true k1
    obtain ⟨hc1, hc2⟩ := hS.body g fn c hfn hbody
    refine ⟨⟨fn, hfn, by rw [hbody]; rfl, hc2⟩, fun M w args' hb hargs hr => ?_⟩
    refine calls_of_wp hfn hbody ?_
    have hfr := frame_FR (M := M) hargs k1 (by omega)
    cases hx : E.code (E.fn fuel d) fuel c (frame args fn.ntmps) σ with
    | none => rw [hx] at h; simp at h
    | some r =>
      obtain ⟨ex, fr2, σ2⟩ := r
      rw [hx] at h
      have fin : ∀ {x : Option (Value × St)}, x = some (v, σ') → x = (match E.results fr2 σ2 fn.results.toList with | some l => some (tupled l, σ2) | none => none) → ∃ l, E.results fr2 σ2 fn.results.toList = some l ∧ v = tupled l ∧ σ' = σ2 := fun {x} e1 e2 => by
        rw [e2] at e1
        split at e1 <;> try (simp at e1; done)
        rename_i l hl
        simp only [Option.some.injEq, Prod.mk.injEq] at e1
        exact ⟨l, hl, e1.1.symm, e1.2.symm⟩
      refine code_sim hE ih hS.mixed c _ _ _ _ _ M _ w _ hc1 (by simp [frame]; omega) hb hx hfr hr fun M' a' w' q1 q2 q3 q4 => ?_
      have hb' : M'.base = E.base := q3.le.base.trans hb
      cases ex with
      | exit id => simp at h
      | normal =>
        obtain ⟨l, hl, rfl, rfl⟩ := fin h rfl
        obtain ⟨v', h1, h2⟩ := tupled_sim hE hb' q2 q1 hl
        exact ⟨q1.df, v', h1, M', v', rfl, h2, q2, q3⟩
      | ret =>
        obtain ⟨l, hl, rfl, rfl⟩ := fin h rfl
        obtain ⟨v', h1, h2⟩ := tupled_sim hE hb' q2 q1 hl
        exact ⟨q1.df, v', h1, M', v', rfl, h2, q2, q3⟩

/-- A world as it stands at the start, with nothing made. -/
theorem start_rel {P : Program} {w : World} {base : Nat} (h : base ≤ w.heap.size) (h2 : base ≤ 4294967295) : Rel P w { base := base, al := fun _ => False, f := fun _ => none, sz := fun _ => 0, lim := fun _ => 0 } ⟨.e, base⟩ w :=
  ⟨rfl, rfl, rfl, Nat.le_refl _, fun _ _ => rfl, h, Nat.le_refl _, h2, fun _ h => h.elim, fun _ _ _ _ _ h => h.elim, fun _ _ _ h => h.elim, fun _ h => h.elim⟩

/-- A call with no arguments but plain ones, from any world in which what is known holds. -/
theorem fn_run {E : Env} {w : World} (hE : E.ok w) (hS : E.sound) (hb : E.base ≤ w.heap.size) (hb2 : E.base ≤ 4294967295) {fuel d f : Nat} {args : List Value} (hargs : flats args = true) {v : Value} {σ : St} (h : E.fn fuel d f args ⟨.e, E.base⟩ = some (v, σ)) :
    Calls E.P f ⟨args⟩ w fun e w' => ∃ M v', e = .returned v' ∧ V M v v' ∧ M.base = E.base ∧ Rel E.P w M σ w' := by
  have := (fn_sim hE hS fuel d f args ⟨.e, E.base⟩ v σ h).2 _ w ⟨args⟩ rfl (VL.of_flats hargs) (start_rel hb hb2)
  refine this.mono ?_
  rintro e w' ⟨M', v', rfl, hv, hr, hs⟩
  exact ⟨M', v', rfl, hv, hs.le.base, hr⟩

/-- The check of a program, to be run. -/
def okProg (P : Program) (base : Nat) : Bool := P.funcs.toList.all fun fn => match fn.body with | some c => okCode base c && fn.name != "runtime.NumGoroutine" | none => true
theorem okProg_sound {E : Env} (hm : E.P.follows .mixedOrders = true) (h : okProg E.P E.base = true) : E.sound := by
  refine ⟨hm, fun f fn c hf hb => ?_⟩
  have := List.all_eq_true.1 h fn (Array.mem_toList_iff.2 (Array.mem_of_getElem? hf))
  rw [hb] at this
  simp only [Bool.and_eq_true, bne_iff_ne] at this
  exact this
end Go.B
