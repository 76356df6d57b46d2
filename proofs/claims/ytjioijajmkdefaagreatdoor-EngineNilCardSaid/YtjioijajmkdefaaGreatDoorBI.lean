/-
  The interpreter is right: results, functions.
-/
import Derived.Test.YtjioijajmkdefaaGreatDoorBH
import Derived.Recover
namespace Go.B
open Go

def resG (tmps : Array Value) : ResultVar → Sem Value
  | .tmp t => pure (tmps.getD t undef)
  | .cell a t => do loadVar t (← asAddr (tmps.getD a undef))

theorem result_sim {E : Env} {w0 w : World} {M : Mp} {σ : St} (hE : E.ok w0) (hb : M.base = E.base) (hr : Rel E.P w0 M σ w) {fr : Fr} {a : Act} (hf : FR M fr a) {r : ResultVar} {v : Value} (h : E.result fr σ r = some v) :
    ∃ v', (resG a.tmps r).run E.P w = .ok v' w ∧ V M v v' := by
  cases r with
  | tmp t =>
    simp only [Env.result, Option.some.injEq] at h
    subst h
    exact ⟨a.tmps.getD t undef, rfl, hf.v t⟩
  | cell t ty =>
    simp only [Env.result] at h
    split at h <;> try (simp at h; done)
    rename_i b hb'
    obtain ⟨_, b', e1, e2⟩ := addr_rel hb' (hf.v t)
    obtain ⟨v', h1, h2⟩ := loadVar_sim hE hb hr e2 h
    refine ⟨v', ?_, h2⟩
    simp only [resG, e1, asAddr, Sem.run_bind, Sem.run_pure, Result.andThen_ok]
    exact h1

theorem results_sim {E : Env} {w0 w : World} {M : Mp} {σ : St} (hE : E.ok w0) (hb : M.base = E.base) (hr : Rel E.P w0 M σ w) {fr : Fr} {a : Act} (hf : FR M fr a) : ∀ (rs : List ResultVar) (l : List Value), E.results fr σ rs = some l →
    ∃ l', (rs.mapM (resG a.tmps)).run E.P w = .ok l' w ∧ VL M l l'
  | [], l, h => by
    simp only [Env.results, Option.some.injEq] at h
    subst h
    exact ⟨[], rfl, .nil⟩
  | r :: rs, l, h => by
    simp only [Env.results] at h
    split at h <;> try (simp at h; done)
    rename_i v l1 h1 h2
    simp only [Option.some.injEq] at h
    subst h
    obtain ⟨v', e1, e2⟩ := result_sim hE hb hr hf h1
    obtain ⟨l', f1, f2⟩ := results_sim hE hb hr hf rs l1 h2
    refine ⟨v' :: l', ?_, .cons e2 f2⟩
    rw [List.mapM_cons]
    simp only [Sem.run_bind, Sem.run_pure, Result.andThen_ok, e1, f1]

theorem tupled_sim {E : Env} {w0 w : World} {M : Mp} {σ : St} (hE : E.ok w0) (hb : M.base = E.base) (hr : Rel E.P w0 M σ w) {fr : Fr} {a : Act} (hf : FR M fr a) {fn : Func} {l : List Value} (h : E.results fr σ fn.results.toList = some l) :
    ∃ v', (results fn a.tmps).run E.P w = .ok v' w ∧ V M (tupled l) v' := by
  obtain ⟨l', h1, h2⟩ := results_sim hE hb hr hf _ _ h
  have e : (fn.results.mapM (resG a.tmps)).run E.P w = .ok l'.toArray w := by
    rw [Array.mapM_eq_mapM_toList]
    simp only [map_eq_pure_bind, Sem.run_bind, h1, Result.andThen_ok, Sem.run_pure]
  have hg : (fun r => match r with
    | ResultVar.tmp t => (pure (a.tmps.getD t undef) : Sem Value)
    | ResultVar.cell x t => do loadVar t (← asAddr (a.tmps.getD x undef))) = resG a.tmps := by
    funext r; cases r <;> rfl
  have hrun : (results fn a.tmps).run E.P w = .ok (if h : l'.toArray.size = 1 then l'.toArray[0] else .tuple l'.toArray) w := by
    show Sem.run _ _ _ = _
    unfold results
    erw [hg]
    simp only [Sem.run_bind, e, Result.andThen_ok, Sem.run_pure]
  refine ⟨_, hrun, ?_⟩
  match l, l', h2 with
  | [], [], _ => exact .tuple .nil
  | [v], [v'], .cons hv .nil => exact hv
  | v :: u :: k, v' :: u' :: k', hh =>
    have : ¬ (v' :: u' :: k').toArray.size = 1 := by simp
    rw [dif_neg this]
    exact .tuple hh

theorem frame_FR {M : Mp} {args : List Value} {args' : Array Value} {n : Nat} (h : VL M args args'.toList) (hl : args.length ≤ n) (hn : n < 4294967296) :
    FR M (frame args n) { tmps := args' ++ Array.replicate (n - args'.size) undef, defers := [] } := by
  have hsz : args'.size = args.length := by have := h.length; simpa using this
  refine ⟨by simp [frame]; omega, fun i => ?_, .nil⟩
  have hget : (frame args n).get i = (args[i]?).getD undef := by
    show args.getD i undef = _
    rw [List.getD_eq_getElem?_getD]
  rw [hget, Array.getD_eq_getD_getElem?]
  rcases Nat.lt_or_ge i args.length with hi | hi
  · have e1 : args[i]? = some args[i] := List.getElem?_eq_getElem hi
    obtain ⟨v', h1, h2⟩ := h.get i _ e1
    rw [Array.getElem?_append_left (by omega), e1, ← Array.getElem?_toList, h1]
    exact h2
  · rw [List.getElem?_eq_none hi]
    have : ((args' ++ Array.replicate (n - args'.size) undef)[i]?).getD undef = undef := by
      rw [Array.getElem?_append_right (by omega)]
      cases hx : (Array.replicate (n - args'.size) undef)[i - args'.size]? with
      | none => rfl
      | some u =>
        obtain ⟨_, hx⟩ := Array.getElem?_eq_some_iff.1 hx
        simp at hx; simp [hx]
    rw [this]
    exact V.of_flatter rfl

/-- What is asked of the program. -/
structure Env.sound (E : Env) : Prop where
  mixed : E.P.follows .mixedOrders = true
  body : ∀ (f : FuncId) (fn : Func) (c : Code), E.P.funcs[f]? = some fn → fn.body = some c → okCode E.base c = true ∧ fn.name ≠ "runtime.NumGoroutine"

/-! what was put off -/

theorem CallsD.mono' {P : Program} {f : FuncId} {args : Array Value} {u : FrameMode} {w : World} {R R' : Ending → FrameMode → World → Prop} (h : CallsD P f args u w R) (hR : ∀ e u w, R e u w → R' e u w) : CallsD P f args u w R' := fun c cs hc => by
  obtain ⟨e, u', w', fr, h1, h2⟩ := h c cs hc
  exact ⟨e, u', w', fr, hR _ _ _ h1, h2⟩

theorem rec_run {P : Program} {ρ : Operand → Value} {o : Oper} (h : isRec o = true) (w : World) : (execOp ρ o).run P w = .ok .recover w := by
  unfold isRec at h
  split at h <;> try (simp at h; done)
  rename_i c ho
  split at h <;> try (simp at h; done)
  rename_i hc
  unfold execOp
  rw [ho]
  simp only [resolve, hc, Sem.run_bind, Sem.run_pure, Result.andThen_ok, invoke, builtin]

/-- How the mode stands in the world's frames. -/
def PR (M : Mp) : PM → FrameMode → Prop
  | .ret, u => u = .returning
  | .pan v, u => ∃ v', u = .panicking [{ v := v', recovered := false }] ∧ V M v v'
  | .caught v, u => ∃ v', u = .panicking [{ v := v', recovered := true }] ∧ V M v v'
theorem PR.mono {M M' : Mp} (hm : M.le M') {m : PM} {u : FrameMode} (h : PR M m u) : PR M' m u := by
  cases m with
  | ret => exact h
  | pan v => obtain ⟨v', e, hv⟩ := h; exact ⟨v', e, hv.mono hm⟩
  | caught v => obtain ⟨v', e, hv⟩ := h; exact ⟨v', e, hv.mono hm⟩
theorem PR.settle {M : Mp} {m : PM} {u : FrameMode} (h : PR M m u) : PR M m.settle (Go.settle u) := by
  cases m with
  | ret => cases h; exact rfl
  | pan v => obtain ⟨v', rfl, hv⟩ := h; exact ⟨v', rfl, hv⟩
  | caught v => obtain ⟨v', rfl, hv⟩ := h; exact rfl
theorem PR.ne {M : Mp} {m : PM} {u : FrameMode} (h : PR M m u) : u ≠ .run := by
  cases m with
  | ret => cases h; simp
  | pan v => obtain ⟨v', rfl, hv⟩ := h; simp
  | caught v => obtain ⟨v', rfl, hv⟩ := h; simp
/-- The frame that is left, in that mode. -/
def CS (M : Mp) (c0 : Frame) (cs : List Frame) (m : PM) (l : List Frame) : Prop := ∃ u, l = { c0 with mode := u } :: cs ∧ PR M m u
theorem CS.mono {M M' : Mp} (hm : M.le M') {c0 : Frame} {cs : List Frame} {m : PM} {l : List Frame} (h : CS M c0 cs m l) : CS M' c0 cs m l := by
  obtain ⟨u, e, h⟩ := h; exact ⟨u, e, h.mono hm⟩

theorem drun_sim {E : Env} {w0 : World} {call : CallF} (hE : E.ok w0) (hc : CallOK E w0 call) {ops : Array Oper} {c0 : Frame} {cs : List Frame} {Q : Exit → Act → List Frame → World → Prop} (hok : ops.toList.all (okOper E.base) = true) :
    ∀ (k i : Nat) (M : Mp) (fr fr' : Fr) (m m' : PM) (σ σ' : St) (a : Act) (l : List Frame) (w : World), i + k = ops.size → M.base = E.base → fr.n < 4294967296 → E.drun call ops (ops.toList.drop i) fr m σ = some (fr', m', σ') → FR M fr a → CS M c0 cs m l → Rel E.P w0 M σ w →
      (∀ M' a' l' w', FR M' fr' a' → CS M' c0 cs m' l' → Rel E.P w0 M' σ' w' → Stp M M' σ σ' → fr'.n = fr.n → Q .normal a' l' w') → wpOpsS E.P ops Q (List.range' i k) a l w
  | 0, i, M, fr, fr', m, m', σ, σ', a, l, w, hi, hb, _, h, hf, hcs, hr, hK => by
    rw [List.drop_of_length_le (by simp; omega)] at h
    simp only [Env.drun, Option.some.injEq, Prod.mk.injEq] at h
    obtain ⟨rfl, rfl, rfl⟩ := h
    exact hK M a l w hf hcs hr (.refl M σ) rfl
  | k + 1, i, M, fr, fr', m, m', σ, σ', a, l, w, hi, hb, hn, h, hf, hcs, hr, hK => by
    have hlt : i < ops.size := by omega
    have ho : ops[i]? = some ops[i] := Array.getElem?_eq_getElem hlt
    have hd : ops.toList.drop i = ops[i] :: ops.toList.drop (i + 1) := by rw [List.drop_eq_getElem_cons (by simpa using hlt)]; simp
    have hoko : okOper E.base ops[i] = true := List.all_eq_true.1 hok _ (by simp)
    rw [hd] at h
    rw [List.range'_succ]
    simp only [wpOpsS, ho]
    unfold Env.drun at h
    rw [← wants_eq hf ops]
    rcases Bool.eq_false_or_eq_true (wants ops fr ops[i]) with hw | hw
    · rw [hw, cond_true] at h
      rw [hw, if_pos rfl]
      rcases Bool.eq_false_or_eq_true (isRec ops[i]) with hir | hir
      · rw [hir, cond_true] at h
        split at h <;> try (simp at h; done)
        rename_i fr1 hput
        rw [rec_run hir]
        have next : ∀ v' l', V M m.got.1 v' → CS M c0 cs m.got.2 l' → wpOpsS E.P ops Q (List.range' (i + 1) k) (a.put (ops[i]).dst v') l' w := fun v' l' hv' hl' =>
          drun_sim hE hc hok k (i + 1) M fr1 fr' _ m' σ σ' _ l' w (by omega) hb (by rw [Fr.put_n hput]; exact hn) h (hf.put hn hv' hput) hl' hr fun M'' a'' l'' w'' q1 q0 q2 q3 q4 => hK M'' a'' l'' w'' q1 q0 q2 q3 (q4.trans (Fr.put_n hput))
        obtain ⟨u, rfl, hu⟩ := hcs
        cases m with
        | ret =>
          cases hu
          have : recoverD ({ c0 with mode := .returning } :: cs) = none := by simp [recoverD]
          rw [this]
          exact next _ _ (V.of_flatter rfl) ⟨.returning, rfl, rfl⟩
        | pan v =>
          obtain ⟨v', rfl, hv⟩ := hu
          have : recoverD ({ c0 with mode := .panicking [{ v := v', recovered := false }] } :: cs) = some (v', { c0 with mode := .panicking [{ v := v', recovered := true }] } :: cs) := by simp [recoverD]
          rw [this]
          exact next _ _ hv ⟨_, rfl, v', rfl, hv⟩
        | caught v =>
          obtain ⟨v', rfl, hv⟩ := hu
          have : recoverD ({ c0 with mode := .panicking [{ v := v', recovered := true }] } :: cs) = none := by simp [recoverD]
          rw [this]
          exact next _ _ (V.of_flatter rfl) ⟨_, rfl, v', rfl, hv⟩
      · rw [hir, cond_false] at h
        split at h <;> try (simp at h; done)
        rename_i v σ1 hany
        split at h <;> try (simp at h; done)
        rename_i fr1 hput
        have hwp := any_sim (K := fun a' w' => wpOpsS E.P ops Q (List.range' (i + 1) k) a' l w') (Q := fun e a' w' => Q e a' l w') hE hc hb hf hr hoko hany (fun M' v0 v' w' he hv hr' hs => by
          cases he
          have hf' := (hf.mono hs.le).put hn hv hput
          exact drun_sim hE hc hok k (i + 1) M' fr1 fr' m m' σ1 σ' _ l w' (by omega) (hs.le.base.trans hb) (by rw [Fr.put_n hput]; exact hn) h hf' (hcs.mono hs.le) hr' fun M'' a'' l'' w'' q1 q0 q2 q3 q4 => hK M'' a'' l'' w'' q1 q0 q2 (hs.trans q3) (q4.trans (Fr.put_n hput))) (fun _ _ _ _ he => by cases he)
        unfold Oper.wp at hwp
        split
        · rename_i w' hrec
          rw [hrec] at hwp
          exact hwp.elim
        · exact hwp
    · rw [hw, cond_false] at h
      rw [hw, if_neg (by simp)]
      split at h <;> try (simp at h; done)
      rename_i fr1 hput
      have hf' := hf.put hn (V.of_flatter (v := undef) rfl) hput
      exact drun_sim hE hc hok k (i + 1) M fr1 fr' m m' σ σ' _ l w (by omega) hb (by rw [Fr.put_n hput]; exact hn) h hf' hcs hr fun M'' a'' l'' w'' q1 q0 q2 q3 q4 => hK M'' a'' l'' w'' q1 q0 q2 q3 (q4.trans (Fr.put_n hput))

theorem dcode_sim {E : Env} {w0 : World} {call : CallF} (hE : E.ok w0) (hc : CallOK E w0 call) (hm : E.P.follows .mixedOrders = true) {c0 : Frame} {cs : List Frame} {fuel : Nat} : ∀ (c : Code) (fr fr2 : Fr) (m m2 : PM) (σ σ2 : St) (ex : Ex) (M : Mp) (a : Act) (l : List Frame) (w : World) (Q : Exit → Act → List Frame → World → Prop),
    okCode E.base c = true → fr.n < 4294967296 → M.base = E.base → E.dcode call fuel c fr m σ = some (ex, fr2, m2, σ2) → FR M fr a → CS M c0 cs m l → Rel E.P w0 M σ w →
    (∀ M' a' l' w' e, ExR M' ex e → FR M' fr2 a' → CS M' c0 cs m2 l' → Rel E.P w0 M' σ2 w' → Stp M M' σ σ2 → fr2.n = fr.n → Q e a' l' w') → c.wpS E.P Q a l w := by
  intro c
  have plain : ∀ (c : Code) (fr fr2 : Fr) (m m2 : PM) (σ σ2 : St) (ex : Ex) (M : Mp) (a : Act) (l : List Frame) (w : World) (Q : Exit → Act → List Frame → World → Prop),
      okCode E.base c = true → fr.n < 4294967296 → M.base = E.base → tagM m (E.code call fuel c fr σ) = some (ex, fr2, m2, σ2) → FR M fr a → CS M c0 cs m l → Rel E.P w0 M σ w →
      (∀ M' a' l' w' e, ExR M' ex e → FR M' fr2 a' → CS M' c0 cs m2 l' → Rel E.P w0 M' σ2 w' → Stp M M' σ σ2 → fr2.n = fr.n → Q e a' l' w') → c.wpS E.P Q a l w := by
    intro c fr fr2 m m2 σ σ2 ex M a l w Q ho hn hb h hf hcs hr hQ
    unfold tagM at h
    split at h <;> try (simp at h; done)
    rename_i ex1 fr1 σ1 hx
    simp only [Option.some.injEq, Prod.mk.injEq] at h
    obtain ⟨rfl, rfl, rfl, rfl⟩ := h
    exact wpS_of_wp (code_sim hE hc hm _ _ _ _ _ _ M a w _ ho hn hb hx hf hr fun M' a' w' e q0 q1 q2 q3 q4 => hQ M' a' l w' e q0 q1 (hcs.mono q3.le) q2 q3 q4)
  induction c with
  | region id ops d =>
    intro fr fr2 m m2 σ σ2 ex M a l w Q ho hn hb h hf hcs hr hQ
    unfold Env.dcode at h
    cases hd : !d && ops.toList.any isRec
    · rw [hd, cond_false] at h
      exact plain _ _ _ _ _ _ _ _ M a l w Q ho hn hb h hf hcs hr hQ
    · rw [hd, cond_true] at h
      split at h <;> try (simp at h; done)
      rename_i fr' m' σ' hx
      simp only [Option.some.injEq, Prod.mk.injEq] at h
      obtain ⟨rfl, rfl, rfl, rfl⟩ := h
      have hdf : d = false := by
        cases d
        · rfl
        · simp at hd
      subst hdf
      simp only [okCode, Bool.and_eq_true] at ho
      refine wpS_region ?_
      rw [List.range_eq_range']
      exact drun_sim hE hc ho.1 ops.size 0 M fr fr' m m' σ σ' a l w (by omega) hb hn (by simpa using hx) hf hcs hr fun M' a' l' w' q1 q0 q2 q3 q4 => hQ M' a' l' w' _ rfl q1 q0 q2 q3 q4
  | seq x y ihx ihy =>
    intro fr fr2 m m2 σ σ2 ex M a l w Q ho hn hb h hf hcs hr hQ
    simp only [okCode, Bool.and_eq_true] at ho
    simp only [Env.dcode] at h
    cases hx : E.dcode call fuel x fr m σ with
    | none => rw [hx] at h; simp at h
    | some r =>
      obtain ⟨ex1, fr1, m1, σ1⟩ := r
      rw [hx] at h
      refine wpS_seq (ihx fr fr1 m m1 σ σ1 ex1 M a l w _ ho.1 hn hb hx hf hcs hr fun M' a' l' w' e q0 q1 qc q2 q3 q4 => ?_)
      cases ex1 with
      | normal =>
        cases q0
        simp only at h
        exact ihy fr1 fr2 m1 m2 σ1 σ2 ex M' a' l' w' Q ho.2 (by rw [q4]; exact hn) (q3.le.base.trans hb) h q1 qc q2 fun M'' a'' l'' w'' e r0 r1 rc r2 r3 r4 => hQ M'' a'' l'' w'' e r0 r1 rc r2 (q3.trans r3) (r4.trans q4)
      | exit id =>
        simp only [Option.some.injEq, Prod.mk.injEq] at h
        obtain ⟨rfl, rfl, rfl, rfl⟩ := h
        have q0' := q0
        cases q0
        exact hQ M' a' l' w' _ q0' q1 qc q2 q3 q4
      | ret =>
        simp only [Option.some.injEq, Prod.mk.injEq] at h
        obtain ⟨rfl, rfl, rfl, rfl⟩ := h
        have q0' := q0
        cases q0
        exact hQ M' a' l' w' _ q0' q1 qc q2 q3 q4
      | pan v =>
        simp only [Option.some.injEq, Prod.mk.injEq] at h
        obtain ⟨rfl, rfl, rfl, rfl⟩ := h
        have q0' := q0
        obtain ⟨v', rfl, _⟩ := q0
        exact hQ M' a' l' w' _ q0' q1 qc q2 q3 q4
  | cond c x y ihx ihy =>
    intro fr fr2 m m2 σ σ2 ex M a l w Q ho hn hb h hf hcs hr hQ
    simp only [okCode, Bool.and_eq_true] at ho
    simp only [Env.dcode] at h
    split at h <;> try (simp at h; done)
    · rename_i hcv
      exact wpS_cond (t := true) (ev_bool hf hcv) (ihx fr fr2 m m2 σ σ2 ex M a l w Q ho.1 hn hb h hf hcs hr hQ)
    · rename_i hcv
      exact wpS_cond (t := false) (ev_bool hf hcv) (ihy fr fr2 m m2 σ σ2 ex M a l w Q ho.2 hn hb h hf hcs hr hQ)
  | _ =>
    intro fr fr2 m m2 σ σ2 ex M a l w Q ho hn hb h hf hcs hr hQ
    exact plain _ _ _ _ _ _ _ _ M a l w Q ho hn hb (by simpa only [Env.dcode] using h) hf hcs hr hQ

theorem fits_iff {args : List Value} {fn : Func} (h : fits args fn = true) : args.length ≤ fn.ntmps ∧ fn.ntmps < 4294967295 := by
  obtain ⟨k1, k2⟩ := (Bool.and_eq_true _ _).mp h
  rw [blt_iff, decide_eq_true_eq] at k2
  exact ⟨Nat.le_of_ble_eq_true k1, k2⟩

def LateOK (E : Env) (w0 : World) (late : FuncId → List Value → PM → St → Option (PM × St)) : Prop :=
  ∀ g args m σ m' σ', late g args m σ = some (m', σ') → (∃ fn, E.P.funcs[g]? = some fn ∧ fn.body.isSome = true ∧ fn.name ≠ "runtime.NumGoroutine") ∧
    ∀ (M : Mp) (w : World) (args' : Array Value) (u : FrameMode), M.base = E.base → VL M args args'.toList → PR M m u → Rel E.P w0 M σ w →
      CallsD E.P g args' u w fun e u w' => ∃ v M', e = .returned v ∧ PR M' m' u ∧ Rel E.P w0 M' σ' w' ∧ Stp M M' σ σ'

theorem dfn_sim {E : Env} {w0 : World} {call : CallF} (hE : E.ok w0) (hc : CallOK E w0 call) (hS : E.sound) (fuel : Nat) : LateOK E w0 (E.dfn call fuel) := by
  intro g args m σ m' σ' h
  unfold Env.dfn at h
  split at h <;> try (simp at h; done)
  rename_i fn hfn
  split at h <;> try (simp at h; done)
  rename_i c hbody
  cases hcond : fits args fn
  · rw [hcond, cond_false] at h; cases h
  rw [hcond, cond_true] at h
  obtain ⟨k1, k2⟩ := fits_iff hcond
  obtain ⟨hc1, hc2⟩ := hS.body g fn c hfn hbody
  refine ⟨⟨fn, hfn, by rw [hbody]; rfl, hc2⟩, fun M w args' u hb hargs hu hr => ?_⟩
  refine callsD_of_wpS hfn hbody fun c0 cs hmode => ?_
  have hfr := frame_FR (M := M) hargs k1 (by omega)
  have hsame : ({ c0 with mode := u } : Frame) = c0 := by rw [← hmode]
  cases hx : E.dcode call fuel c (frame args fn.ntmps) m σ with
  | none => rw [hx] at h; simp at h
  | some r =>
    obtain ⟨ex, fr2, m2, σ2⟩ := r
    rw [hx] at h
    have fin : ∀ {x : Option (PM × St)}, x = some (m', σ') → x = (match fr2.df, E.results fr2 σ2 fn.results.toList with | [], some _ => some (m2, σ2) | _, _ => none) → fr2.df = [] ∧ (∃ l, E.results fr2 σ2 fn.results.toList = some l) ∧ m' = m2 ∧ σ' = σ2 := fun {x} e1 e2 => by
      rw [e2] at e1
      split at e1 <;> try (simp at e1; done)
      rename_i l hl1 hl2
      simp only [Option.some.injEq, Prod.mk.injEq] at e1
      exact ⟨hl1, ⟨l, hl2⟩, e1.1.symm, e1.2.symm⟩
    refine dcode_sim (c0 := c0) (cs := cs) hE hc hS.mixed c _ _ _ _ _ _ _ M _ _ w _ hc1 (by simp [frame]; omega) hb hx hfr ⟨u, by rw [hsame], hu⟩ hr fun M' a' l' w' e q0 q1 qc q2 q3 q4 => ?_
    have hb' : M'.base = E.base := q3.le.base.trans hb
    have close : fr2.df = [] ∧ (∃ l, E.results fr2 σ2 fn.results.toList = some l) ∧ m' = m2 ∧ σ' = σ2 → a'.defers = [] ∧ ∃ u', l' = { c0 with mode := u' } :: cs ∧ ∃ v, (results fn a'.tmps).run E.P w' = .ok v w' ∧ (∃ v' M'', Ending.returned v = .returned v' ∧ PR M'' m' u' ∧ Rel E.P w0 M'' σ' w' ∧ Stp M M'' σ σ') := by
      rintro ⟨d1, ⟨l, hl⟩, rfl, rfl⟩
      obtain ⟨v', h1, h2⟩ := tupled_sim hE hb' q2 q1 hl
      have hdf : a'.defers = [] := by
        have hq := q1.df
        rw [d1] at hq
        generalize a'.defers = ds at hq
        cases hq; rfl
      obtain ⟨u', rfl, hu'⟩ := qc
      exact ⟨hdf, u', rfl, v', h1, v', M', rfl, hu', q2, q3⟩
    cases ex with
    | exit id => simp at h
    | pan v => simp at h
    | normal => cases q0; exact close (fin h rfl)
    | ret => cases q0; exact close (fin h rfl)

theorem lates_sim {E : Env} {w0 : World} {late : FuncId → List Value → PM → St → Option (PM × St)} (hL : LateOK E w0 late) {fn : Func} {tmps : Array Value} {R : Ending → World → Prop} : ∀ (l : List (FuncId × List Value)) (ds : List Deferred) (m m' : PM) (u : FrameMode) (σ σ' : St) (M : Mp) (w : World), lates late l m σ = some (m', σ') → DL M l ds → M.base = E.base → PR M m u → Rel E.P w0 M σ w →
    (∀ M' u' w', Stp M M' σ σ' → PR M' m' u' → Rel E.P w0 M' σ' w' → Leaves E.P fn tmps R [] u' w') → Leaves E.P fn tmps R ds u w
  | [], _, m, m', u, σ, σ', M, w, h, .nil, _, hu, hr, hK => by
    simp only [lates, Option.some.injEq, Prod.mk.injEq] at h
    obtain ⟨rfl, rfl⟩ := h
    exact hK M u w (.refl M σ) hu hr
  | (g, args) :: l, _, m, m', u, σ, σ', M, w, h, .cons (fst := fst) (cap := cap) (ds := ds) hv ht, hb, hu, hr, hK => by
    simp only [lates] at h
    split at h <;> try (simp at h; done)
    rename_i m1 σ1 hl1
    obtain ⟨⟨fn', e1, e2, e3⟩, hcall⟩ := hL g args m σ m1 σ1 hl1
    refine ⟨hu.ne, .func g, cap, g, fst ++ cap, rfl, run_enter e1 e2 e3 _ w, CallsD.mono' (hcall M w _ u hb hv hu hr) ?_⟩
    rintro e u' w' ⟨v, M', rfl, hu', hr', hs⟩
    show Leaves E.P fn tmps R ds (settle u') w'
    exact lates_sim hL l ds m1.settle m' (settle u') σ1 σ' M' w' h (ht.mono hs.le) (hs.le.base.trans hb) hu'.settle hr' fun M'' u'' w'' q1 q2 q3 => hK M'' u'' w'' (hs.trans q1) q2 q3

/-- What an end comes to. -/
def Ends' (E : Env) (w0 : World) (M : Mp) (σ : St) (out : Out) (σ' : St) (e : Ending) (w' : World) : Prop := ∃ M', OutR M' out e ∧ Rel E.P w0 M' σ' w' ∧ Stp M M' σ σ'
theorem fin_sim {E : Env} {w0 : World} {call : CallF} (hE : E.ok w0) (hc : CallOK E w0 call) (hS : E.sound) (fuel : Nat) {fn : Func} {fr : Fr} {m : PM} {σ0 σ σ' : St} {out : Out} {M0 M : Mp} {a : Act} {w : World} {u : FrameMode} (hb : M.base = E.base)
    (h : E.fin call fuel fn fr m σ = some (out, σ')) (hf : FR M fr a) (hu : PR M m u) (hr : Rel E.P w0 M σ w) (hs : Stp M0 M σ0 σ) : Leaves E.P fn a.tmps (Ends' E w0 M0 σ0 out σ') a.defers u w := by
  unfold Env.fin at h
  cases hl : lates (E.dfn call fuel) fr.df m σ with
  | none => rw [hl] at h; simp at h
  | some p =>
    obtain ⟨m1, σ1⟩ := p
    rw [hl] at h
    refine lates_sim (dfn_sim hE hc hS fuel) _ _ _ _ _ _ _ M w hl hf.df hb hu hr fun M' u' w' q1 q2 q3 => ?_
    cases m1 with
    | ret =>
      cases q2
      simp only at h
      split at h <;> try (simp at h; done)
      rename_i l hl2
      simp only [Option.some.injEq, Prod.mk.injEq] at h
      obtain ⟨rfl, rfl⟩ := h
      obtain ⟨v', h1, h2⟩ := tupled_sim hE (q1.le.base.trans hb) q3 (hf.mono q1.le) hl2
      exact ⟨v', h1, M', ⟨v', rfl, h2⟩, q3, hs.trans q1⟩
    | pan v =>
      obtain ⟨v', rfl, hv⟩ := q2
      simp only [Option.some.injEq, Prod.mk.injEq] at h
      obtain ⟨rfl, rfl⟩ := h
      exact ⟨M', ⟨v', rfl, hv⟩, q3, hs.trans q1⟩
    | caught v => simp at h

theorem body_sim {E : Env} {w0 : World} {call : CallF} (hE : E.ok w0) (hc : CallOK E w0 call) (hS : E.sound) (fuel : Nat) : CallOK E w0 (E.body call fuel) := fun g args σ out σ' h => by
    unfold Env.body at h
    split at h <;> try (simp at h; done)
    rename_i fn hfn
    split at h <;> try (simp at h; done)
    rename_i c hbody
    cases hcond : fits args fn
    · rw [hcond, cond_false] at h; cases h
    rw [hcond, cond_true] at h
    obtain ⟨k1, k2⟩ := fits_iff hcond
    obtain ⟨hc1, hc2⟩ := hS.body g fn c hfn hbody
    refine ⟨⟨fn, hfn, by rw [hbody]; rfl, hc2⟩, fun M w args' hb hargs hr => ?_⟩
    refine calls_of_wp_defers hfn hbody ?_
    have hfr := frame_FR (M := M) hargs k1 (by omega)
    cases hx : E.code call fuel c (frame args fn.ntmps) σ with
    | none => rw [hx] at h; simp at h
    | some r =>
      obtain ⟨ex, fr2, σ2⟩ := r
      rw [hx] at h
      simp only at h
      refine code_sim hE hc hS.mixed c _ _ _ _ _ M _ w _ hc1 (by simp [frame]; omega) hb hx hfr hr fun M' a' w' e q0 q1 q2 q3 q4 => ?_
      have hb' : M'.base = E.base := q3.le.base.trans hb
      cases ex with
      | exit id => simp [Env.last] at h
      | normal => cases q0; exact fin_sim hE hc hS fuel hb' h q1 rfl q2 q3
      | ret => cases q0; exact fin_sim hE hc hS fuel hb' h q1 rfl q2 q3
      | pan v => obtain ⟨v', rfl, hv⟩ := q0; exact fin_sim hE hc hS fuel hb' h q1 ⟨v', rfl, hv⟩ q2 q3

theorem fn_sim {E : Env} {w0 : World} {X : CallF} (hE : E.ok w0) (hX : CallOK E w0 X) (hS : E.sound) (fuel : Nat) : ∀ d, CallOK E w0 (E.fn X fuel d)
  | 0 => hX
  | d + 1 => fun g args σ out σ' h => by
    have ih := fn_sim hE hX hS fuel d
    simp only [Env.fn] at h
    split at h
    · rename_i r hr
      simp only [Option.some.injEq] at h
      subst h
      exact hX g args σ out σ' hr
    · exact body_sim hE ih hS fuel g args σ out σ' h

/-- Nothing is known ahead. -/
def noX : CallF := fun _ _ _ => none
theorem noX_ok {E : Env} {w0 : World} : CallOK E w0 noX := fun _ _ _ _ _ h => by cases h

/-- A world as it stands at the start, with nothing made. -/
theorem start_rel {P : Program} {w : World} {base : Nat} (h : base ≤ w.heap.size) : Rel P w { base := base, al := fun _ => False, f := fun _ => none, sz := fun _ => 0, lim := fun _ => 0 } ⟨.e, base⟩ w :=
  ⟨rfl, rfl, rfl, Nat.le_refl _, fun _ _ => rfl, h, Nat.le_refl _, fun _ h => h.elim, fun _ _ _ _ _ h => h.elim, fun _ _ _ h => h.elim, fun _ h => h.elim⟩

/-- A call with plain arguments, from any world in which what is known holds. -/
theorem fn_run {E : Env} {w : World} {X : CallF} (hE : E.ok w) (hX : CallOK E w X) (hS : E.sound) (hb : E.base ≤ w.heap.size) {fuel d f : Nat} {args : List Value} (hargs : ∀ M : Mp, M.base = E.base → VL M args args) {v : Value} {σ : St} (h : E.fn X fuel d f args ⟨.e, E.base⟩ = some (.ret v, σ)) :
    Calls E.P f ⟨args⟩ w fun e w' => ∃ M v', e = .returned v' ∧ V M v v' ∧ M.base = E.base ∧ Rel E.P w M σ w' := by
  have := (fn_sim hE hX hS fuel d f args ⟨.e, E.base⟩ _ σ h).2 _ w ⟨args⟩ rfl (hargs _ rfl) (start_rel hb)
  refine this.mono ?_
  rintro e w' ⟨M', ⟨v', rfl, hv⟩, hr, hs⟩
  exact ⟨M', v', rfl, hv, hs.le.base, hr⟩

/-- The check of a program, to be run. -/
def okProg (P : Program) (base : Nat) : Bool := P.funcs.toList.all fun fn => match fn.body with | some c => okCode base c && fn.name != "runtime.NumGoroutine" | none => true
theorem okProg_sound {E : Env} (hm : E.P.follows .mixedOrders = true) (h : okProg E.P E.base = true) : E.sound := by
  refine ⟨hm, fun f fn c hf hb => ?_⟩
  have := List.all_eq_true.1 h fn (Array.mem_toList_iff.2 (Array.mem_of_getElem? hf))
  rw [hb] at this
  simp only [Bool.and_eq_true, bne_iff_ne] at this
  exact this
end Go.B
