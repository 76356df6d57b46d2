/-
  The interpreter is right: drawn regions, code, calls.
-/
import Derived.Test.YtjioijajmkdefaaGreatDoorBG
import Derived.LoopN
import Derived.Scope
namespace Go.B
open Go

theorem drawn_sim {E : Env} {w0 w : World} {M : Mp} {σ σ2 : St} {call : CallF} (hE : E.ok w0) (hc : CallOK E w0 call) (hm : E.P.follows .mixedOrders = true) (hb : M.base = E.base) {ops : Array Oper} {id : Nat} (hok : ops.toList.all (okOper E.base) = true) (hD : okDrawn ops = true) {fr fr2 : Fr} {a : Act}
    (hn : fr.n < 4294967296) (h : E.drawn call ops fr σ = some (fr2, σ2)) (hf : FR M fr a) (hr : Rel E.P w0 M σ w) {Q : Exit → Act → World → Prop}
    (hQ : ∀ M' a' w', FR M' fr2 a' → Rel E.P w0 M' σ2 w' → Stp M M' σ σ2 → fr2.n = fr.n → Q .normal a' w') : (Code.region id ops true).wp E.P Q a w := by
  obtain ⟨σ1, val, frs, sgs, idf, ch, pl, e2, en, edf, eg⟩ := drawn_plan hn (okDrawn_spec hD) h
  have hr' := hr.drew
  have hLf : ∀ k, L (Array.replicate ops.size false) k = false := fun k => by
    unfold L
    rw [Array.getD_eq_getD_getElem?]
    cases hx : (Array.replicate ops.size false)[k]? with
    | none => rfl
    | some b =>
      obtain ⟨hlt, hx⟩ := Array.getElem?_eq_some_iff.1 hx
      simp at hx; simp [hx]
  have hC0 : sgs (ch.getD 0 ops.size) = σ1 := by
    rw [flatTo pl.quiet pl.chAll pl.chSort (fun c hc => (pl.chC c hc).1) (Nat.zero_le _) (j := 0) ⟨fun k c hk => by omega, fun k c _ _ => Nat.zero_le _⟩]
    exact pl.start
  refine wp_region_any hm (any_order hE hc hb hr.nx hok pl (M0 := M) (w0 := w0) (Q := Q) ?_ ops.size _ a _ M 0 fr (cntU_le _ _) ?_)
  · intro M' frL a' w' h1 h2 h2d h3 h4 h5
    rw [e2] at h4 h5
    refine hQ M' a' w' ⟨h1.sz.trans (h2.trans en.symm), fun i => ?_, by rw [edf, ← h2d]; exact h1.df⟩ h4 h5 en
    have := h1.v i
    rw [h3, ← eg] at this; exact this
  · refine ⟨by simp, fun j hj => (by rw [hLf] at hj; cases hj), Nat.zero_le _, fun k c _ => by rw [hLf]; simp, ?_, ?_, hf, rfl, rfl, fun t => ?_, fun j o ho hcl _ => ?_⟩
    · rw [hC0]
      exact ⟨.refl M, pl.nx, fun _ h => .inl h, fun i hi _ => pl.same i hi⟩
    · rw [hC0]
      refine ⟨hr'.os, hr'.tape, hr'.output, hr'.size, hr'.old, hr'.bs, Nat.le_trans hr'.nx pl.nx, fun i hi => ⟨(hr'.al i hi).1, Nat.lt_of_lt_of_le (hr'.al i hi).2 pl.nx⟩, hr'.inj, fun i g d hi hfi => ?_, fun i hi hfi => ?_⟩
      · obtain ⟨x1, B, x2, x3⟩ := hr'.live i g d hi hfi
        exact ⟨x1, B, (pl.same i (hr'.al i hi).2).trans x2, x3⟩
      · exact (pl.same i (hr'.al i hi).2).trans (hr'.dead i hi hfi)
    · cases hl : lastW (fun k => L (Array.replicate ops.size false) k && wr ops t k) ops.size with
      | none => rfl
      | some k =>
        have := (lastW_some hl).2
        rw [hLf] at this; simp at this
    · rw [hC0]
      obtain ⟨_, t, z, z1, z2, z3, z4, z5, z6, z7, z8⟩ := pl.var j o ho hcl
      exact ⟨fun hal => by have := (hr.al _ hal).2; omega, rfl, z4⟩

/-! code -/
def okCode (base : Nat) : Code → Bool
  | .region _ ops d => ops.toList.all (okOper base) && (!d || okDrawn ops)
  | .seq a b => okCode base a && okCode base b
  | .cond _ a b => okCode base a && okCode base b
  | .block _ b => okCode base b
  | .scope b => okCode base b
  | .loop b => okCode base b
  | _ => true

theorem ev_bool {base : Nat} {M : Mp} {fr : Fr} {a : Act} (hf : FR M fr a) {c : Operand} {b : Bool} (h : fr.ev base c = .bool b) : a.eval c = .bool b := by
  cases c with
  | tmp t =>
    have := hf.v t
    simp only [Fr.ev] at h
    rw [h] at this
    exact this.bool_left
  | const v =>
    simp only [Fr.ev] at h
    cases hv : flatter v
    · rw [hv] at h; simp [undef] at h
    · rw [hv, cond_true] at h; exact h
  | global g =>
    simp only [Fr.ev] at h
    cases hg : Nat.blt g base
    · rw [hg] at h; simp [undef] at h
    · rw [hg] at h; simp at h
  | func f => simp [Fr.ev] at h

theorem code_sim {E : Env} {w0 : World} {call : CallF} (hE : E.ok w0) (hc : CallOK E w0 call) (hm : E.P.follows .mixedOrders = true) {fuel : Nat} : ∀ (c : Code) (fr fr2 : Fr) (σ σ2 : St) (ex : Ex) (M : Mp) (a : Act) (w : World) (Q : Exit → Act → World → Prop),
    okCode E.base c = true → fr.n < 4294967296 → M.base = E.base → E.code call fuel c fr σ = some (ex, fr2, σ2) → FR M fr a → Rel E.P w0 M σ w →
    (∀ M' a' w' e, ExR M' ex e → FR M' fr2 a' → Rel E.P w0 M' σ2 w' → Stp M M' σ σ2 → fr2.n = fr.n → Q e a' w') → c.wp E.P Q a w := by
  intro c
  induction c with
  | skip =>
    intro fr fr2 σ σ2 ex M a w Q _ _ _ h hf hr hQ
    simp only [Env.code, Option.some.injEq, Prod.mk.injEq] at h
    obtain ⟨rfl, rfl, rfl⟩ := h
    exact wp_skip (hQ M a w _ rfl hf hr (.refl _ _) rfl)
  | label l =>
    intro fr fr2 σ σ2 ex M a w Q _ _ _ h hf hr hQ
    simp only [Env.code, Option.some.injEq, Prod.mk.injEq] at h
    obtain ⟨rfl, rfl, rfl⟩ := h
    exact wp_label (hQ M a w _ rfl hf hr (.refl _ _) rfl)
  | region id ops d =>
    intro fr fr2 σ σ2 ex M a w Q ho hn hb h hf hr hQ
    simp only [okCode, Bool.and_eq_true] at ho
    simp only [Env.code] at h
    cases d with
    | true =>
      rw [cond_true] at h
      split at h <;> try (simp at h; done)
      rename_i fr' σ' hx
      simp only [Option.some.injEq, Prod.mk.injEq] at h
      obtain ⟨rfl, rfl, rfl⟩ := h
      exact drawn_sim hE hc hm hb ho.1 (by simpa using ho.2) hn hx hf hr fun M' a' w' q1 q2 q3 q4 => hQ M' a' w' _ rfl q1 q2 q3 q4
    | false =>
      rw [cond_false] at h
      exact wp_region_list (run_sim hE hc _ M _ _ _ _ _ a w hb ho.1 hn h hf hr hQ)
  | seq x y ihx ihy =>
    intro fr fr2 σ σ2 ex M a w Q ho hn hb h hf hr hQ
    simp only [okCode, Bool.and_eq_true] at ho
    simp only [Env.code] at h
    cases hx : E.code call fuel x fr σ with
    | none => rw [hx] at h; simp at h
    | some r =>
      obtain ⟨ex1, fr1, σ1⟩ := r
      rw [hx] at h
      refine wp_seq (ihx fr fr1 σ σ1 ex1 M a w _ ho.1 hn hb hx hf hr fun M' a' w' e q0 q1 q2 q3 q4 => ?_)
      cases ex1 with
      | normal =>
        cases q0
        simp only at h
        exact ihy fr1 fr2 σ1 σ2 ex M' a' w' Q ho.2 (by rw [q4]; exact hn) (q3.le.base.trans hb) h q1 q2 fun M'' a'' w'' e r0 r1 r2 r3 r4 => hQ M'' a'' w'' e r0 r1 r2 (q3.trans r3) (r4.trans q4)
      | exit id =>
        simp only [Option.some.injEq, Prod.mk.injEq] at h
        obtain ⟨rfl, rfl, rfl⟩ := h
        have q0' := q0
        cases q0
        exact hQ M' a' w' _ q0' q1 q2 q3 q4
      | ret =>
        simp only [Option.some.injEq, Prod.mk.injEq] at h
        obtain ⟨rfl, rfl, rfl⟩ := h
        have q0' := q0
        cases q0
        exact hQ M' a' w' _ q0' q1 q2 q3 q4
      | pan v =>
        simp only [Option.some.injEq, Prod.mk.injEq] at h
        obtain ⟨rfl, rfl, rfl⟩ := h
        have q0' := q0
        obtain ⟨v', rfl, _⟩ := q0
        exact hQ M' a' w' _ q0' q1 q2 q3 q4
  | cond c x y ihx ihy =>
    intro fr fr2 σ σ2 ex M a w Q ho hn hb h hf hr hQ
    simp only [okCode, Bool.and_eq_true] at ho
    simp only [Env.code] at h
    split at h <;> try (simp at h; done)
    · rename_i hcv
      exact wp_cond_true (ev_bool hf hcv) (ihx fr fr2 σ σ2 ex M a w Q ho.1 hn hb h hf hr hQ)
    · rename_i hcv
      exact wp_cond_false (ev_bool hf hcv) (ihy fr fr2 σ σ2 ex M a w Q ho.2 hn hb h hf hr hQ)
  | block id x ih =>
    intro fr fr2 σ σ2 ex M a w Q ho hn hb h hf hr hQ
    simp only [okCode] at ho
    simp only [Env.code] at h
    cases hx : E.code call fuel x fr σ with
    | none => rw [hx] at h; simp at h
    | some r =>
      obtain ⟨ex1, fr1, σ1⟩ := r
      rw [hx] at h
      refine wp_block (ih fr fr1 σ σ1 ex1 M a w _ ho hn hb hx hf hr fun M' a' w' e q0 q1 q2 q3 q4 => ?_)
      cases ex1 with
      | normal =>
        simp only [Option.some.injEq, Prod.mk.injEq] at h
        obtain ⟨rfl, rfl, rfl⟩ := h
        have q0' := q0
        cases q0
        exact hQ M' a' w' _ q0' q1 q2 q3 q4
      | ret =>
        simp only [Option.some.injEq, Prod.mk.injEq] at h
        obtain ⟨rfl, rfl, rfl⟩ := h
        have q0' := q0
        cases q0
        exact hQ M' a' w' _ q0' q1 q2 q3 q4
      | pan v =>
        simp only [Option.some.injEq, Prod.mk.injEq] at h
        obtain ⟨rfl, rfl, rfl⟩ := h
        have q0' := q0
        obtain ⟨v', rfl, _⟩ := q0
        exact hQ M' a' w' _ q0' q1 q2 q3 q4
      | exit j =>
        cases q0
        simp only [nbeq] at h
        by_cases e : j = id
        · subst e
          simp only [decide_true, cond_true, Option.some.injEq, Prod.mk.injEq] at h
          obtain ⟨rfl, rfl, rfl⟩ := h
          simpa [Exit.inBlock] using hQ M' a' w' _ rfl q1 q2 q3 q4
        · simp only [e, decide_false, cond_false, Option.some.injEq, Prod.mk.injEq] at h
          obtain ⟨rfl, rfl, rfl⟩ := h
          simpa [Exit.inBlock, e] using hQ M' a' w' _ rfl q1 q2 q3 q4
  | scope x ih =>
    intro fr fr2 σ σ2 ex M a w Q ho hn hb h hf hr hQ
    simp only [okCode] at ho
    simp only [Env.code] at h
    refine wp_scope_straight (ih fr fr2 σ σ2 ex M a w _ ho hn hb h hf hr fun M' a' w' e q0 q1 q2 q3 q4 => ?_)
    have := hQ M' a' w' e q0 q1 q2 q3 q4
    cases ex with
    | pan v => obtain ⟨v', rfl, _⟩ := q0; exact this
    | _ => cases q0; exact this
  | loop x ih =>
    intro fr fr2 σ σ2 ex M a w Q ho hn hb h hf hr hQ
    simp only [okCode] at ho
    simp only [Env.code] at h
    refine wp_loop_rounds fuel ?_
    have key : ∀ (n : Nat) (fr : Fr) (σ : St) (M : Mp) (a : Act) (w : World), fr.n < 4294967296 → M.base = E.base → loopN (fun fr σ => E.code call fuel x fr σ) n fr σ = some (ex, fr2, σ2) → FR M fr a → Rel E.P w0 M σ w →
        (∀ M' a' w' e, ExR M' ex e → FR M' fr2 a' → Rel E.P w0 M' σ2 w' → Stp M M' σ σ2 → fr2.n = fr.n → Q e a' w') → Code.rounds E.P x Q n a w := by
      intro n
      induction n with
      | zero => intro fr σ M a w _ _ h; simp [loopN] at h
      | succ n ihn =>
        intro fr σ M a w hn hb h hf hr hQ
        rw [rounds_succ]
        simp only [loopN] at h
        cases hx : E.code call fuel x fr σ with
        | none => rw [hx] at h; simp at h
        | some r =>
          obtain ⟨ex1, fr1, σ1⟩ := r
          rw [hx] at h
          refine ih fr fr1 σ σ1 ex1 M a w _ ho hn hb hx hf hr fun M' a' w' e q0 q1 q2 q3 q4 => ?_
          cases ex1 with
          | normal =>
            cases q0
            simp only at h
            exact ihn fr1 σ1 M' a' w' (by rw [q4]; exact hn) (q3.le.base.trans hb) h q1 q2 fun M'' a'' w'' e r0 r1 r2 r3 r4 => hQ M'' a'' w'' e r0 r1 r2 (q3.trans r3) (r4.trans q4)
          | exit id =>
            simp only [Option.some.injEq, Prod.mk.injEq] at h
            obtain ⟨rfl, rfl, rfl⟩ := h
            have q0' := q0
            cases q0
            exact hQ M' a' w' _ q0' q1 q2 q3 q4
          | ret =>
            simp only [Option.some.injEq, Prod.mk.injEq] at h
            obtain ⟨rfl, rfl, rfl⟩ := h
            have q0' := q0
            cases q0
            exact hQ M' a' w' _ q0' q1 q2 q3 q4
          | pan v =>
            simp only [Option.some.injEq, Prod.mk.injEq] at h
            obtain ⟨rfl, rfl, rfl⟩ := h
            have q0' := q0
            obtain ⟨v', rfl, _⟩ := q0
            exact hQ M' a' w' _ q0' q1 q2 q3 q4
    exact key fuel fr σ M a w hn hb h hf hr hQ
  | exit id =>
    intro fr fr2 σ σ2 ex M a w Q _ _ _ h hf hr hQ
    simp only [Env.code, Option.some.injEq, Prod.mk.injEq] at h
    obtain ⟨rfl, rfl, rfl⟩ := h
    exact wp_exit (hQ M a w _ rfl hf hr (.refl _ _) rfl)
  | ret =>
    intro fr fr2 σ σ2 ex M a w Q _ _ _ h hf hr hQ
    simp only [Env.code, Option.some.injEq, Prod.mk.injEq] at h
    obtain ⟨rfl, rfl, rfl⟩ := h
    exact wp_ret (hQ M a w _ rfl hf hr (.refl _ _) rfl)
  | _ =>
    intro fr fr2 σ σ2 ex M a w Q _ _ _ h
    simp [Env.code] at h
end Go.B
