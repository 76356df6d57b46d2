/-
  The interpreter with continuations is right.
-/
import Derived.Test.YtjioijajmkdefaaGreatDoorCC
namespace Go.B
open Go

theorem evF_eq (base : Nat) (t : FT) (n : Nat) (df : DF) : Fr.ev base ⟨t, n, df⟩ = evF base t := by
  funext x; cases x <;> rfl
theorem put_upd {t : FT} {n : Nat} {df : DF} {dst : Option Tmp} {v : Value} (h : (match dst with | some d => Nat.blt d n | none => true) = true) : Fr.put ⟨t, n, df⟩ dst v = some ⟨upd t dst v, n, df⟩ := by
  cases dst with
  | none => rfl
  | some d =>
    have h2 : Nat.blt d n = true := h
    unfold Fr.put
    simp only [h2, cond_true]
    rfl
theorem upd_same {t : FT} {d : Tmp} {v : Value} (h : t d = v) : upd t (some d) v = t := by
  funext i
  simp only [upd, nbeq]
  by_cases e : i = d
  · subst e; simp [h]
  · simp [e]

theorem ext_eq {E : Env} {ρ : Operand → Value} {o : Oper} {c : Call} {g : FuncId} (ho : o.op = .call c) (hc : c.callee = .value (.func g)) (hg : ρ (.func g) = .func (.func g) #[] #[]) : E.ext ρ o = extV E g (c.args.toList.map ρ) := by
  have h2 : ((⟨(c.args.toList.map ρ).map .const⟩ : Array Operand).map cevF) = c.args.map ρ := by
    apply Array.ext'
    simp only [List.map_map, Array.toList_map]
    rfl
  have e1 : execOp ρ o = (Deferred.ofValue (ρ (.func g)) (c.args.map ρ) >>= fun d => invoke d.target d.args) := by
    unfold execOp; rw [ho]; simp only [resolve, hc]
  have e2 : execOp cevF (opr (.call { callee := .value (.func g), args := ⟨(c.args.toList.map ρ).map .const⟩, argTypes := #[] })) = (Deferred.ofValue (ρ (.func g)) (c.args.map ρ) >>= fun d => invoke d.target d.args) := by
    unfold execOp opr; simp only [resolve, h2, hg, cevF]
  unfold extV Env.ext
  rw [e1, e2]
  have a1 : (o.op.operands.toList.all fun x => flatF (ρ x)) = (c.args.toList.map ρ).all flatF := by
    rw [ho]
    simp [Op.operands, Call.operands, hc, hg, flatF, List.all_map, Function.comp_def]
  have a2 : ((opr (.call { callee := .value (.func g), args := ⟨(c.args.toList.map ρ).map .const⟩, argTypes := #[] })).op.operands.toList.all fun x => flatF (cevF x)) = (c.args.toList.map ρ).all flatF := by
    simp [opr, Op.operands, Call.operands, cevF, flatF, List.all_map, Function.comp_def]
  rw [a1, a2]

/-- What becomes of an outcome. -/
def OutK (k P : Value → St → R) (r : Out × St) : Out → St → Prop
  | .ret v, σ => k v σ = some r
  | .pan v, σ => P v σ = some r
theorem callB_is {x : R} {k P : Value → St → R} {r : Out × St} (h : callB x k P = some r) : ∃ out σ, x = some (out, σ) ∧ OutK k P r out σ := by
  unfold callB at h
  split at h
  · exact ⟨_, _, rfl, h⟩
  · exact ⟨_, _, rfl, h⟩
  · cases h

theorem anyK_sound {E : Env} {call : CallF} {t : FT} {n : Nat} {df : DF} {σ : St} {o : Oper} {k P : Value → St → R} {r : Out × St} (h : E.anyK call (evF E.base t) σ o.op k P = some r) :
    ∃ out σ', E.any call ⟨t, n, df⟩ σ o = some (out, σ') ∧ OutK k P r out σ' := by
  unfold Env.any
  rw [evF_eq]
  generalize hρ : evF E.base t = ρ at h
  have hf : ∀ g, ρ (.func g) = .func (.func g) #[] #[] := fun g => by rw [← hρ]; rfl
  have rest : E.opK ρ σ o.op k = some r → isCall o = false → isThrow o = false → ∃ out σ', (bif isCall o then match Env.callee ρ o with
    | some (g, args) => bif E.bare g then retd (keep σ (E.ext ρ o)) else call g args σ
    | none => none
    else bif isThrow o then match thrown ρ o with
    | some v => some (.pan v, σ)
    | none => none
    else retd (E.op ρ σ o)) = some (out, σ') ∧ OutK k P r out σ' := fun h1 h2 h3 => by
    obtain ⟨v, σ', e1, e2⟩ := opK_sound rfl h1
    exact ⟨.ret v, σ', by rw [h2, h3, e1]; rfl, e2⟩
  have throwing : ∀ x, isCall o = false → isThrow o = true → thrown ρ o = (match ρ x with | .iface t v => some (.iface t v) | _ => none) → (thr (ρ x) fun v => P v σ) = some r → ∃ out σ', (bif isCall o then match Env.callee ρ o with
    | some (g, args) => bif E.bare g then retd (keep σ (E.ext ρ o)) else call g args σ
    | none => none
    else bif isThrow o then match thrown ρ o with
    | some v => some (.pan v, σ)
    | none => none
    else retd (E.op ρ σ o)) = some (out, σ') ∧ OutK k P r out σ' := fun x h1 h2 h3 h4 => by
    unfold thr at h4
    split at h4 <;> try (cases h4; done)
    rename_i ti u hx
    rw [hx] at h3
    exact ⟨.pan (.iface ti u), σ, by rw [h1, h2, h3]; rfl, h4⟩
  unfold Env.anyK at h
  split at h
  · rename_i c hop
    split at h
    · rename_i f hc
      have hi : isCall o = true := by simp [isCall, hop, hc]
      rw [hi, cond_true]
      split at h
      · rename_i g
        have hcal : Env.callee ρ o = some (g, c.args.toList.map ρ) := by
          simp [Env.callee, hop, hc, hf]
        rw [hcal]
        simp only
        cases hb : E.bare g
        · rw [hb, cond_false] at h
          rw [cond_false]
          exact callB_is h
        · rw [hb, cond_true] at h
          obtain ⟨v, e1, e2⟩ := bnd_is h
          rw [cond_true]
          exact ⟨.ret v, σ, by rw [ext_eq hop hc (hf g), e1]; rfl, e2⟩
      · unfold clo at h
        split at h <;> try (cases h; done)
        rename_i g l cc hv
        have hcal : Env.callee ρ o = some (g, l ++ (c.args.toList.map ρ ++ cc)) := by
          simp [Env.callee, hop, hc, hv]
        rw [hcal]
        simp only
        simp only at h
        cases hb : E.bare g
        · rw [hb, cond_false] at h
          rw [cond_false]
          exact callB_is h
        · rw [hb] at h; cases h
    · rename_i hc
      split at h <;> try (cases h; done)
      rename_i x ha
      exact throwing x (by simp [isCall, hop, hc]) (by simp [isThrow, hop, hc]) (by unfold thrown; simp only [hop, hc, ha]; cases ρ x <;> rfl) h
    · rename_i h1 h2
      refine rest h ?_ ?_
      · unfold isCall; rw [hop]; simp only
      · unfold isThrow; rw [hop]; simp only
  · rename_i x hop
    exact throwing x (by simp [isCall, hop]) (by simp [isThrow, hop]) (by unfold thrown; simp only [hop]; cases ρ x <;> rfl) h
  · rename_i h1 h2
    refine rest h ?_ ?_
    · unfold isCall
      split
      · rename_i c hc; exact absurd hc (h1 c)
      · rfl
    · unfold isThrow
      split
      · rename_i x hc; exact absurd hc (h2 x)
      · rename_i c hc; exact absurd hc (h1 c)
      · rfl

theorem gdK_sound {ops : Array Oper} {t : FT} {n : Nat} {df : DF} {o : Oper} {a b : FT → R} {r : Out × St} (h : gdK ops t o a b = some r) :
    (wants ops ⟨t, n, df⟩ o = true ∧ a t = some r) ∨ (wants ops ⟨t, n, df⟩ o = false ∧ b t = some r) := by
  unfold gdK at h
  unfold wants
  split at h
  · rename_i hg; rw [hg]; exact .inl ⟨rfl, h⟩
  · rename_i j c hg
    rw [hg]
    simp only
    split at h
    · rename_i hd; rw [hd]; exact .inr ⟨rfl, h⟩
    · rename_i d hd
      rw [hd]
      simp only
      rcases cnd_is h with ⟨e, h⟩ | ⟨e, h⟩
      · rw [upd_same e] at h
        rw [e]
        cases c
        · exact .inr ⟨rfl, h⟩
        · exact .inl ⟨rfl, h⟩
      · rw [upd_same e] at h
        rw [e]
        cases c
        · exact .inl ⟨rfl, h⟩
        · exact .inr ⟨rfl, h⟩

def okD (n : Nat) (o : Oper) : Bool := match o.dst with | some d => Nat.blt d n | none => true

theorem runK_sound {E : Env} {call : CallF} {L : Bool} {ops : Array Oper} {n : Nat} {K : KK} {r : Out × St} : ∀ (l : List Oper) (df : DF) (t : FT) (σ : St), l.all (okD n) = true → (L = false → df = []) → E.runK call L ops l df t σ K = some r →
    ∃ ex t' df' σ', E.run call ops l ⟨t, n, df⟩ σ = some (ex, ⟨t', n, df'⟩, σ') ∧ (L = false → df' = []) ∧ K ex df' t' σ' = some r
  | [], df, t, σ, _, hdf, h => ⟨.normal, t, df, σ, rfl, hdf, h⟩
  | o :: l, df, t, σ, hok, hdf, h => by
    simp only [List.all_cons, Bool.and_eq_true] at hok
    unfold Env.runK at h
    unfold Env.run
    rcases gdK_sound (n := n) (df := df) h with ⟨hw, h⟩ | ⟨hw, h⟩
    · rw [hw, cond_true]
      cases hl : isLate o
      · rw [hl, cond_false] at h
        rw [cond_false]
        obtain ⟨out, σ1, e1, e2⟩ := anyK_sound (n := n) (df := df) h
        rw [e1]
        cases out with
        | ret v =>
          simp only [put_upd hok.1]
          exact runK_sound l df _ σ1 hok.2 hdf e2
        | pan v => exact ⟨.pan v, t, df, σ1, rfl, hdf, e2⟩
      · rw [hl, cond_true] at h
        rw [cond_true]
        cases L with
        | false => cases h
        | true =>
          rw [cond_true] at h
          split at h <;> try (cases h; done)
          rename_i p hp
          rw [evF_eq, hp]
          simp only [put_upd hok.1]
          exact runK_sound l _ _ σ hok.2 (fun e => by cases e) h
    · rw [hw, cond_false]
      simp only [put_upd hok.1]
      exact runK_sound l df _ σ hok.2 hdf h

/-! drawn regions -/
def rdOf (n : Nat) (df : DF) (r : RdK) : Rd := ⟨r.i, r.o, ⟨r.t, n, df⟩, r.v, r.seg⟩
theorem allocsK_sound {E : Env} {n : Nat} {df : DF} {K : FT → St → R} {r : Out × St} : ∀ (l : List Oper) (t : FT) (σ : St), l.all (okD n) = true → E.allocsK l t σ K = some r → ∃ t' σ', E.allocs l ⟨t, n, df⟩ σ = some (⟨t', n, df⟩, σ') ∧ K t' σ' = some r
  | [], t, σ, _, h => ⟨t, σ, rfl, h⟩
  | o :: l, t, σ, hok, h => by
    simp only [List.all_cons, Bool.and_eq_true] at hok
    unfold Env.allocsK at h
    unfold Env.allocs
    cases hc : Nat.beq (cls o.op) 2
    · rw [hc, cond_false] at h
      rw [cond_false]
      exact allocsK_sound l t σ hok.2 h
    · rw [hc, cond_true] at h
      rw [cond_true, evF_eq]
      obtain ⟨v, σ1, e1, e2⟩ := opK_sound rfl h
      rw [e1]
      simp only [put_upd hok.1]
      exact allocsK_sound l _ σ1 hok.2 e2
theorem textK_sound {E : Env} {call : CallF} {ops : Array Oper} {n : Nat} {df : DF} {K : FT → St → List RdK → List Nat → List St → R} {r : Out × St} : ∀ (l : List Oper) (i : Nat) (t : FT) (σ : St) (rds : List RdK) (ch : List Nat) (ss : List St), l.all (okD n) = true → E.textK call ops i l t σ rds ch ss K = some r →
    ∃ t' σ' rds' ch' ss', E.text call ops i l ⟨t, n, df⟩ σ (rds.map (rdOf n df)) ch ss = some (⟨t', n, df⟩, σ', rds'.map (rdOf n df), ch', ss') ∧ K t' σ' rds' ch' ss' = some r
  | [], i, t, σ, rds, ch, ss, _, h => ⟨t, σ, rds, ch, ss ++ [σ], rfl, h⟩
  | o :: l, i, t, σ, rds, ch, ss, hok, h => by
    simp only [List.all_cons, Bool.and_eq_true] at hok
    unfold Env.textK at h
    unfold Env.text
    cases hc : Nat.beq (cls o.op) 2
    · rw [hc, cond_false] at h
      rw [cond_false]
      rcases gdK_sound (n := n) (df := df) h with ⟨hw, h⟩ | ⟨hw, h⟩
      · rw [hw, cond_true]
        obtain ⟨out, σ1, e1, e2⟩ := anyK_sound (n := n) (df := df) h
        rw [e1]
        cases out with
        | pan v => cases e2
        | ret v =>
          simp only [put_upd hok.1]
          simp only [OutK] at e2
          cases h3 : Nat.beq (cls o.op) 3
          · rw [h3, cond_false] at e2
            rw [cond_false]
            cases h1 : Nat.beq (cls o.op) 1
            · rw [h1, cond_false] at e2
              rw [cond_false]
              exact textK_sound l _ _ _ _ _ _ hok.2 e2
            · rw [h1, cond_true] at e2
              rw [cond_true]
              exact textK_sound l _ _ _ (⟨i, o, t, v, ch.length⟩ :: rds) _ _ hok.2 e2
          · rw [h3, cond_true] at e2
            rw [cond_true]
            exact textK_sound l _ _ _ _ _ _ hok.2 e2
      · rw [hw, cond_false]
        simp only [put_upd hok.1]
        exact textK_sound l _ _ _ _ _ _ hok.2 h
    · rw [hc, cond_true] at h
      rw [cond_true]
      exact textK_sound l _ _ _ _ _ _ hok.2 h
theorem stdyK_sound {E : Env} {ms ch : List Nat} {n : Nat} {df : DF} {rd : RdK} {k : R} {r : Out × St} : ∀ (ss : List St) (s : Nat), E.stdyK ms ch rd s ss k = some r → E.steady ms ch (rdOf n df rd) s ss = true ∧ k = some r
  | [], s, h => ⟨rfl, h⟩
  | σ :: ss, s, h => by
    unfold Env.stdyK at h
    unfold Env.steady
    cases hc : (Nat.beq s rd.seg || !(may ms rd.i s ch))
    · rw [hc, cond_false] at h
      obtain ⟨v, σ', e1, e2⟩ := opK_sound rfl h
      unfold smK at e2
      cases hv : vbeq' v rd.v
      · rw [hv] at e2; cases e2
      · rw [hv, cond_true] at e2
        obtain ⟨h1, h2⟩ := stdyK_sound ss (s + 1) e2
        refine ⟨?_, h2⟩
        rw [h1, Bool.and_true]
        show (Nat.beq s rd.seg || !(may ms rd.i s ch) || _) = true
        rw [hc, Bool.false_or]
        show (match E.op (Fr.ev E.base ⟨rd.t, n, df⟩) σ rd.o with | some (v, _) => vbeq' v rd.v | none => false) = true
        rw [evF_eq, e1]
        exact hv
    · rw [hc, cond_true] at h
      obtain ⟨h1, h2⟩ := stdyK_sound ss (s + 1) h
      refine ⟨?_, h2⟩
      rw [h1, Bool.and_true]
      show (Nat.beq s rd.seg || !(may ms rd.i s ch) || _) = true
      rw [hc, Bool.true_or]
theorem allK_sound {E : Env} {ms ch : List Nat} {n : Nat} {df : DF} {ss : List St} {k : R} {r : Out × St} : ∀ (rds : List RdK), E.allK ms ch ss rds k = some r → (rds.map (rdOf n df)).all (fun r => E.steady ms ch r 0 ss) = true ∧ k = some r
  | [], h => ⟨rfl, h⟩
  | rd :: rds, h => by
    unfold Env.allK at h
    obtain ⟨h1, h2⟩ := stdyK_sound (n := n) (df := df) ss 0 h
    obtain ⟨h3, h4⟩ := allK_sound (n := n) (df := df) rds h2
    exact ⟨by simp only [List.map_cons, List.all_cons, h1, h3, Bool.and_self], h4⟩
theorem drawnK_sound {E : Env} {call : CallF} {ops : Array Oper} {n : Nat} {df : DF} {t : FT} {σ : St} {K : FT → St → R} {r : Out × St} (hok : ops.toList.all (okD n) = true) (h : E.drawnK call ops t σ K = some r) :
    ∃ t' σ', E.drawn call ops ⟨t, n, df⟩ σ = some (⟨t', n, df⟩, σ') ∧ K t' σ' = some r := by
  unfold Env.drawnK at h
  obtain ⟨t1, σ1, e1, h⟩ := allocsK_sound (n := n) (df := df) _ _ _ hok h
  obtain ⟨t2, σ2, rds, ch, ss, e2, h⟩ := textK_sound (n := n) (df := df) _ _ _ _ _ _ _ hok h
  have e2' : E.text call ops 0 ops.toList ⟨t1, n, df⟩ σ1 [] [] [] = some (⟨t2, n, df⟩, σ2, rds.map (rdOf n df), ch, ss) := e2
  unfold Env.drawn
  rw [e1]
  simp only [e2']
  split at h
  · exact ⟨t2, σ2, rfl, h⟩
  · rename_i c cs
    cases hc : chained (masks [] ops.toList) (c :: cs)
    · rw [hc] at h; cases h
    · rw [hc, cond_true] at h
      obtain ⟨h1, h2⟩ := allK_sound (n := n) (df := df) _ h
      refine ⟨t2, σ2, ?_, h2⟩
      simp only [hc, h1, Bool.and_self, cond_true]

/-! code -/
theorem codeK_sound {E : Env} {call : CallF} {fuel : Nat} {L : Bool} {n : Nat} {r : Out × St} : ∀ (c : Code) (df : DF) (t : FT) (σ : St) (K : KK), okDst n c = true → (L = false → df = []) → E.codeK call fuel L c df t σ K = some r →
    ∃ ex t' df' σ', E.code call fuel c ⟨t, n, df⟩ σ = some (ex, ⟨t', n, df'⟩, σ') ∧ (L = false → df' = []) ∧ K ex df' t' σ' = some r := by
  have norm : ∀ {df : DF}, (L = false → df = []) → (bif L then df else []) = df := fun {df} h => by
    cases L
    · rw [h rfl]; rfl
    · rfl
  intro c
  induction c with
  | skip => exact fun df t σ K _ hdf h => ⟨.normal, t, df, σ, rfl, hdf, h⟩
  | label l => exact fun df t σ K _ hdf h => ⟨.normal, t, df, σ, rfl, hdf, h⟩
  | region id ops d =>
    intro df t σ K hok hdf h
    unfold Env.codeK at h
    unfold Env.code
    cases d with
    | true =>
      rw [cond_true] at h
      obtain ⟨t', σ', e1, e2⟩ := drawnK_sound (n := n) (df := df) hok h
      rw [cond_true, e1]
      -- what is put off stays as it is
      exact ⟨.normal, t', df, σ', rfl, hdf, e2⟩
    | false =>
      rw [cond_false] at h
      rw [cond_false]
      exact runK_sound _ df t σ hok hdf h
  | seq a b iha ihb =>
    intro df t σ K hok hdf h
    simp only [okDst, Bool.and_eq_true] at hok
    unfold Env.codeK at h
    unfold Env.code
    obtain ⟨ex, t1, df1, σ1, e1, hdf1, h1⟩ := iha df t σ _ hok.1 hdf h
    rw [e1]
    unfold thenK at h1
    cases ex with
    | normal =>
      simp only [norm hdf1] at h1
      exact ihb df1 t1 σ1 K hok.2 hdf1 h1
    | exit id => exact ⟨_, t1, df1, σ1, rfl, hdf1, h1⟩
    | ret => exact ⟨_, t1, df1, σ1, rfl, hdf1, h1⟩
    | pan v => exact ⟨_, t1, df1, σ1, rfl, hdf1, h1⟩
  | cond c a b iha ihb =>
    intro df t σ K hok hdf h
    simp only [okDst, Bool.and_eq_true] at hok
    unfold Env.codeK at h
    unfold Env.code
    rw [evF_eq]
    rcases cnd_is h with ⟨e, h⟩ | ⟨e, h⟩
    · rw [e]; exact iha df t σ K hok.1 hdf h
    · rw [e]; exact ihb df t σ K hok.2 hdf h
  | block id b ih =>
    intro df t σ K hok hdf h
    unfold Env.codeK at h
    unfold Env.code
    obtain ⟨ex, t1, df1, σ1, e1, hdf1, h1⟩ := ih df t σ _ hok hdf h
    rw [e1]
    unfold blkK at h1
    cases ex with
    | normal => exact ⟨_, t1, df1, σ1, rfl, hdf1, h1⟩
    | ret => exact ⟨_, t1, df1, σ1, rfl, hdf1, h1⟩
    | pan v => exact ⟨_, t1, df1, σ1, rfl, hdf1, h1⟩
    | exit j =>
      simp only at h1 ⊢
      cases hj : Nat.beq j id
      · rw [hj, cond_false] at h1; exact ⟨_, t1, df1, σ1, rfl, hdf1, h1⟩
      · rw [hj, cond_true] at h1; exact ⟨_, t1, df1, σ1, rfl, hdf1, h1⟩
  | scope b ih =>
    intro df t σ K hok hdf h
    unfold Env.codeK at h
    unfold Env.code
    exact ih df t σ K hok hdf h
  | loop b ih =>
    intro df t σ K hok hdf h
    unfold Env.codeK at h
    unfold Env.code
    have key : ∀ (m : Nat) (df : DF) (t : FT) (σ : St), (L = false → df = []) → lpK (fun df t σ K => E.codeK call fuel L b df t σ K) L m df t σ K = some r →
        ∃ ex t' df' σ', loopN (fun fr σ => E.code call fuel b fr σ) m ⟨t, n, df⟩ σ = some (ex, ⟨t', n, df'⟩, σ') ∧ (L = false → df' = []) ∧ K ex df' t' σ' = some r := by
      intro m
      induction m with
      | zero => intro df t σ _ h; cases h
      | succ m ihm =>
        intro df t σ hdf h
        unfold lpK at h
        unfold loopN
        obtain ⟨ex, t1, df1, σ1, e1, hdf1, h1⟩ := ih df t σ _ hok hdf h
        rw [e1]
        unfold thenK at h1
        cases ex with
        | normal =>
          simp only [norm hdf1] at h1
          exact ihm df1 t1 σ1 hdf1 h1
        | exit id => exact ⟨_, t1, df1, σ1, rfl, hdf1, h1⟩
        | ret => exact ⟨_, t1, df1, σ1, rfl, hdf1, h1⟩
        | pan v => exact ⟨_, t1, df1, σ1, rfl, hdf1, h1⟩
    exact key fuel df t σ hdf h
  | exit id => exact fun df t σ K _ hdf h => ⟨.exit id, t, df, σ, rfl, hdf, h⟩
  | ret => exact fun df t σ K _ hdf h => ⟨.ret, t, df, σ, rfl, hdf, h⟩
  | _ => intro df t σ K _ _ h; cases h

theorem resK_sound {E : Env} {t : FT} {n : Nat} {df : DF} {σ : St} {r : Out × St} : ∀ (rs : List ResultVar) (k : List Value → R), E.resK t σ rs k = some r → ∃ l, E.results ⟨t, n, df⟩ σ rs = some l ∧ k l = some r
  | [], k, h => ⟨[], rfl, h⟩
  | .tmp i :: rs, k, h => by
    unfold Env.resK at h
    obtain ⟨l, e1, e2⟩ := resK_sound rs _ h
    refine ⟨t i :: l, ?_, e2⟩
    unfold Env.results
    rw [e1]; rfl
  | .cell i ty :: rs, k, h => by
    unfold Env.resK at h
    have key : ∀ v, (∀ a, addrOf (t i) = some a → E.loadVar σ ty a = some v) → (∃ a, addrOf (t i) = some a) → E.result ⟨t, n, df⟩ σ (.cell i ty) = some v := fun v h1 ⟨a, h2⟩ => by
      unfold Env.result
      show (match addrOf (t i) with | some a => E.loadVar σ ty a | none => none) = some v
      rw [h2]; exact h1 a h2
    split at h
    · rename_i ha
      split at h <;> try (cases h; done)
      rename_i m hm
      obtain ⟨v, e1, h⟩ := bnd_is h
      obtain ⟨l, e2, e3⟩ := resK_sound rs _ h
      refine ⟨v :: l, ?_, e3⟩
      unfold Env.results
      have : E.result ⟨t, n, df⟩ σ (.cell i ty) = some v := by
        unfold ldn at e1
        split at e1 <;> try (cases e1; done)
        rename_i a hx
        refine key v (fun a' h' => ?_) ⟨a, hx⟩
        rw [hx] at h'; cases h'
        unfold Env.loadVar
        simp only [ha, show (E.P.info? ty).map (·.size) = some m from hm, addrOf_spot hx, cond_false]
        exact e1
      rw [this, e2]
    · rename_i ha
      obtain ⟨v, e1, h⟩ := bnd_is h
      obtain ⟨l, e2, e3⟩ := resK_sound rs _ h
      refine ⟨v :: l, ?_, e3⟩
      unfold Env.results
      have : E.result ⟨t, n, df⟩ σ (.cell i ty) = some v := by
        unfold ld1 at e1
        split at e1 <;> try (cases e1; done)
        rename_i a hx
        refine key v (fun a' h' => ?_) ⟨a, hx⟩
        rw [hx] at h'; cases h'
        unfold Env.loadVar
        simp only [ha]
        exact e1
      rw [this, e2]
    · cases h

theorem finD_sound {E : Env} {call : CallF} {fuel : Nat} {fn : Func} {t : FT} {n : Nat} {df : DF} {m : PM} {σ : St} {r : Out × St} (h : finD E call fuel df m σ (fun σ => E.resK t σ fn.results.toList fun l => some (.ret (tupled l), σ)) = some r) : E.fin call fuel fn ⟨t, n, df⟩ m σ = some r := by
  unfold finD at h
  unfold Env.fin
  simp only
  split at h
  · rename_i σ' hl
    rw [hl]
    obtain ⟨l, e1, e2⟩ := resK_sound (n := n) (df := df) _ _ h
    simp only [e1]; exact e2
  · rename_i v σ' hl
    rw [hl]; exact h
  · cases h

theorem funK_sound {E : Env} {call : CallF} {fuel : Nat} {L : Bool} {f : FuncId} {fn : Func} {args : List Value} {σ : St} {r : Out × St} (hf : E.P.funcs[f]? = some fn) (hfit : fits args fn = true) (hok : (match fn.body with | some c => okDst fn.ntmps c | none => false) = true)
    (h : E.funK call fuel L fn args σ = some r) : E.body call fuel f args σ = some r := by
  unfold Env.funK at h
  unfold Env.body
  rw [hf]
  simp only
  split at h <;> try (cases h; done)
  rename_i c hc
  rw [hc] at hok
  simp only [hc, hfit, cond_true]
  obtain ⟨ex, t', df', σ', e1, hdf, e2⟩ := codeK_sound (n := fn.ntmps) c [] (argF args) σ _ hok (fun _ => rfl) h
  have e1' : E.code call fuel c (frame args fn.ntmps) σ = some (ex, ⟨t', fn.ntmps, df'⟩, σ') := e1
  rw [e1']
  simp only
  have plain : ∀ {m : PM}, L = false → df' = [] := fun e => hdf e
  unfold lastK at e2
  cases L with
  | true =>
    cases ex with
    | exit id => cases e2
    | normal => exact finD_sound e2
    | ret => exact finD_sound e2
    | pan v => exact finD_sound e2
  | false =>
    obtain rfl := hdf rfl
    cases ex with
    | exit id => cases e2
    | normal =>
      simp only [cond_false] at e2
      obtain ⟨l, h1, h2⟩ := resK_sound (n := fn.ntmps) (df := []) _ _ e2
      simp only [Env.last, Env.fin, lates, h1]; exact h2
    | ret =>
      simp only [cond_false] at e2
      obtain ⟨l, h1, h2⟩ := resK_sound (n := fn.ntmps) (df := []) _ _ e2
      simp only [Env.last, Env.fin, lates, h1]; exact h2
    | pan v =>
      simp only [cond_false] at e2
      simp only [Env.last, Env.fin, lates]; exact e2
end Go.B
