/-
  The operations on an abstract state, and that the model's own do what they say: operations on plain values, on parts of structs and tuples, addresses, loads and stores.
-/
import Derived.Test.YtjioijajmkdefaaGreatDoorB2
namespace Go.B
open Go

/-- What an operation's program answers that touches no world. -/
def pur {α : Type} (P : Program) : Sem α → Option α
  | .pure a => some a
  | .program k => pur P (k P)
  | .mark _ k => pur P k
  | _ => none
theorem pur_run {α : Type} {P : Program} {w : World} : ∀ {s : Sem α} {a : α}, pur P s = some a → s.run P w = .ok a w
  | .pure _, _, h => by simp [pur] at h; subst h; rfl
  | .program k, _, h => by simp only [pur] at h; exact pur_run (s := k P) h
  | .mark _ k, _, h => by simp only [pur] at h; exact pur_run (s := k) h
  | .load .., _, h => by simp [pur] at h
  | .store .., _, h => by simp [pur] at h
  | .new .., _, h => by simp [pur] at h
  | .shape .., _, h => by simp [pur] at h
  | .freeze .., _, h => by simp [pur] at h
  | .frozen .., _, h => by simp [pur] at h
  | .getObj .., _, h => by simp [pur] at h
  | .setObj .., _, h => by simp [pur] at h
  | .choose .., _, h => by simp [pur] at h
  | .sys .., _, h => by simp [pur] at h
  | .halt .., _, h => by simp [pur] at h

/-- The operation is done, with this value. -/
def Did (r : Result Next) (v : Value) (w : World) : Prop := r = .ok (.value v) w ∨ (r = .ok .skip w ∧ v = undef)

def OSim (E : Env) (w0 : World) (M : Mp) (σ : St) (w : World) (s : Sem Next) (v : Value) (σ' : St) : Prop :=
  ∃ M' v' w', Did (s.run E.P w) v' w' ∧ V M' v v' ∧ Rel E.P w0 M' σ' w' ∧ Stp M M' σ σ'

theorem OSim.same {E : Env} {w0 : World} {M : Mp} {σ : St} {w : World} {s : Sem Next} {v v' : Value} (hr : Rel E.P w0 M σ w) (h : Did (s.run E.P w) v' w) (hv : V M v v') : OSim E w0 M σ w s v σ :=
  ⟨M, v', w, h, hv, hr, .refl M σ⟩

/-- Operands are related. -/
def RR (M : Mp) (ρ ρ' : Operand → Value) : Prop := ∀ x, V M (ρ x) (ρ' x)

def sel : Op → Bool
  | .select .. => true
  | _ => false

/-- What any operation on plain operands yields, if it touches no world. -/
def Env.plain (E : Env) (ρ : Operand → Value) (o : Oper) : Option Value :=
  bif sel o.op then none else bif o.op.operands.toList.all (fun x => flatter (ρ x)) then
    match pur E.P (execOp ρ o) with
    | some (.value v) => bif flatter v then some v else none
    | some .skip => some undef
    | _ => none
  else none

theorem plain_sim {E : Env} {w0 : World} {M : Mp} {σ : St} {w : World} {ρ ρ' : Operand → Value} {o : Oper} {v : Value} (hr : Rel E.P w0 M σ w) (hρ : RR M ρ ρ') (h : E.plain ρ o = some v) :
    OSim E w0 M σ w (execOp ρ' o) v σ := by
  unfold Env.plain at h
  cases hs : sel o.op
  · rw [hs, cond_false] at h
    cases ha : o.op.operands.toList.all (fun x => flatter (ρ x))
    · rw [ha] at h; simp at h
    · rw [ha, cond_true] at h
      have he : execOp ρ' o = execOp ρ o := execOp_congr o (fun cs b e => by rw [e] at hs; simp [sel] at hs) fun x hx => flatter_eq (hρ x) (List.all_eq_true.1 ha x (Array.mem_toList_iff.2 hx))
      cases hp : pur E.P (execOp ρ o) with
      | none => rw [hp] at h; simp at h
      | some n =>
        rw [hp] at h
        have hrun := pur_run (w := w) hp
        cases n with
        | value u =>
          cases hf : flatter u
          · simp [hf] at h
          · simp only [hf, cond_true, Option.some.injEq] at h
            subst h
            exact .same hr (.inl (he ▸ hrun)) (V.of_flatter hf)
        | skip =>
          simp only [Option.some.injEq] at h
          subst h
          exact .same hr (.inr ⟨he ▸ hrun, rfl⟩) (V.of_flatter rfl)
        | _ => simp at h
  · rw [hs] at h; simp at h

theorem V.cells {M : Mp} {v v' : Value} (h : V M v v') : VL M v.cells.toList v'.cells.toList := by
  cases h with
  | agg h => exact h
  | bool b => exact .cons (.bool b) .nil
  | int k n => exact .cons (.int k n) .nil
  | float k n => exact .cons (.float k n) .nil
  | string s => exact .cons (.string s) .nil
  | ptr0 => exact .cons .ptr0 .nil
  | ptr a b h => exact .cons (.ptr a b h) .nil
  | slice0 => exact .cons .slice0 .nil
  | slice a b n c c' h => exact .cons (.slice a b n c c' h) .nil
  | map0 => exact .cons .map0 .nil
  | map r r' h => exact .cons (.map r r' h) .nil
  | nilFunc => exact .cons .nilFunc .nil
  | nilIface => exact .cons .nilIface .nil
  | func fn h h' => exact .cons (.func fn h h') .nil
  | iface t h => exact .cons (.iface t h) .nil
  | tuple h => exact .cons (.tuple h) .nil

def Env.agg? (E : Env) (t : TypeId) : Option Bool :=
  match E.P.underlying t with
  | some (.struct _) | some (.array ..) => some true
  | some _ => some false
  | none => none

theorem run_isAgg {E : Env} {t : TypeId} {b : Bool} (h : E.agg? t = some b) (w : World) : (isAgg t).run E.P w = .ok b w := by
  unfold Env.agg? at h
  cases hu : E.P.underlying t with
  | none => rw [hu] at h; simp at h
  | some d =>
    rw [hu] at h
    have e : (underlying t).run E.P w = .ok d w := by simp [underlying, hu]
    cases d <;> simp at h <;> subst h <;> simp [isAgg, e]

theorem run_sizeOf {E : Env} {t : TypeId} {n : Nat} (h : (E.P.info? t).map (·.size) = some n) (w : World) : (sizeOf t).run E.P w = .ok n w := by
  cases hi : E.P.info? t with
  | none => rw [hi] at h; simp at h
  | some i => rw [hi] at h; simp at h; simp [sizeOf, typeInfo, hi, h]

theorem A_add {M : Mp} {a b : Addr} (h : M.A a b) (hs : a.spot = none) (i : Nat) : M.A ⟨a.block, a.off + i, none⟩ (b.add i) := by
  rcases h with ⟨h1, rfl⟩ | ⟨h1, h2, h3, h4⟩
  · refine .inl ⟨h1, ?_⟩
    cases b with | mk x y z => simp at hs; subst hs; unfold Addr.add; split <;> simp_all
  · refine .inr ⟨h1, h2, rfl, fun g d e => ?_⟩
    have := h4 g d e
    subst this
    unfold Addr.add; split <;> simp_all <;> omega

theorem load_spot {E : Env} {σ : St} {a : Addr} {v : Value} (h : E.load σ a = some v) : a.spot = none := by
  unfold Env.load at h
  cases hs : a.spot with
  | none => rfl
  | some x => rw [hs] at h; simp at h

/-- n cells from an address on. -/
def Env.loads (E : Env) (σ : St) (b i : Nat) : Nat → Option (List Value)
  | 0 => some []
  | n + 1 => match E.load σ ⟨b, i, none⟩ with
    | some v => match E.loads σ b (i + 1) n with
      | some l => some (v :: l)
      | none => none
    | none => none

theorem loads_sim {E : Env} {w0 w : World} {M : Mp} {σ : St} (hE : E.ok w0) (hb : M.base = E.base) (hr : Rel E.P w0 M σ w) {a b : Addr} (ha : M.A a b) (hs : a.spot = none) :
    ∀ (n i : Nat) (l : List Value), E.loads σ a.block (a.off + i) n = some l → ∃ l', l'.length = n ∧ VL M l l' ∧ ∀ (j : Nat) (v : Value), l'[j]? = some v → w.cell? (b.add (i + j)) = some v
  | 0, i, l, h => by simp [Env.loads] at h; subst h; exact ⟨[], rfl, .nil, fun j v hj => by simp at hj⟩
  | n + 1, i, l, h => by
    unfold Env.loads at h
    cases hl : E.load σ ⟨a.block, a.off + i, none⟩ with
    | none => rw [hl] at h; simp at h
    | some v =>
      rw [hl] at h
      cases hr2 : E.loads σ a.block (a.off + i + 1) n with
      | none => simp [hr2] at h
      | some l2 =>
        simp [hr2] at h
        subst h
        obtain ⟨v', hc, hv⟩ := hr.cell hE hb (A_add ha hs i) hl
        obtain ⟨l', h1, h2, h3⟩ := loads_sim hE hb hr ha hs n (i + 1) l2 (by rw [← Nat.add_assoc]; exact hr2)
        refine ⟨v' :: l', by simp [h1], .cons hv h2, fun j u hj => ?_⟩
        cases j with
        | zero => simp at hj; subst hj; simpa using hc
        | succ j =>
          have := h3 j u (by simpa using hj)
          have e : i + (j + 1) = i + 1 + j := by omega
          rw [e]; exact this

def Env.loadVar (E : Env) (σ : St) (t : TypeId) (a : Addr) : Option Value :=
  match E.agg? t with
  | some true => match (E.P.info? t).map (·.size) with
    | some n => bif a.spot.isSome then none else match E.loads σ a.block a.off n with
      | some l => some (.agg ⟨l⟩)
      | none => none
    | none => none
  | some false => E.load σ a
  | none => none

theorem loadVar_sim {E : Env} {w0 w : World} {M : Mp} {σ : St} (hE : E.ok w0) (hb : M.base = E.base) (hr : Rel E.P w0 M σ w) {t : TypeId} {a b : Addr} (ha : M.A a b) {v : Value} (h : E.loadVar σ t a = some v) :
    ∃ v', (loadVar t b).run E.P w = .ok v' w ∧ V M v v' := by
  unfold Env.loadVar at h
  cases hg : E.agg? t with
  | none => rw [hg] at h; simp at h
  | some c =>
    rw [hg] at h
    cases c with
    | true =>
      cases hn : (E.P.info? t).map (·.size) with
      | none => rw [hn] at h; simp at h
      | some n =>
        rw [hn] at h
        cases hs : a.spot with
        | some x => rw [hs] at h; simp at h
        | none =>
          rw [hs] at h
          cases hl : E.loads σ a.block a.off n with
          | none => simp [hl] at h
          | some l =>
            simp [hl] at h
            subst h
            obtain ⟨l', h1, h2, h3⟩ := loads_sim hE hb hr ha hs n 0 l (by simpa using hl)
            refine ⟨.agg ⟨l'⟩, ?_, .agg h2⟩
            have := run_loadCells_list (P := E.P) w b l' (fun j u hj => by simpa using h3 j u hj)
            rw [h1] at this
            simp [loadVar, run_isAgg hg, run_sizeOf hn, this]
    | false =>
      obtain ⟨v', hc, hv⟩ := hr.cell hE hb ha h
      exact ⟨v', by simp [loadVar, run_isAgg hg, hc], hv⟩

/-- Stores, one behind the other. -/
def Env.stores (E : Env) (σ : St) (b i : Nat) : List Value → Option St
  | [] => some σ
  | v :: l => match E.store σ ⟨b, i, none⟩ v with
    | some σ' => E.stores σ' b (i + 1) l
    | none => none

theorem stores_sim {E : Env} {w0 : World} {M : Mp} (hb : M.base = E.base) {a b : Addr} (ha : M.A a b) (hs : a.spot = none) :
    ∀ (l l' : List Value) (i : Nat) (σ σ' : St) (w : World), Rel E.P w0 M σ w → VL M l l' → E.stores σ a.block (a.off + i) l = some σ' →
      ∃ w', (storeCells b l' i).run E.P w = .ok () w' ∧ Rel E.P w0 M σ' w' ∧ Stp M M σ σ'
  | [], _, i, σ, σ', w, hr, .nil, h => by simp [Env.stores] at h; subst h; exact ⟨w, by simp [storeCells], hr, .refl M σ⟩
  | v :: l, _, i, σ, σ', w, hr, .cons (v' := v') (l' := l') hv t, h => by
    unfold Env.stores at h
    cases h1 : E.store σ ⟨a.block, a.off + i, none⟩ v with
    | none => rw [h1] at h; simp at h
    | some σ1 =>
      rw [h1] at h
      obtain ⟨u, c1, c2, c3, c4, c5⟩ := hr.store hb (A_add ha hs i) hv h1
      obtain ⟨w', d1, d2, d3⟩ := stores_sim hb ha hs l l' (i + 1) σ1 σ' _ c4 t (by rw [← Nat.add_assoc]; exact h)
      exact ⟨w', by simp [storeCells, run_store _ _ _ _ _ c3, c1, c2, d1], d2, c5.trans d3⟩

def Env.storeVar (E : Env) (σ : St) (t : TypeId) (a : Addr) (v : Value) : Option St :=
  match (E.P.info? t).map (·.size) with
  | some n => bif Nat.beq v.cells.toList.length n && !a.spot.isSome then E.stores σ a.block a.off v.cells.toList else none
  | none => none

theorem storeVar_sim {E : Env} {w0 w : World} {M : Mp} {σ σ' : St} (hb : M.base = E.base) (hr : Rel E.P w0 M σ w) {t : TypeId} {a b : Addr} (ha : M.A a b) {v v' : Value} (hv : V M v v') (h : E.storeVar σ t a v = some σ') :
    ∃ w', (storeVar t b v').run E.P w = .ok () w' ∧ Rel E.P w0 M σ' w' ∧ Stp M M σ σ' := by
  unfold Env.storeVar at h
  cases hn : (E.P.info? t).map (·.size) with
  | none => rw [hn] at h; simp at h
  | some n =>
    rw [hn] at h
    simp only [nbeq] at h
    by_cases hl : v.cells.toList.length = n
    · cases hs : a.spot with
      | some x => rw [hs] at h; simp at h
      | none =>
        rw [hs] at h
        simp only [hl, decide_true, Option.isSome_none, Bool.not_false, Bool.and_self, cond_true] at h
        obtain ⟨w', d1, d2, d3⟩ := stores_sim hb ha hs _ _ 0 σ σ' w hr hv.cells (by simpa using h)
        have hl' : v'.cells.size = n := by have := VL.length hv.cells; simp at this hl; omega
        exact ⟨w', by simp [storeVar, run_sizeOf hn, hl', d1], d2, d3⟩
    · have hl2 : ¬ v.cells.size = n := hl
      simp [hl2] at h
end Go.B
