/-
  The operations on an abstract state: copy, maps, ranges over strings and maps of one entry, bytes as a string.
-/
import Derived.Test.YtjioijajmkdefaaGreatDoorB7
import Derived.Laws.BytesString
namespace Go.B
open Go

section
variable {E : Env} {w0 : World} {M : Mp} {σ : St} {w : World} {ρ ρ' : Operand → Value} {o : Oper}

/-- copy from a slice to a slice -/
def Env.opCopy (E : Env) (ρ : Operand → Value) (σ : St) (x y : Operand) (t : TypeId) : Option (Value × St) :=
  match E.P.underlying t with
  | some (.slice e) => match (E.P.info? e).map (·.size) with
    | some s => match ρ x, ρ y with
      | .slice (some a) n _, .slice (some p) m _ => bif a.spot.isSome || p.spot.isSome then none else
        match E.loads σ p.block p.off (Nat.min m n * s) with
        | some l => match E.stores σ a.block a.off l with
          | some σ' => some (goInt (Nat.min m n), σ')
          | none => none
        | none => none
      | .slice (some _) _ _, .slice none 0 0 => some (goInt 0, σ)
      | .slice none 0 0, .slice (some _) _ _ => some (goInt 0, σ)
      | _, _ => none
    | none => none
  | _ => none
theorem did_copy {P : Program} {x y : Operand} {t ty : TypeId} (ho : o.op = .call { callee := .builtin .copy, args := #[x, y], argTypes := #[t, ty] }) {v : Value} {w' : World}
    (h : (Builtin.copy_ #[t, ty] o.type #[ρ' x, ρ' y]).run P w = .ok v w') : Did ((execOp ρ' o).run P w) v w' := by
  unfold execOp; rw [ho]
  exact .inl (by simp [resolve, invoke, builtin, h])
theorem opCopy_sim (hE : E.ok w0) (hb : M.base = E.base) (hr : Rel E.P w0 M σ w) (hρ : RR M ρ ρ') {x y : Operand} {t ty : TypeId} (ho : o.op = .call { callee := .builtin .copy, args := #[x, y], argTypes := #[t, ty] })
    {v : Value} {σ' : St} (h : E.opCopy ρ σ x y t = some (v, σ')) : OSim E w0 M σ w (execOp ρ' o) v σ' := by
  unfold Env.opCopy at h
  split at h <;> try (simp at h; done)
  rename_i e hu
  split at h <;> try (simp at h; done)
  rename_i s hs
  have hx := hρ x
  have hy := hρ y
  split at h
  · rename_i a n c p m c2 e1 e2
    rw [e1] at hx
    rw [e2] at hy
    generalize hx' : ρ' x = x' at hx
    generalize hy' : ρ' y = y' at hy
    cases hx with
    | slice _ b _ _ c' hS =>
    cases hy with
    | slice _ q _ _ c2' hS2 =>
    rcases Bool.eq_false_or_eq_true (a.spot.isSome || p.spot.isSome) with hsp | hsp
    · rw [hsp, cond_true] at h; cases h
    rw [hsp, cond_false] at h
    rw [Bool.or_eq_false_iff] at hsp
    have hs1 : a.spot = none := by cases hz : a.spot with | none => rfl | some z => rw [hz] at hsp; simp at hsp
    have hs2 : p.spot = none := by cases hz : p.spot with | none => rfl | some z => rw [hz] at hsp; simp at hsp
    split at h <;> try (simp at h; done)
    rename_i l hl
    split at h <;> try (simp at h; done)
    rename_i σ2 hst
    simp only [Option.some.injEq, Prod.mk.injEq] at h
    obtain ⟨rfl, rfl⟩ := h
    rcases Nat.eq_zero_or_pos (Nat.min m n) with h0 | h0
    · rw [h0, Nat.zero_mul] at hl
      simp only [Env.loads, Option.some.injEq] at hl
      subst hl
      simp only [Env.stores, Option.some.injEq] at hst
      subst hst
      have h0' : min m n = 0 := h0
      exact .same hr (did_copy ho (by simp [hx', hy', Builtin.copy_, run_und hu, Builtin.lenOf, Builtin.firstCells, run_sizeOf hs, h0', storeCells, loadCells, loadCellsFrom])) (V.of_flatter rfl)
    · have hmn : 0 < m ∧ 0 < n := by
        have : min m n = Nat.min m n := rfl
        omega
      rcases hS.2.2.symm with ⟨z0, _⟩ | ⟨hA, _⟩
      · omega
      rcases hS2.2.2.symm with ⟨z0, _⟩ | ⟨hA2, _⟩
      · omega
      obtain ⟨l', g1, g2, g3⟩ := loads_sim hE hb hr hA2 hs2 (Nat.min m n * s) 0 l (by simpa using hl)
      obtain ⟨w', q1, q2, q3⟩ := stores_sim hb hA hs1 l l' 0 σ σ2 w hr g2 (by simpa using hst)
      have hld := run_loadCells_list (P := E.P) w q l' (fun j u hj => by simpa using g3 j u hj)
      rw [g1] at hld
      have hld' : (loadCells q (min m n * s)).run E.P w = .ok l'.toArray w := hld
      refine ⟨M, _, w', did_copy ho (by simp [hx', hy', Builtin.copy_, run_und hu, Builtin.lenOf, Builtin.firstCells, run_sizeOf hs, hld', q1]), V.of_flatter rfl, q2, q3⟩
  · rename_i a n c e1 e2
    simp only [Option.some.injEq, Prod.mk.injEq] at h
    obtain ⟨rfl, rfl⟩ := h
    rw [e1] at hx
    rw [e2] at hy
    generalize hx' : ρ' x = x' at hx
    generalize hy' : ρ' y = y' at hy
    cases hx with
    | slice _ b _ _ c' hS =>
    cases hy
    exact .same hr (did_copy ho (by simp [hx', hy', Builtin.copy_, run_und hu, Builtin.lenOf, Builtin.firstCells, run_sizeOf hs, storeCells])) (V.of_flatter rfl)
  · rename_i p m c e1 e2
    simp only [Option.some.injEq, Prod.mk.injEq] at h
    obtain ⟨rfl, rfl⟩ := h
    rw [e1] at hx
    rw [e2] at hy
    generalize hx' : ρ' x = x' at hx
    generalize hy' : ρ' y = y' at hy
    cases hy with
    | slice _ b _ _ c' hS =>
    cases hx
    exact .same hr (did_copy ho (by simp [hx', hy', Builtin.copy_, run_und hu, Builtin.lenOf, Builtin.firstCells, run_sizeOf hs, storeCells, loadCells, loadCellsFrom])) (V.of_flatter rfl)
  · simp at h

/-- A map that is there. -/
def Env.mapOf (E : Env) (σ : St) (r : Nat) : Option (List MapEntry × Nat) :=
  bif Nat.blt r E.base then none else match σ.blk r with
  | some (.map l c) => some (l, c)
  | _ => none
theorem mapOf_sim (hb : M.base = E.base) (hr : Rel E.P w0 M σ w) {r r' : Nat} (hA : M.A ⟨r, 0, none⟩ ⟨r', 0, none⟩) {l : List MapEntry} {c : Nat} (h : E.mapOf σ r = some (l, c)) :
    M.al r ∧ M.f r = some (r', 0) ∧ ∃ es, w.heap[r']? = some (.map es c) ∧ ML M l es.toList := by
  unfold Env.mapOf at h
  rw [blt_iff] at h
  by_cases hlt : r < E.base
  · simp [hlt] at h
  simp only [hlt, decide_false, cond_false] at h
  rcases hA with ⟨h1, _⟩ | ⟨_, h2, _, h4⟩
  · simp only at h1; omega
  simp only at h2 h4
  cases hf : M.f r with
  | none => rw [hr.dead _ h2 hf] at h; simp at h
  | some p =>
    obtain ⟨g, d⟩ := p
    obtain ⟨_, B, hB, hbr⟩ := hr.live _ g d h2 hf
    rw [hB] at h
    cases B with
    | map l0 c0 =>
      simp only [Option.some.injEq, Prod.mk.injEq] at h
      obtain ⟨rfl, rfl⟩ := h
      obtain ⟨rfl, es, e1, e2⟩ := hbr
      have := h4 g 0 hf
      simp only [Addr.mk.injEq, Nat.zero_add] at this
      obtain ⟨rfl, _⟩ := this
      exact ⟨h2, rfl, es, e1, e2⟩
    | _ => simp at h
theorem run_getMap {P : Program} {r : Nat} {es : Array MapEntry} {c : Nat} (h : w.heap[r]? = some (.map es c)) : (getObj r).run P w = .ok (.map es c) w := by simp [getObj, Sem.run, h]
theorem run_setMap {P : Program} {r : Nat} {es es' : Array MapEntry} {c c' : Nat} (h : w.heap[r]? = some (.map es c)) : (setObj r (.map es' c')).run P w = .ok () { w with heap := w.heap.setIfInBounds r (.map es' c') } := by simp [setObj, Sem.run, h]

theorem ML.length {M : Mp} : ∀ {l es : List MapEntry}, ML M l es → es.length = l.length
  | _, _, .nil => rfl
  | _, _, .cons _ _ t => by simp [ML.length t]
theorem findNow_rel {M : Mp} (kd : TypeDesc) (k : Value) : ∀ {l es : List MapEntry} (i : Nat), ML M l es →
    (Instr.findNow kd k l i = some none → Instr.findNow kd k es i = some none) ∧ ∀ j v, Instr.findNow kd k l i = some (some (j, v)) → ∃ v', Instr.findNow kd k es i = some (some (j, v')) ∧ V M v v'
  | _, _, i, .nil => ⟨fun _ => rfl, fun j v h => by simp [Instr.findNow] at h⟩
  | _, _, i, .cons (k := k0) (v := v0) (v' := v0') hk hv t => by
    obtain ⟨h1, h2⟩ := findNow_rel kd k (i + 1) t
    simp only [Instr.findNow]
    cases hs : Instr.sameNow kd k k0 with
    | none => simp
    | some b => cases b with
      | true => simp only; exact ⟨fun h => by simp at h, fun j v h => by simp at h; obtain ⟨rfl, rfl⟩ := h; exact ⟨_, rfl, hv⟩⟩
      | false => simp only; exact ⟨h1, h2⟩

def keyOK (d : TypeDesc) (k : Value) : Bool :=
  match d, k with
  | .int _, .int .. | .string, .string _ => true
  | _, _ => false
theorem run_checkKey {b : Bool} {kt : TypeId} {d : TypeDesc} (hu : E.P.underlying kt = some d) {k : Value} (hk : keyOK d k = true) (n : Nat) (w : World) : (Instr.checkKey b (n + 1) kt k).run E.P w = .ok () w := by
  cases d <;> cases k <;> simp [keyOK] at hk <;> simp [Instr.checkKey, run_und hu]
theorem keyOK_flat {d : TypeDesc} {k : Value} (h : keyOK d k = true) : flat k = true := by
  cases d <;> cases k <;> simp [keyOK] at h <;> rfl
theorem run_findKey {kt : TypeId} {d : TypeDesc} (hu : E.P.underlying kt = some d) {k : Value} {es : List MapEntry} {r : Option (Nat × Value)} (h : Instr.findNow d k es 0 = some r) (w : World) : (Instr.findKey kt k es).run E.P w = .ok r w := by
  simp [Instr.findKey, run_und hu, h]

def Env.opLookup (E : Env) (ρ : Operand → Value) (σ : St) (t : TypeId) (x i : Operand) (ok : Bool) : Option Value :=
  match E.P.underlying t with
  | some (.map kt et) => match E.P.underlying kt, (E.P.info? et).bind (·.zero) with
    | some d, some z => bif keyOK d (ρ i) && flatter z then
      match (match ρ x with | .map none => some [] | .map (some r) => (E.mapOf σ r).map (·.1) | _ => none) with
      | some l => match Instr.findNow d (ρ i) l 0 with
        | some (some (_, v)) => some (bif ok then .tuple ⟨[v, .bool true]⟩ else v)
        | some none => some (bif ok then .tuple ⟨[z, .bool false]⟩ else z)
        | none => none
      | none => none
      else none
    | _, _ => none
  | _ => none
theorem opLookup_sim (hb : M.base = E.base) (hr : Rel E.P w0 M σ w) (hρ : RR M ρ ρ') {t : TypeId} {x i : Operand} {ok : Bool} (ho : o.op = .lookup t x i ok) {v : Value} (h : E.opLookup ρ σ t x i ok = some v) : OSim E w0 M σ w (execOp ρ' o) v σ := by
  unfold Env.opLookup at h
  split at h <;> try (simp at h; done)
  rename_i kt et hu
  split at h <;> try (simp at h; done)
  rename_i d z hd hz
  rcases Bool.eq_false_or_eq_true (keyOK d (ρ i) && flatter z) with hc | hc
  · rw [hc, cond_true] at h
    obtain ⟨hc1, hc2⟩ := (Bool.and_eq_true _ _).mp hc
    have hk : ρ' i = ρ i := flat_eq (hρ i) (keyOK_flat hc1)
    split at h <;> try (simp at h; done)
    rename_i l hl
    -- the entries in the world
    have hes : ∃ es : Array MapEntry, ML M l es.toList ∧ ((ρ' x = .map none ∧ es = #[]) ∨ ∃ r' c, ρ' x = .map (some r') ∧ w.heap[r']? = some (.map es c)) := by
      have hx := hρ x
      split at hl
      · rename_i e1
        simp only [Option.some.injEq] at hl
        subst hl
        rw [e1] at hx
        generalize hx' : ρ' x = x' at hx
        cases hx
        exact ⟨#[], .nil, .inl ⟨rfl, rfl⟩⟩
      · rename_i r e1
        rw [e1] at hx
        generalize hx' : ρ' x = x' at hx
        cases hx with
        | map _ r' hA =>
        cases hm : E.mapOf σ r with
        | none => rw [hm] at hl; simp at hl
        | some q =>
          obtain ⟨l0, c⟩ := q
          rw [hm] at hl
          simp only [Option.map_some, Option.some.injEq] at hl
          subst hl
          obtain ⟨_, _, es, e2, e3⟩ := mapOf_sim hb hr hA hm
          exact ⟨es, e3, .inr ⟨r', c, rfl, e2⟩⟩
      · simp at hl
    obtain ⟨es, hml, hrun⟩ := hes
    have hck : ∀ b, (Instr.checkKey b 10000 kt (ρ' i)).run E.P w = .ok () w := fun b => by rw [hk]; exact run_checkKey hd hc1 9999 w
    have hzr : (zeroValue et).run E.P w = .ok z w := by
      cases hi : E.P.info? et with
      | none => rw [hi] at hz; simp at hz
      | some inf => rw [hi] at hz; simp only [Option.bind_some] at hz; simp [zeroValue, typeInfo, hi, hz]
    obtain ⟨f1, f2⟩ := findNow_rel d (ρ i) 0 hml
    split at h
    · rename_i j u hf
      simp only [Option.some.injEq] at h
      subst h
      obtain ⟨u', g1, g2⟩ := f2 j u hf
      have hfk := run_findKey (kt := kt) hd g1 w
      rw [← hk] at hfk
      refine .same hr ?_ (v' := bif ok then .tuple ⟨[u', .bool true]⟩ else u') ?_
      · unfold execOp; rw [ho]
        refine did_v ?_
        rcases hrun with ⟨hx, rfl⟩ | ⟨r', c, hx, he⟩
        · cases ok <;> simp [Instr.lookup, run_und hu, hx, hck, hfk]
        · cases ok <;> simp [Instr.lookup, run_und hu, hx, run_getMap he, hck, hfk]
      · cases ok
        · exact g2
        · exact .tuple (.cons g2 (.cons (.bool true) .nil))
    · rename_i hf
      simp only [Option.some.injEq] at h
      subst h
      have hfk := run_findKey (kt := kt) hd (f1 hf) w
      rw [← hk] at hfk
      refine .same hr ?_ (v' := bif ok then .tuple ⟨[z, .bool false]⟩ else z) ?_
      · unfold execOp; rw [ho]
        refine did_v ?_
        rcases hrun with ⟨hx, rfl⟩ | ⟨r', c, hx, he⟩
        · cases ok <;> simp [Instr.lookup, run_und hu, hx, hck, hfk, hzr]
        · cases ok <;> simp [Instr.lookup, run_und hu, hx, run_getMap he, hck, hfk, hzr]
      · cases ok
        · exact V.of_flatter hc2
        · exact .tuple (.cons (V.of_flatter hc2) (.cons (.bool false) .nil))
    · simp at h
  · rw [hc, cond_false] at h; cases h

/-- A map is turned. -/
theorem Rel.turnMap (hr : Rel E.P w0 M σ w) {r r' : Nat} (hal : M.al r) (hf : M.f r = some (r', 0)) {es es' : Array MapEntry} {l' : List MapEntry} {c c' : Nat} (he : w.heap[r']? = some (.map es c)) (hl : ML M l' es'.toList) :
    Rel E.P w0 M (σ.setb r (some (.map l' c'))) { w with heap := w.heap.setIfInBounds r' (.map es' c') } ∧ Stp M M σ (σ.setb r (some (.map l' c'))) := by
  have hlt : r' < w.heap.size := by
    rcases Nat.lt_or_ge r' w.heap.size with h | h
    · exact h
    · rw [Array.getElem?_eq_none h] at he; cases he
  refine hr.turn hal hf rfl rfl rfl (by simp) (fun j hj => by simp [Array.getElem?_setIfInBounds, Ne.symm hj]) ?_
  exact ⟨rfl, es', by simp [Array.getElem?_setIfInBounds, hlt], hl⟩

theorem ML.append {M : Mp} : ∀ {l es k ks : List MapEntry}, ML M l es → ML M k ks → ML M (l ++ k) (es ++ ks)
  | _, _, _, _, .nil, h => h
  | _, _, _, _, .cons hk hv t, h => .cons hk hv (ML.append t h)
theorem ML.modify {M : Mp} {v v' : Value} (hv : V M v v') : ∀ {l es : List MapEntry} (j : Nat) (k : Value), flat k = true → ML M l es →
    ML M (l.modify j fun e => { e with key := k, val := v }) (es.modify j fun e => { e with key := k, val := v' })
  | _, _, 0, _, _, .nil => by simpa using ML.nil
  | _, _, _ + 1, _, _, .nil => by simpa using ML.nil
  | _, _, 0, k, hk, .cons _ _ t => by simpa using ML.cons hk hv t
  | _, _, j + 1, k, hk, .cons hk0 hv0 t => by simpa using ML.cons hk0 hv0 (ML.modify hv j k hk t)
theorem ML.erase {M : Mp} : ∀ {l es : List MapEntry} (j : Nat), ML M l es → ML M (l.eraseIdx j) (es.eraseIdx j)
  | _, _, 0, .nil => .nil
  | _, _, _ + 1, .nil => .nil
  | _, _, 0, .cons _ _ t => by simpa using t
  | _, _, j + 1, .cons hk hv t => by simpa using ML.cons hk hv (ML.erase j t)

theorem findNow_at (kd : TypeDesc) (k : Value) : ∀ (es : List MapEntry) (i j : Nat) (v : Value), Instr.findNow kd k es i = some (some (j, v)) → i ≤ j ∧ ∃ e, es[j - i]? = some e ∧ Instr.sameNow kd k e.key = some true
  | [], _, _, _, h => by simp [Instr.findNow] at h
  | e :: es, i, j, v, h => by
    simp only [Instr.findNow] at h
    cases hs : Instr.sameNow kd k e.key with
    | none => rw [hs] at h; simp at h
    | some b => cases b with
      | true => rw [hs] at h; simp at h; obtain ⟨rfl, rfl⟩ := h; exact ⟨Nat.le_refl _, e, by simp, hs⟩
      | false =>
        rw [hs] at h
        obtain ⟨h1, e', h2, h3⟩ := findNow_at kd k es (i + 1) j v h
        refine ⟨by omega, e', ?_, h3⟩
        have : j - i = j - (i + 1) + 1 := by omega
        rw [this]; simpa using h2
theorem sameNow_bits {kd : TypeDesc} {k k' : Value} (h : Instr.sameNow kd k k' = some true) (n : Nat) : Instr.sameBits n k' k = true := by
  unfold Instr.sameNow at h
  split at h
  · split at h
    · rename_i hk; subst hk; simp at h; subst h; unfold Instr.sameBits; simp
    · simp at h
  · rename_i a b
    simp only [Option.some.injEq] at h
    have e : a = b := by
      obtain ⟨a⟩ := a
      obtain ⟨b⟩ := b
      have h' : (a == b) = true := h
      rw [eq_of_beq h']
    subst e
    unfold Instr.sameBits; exact h
  · simp at h; subst h; unfold Instr.sameBits; simp
  · simp at h

def Env.opUpdate (E : Env) (ρ : Operand → Value) (σ : St) (t : TypeId) (x i y : Operand) : Option (Value × St) :=
  match E.P.underlying t with
  | some (.map kt _) => match E.P.underlying kt, ρ x with
    | some d, .map (some r) => bif keyOK d (ρ i) then
      match E.mapOf σ r with
      | some (l, c) => match Instr.findNow d (ρ i) l 0 with
        | some (some (j, _)) => some (undef, σ.setb r (some (.map (l.modify j fun e => { e with key := ρ i, val := ρ y }) c)))
        | some none => some (undef, σ.setb r (some (.map (l ++ [{ key := ρ i, val := ρ y, born := c }]) (c + 1))))
        | none => none
      | none => none
      else none
    | _, _ => none
  | _ => none
theorem opUpdate_sim (hb : M.base = E.base) (hr : Rel E.P w0 M σ w) (hρ : RR M ρ ρ') {t : TypeId} {x i y : Operand} (ho : o.op = .mapUpdate t x i y ∨ o.op = .insert t x i y) {v : Value} {σ' : St} (h : E.opUpdate ρ σ t x i y = some (v, σ')) :
    OSim E w0 M σ w (execOp ρ' o) v σ' := by
  unfold Env.opUpdate at h
  split at h <;> try (simp at h; done)
  rename_i kt et hu
  split at h <;> try (simp at h; done)
  rename_i d r hd hx
  rcases Bool.eq_false_or_eq_true (keyOK d (ρ i)) with hc1 | hc1
  · rw [hc1, cond_true] at h
    have hk : ρ' i = ρ i := flat_eq (hρ i) (keyOK_flat hc1)
    split at h <;> try (simp at h; done)
    rename_i l c hm
    have hxx := hρ x
    rw [hx] at hxx
    generalize hx' : ρ' x = x' at hxx
    cases hxx with
    | map _ r' hA =>
    obtain ⟨hal, hf, es, e2, e3⟩ := mapOf_sim hb hr hA hm
    have hck : ∀ b, (Instr.checkKey b 10000 kt (ρ' i)).run E.P w = .ok () w := fun b => by rw [hk]; exact run_checkKey hd hc1 9999 w
    obtain ⟨f1, f2⟩ := findNow_rel d (ρ i) 0 e3
    have hgo : ∀ w', (Instr.mapUpdate t (ρ' x) (ρ' i) (ρ' y)).run E.P w = .ok () w' → Did ((execOp ρ' o).run E.P w) undef w' := fun w' hw' => by
      unfold execOp
      rcases ho with ho | ho <;> rw [ho] <;> exact did_u hw'
    split at h
    · rename_i j u hfn
      simp only [Option.some.injEq, Prod.mk.injEq] at h
      obtain ⟨rfl, rfl⟩ := h
      obtain ⟨u', g1, g2⟩ := f2 j u hfn
      obtain ⟨_, e', g3, g4⟩ := findNow_at d (ρ i) _ _ _ _ g1
      have hfk := run_findKey (kt := kt) hd g1 w
      rw [← hk] at hfk
      have g3' : es[j]? = some e' := by simpa using g3
      have hsb : Instr.sameBits 10000 (((es[j]?).map (·.key)).getD (ρ' i)) (ρ' i) = true := by
        rw [g3', hk]; exact sameNow_bits g4 10000
      have hks : (Instr.keyThatStays (((es[j]?).map (·.key)).getD (ρ' i)) (ρ' i)).run E.P w = .ok (ρ' i) w := by
        unfold Instr.keyThatStays; rw [if_pos hsb]; simp
      obtain ⟨q1, q2⟩ := hr.turnMap (E := E) hal hf (es' := es.modify j fun e => { e with key := ρ i, val := ρ' y }) (l' := l.modify j fun e => { e with key := ρ i, val := ρ y }) (c' := c) e2 (by
        rw [Array.toList_modify]; exact ML.modify (hρ y) j _ (keyOK_flat hc1) e3)
      refine ⟨M, undef, _, hgo _ ?_, V.of_flatter rfl, q1, q2⟩
      simp only [Instr.mapUpdate, Sem.run_bind, run_und hu, Result.andThen_ok, hx', run_getMap e2, hck, hfk, hks, run_setMap e2]
      simp [hk]
    · rename_i hfn
      simp only [Option.some.injEq, Prod.mk.injEq] at h
      obtain ⟨rfl, rfl⟩ := h
      have hfk := run_findKey (kt := kt) hd (f1 hfn) w
      rw [← hk] at hfk
      obtain ⟨q1, q2⟩ := hr.turnMap (E := E) hal hf (es' := es.push { key := ρ i, val := ρ' y, born := c }) (l' := l ++ [{ key := ρ i, val := ρ y, born := c }]) (c' := c + 1) e2 (by
        rw [Array.toList_push]; exact e3.append (.cons (keyOK_flat hc1) (hρ y) .nil))
      refine ⟨M, undef, _, hgo _ ?_, V.of_flatter rfl, q1, q2⟩
      simp only [Instr.mapUpdate, Sem.run_bind, run_und hu, Result.andThen_ok, hx', run_getMap e2, hck, hfk, run_setMap e2]
      simp [hk]
    · simp at h
  · rw [hc1, cond_false] at h; cases h

/-- delete -/
def Env.opDelete (E : Env) (ρ : Operand → Value) (σ : St) (t : TypeId) (x i : Operand) : Option (Value × St) :=
  match E.P.underlying t with
  | some (.map kt _) => match E.P.underlying kt, ρ x with
    | some d, .map (some r) => bif keyOK d (ρ i) then
      match E.mapOf σ r with
      | some (l, c) => match Instr.findNow d (ρ i) l 0 with
        | some (some (j, _)) => bif Nat.blt j l.length then some (undef, σ.setb r (some (.map (l.eraseIdx j) c))) else none
        | some none => some (undef, σ.setb r (some (.map l c)))
        | none => none
      | none => none
      else none
    | _, _ => none
  | _ => none
theorem opDelete_sim (hb : M.base = E.base) (hr : Rel E.P w0 M σ w) (hρ : RR M ρ ρ') {t ty : TypeId} {x i : Operand} (ho : o.op = .call { callee := .builtin .delete, args := #[x, i], argTypes := #[t, ty] }) {v : Value} {σ' : St} (h : E.opDelete ρ σ t x i = some (v, σ')) :
    OSim E w0 M σ w (execOp ρ' o) v σ' := by
  unfold Env.opDelete at h
  split at h <;> try (simp at h; done)
  rename_i kt et hu
  split at h <;> try (simp at h; done)
  rename_i d r hd hx
  rcases Bool.eq_false_or_eq_true (keyOK d (ρ i)) with hc1 | hc1
  · rw [hc1, cond_true] at h
    have hk : ρ' i = ρ i := flat_eq (hρ i) (keyOK_flat hc1)
    split at h <;> try (simp at h; done)
    rename_i l c hm
    have hxx := hρ x
    rw [hx] at hxx
    generalize hx' : ρ' x = x' at hxx
    cases hxx with
    | map _ r' hA =>
    obtain ⟨hal, hf, es, e2, e3⟩ := mapOf_sim hb hr hA hm
    have hck : ∀ b, (Instr.checkKey b 10000 kt (ρ' i)).run E.P w = .ok () w := fun b => by rw [hk]; exact run_checkKey hd hc1 9999 w
    obtain ⟨f1, f2⟩ := findNow_rel d (ρ i) 0 e3
    have hgo : ∀ w', (Builtin.delete_ #[t, ty] o.type #[ρ' x, ρ' i]).run E.P w = .ok undef w' → Did ((execOp ρ' o).run E.P w) undef w' := fun w' hw' => by
      unfold execOp; rw [ho]
      exact .inl (by simp [resolve, invoke, builtin, hw'])
    split at h
    · rename_i j u hfn
      rw [blt_iff] at h
      by_cases hjl : j < l.length
      · simp only [hjl, decide_true, cond_true, Option.some.injEq, Prod.mk.injEq] at h
        obtain ⟨rfl, rfl⟩ := h
        obtain ⟨u', g1, g2⟩ := f2 j u hfn
        have hfk := run_findKey (kt := kt) hd g1 w
        rw [← hk] at hfk
        have hsz : j < es.size := by have := e3.length; simp at this; omega
        obtain ⟨q1, q2⟩ := hr.turnMap (E := E) hal hf (es' := es.eraseIdxIfInBounds j) (l' := l.eraseIdx j) (c' := c) e2 (by
          rw [Array.toList_eraseIdxIfInBounds]; exact ML.erase j e3)
        refine ⟨M, undef, _, hgo _ ?_, V.of_flatter rfl, q1, q2⟩
        simp [Builtin.delete_, run_und hu, hx', run_getMap e2, hck, hfk, run_setMap e2, undef]
      · simp [hjl] at h
    · rename_i hfn
      simp only [Option.some.injEq, Prod.mk.injEq] at h
      obtain ⟨rfl, rfl⟩ := h
      have hfk := run_findKey (kt := kt) hd (f1 hfn) w
      rw [← hk] at hfk
      obtain ⟨q1, q2⟩ := hr.turnMap (E := E) hal hf (es' := es) (l' := l) (c' := c) e2 e3
      refine ⟨M, undef, _, hgo _ ?_, V.of_flatter rfl, q1, q2⟩
      simp [Builtin.delete_, run_und hu, hx', run_getMap e2, hck, hfk, run_setMap e2, undef]
    · simp at h
  · rw [hc1, cond_false] at h; cases h

/-- len of a map -/
def Env.opLenMap (E : Env) (ρ : Operand → Value) (σ : St) (x : Operand) (t : TypeId) : Option Value :=
  match E.P.underlying t, ρ x with
  | some (.map _ _), .map (some r) => match E.mapOf σ r with
    | some (l, _) => some (goInt l.length)
    | none => none
  | _, _ => none
theorem opLenMap_sim (hb : M.base = E.base) (hr : Rel E.P w0 M σ w) (hρ : RR M ρ ρ') {x : Operand} {t : TypeId} (ho : o.op = .call { callee := .builtin .len, args := #[x], argTypes := #[t] }) {v : Value} (h : E.opLenMap ρ σ x t = some v) : OSim E w0 M σ w (execOp ρ' o) v σ := by
  unfold Env.opLenMap at h
  split at h
  · rename_i kt et r hu hx
    split at h <;> try (simp at h; done)
    rename_i l c hm
    simp only [Option.some.injEq] at h
    subst h
    have hxx := hρ x
    rw [hx] at hxx
    generalize hx' : ρ' x = x' at hxx
    cases hxx with
    | map _ r' hA =>
    obtain ⟨hal, hf, es, e2, e3⟩ := mapOf_sim hb hr hA hm
    have hlen : es.size = l.length := by simpa using e3.length
    refine .same hr ?_ (.int _ _)
    unfold execOp; rw [ho]
    exact .inl (by simp [resolve, invoke, builtin, Builtin.len_, run_und hu, hx', run_getMap e2, goInt, hlen])
  · simp at h

/-- make(map) -/
def Env.opMakeMap (σ : St) : Option (Value × St) := some (.map (some σ.nx), σ.new (.map [] 0))
theorem new_A {M : Mp} {i g sz lim : Nat} (hb : M.base ≤ i) : (M.push i g 0 sz lim).A ⟨i, 0, none⟩ ⟨g, 0, none⟩ :=
  .inr ⟨hb, .inr rfl, rfl, fun g' d e => by simp [Mp.push] at e; obtain ⟨rfl, rfl⟩ := e; rfl⟩
theorem opMakeMap_sim (hr : Rel E.P w0 M σ w) {t : TypeId} (ho : o.op = .makeMap t none) {v : Value} {σ' : St} (h : Env.opMakeMap σ = some (v, σ')) : OSim E w0 M σ w (execOp ρ' o) v σ' := by
  unfold Env.opMakeMap at h
  · simp only [Option.some.injEq, Prod.mk.injEq] at h
    obtain ⟨rfl, rfl⟩ := h
    obtain ⟨q1, q2⟩ := hr.new (sz := 0) (lim := 0) (B := .map [] 0) (o := .map #[] 0) ⟨rfl, #[], by show (w.heap.push _)[w.heap.size]? = _; simp, .nil⟩
    refine ⟨_, _, _, ?_, .map _ _ (new_A hr.nx), q1, q2⟩
    unfold execOp; rw [ho]
    exact did_v (by simp [Instr.makeMap])
end
end Go.B
