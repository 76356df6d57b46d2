/-
  The operations on an abstract state: ranges over strings, and over maps of one entry; bytes as a string.
-/
import Derived.Test.YtjioijajmkdefaaGreatDoorB8
namespace Go.B
open Go

section
variable {E : Env} {w0 : World} {M : Mp} {σ : St} {w : World} {ρ ρ' : Operand → Value} {o : Oper}

theorem run_getO {P : Program} {r : Nat} {ob : Obj} (h : w.heap[r]? = some ob) (hc : ∀ c t f, ob ≠ .cells c t f) : (getObj r).run P w = .ok ob w := by
  cases ob <;> simp [getObj, Sem.run, h]
  exact absurd rfl (hc _ _ _)
theorem run_setO {P : Program} {r : Nat} {ob ob' : Obj} (h : w.heap[r]? = some ob) (hc : ∀ c t f, ob ≠ .cells c t f) : (setObj r ob').run P w = .ok () { w with heap := w.heap.setIfInBounds r ob' } := by
  cases ob <;> simp [setObj, Sem.run, h]
  exact absurd rfl (hc _ _ _)

/-- A block that is no row of cells is turned. -/
theorem Rel.turnO {P : Program} (hr : Rel P w0 M σ w) {r g d : Nat} (hal : M.al r) (hf : M.f r = some (g, d)) {ob ob' : Obj} {B : Blk} (he : w.heap[g]? = some ob)
    (hbr : BR P M { w with heap := w.heap.setIfInBounds g ob' } r g d B) : Rel P w0 M (σ.setb r (some B)) { w with heap := w.heap.setIfInBounds g ob' } ∧ Stp M M σ (σ.setb r (some B)) := by
  have hlt : g < w.heap.size := by
    rcases Nat.lt_or_ge g w.heap.size with h | h
    · exact h
    · rw [Array.getElem?_eq_none h] at he; cases he
  exact hr.turn hal hf rfl rfl rfl (by simp) (fun j hj => by simp [Array.getElem?_setIfInBounds, Ne.symm hj]) hbr
theorem set_at {g : Nat} {ob ob' : Obj} (he : w.heap[g]? = some ob) : ({ w with heap := w.heap.setIfInBounds g ob' } : World).heap[g]? = some ob' := by
  have hlt : g < w.heap.size := by
    rcases Nat.lt_or_ge g w.heap.size with h | h
    · exact h
    · rw [Array.getElem?_eq_none h] at he; cases he
  simp [Array.getElem?_setIfInBounds, hlt]

/-- range -/
def Env.opRange (E : Env) (ρ : Operand → Value) (σ : St) (t : TypeId) (x : Operand) : Option (Value × St) :=
    match E.P.underlying t, ρ x with
    | some .string, .string s => some (.pointer (some ⟨σ.nx, 0, none⟩), σ.new (.iter s 0))
    | some (.map _ _), .map (some r) => match E.mapOf σ r with
      | some (_, c) => some (.pointer (some ⟨σ.nx, 0, none⟩), σ.new (.miter r c #[] c))
      | none => none
    | _, _ => none
theorem opRange_sim (hb : M.base = E.base) (hr : Rel E.P w0 M σ w) (hρ : RR M ρ ρ') {t : TypeId} {x : Operand} (ho : o.op = .range t x) {v : Value} {σ' : St} (h : E.opRange ρ σ t x = some (v, σ')) : OSim E w0 M σ w (execOp ρ' o) v σ' := by
  unfold Env.opRange at h
  · skip
    have hxx := hρ x
    split at h
    · rename_i s hu hx
      simp only [Option.some.injEq, Prod.mk.injEq] at h
      obtain ⟨rfl, rfl⟩ := h
      have hx' : ρ' x = .string s := by rw [hx] at hxx; exact flat_eq hxx rfl
      obtain ⟨q1, q2⟩ := hr.new (sz := 0) (lim := 0) (B := .iter s 0) (o := .stringIter s 0) ⟨rfl, by show (w.heap.push _)[w.heap.size]? = _; simp⟩
      refine ⟨_, _, _, ?_, .ptr _ _ (new_A hr.nx), q1, q2⟩
      unfold execOp; rw [ho]
      exact did_v (by simp [Instr.range, run_und hu, hx'])
    · rename_i kt et r hu hx
      split at h <;> try (simp at h; done)
      rename_i l c hm
      simp only [Option.some.injEq, Prod.mk.injEq] at h
      obtain ⟨rfl, rfl⟩ := h
      rw [hx] at hxx
      generalize hx' : ρ' x = x' at hxx
      cases hxx with
      | map _ r' hA =>
      obtain ⟨hal, hf, es, e2, e3⟩ := mapOf_sim hb hr hA hm
      have hk : ¬ M.al σ.nx := fun h => Nat.lt_irrefl _ (hr.al _ h).2
      obtain ⟨q1, q2⟩ := hr.new (sz := 0) (lim := 0) (B := .miter r c #[] c) (o := .mapIter (some r') c #[] c) ⟨rfl, r', by show (w.heap.push _)[w.heap.size]? = _; simp, hA.mono (Mp.push_le hk)⟩
      refine ⟨_, _, _, ?_, .ptr _ _ (new_A hr.nx), q1, q2⟩
      unfold execOp; rw [ho]
      exact did_v (by simp [Instr.range, run_und hu, hx', run_getMap e2])
    · simp at h

/-- next -/
def Env.opNext (E : Env) (ρ : Operand → Value) (σ : St) (x : Operand) (str : Bool) : Option (Value × St) :=
  match addrOf (ρ x) with
  | some a => bif Nat.blt a.block E.base || !(Nat.beq a.off 0) then none else
    match σ.blk a.block, str with
    | some (.iter s pos), true => bif Nat.blt pos s.size then
        some (.tuple ⟨[.bool true, goInt pos, .int .i32 (Utf8.decode s pos).1]⟩, σ.setb a.block (some (.iter s (pos + (Utf8.decode s pos).2)))) else some (.tuple ⟨[.bool false]⟩, σ)
    | some (.miter r since seen last), false => match E.mapOf σ r with
      | some (l, c) =>
        bif !seen.isEmpty && !l.isEmpty && l.all (·.born ≥ last) then none else
        match l.filter (fun e => !seen.contains e.born) with
        | [] => some (.tuple ⟨[.bool false]⟩, σ)
        | [e] => bif Nat.blt e.born since then some (.tuple ⟨[.bool true, e.key, e.val]⟩, σ.setb a.block (some (.miter r since (seen.push e.born) c))) else none
        | _ => none
      | none => none
    | _, _ => none
  | none => none

theorem ML.filter {M : Mp} (p : Nat → Bool) : ∀ {l es : List MapEntry}, ML M l es → ML M (l.filter fun e => p e.born) (es.filter fun e => p e.born)
  | _, _, .nil => .nil
  | _, _, .cons (b := b) hk hv t => by
    cases hp : p b
    · simpa [List.filter_cons, hp] using ML.filter p t
    · simpa [List.filter_cons, hp] using ML.cons hk hv (ML.filter p t)
theorem ML.all {M : Mp} (p : Nat → Bool) : ∀ {l es : List MapEntry}, ML M l es → (es.all fun e => p e.born) = (l.all fun e => p e.born)
  | _, _, .nil => rfl
  | _, _, .cons hk hv t => by simp [ML.all p t]
theorem ML.empty {M : Mp} : ∀ {l es : List MapEntry}, ML M l es → es.isEmpty = l.isEmpty
  | _, _, .nil => rfl
  | _, _, .cons _ _ _ => rfl

theorem opNext_sim (hb : M.base = E.base) (hr : Rel E.P w0 M σ w) (hρ : RR M ρ ρ') {x : Operand} {str : Bool} (ho : o.op = .next x str) {v : Value} {σ' : St} (h : E.opNext ρ σ x str = some (v, σ')) : OSim E w0 M σ w (execOp ρ' o) v σ' := by
  unfold Env.opNext at h
  split at h <;> try (simp at h; done)
  rename_i a ha
  obtain ⟨hs, b, hb', hA⟩ := addr_rel ha (hρ x)
  rcases Bool.eq_false_or_eq_true (Nat.blt a.block E.base || !(Nat.beq a.off 0)) with hc | hc
  · rw [hc, cond_true] at h; cases h
  rw [hc, cond_false] at h
  rw [Bool.or_eq_false_iff, blt_iff, nbeq] at hc
  obtain ⟨hc1, hc2⟩ := hc
  have hc1 := of_decide_eq_false hc1
  have hoff : a.off = 0 := by
    rcases Nat.eq_zero_or_pos a.off with h0 | h0
    · exact h0
    · have : ¬ a.off = 0 := by omega
      simp [this] at hc2
  rcases hA with ⟨h1, _⟩ | ⟨_, hal, _, h4⟩
  · omega
  cases hf : M.f a.block with
  | none => rw [hr.dead _ hal hf] at h; simp at h
  | some p =>
  obtain ⟨g, d⟩ := p
  obtain ⟨_, B, hB, hbr⟩ := hr.live _ g d hal hf
  have hbe := h4 g d hf
  rw [hB] at h
  split at h
  · rename_i s pos e1
    simp only [Option.some.injEq] at e1
    subst e1
    obtain ⟨rfl, hit⟩ := hbr
    rw [hoff] at hbe
    subst hbe
    rw [blt_iff] at h
    by_cases hlt : pos < s.size
    · simp only [hlt, decide_true, cond_true, Option.some.injEq, Prod.mk.injEq] at h
      obtain ⟨rfl, rfl⟩ := h
      obtain ⟨q1, q2⟩ := hr.turnO hal hf (B := .iter s (pos + (Utf8.decode s pos).2)) (ob' := .stringIter s (pos + (Utf8.decode s pos).2)) hit ⟨rfl, set_at hit⟩
      refine ⟨M, _, _, ?_, V.of_flatter rfl, q1, q2⟩
      unfold execOp; rw [ho]
      refine did_v ?_
      rw [hb']
      simp [Instr.next, run_getO hit (by simp), run_setO hit (by simp), hlt]
    · simp only [hlt, decide_false, cond_false, Option.some.injEq, Prod.mk.injEq] at h
      obtain ⟨rfl, rfl⟩ := h
      refine .same hr ?_ (V.of_flatter rfl)
      unfold execOp; rw [ho]
      refine did_v ?_
      rw [hb']
      simp [Instr.next, run_getO hit (by simp), hlt]
  · rename_i r since seen last e1
    simp only [Option.some.injEq] at e1
    subst e1
    obtain ⟨rfl, r', hit, hAr⟩ := hbr
    rw [hoff] at hbe
    subst hbe
    split at h <;> try (simp at h; done)
    rename_i l c hm
    obtain ⟨hal2, hf2, es, e2, e3⟩ := mapOf_sim hb hr hAr hm
    rcases Bool.eq_false_or_eq_true (!seen.isEmpty && !l.isEmpty && l.all (·.born ≥ last)) with hg | hg
    · rw [hg, cond_true] at h; cases h
    rw [hg, cond_false] at h
    have hgc : (!seen.isEmpty && !es.isEmpty && es.all (·.born ≥ last)) = false := by
      have h1 := ML.all (fun b => decide (b ≥ last)) e3
      have h2 := ML.empty e3
      have h1' : es.all (·.born ≥ last) = l.all (·.born ≥ last) := by rw [← Array.all_toList]; exact h1
      have h2' : es.isEmpty = l.isEmpty := by rw [← Array.isEmpty_toList]; exact h2
      rw [h1', h2']; exact hg
    have hfl := ML.filter (fun b => !seen.contains b) e3
    split at h
    · rename_i hnil
      simp only [Option.some.injEq, Prod.mk.injEq] at h
      obtain ⟨rfl, rfl⟩ := h
      rw [hnil] at hfl
      have hleft : (es.filter fun e => !seen.contains e.born) = #[] := by
        apply Array.ext'
        rw [Array.toList_filter]
        generalize hq : es.toList.filter (fun e => !seen.contains e.born) = q at hfl
        cases hfl
        rfl
      refine .same hr ?_ (V.of_flatter rfl)
      unfold execOp; rw [ho]
      refine did_v ?_
      rw [hb']
      simp only [Instr.next, Sem.run_bind, run_getO hit (by simp), run_getO e2 (by simp), Result.andThen_ok, hgc, hleft]
      simp [Question.forced]
    · rename_i e hone
      rw [blt_iff] at h
      by_cases hbs : e.born < since
      · simp only [hbs, decide_true, cond_true, Option.some.injEq, Prod.mk.injEq] at h
        obtain ⟨rfl, rfl⟩ := h
        rw [hone] at hfl
        obtain ⟨v', hv', hleft⟩ : ∃ v', V M e.val v' ∧ (es.filter fun e => !seen.contains e.born) = #[{ key := e.key, val := v', born := e.born }] := by
          generalize hq : es.toList.filter (fun e => !seen.contains e.born) = q at hfl
          cases hfl with
          | cons hk hv t =>
            cases t
            refine ⟨_, hv, ?_⟩
            apply Array.ext'
            rw [Array.toList_filter, hq]
        have hkf : flat e.key = true := by
          generalize hq : es.toList.filter (fun e => !seen.contains e.born) = q at hfl
          cases hfl with
          | cons hk hv t => exact hk
        obtain ⟨q1, q2⟩ := hr.turnO hal hf (B := .miter r since (seen.push e.born) c) (ob' := .mapIter (some r') since (seen.push e.born) c) hit ⟨rfl, r', set_at hit, hAr⟩
        refine ⟨M, .tuple ⟨[.bool true, e.key, v']⟩, _, ?_, .tuple (.cons (.bool true) (.cons (V.of_flat hkf) (.cons hv' .nil))), q1, q2⟩
        unfold execOp; rw [ho]
        refine did_v ?_
        rw [hb']
        have hge : ¬ since ≤ e.born := by omega
        simp only [Instr.next, Sem.run_bind, run_getO hit (by simp), run_getO e2 (by simp), Result.andThen_ok, hgc, hleft]
        simp [Question.forced, hbs, hge, run_setO hit]
      · simp [hbs] at h
    · simp at h
  · simp at h

/-- entry -/
def Env.opEntry (E : Env) (ρ : Operand → Value) (σ : St) (x : Operand) : Option Value :=
  match addrOf (ρ x) with
  | some a => bif Nat.blt a.block E.base || !(Nat.beq a.off 0) then none else
    match σ.blk a.block with
    | some (.miter r _ seen last) => match E.mapOf σ r, seen.back? with
      | some (l, c), some stamp => bif Nat.beq c last then match l.find? (fun e => e.born == stamp) with
        | some e => some (.tuple ⟨[e.key, e.val]⟩)
        | none => none
        else none
      | _, _ => none
    | _ => none
  | none => none
theorem ML.find {M : Mp} (p : Nat → Bool) : ∀ {l es : List MapEntry} {e : MapEntry}, ML M l es → l.find? (fun e => p e.born) = some e → ∃ e', es.find? (fun e => p e.born) = some e' ∧ e'.key = e.key ∧ flat e.key = true ∧ V M e.val e'.val
  | _, _, _, .nil, h => by simp at h
  | _, _, e, .cons (k := k) (v := v) (v' := v') (b := b) hk hv t, h => by
    simp only [List.find?_cons] at h ⊢
    cases hp : p b with
    | true => rw [hp] at h; simp only [Option.some.injEq] at h; subst h; exact ⟨_, rfl, rfl, hk, hv⟩
    | false => rw [hp] at h; exact ML.find p t h
theorem opEntry_sim (hb : M.base = E.base) (hr : Rel E.P w0 M σ w) (hρ : RR M ρ ρ') {x : Operand} (ho : o.op = .entry x) {v : Value} (h : E.opEntry ρ σ x = some v) : OSim E w0 M σ w (execOp ρ' o) v σ := by
  unfold Env.opEntry at h
  split at h <;> try (simp at h; done)
  rename_i a ha
  obtain ⟨hs, b, hb', hA⟩ := addr_rel ha (hρ x)
  rcases Bool.eq_false_or_eq_true (Nat.blt a.block E.base || !(Nat.beq a.off 0)) with hc | hc
  · rw [hc, cond_true] at h; cases h
  rw [hc, cond_false] at h
  rw [Bool.or_eq_false_iff, blt_iff, nbeq] at hc
  obtain ⟨hc1, hc2⟩ := hc
  have hc1 := of_decide_eq_false hc1
  have hoff : a.off = 0 := by
    rcases Nat.eq_zero_or_pos a.off with h0 | h0
    · exact h0
    · have : ¬ a.off = 0 := by omega
      simp [this] at hc2
  rcases hA with ⟨h1, _⟩ | ⟨_, hal, _, h4⟩
  · omega
  cases hf : M.f a.block with
  | none => rw [hr.dead _ hal hf] at h; simp at h
  | some p =>
  obtain ⟨g, d⟩ := p
  obtain ⟨_, B, hB, hbr⟩ := hr.live _ g d hal hf
  have hbe := h4 g d hf
  rw [hB] at h
  split at h <;> try (simp at h; done)
  rename_i r since seen last e1
  simp only [Option.some.injEq] at e1
  subst e1
  obtain ⟨rfl, r', hit, hAr⟩ := hbr
  rw [hoff] at hbe
  subst hbe
  split at h <;> try (simp at h; done)
  rename_i l c stamp hm hst
  obtain ⟨hal2, hf2, es, e2, e3⟩ := mapOf_sim hb hr hAr hm
  rw [nbeq] at h
  by_cases hcl : c = last
  · simp only [hcl, decide_true, cond_true] at h
    split at h <;> try (simp at h; done)
    rename_i e he
    simp only [Option.some.injEq] at h
    subst h
    obtain ⟨e', g1, g2, g3, g4⟩ := ML.find (fun b => b == stamp) e3 he
    have g1' : es.find? (fun e => e.born == stamp) = some e' := by rw [← Array.find?_toList]; exact g1
    subst hcl
    refine .same hr ?_ (v' := .tuple ⟨[e'.key, e'.val]⟩) (.tuple (.cons (by rw [g2]; exact V.of_flat g3) (.cons g4 .nil)))
    unfold execOp; rw [ho]
    refine did_v ?_
    rw [hb']
    simp [Instr.entry, run_getO hit (by simp), run_getO e2 (by simp), hst, g1']
  · simp [hcl] at h

/-- bytes as a string -/
def bytesOf : List Value → Option (List Int)
  | [] => some []
  | .int .u8 n :: l => match bytesOf l with
    | some r => some (n :: r)
    | none => none
  | _ => none
theorem bytesOf_eq : ∀ {l : List Value} {ns : List Int}, bytesOf l = some ns → l = ns.map (Value.int .u8) ∧ flats l = true
  | [], ns, h => by simp [bytesOf] at h; subst h; exact ⟨rfl, rfl⟩
  | v :: l, ns, h => by
    unfold bytesOf at h
    split at h
    · simp at *
    · rename_i n l2 hvl
      simp only [List.cons.injEq] at hvl
      obtain ⟨rfl, rfl⟩ := hvl
      split at h
      · rename_i r hr
        simp only [Option.some.injEq] at h
        subst h
        obtain ⟨e1, e2⟩ := bytesOf_eq hr
        exact ⟨by rw [e1]; rfl, by simpa [flats, flat] using e2⟩
      · simp at h
    · simp at h
def strOf (ns : List Int) : ByteArray := ns.foldl (fun r n => r.push (UInt8.ofNat n.toNat)) ByteArray.empty
def Env.opString (E : Env) (ρ : Operand → Value) (σ : St) (s d : TypeId) (x : Operand) : Option Value :=
  match E.P.underlying s, E.P.underlying d, ρ x with
  | some (.slice e), some .string, .slice (some p) n _ => match E.P.underlying e with
    | some (.int .u8) => bif p.spot.isSome then none else match E.loads σ p.block p.off n with
      | some l => match bytesOf l with
        | some ns => some (.string (strOf ns))
        | none => none
      | none => none
    | _ => none
  | _, _, _ => none
theorem opString_sim (hE : E.ok w0) (hb : M.base = E.base) (hr : Rel E.P w0 M σ w) (hρ : RR M ρ ρ') {s d : TypeId} {x : Operand} (ho : o.op = .convert s d x) {v : Value} (h : E.opString ρ σ s d x = some v) : OSim E w0 M σ w (execOp ρ' o) v σ := by
  unfold Env.opString at h
  split at h <;> try (simp at h; done)
  rename_i e p n c hu hd hx
  split at h <;> try (simp at h; done)
  rename_i hue
  cases hsp : p.spot with
  | some z => rw [hsp] at h; simp at h
  | none =>
  rw [hsp] at h
  simp only [Option.isSome_none, cond_false] at h
  split at h <;> try (simp at h; done)
  rename_i l hl
  split at h <;> try (simp at h; done)
  rename_i ns hns
  simp only [Option.some.injEq] at h
  subst h
  have hxx := hρ x
  rw [hx] at hxx
  generalize hx' : ρ' x = x' at hxx
  cases hxx with
  | slice _ b _ _ c' hS =>
  have hload : (loadCells b n).run E.P w = .ok (ns.map (Value.int .u8)).toArray w := by
    obtain ⟨e1, e2⟩ := bytesOf_eq hns
    rcases hS.2.2 with ⟨hA, _⟩ | ⟨h0, _⟩
    · obtain ⟨l', g1, g2, g3⟩ := loads_sim hE hb hr hA hsp n 0 l (by simpa using hl)
      have := flats_eq g2 e2
      subst this
      have := run_loadCells_list (P := E.P) w b l' (fun j u hj => by simpa using g3 j u hj)
      rw [g1] at this
      rw [this, e1]
    · subst h0
      simp only [Env.loads, Option.some.injEq] at hl
      subst hl
      simp only [bytesOf, Option.some.injEq] at hns
      subst hns
      simp [loadCells, loadCellsFrom]
  refine .same hr ?_ (.string _)
  unfold execOp; rw [ho]
  refine did_v ?_
  have := run_bytesToString (P := E.P) w b n c' ns hload
  simp [convert, run_und hu, run_und hd, hx', run_und hue, this, strOf]
end
end Go.B
