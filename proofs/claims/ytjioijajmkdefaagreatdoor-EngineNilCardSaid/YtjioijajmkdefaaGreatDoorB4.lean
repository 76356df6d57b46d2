/-
  The operations on an abstract state: addresses, slices, comparisons with nil, parts of structs and tuples.
-/
import Derived.Test.YtjioijajmkdefaaGreatDoorB3
namespace Go.B
open Go

section
variable {E : Env} {w0 : World} {M : Mp} {σ : St} {w : World} {ρ ρ' : Operand → Value} {o : Oper}

theorem did_v {P : Program} {s : Sem Value} {v' : Value} {w w' : World} (h : s.run P w = .ok v' w') : Did ((do pure (Next.value (← s)) : Sem Next).run P w) v' w' := by
  refine .inl ?_; simp [h]
theorem did_u {P : Program} {s : Sem Unit} {w w' : World} (h : s.run P w = .ok () w') : Did ((do s; pure Next.skip : Sem Next).run P w) undef w' := by
  refine .inr ⟨?_, rfl⟩; simp [h]

theorem run_und {t : TypeId} {d : TypeDesc} (h : E.P.underlying t = some d) (w : World) : (underlying t).run E.P w = .ok d w := by simp [underlying, h]

def natOf : Value → Option Nat
  | .int _ (.ofNat k) => some k
  | _ => none
theorem natOf_eq {v : Value} {k : Nat} (h : natOf v = some k) : ∃ kd, v = .int kd (k : Int) := by
  cases v with
  | int kd n => cases n with
    | ofNat m => simp [natOf] at h; subst h; exact ⟨kd, rfl⟩
    | negSucc m => simp [natOf] at h
  | _ => simp [natOf] at h
theorem nat_rel {v v' : Value} {k : Nat} (h : natOf v = some k) (hv : V M v v') : ∃ kd, v' = .int kd (k : Int) := by
  obtain ⟨kd, rfl⟩ := natOf_eq h
  cases hv; exact ⟨kd, rfl⟩

def addrOf : Value → Option Addr
  | .pointer (some a) => bif a.spot.isSome then none else some a
  | _ => none
theorem addr_rel {v v' : Value} {a : Addr} (h : addrOf v = some a) (hv : V M v v') : a.spot = none ∧ ∃ b, v' = .pointer (some b) ∧ M.A a b := by
  cases hv with
  | ptr x b hx =>
    simp only [addrOf] at h
    cases hs : x.spot with
    | none => rw [hs] at h; simp at h; subst h; exact ⟨hs, b, rfl, hx⟩
    | some z => rw [hs] at h; simp at h
  | _ => simp [addrOf] at h

/-- load -/
def Env.opLoad (E : Env) (ρ : Operand → Value) (σ : St) (t : TypeId) (x : Operand) : Option (Value × St) :=
  match addrOf (ρ x) with
  | some a => match E.loadVar σ t a with
    | some v => some (v, σ)
    | none => none
  | none => none
theorem opLoad_sim (hE : E.ok w0) (hb : M.base = E.base) (hr : Rel E.P w0 M σ w) (hρ : RR M ρ ρ') {t : TypeId} {x : Operand} (ho : o.op = .load t x) {v : Value} {σ' : St} (h : E.opLoad ρ σ t x = some (v, σ')) :
    OSim E w0 M σ w (execOp ρ' o) v σ' := by
  unfold Env.opLoad at h
  cases ha : addrOf (ρ x) with
  | none => rw [ha] at h; simp at h
  | some a =>
    rw [ha] at h
    cases hl : E.loadVar σ t a with
    | none => simp [hl] at h
    | some u =>
      simp [hl] at h
      obtain ⟨rfl, rfl⟩ := h
      obtain ⟨_, b, hb', hA⟩ := addr_rel ha (hρ x)
      obtain ⟨v', h1, h2⟩ := loadVar_sim hE hb hr hA hl
      refine .same hr ?_ h2
      unfold execOp; rw [ho]
      exact did_v (by simp [Instr.loadAt, Instr.sureAddr, hb', h1])

/-- store -/
def Env.opStore (E : Env) (ρ : Operand → Value) (σ : St) (t : TypeId) (x y : Operand) : Option (Value × St) :=
  match addrOf (ρ x) with
  | some a => match E.storeVar σ t a (ρ y) with
    | some σ' => some (undef, σ')
    | none => none
  | none => none
theorem opStore_sim (hb : M.base = E.base) (hr : Rel E.P w0 M σ w) (hρ : RR M ρ ρ') {t : TypeId} {x y : Operand} (ho : o.op = .store t x y) {v : Value} {σ' : St} (h : E.opStore ρ σ t x y = some (v, σ')) :
    OSim E w0 M σ w (execOp ρ' o) v σ' := by
  unfold Env.opStore at h
  cases ha : addrOf (ρ x) with
  | none => rw [ha] at h; simp at h
  | some a =>
    rw [ha] at h
    cases hl : E.storeVar σ t a (ρ y) with
    | none => simp [hl] at h
    | some u =>
      simp [hl] at h
      obtain ⟨rfl, rfl⟩ := h
      obtain ⟨_, b, hb', hA⟩ := addr_rel ha (hρ x)
      obtain ⟨w', h1, h2, h3⟩ := storeVar_sim hb hr hA (hρ y) hl
      refine ⟨M, undef, w', ?_, V.of_flatter rfl, h2, h3⟩
      unfold execOp; rw [ho]
      exact did_u (by simp [Instr.storeAt, Instr.sureAddr, hb', h1])

/-- move, assign -/
theorem opMove_sim (hr : Rel E.P w0 M σ w) (hρ : RR M ρ ρ') {x : Operand} (ho : o.op = .move x ∨ o.op = .assign x) : OSim E w0 M σ w (execOp ρ' o) (ρ x) σ := by
  refine .same hr ?_ (hρ x)
  unfold execOp
  rcases ho with ho | ho <;> rw [ho] <;> exact .inl rfl

def Env.opPick (ρ : Operand → Value) (c a b : Operand) : Option Value :=
  match ρ c with
  | .bool true => some (ρ a)
  | .bool false => some (ρ b)
  | _ => none
theorem opPick_sim (hr : Rel E.P w0 M σ w) (hρ : RR M ρ ρ') {c a b : Operand} (ho : o.op = .pick c a b) {v : Value} (h : Env.opPick ρ c a b = some v) : OSim E w0 M σ w (execOp ρ' o) v σ := by
  unfold Env.opPick at h
  have hc := hρ c
  cases e : ρ c with
  | bool z =>
    rw [e] at h hc
    have e' : ρ' c = .bool z := flat_eq hc rfl
    cases z
    · simp at h; subst h
      exact .same hr (by unfold execOp; rw [ho]; exact .inl (by simp [e', asBool])) (hρ b)
    · simp at h; subst h
      exact .same hr (by unfold execOp; rw [ho]; exact .inl (by simp [e', asBool])) (hρ a)
  | _ => rw [e] at h; simp at h

/-- nilCheck of an address -/
def Env.opNil (ρ : Operand → Value) (x : Operand) : Option Value :=
  match ρ x with
  | .pointer (some a) => some (.pointer (some a))
  | _ => none
theorem opNil_sim (hr : Rel E.P w0 M σ w) (hρ : RR M ρ ρ') {x : Operand} (ho : o.op = .nilCheck x) {v : Value} (h : Env.opNil ρ x = some v) : OSim E w0 M σ w (execOp ρ' o) v σ := by
  unfold Env.opNil at h
  have hx := hρ x
  cases e : ρ x with
  | pointer p =>
    cases p with
    | none => rw [e] at h; simp at h
    | some a =>
      rw [e] at h hx
      simp at h; subst h
      generalize hy : ρ' x = y at hx
      cases hx with
      | ptr _ b hb => exact .same hr (by unfold execOp; rw [ho]; simp only [hy]; exact .inl rfl) (.ptr a b hb)
  | _ => rw [e] at h; simp at h

/-- fieldAddr -/
def Env.opField (E : Env) (ρ : Operand → Value) (s : TypeId) (x : Operand) (f : Nat) : Option Value :=
  match E.P.underlying s with
  | some (.struct fs) => match fs[f]? with
    | some fd => match (E.P.info? fd.type).map (·.size) with
      | some n => bif Nat.beq n 0 then none else match addrOf (ρ x) with
        | some a => some (.pointer (some ⟨a.block, a.off + fd.offset, none⟩))
        | none => none
      | none => none
    | none => none
  | _ => none
theorem opField_sim (hr : Rel E.P w0 M σ w) (hρ : RR M ρ ρ') {s : TypeId} {x : Operand} {f : Nat} (ho : o.op = .fieldAddr s x f) {v : Value} (h : E.opField ρ s x f = some v) : OSim E w0 M σ w (execOp ρ' o) v σ := by
  unfold Env.opField at h
  split at h <;> try (simp at h; done)
  rename_i fs hu
  split at h <;> try (simp at h; done)
  rename_i fd hfd
  split at h <;> try (simp at h; done)
  rename_i n hn
  rw [nbeq] at h
  by_cases h0 : n = 0
  · simp [h0] at h
  simp only [h0, decide_false, cond_false] at h
  split at h <;> try (simp at h; done)
  rename_i a ha
  simp only [Option.some.injEq] at h
  subst h
  obtain ⟨hs, b, hb', hA⟩ := addr_rel ha (hρ x)
  refine .same hr ?_ (.ptr _ _ (A_add hA hs fd.offset))
  unfold execOp; rw [ho]
  exact did_v (by simp [Instr.fieldAt, run_und hu, hfd, Instr.sureAddr, hb', fieldPlace, run_sizeOf hn, h0])

/-- indexAddr -/
def Env.opIndex (E : Env) (ρ : Operand → Value) (t : TypeId) (x i : Operand) : Option Value :=
  match natOf (ρ i) with
  | none => none
  | some k => match E.P.underlying t, ρ x with
    | some (.array len elem), .pointer (some a) => match (E.P.info? elem).map (·.size) with
      | some n => bif Nat.blt k len && !a.spot.isSome then some (.pointer (some ⟨a.block, a.off + k * n, none⟩)) else none
      | none => none
    | some (.slice elem), .slice (some a) len _ => match (E.P.info? elem).map (·.size) with
      | some n => bif Nat.blt k len && !a.spot.isSome then some (.pointer (some ⟨a.block, a.off + k * n, none⟩)) else none
      | none => none
    | _, _ => none
theorem opIndex_sim (hr : Rel E.P w0 M σ w) (hρ : RR M ρ ρ') {t : TypeId} {x i : Operand} (ho : o.op = .indexAddr t x i) {v : Value} (h : E.opIndex ρ t x i = some v) : OSim E w0 M σ w (execOp ρ' o) v σ := by
  unfold Env.opIndex at h
  split at h
  · simp at h
  rename_i k hk
  obtain ⟨kd, hk'⟩ := nat_rel hk (hρ i)
  split at h
  · rename_i len elem a hu hx
    split at h <;> try (simp at h; done)
    rename_i n hn
    rw [blt_iff] at h
    by_cases hlt : k < len
    · cases hs : a.spot with
      | some z => simp [hs] at h
      | none =>
        simp [hs, hlt] at h
        subst h
        have hxx := hρ x
        rw [hx] at hxx
        generalize hy : ρ' x = y at hxx
        cases hxx with
        | ptr _ b hA =>
          refine .same hr ?_ (.ptr _ _ (A_add hA hs (k * n)))
          unfold execOp; rw [ho]
          exact did_v (by simp [Instr.indexAt, asIntOf, hk', hy, run_und hu, Instr.sureAddr, run_sizeOf hn, hlt, Nat.not_le.2 hlt])
    · simp [hlt] at h
  · rename_i elem a len c hu hx
    split at h <;> try (simp at h; done)
    rename_i n hn
    rw [blt_iff] at h
    by_cases hlt : k < len
    · cases hs : a.spot with
      | some z => simp [hs] at h
      | none =>
        simp [hs, hlt] at h
        subst h
        have hxx := hρ x
        rw [hx] at hxx
        generalize hy : ρ' x = y at hxx
        cases hxx with
        | slice _ b _ _ c' hS =>
          rcases hS.2.2 with ⟨hA, _⟩ | ⟨e0, _⟩
          · refine .same hr ?_ (.ptr _ _ (A_add hA hs (k * n)))
            unfold execOp; rw [ho]
            exact did_v (by simp [Instr.indexAt, asIntOf, hk', hy, run_und hu, run_sizeOf hn, hlt, Nat.not_le.2 hlt])
          · omega
    · simp [hlt] at h
  · simp at h

/-- extract -/
def Env.opExtract (ρ : Operand → Value) (x : Operand) (i : Nat) : Option Value :=
  match ρ x with
  | .tuple ⟨l⟩ => l[i]?
  | _ => none
theorem opExtract_sim (hr : Rel E.P w0 M σ w) (hρ : RR M ρ ρ') {x : Operand} {i : Nat} (ho : o.op = .extract x i) {v : Value} (h : Env.opExtract ρ x i = some v) : OSim E w0 M σ w (execOp ρ' o) v σ := by
  unfold Env.opExtract at h
  split at h <;> try (simp at h; done)
  rename_i l hx
  have hxx := hρ x
  rw [hx] at hxx
  generalize hy : ρ' x = y at hxx
  cases hxx with
  | tuple hl =>
    obtain ⟨v', h1, h2⟩ := hl.get i v h
    refine .same hr ?_ h2
    unfold execOp; rw [ho]
    exact did_v (by simp [Instr.extract, hy, h1])

/-- field of a struct -/
def Env.part (E : Env) (t : TypeId) (l : List Value) (off : Nat) : Option Value :=
  match E.agg? t with
  | some true => match (E.P.info? t).map (·.size) with
    | some n => some (.agg ⟨(l.drop off).take n⟩)
    | none => none
  | some false => l[off]?
  | none => none
theorem part_sim {t : TypeId} {l l' : List Value} {off : Nat} {v : Value} (hl : VL M l l') (h : E.part t l off = some v) (w : World) : ∃ v', (part t ⟨l'⟩ off).run E.P w = .ok v' w ∧ V M v v' := by
  unfold Env.part at h
  cases hg : E.agg? t with
  | none => rw [hg] at h; simp at h
  | some c =>
    rw [hg] at h
    cases c with
    | true =>
      cases hn : (E.P.info? t).map (·.size) with
      | none => rw [hn] at h; simp at h
      | some n =>
        rw [hn] at h; simp at h; subst h
        refine ⟨.agg ⟨(l'.drop off).take n⟩, ?_, .agg ((hl.drop _).take _)⟩
        simp [part, run_isAgg hg, run_sizeOf hn]
    | false =>
      simp at h
      obtain ⟨v', h1, h2⟩ := hl.get off v h
      exact ⟨v', by simp [part, run_isAgg hg, h1], h2⟩
def Env.opPart (E : Env) (ρ : Operand → Value) (t : TypeId) (x : Operand) (f : Nat) : Option Value :=
  match E.P.underlying t with
  | some (.struct fs) => match fs[f]? with
    | some fd => match ρ x with
      | .agg ⟨l⟩ => E.part fd.type l fd.offset
      | _ => none
    | none => none
  | _ => none
theorem opPart_sim (hr : Rel E.P w0 M σ w) (hρ : RR M ρ ρ') {t : TypeId} {x : Operand} {f : Nat} (ho : o.op = .field t x f) {v : Value} (h : E.opPart ρ t x f = some v) : OSim E w0 M σ w (execOp ρ' o) v σ := by
  unfold Env.opPart at h
  split at h <;> try (simp at h; done)
  rename_i fs hu
  split at h <;> try (simp at h; done)
  rename_i fd hfd
  split at h <;> try (simp at h; done)
  rename_i l hx
  have hxx := hρ x
  rw [hx] at hxx
  generalize hy : ρ' x = y at hxx
  cases hxx with
  | agg hl =>
    obtain ⟨v', h1, h2⟩ := part_sim hl h w
    refine .same hr ?_ h2
    unfold execOp; rw [ho]
    exact did_v (by simp [Instr.field, run_und hu, hfd, asAgg, hy, h1])

/-- index of an array that is a value -/
def Env.opAt (E : Env) (ρ : Operand → Value) (t : TypeId) (x i : Operand) : Option Value :=
  match natOf (ρ i) with
  | none => none
  | some k => match E.P.underlying t, ρ x with
    | some (.array len elem), .agg ⟨l⟩ => match (E.P.info? elem).map (·.size) with
      | some n => bif Nat.blt k len then E.part elem l (k * n) else none
      | none => none
    | _, _ => none
theorem opAt_sim (hr : Rel E.P w0 M σ w) (hρ : RR M ρ ρ') {t : TypeId} {x i : Operand} (ho : o.op = .index t x i) {v : Value} (h : E.opAt ρ t x i = some v) : OSim E w0 M σ w (execOp ρ' o) v σ := by
  unfold Env.opAt at h
  split at h
  · simp at h
  rename_i k hk
  obtain ⟨kd, hk'⟩ := nat_rel hk (hρ i)
  split at h
  · rename_i len elem l hu hx
    split at h <;> try (simp at h; done)
    rename_i n hn
    rw [blt_iff] at h
    by_cases hlt : k < len
    · simp only [hlt, decide_true, cond_true] at h
      have hxx := hρ x
      rw [hx] at hxx
      generalize hy : ρ' x = y at hxx
      cases hxx with
      | agg hl =>
        obtain ⟨v', h1, h2⟩ := part_sim hl h w
        refine .same hr ?_ h2
        unfold execOp; rw [ho]
        exact did_v (by simp [Instr.index, asIntOf, hk', hy, run_und hu, run_sizeOf hn, hlt, Nat.not_le.2 hlt, h1])
    · simp [hlt] at h
  · simp at h

/-- makeFunc, makeInterface -/
theorem map_rel {M : Mp} {ρ ρ' : Operand → Value} (hρ : RR M ρ ρ') : ∀ l : List Operand, VL M (l.map ρ) (l.map ρ')
  | [] => .nil
  | x :: l => .cons (hρ x) (map_rel hρ l)
def Env.opFunc (ρ : Operand → Value) (fn : Fn) (a b : Array Operand) : Value := .func fn ⟨a.toList.map ρ⟩ ⟨b.toList.map ρ⟩
theorem opFunc_sim (hr : Rel E.P w0 M σ w) (hρ : RR M ρ ρ') {fn : Fn} {a b : Array Operand} (ho : o.op = .makeFunc fn a b) : OSim E w0 M σ w (execOp ρ' o) (Env.opFunc ρ fn a b) σ := by
  refine .same hr ?_ (.func fn (map_rel hρ a.toList) (map_rel hρ b.toList))
  unfold execOp; rw [ho]
  obtain ⟨a⟩ := a
  obtain ⟨b⟩ := b
  exact did_v (by simp [Instr.makeFunc])

/-- len of a slice -/
def Env.opLen (E : Env) (ρ : Operand → Value) (x : Operand) (t : TypeId) : Option Value :=
  match E.P.underlying t, ρ x with
  | some (.slice _), .slice _ n _ => some (goInt n)
  | _, _ => none
theorem opLen_sim (hr : Rel E.P w0 M σ w) (hρ : RR M ρ ρ') {x : Operand} {t : TypeId} (ho : o.op = .call { callee := .builtin .len, args := #[x], argTypes := #[t] }) {v : Value} (h : E.opLen ρ x t = some v) : OSim E w0 M σ w (execOp ρ' o) v σ := by
  unfold Env.opLen at h
  split at h
  · rename_i e a n c hu hx
    simp only [Option.some.injEq] at h
    subst h
    have hxx := hρ x
    rw [hx] at hxx
    refine .same hr ?_ (.int _ _)
    unfold execOp; rw [ho]
    have hl : ∃ a' c', ρ' x = .slice a' n c' := by
      generalize ρ' x = y at hxx
      cases hxx <;> exact ⟨_, _, rfl⟩
    obtain ⟨a', c', hl⟩ := hl
    exact .inl (by simp [resolve, invoke, builtin, Builtin.len_, run_und hu, hl, goInt])
  · simp at h

/-- comparison with nil -/
def isNil : Value → Bool
  | .pointer none | .slice none 0 0 | .map none | .nilFunc => true
  | _ => false
def isSome' : Value → Bool
  | .pointer (some _) | .slice (some _) _ _ | .map (some _) | .func .. => true
  | _ => false
def fitsNil (d : TypeDesc) (v u : Value) : Bool :=
  match d, v, u with
  | .pointer _, .pointer _, .pointer _ | .slice _, .slice .., .slice .. | .map .., .map _, .map _ | .func .., .func .., .nilFunc | .func .., .nilFunc, .func .. => true
  | _, _, _ => false
def Env.opEq (E : Env) (ρ : Operand → Value) (op : BinOp) (t : TypeId) (x y : Operand) : Option Value :=
  match op, E.P.underlying t with
  | .eql, some d => bif fitsNil d (ρ x) (ρ y) && (isNil (ρ x) && isSome' (ρ y) || isNil (ρ y) && isSome' (ρ x)) then some (.bool false) else none
  | .neq, some d => bif fitsNil d (ρ x) (ρ y) && (isNil (ρ x) && isSome' (ρ y) || isNil (ρ y) && isSome' (ρ x)) then some (.bool true) else none
  | _, _ => none
theorem equalIn_nil {t : TypeId} {d : TypeDesc} (hu : E.P.underlying t = some d) {v u v' u' : Value} (hf : fitsNil d v u = true) (hn : (isNil v && isSome' u || isNil u && isSome' v) = true) (hv : V M v v') (hw : V M u u') (w : World) (n : Nat) :
    (Op.equalIn (n + 1) t v' u').run E.P w = .ok false w := by
  cases hv <;> cases hw <;> simp [isNil, isSome'] at hn <;> cases d <;> simp [fitsNil] at hf <;> simp [Op.equalIn, run_und hu]
theorem guard_nil {t : TypeId} {d : TypeDesc} {v u v' u' : Value} (hf : fitsNil d v u = true) (hv : V M v v') (hw : V M u u') (w : World) (op : BinOp) (x y : Operand) :
    (eqGuard op t x y v' u').run E.P w = .ok () w := by
  cases hv <;> cases hw <;> cases d <;> simp [fitsNil] at hf <;> cases op <;> simp [eqGuard]
theorem bin_nil {t : TypeId} {d : TypeDesc} {v u v' u' : Value} (hf : fitsNil d v u = true) (hv : V M v v') (hw : V M u u') :
    (binOp .eql t v' u' = do pure (.bool (← Op.equal t v' u'))) ∧ (binOp .neq t v' u' = do pure (.bool (!(← Op.equal t v' u')))) := by
  cases hv <;> cases hw <;> cases d <;> simp [fitsNil] at hf <;> exact ⟨rfl, rfl⟩
theorem equal_nil {t : TypeId} {d : TypeDesc} (hu : E.P.underlying t = some d) {v u v' u' : Value} (hf : fitsNil d v u = true) (hn : (isNil v && isSome' u || isNil u && isSome' v) = true) (hv : V M v v') (hw : V M u u') (w : World) :
    (Op.equal t v' u').run E.P w = .ok false w := equalIn_nil hu hf hn hv hw w 9999
theorem opEq_sim (hr : Rel E.P w0 M σ w) (hρ : RR M ρ ρ') {op : BinOp} {t ty : TypeId} {x y : Operand} (ho : o.op = .binOp op t x y ty) {v : Value} (h : E.opEq ρ op t x y = some v) : OSim E w0 M σ w (execOp ρ' o) v σ := by
  unfold Env.opEq at h
  split at h
  · rename_i d hu
    cases hc : (fitsNil d (ρ x) (ρ y) && (isNil (ρ x) && isSome' (ρ y) || isNil (ρ y) && isSome' (ρ x)))
    · simp [hc] at h
    · simp only [hc, cond_true, Option.some.injEq] at h
      subst h
      obtain ⟨hc1, hc2⟩ := (Bool.and_eq_true _ _).mp hc
      have e1 := equal_nil hu hc1 hc2 (hρ x) (hρ y) w
      have e2 := fun op x' y' => guard_nil (E := E) (t := t) hc1 (hρ x) (hρ y) w op x' y'
      obtain ⟨e3, e4⟩ := bin_nil (t := t) hc1 (hρ x) (hρ y)
      refine .same hr ?_ (.bool false)
      unfold execOp; rw [ho]
      exact did_v (by simp [e1, e2, e3])
  · rename_i d hu
    cases hc : (fitsNil d (ρ x) (ρ y) && (isNil (ρ x) && isSome' (ρ y) || isNil (ρ y) && isSome' (ρ x)))
    · simp [hc] at h
    · simp only [hc, cond_true, Option.some.injEq] at h
      subst h
      obtain ⟨hc1, hc2⟩ := (Bool.and_eq_true _ _).mp hc
      have e1 := equal_nil hu hc1 hc2 (hρ x) (hρ y) w
      have e2 := fun op x' y' => guard_nil (E := E) (t := t) hc1 (hρ x) (hρ y) w op x' y'
      obtain ⟨e3, e4⟩ := bin_nil (t := t) hc1 (hρ x) (hρ y)
      refine .same hr ?_ (.bool true)
      unfold execOp; rw [ho]
      exact did_v (by simp [e1, e2, e4])
  · simp at h
end
end Go.B
