/-
  Regions that draw their order: what the interpreter's walk in the order of the text leaves behind.
-/
import Derived.Test.YtjioijajmkdefaaGreatDoorBC
namespace Go.B
open Go

/-! bits -/
theorem hasBit_eq (m i : Nat) : hasBit m i = m.testBit i := by
  unfold hasBit
  rw [nbeq, Nat.testBit_eq_decide_div_mod_eq, Nat.shiftRight_eq_div_pow]

def maskOf (done : List Nat) (o : Oper) : Nat := o.after.toList.foldl (fun s e => bif Region.binds .any e then s ||| (1 <<< e.on) ||| done.getD e.on 0 else s) 0

theorem fold_bit (done : List Nat) (k : Nat) : ∀ (l : List Edge) (s : Nat), (l.foldl (fun s e => bif Region.binds .any e then s ||| (1 <<< e.on) ||| done.getD e.on 0 else s) s).testBit k = true →
    s.testBit k = true ∨ ∃ e ∈ l, Region.binds .any e = true ∧ (e.on = k ∨ (done.getD e.on 0).testBit k = true)
  | [], s, h => .inl h
  | e :: l, s, h => by
    simp only [List.foldl_cons] at h
    rcases fold_bit done k l _ h with h1 | ⟨e', h1, h2, h3⟩
    · cases hb : Region.binds .any e
      · rw [hb, cond_false] at h1; exact .inl h1
      · rw [hb, cond_true] at h1
        simp only [Nat.testBit_or, Bool.or_eq_true, Nat.one_shiftLeft, Nat.testBit_two_pow, decide_eq_true_eq] at h1
        rcases h1 with (h1 | h1) | h1
        · exact .inl h1
        · exact .inr ⟨e, by simp, hb, .inl h1⟩
        · exact .inr ⟨e, by simp, hb, .inr h1⟩
    · exact .inr ⟨e', by simp [h1], h2, h3⟩

theorem masks_pre : ∀ (l : List Oper) (done : List Nat) (i : Nat), i < done.length → (masks done l)[i]? = done[i]?
  | [], done, i, _ => rfl
  | o :: l, done, i, h => by
    rw [masks, masks_pre l _ i (by simp; omega)]
    rw [List.getElem?_append_left h]
theorem masks_at : ∀ (l : List Oper) (done : List Nat) (i : Nat) (o : Oper), l[i]? = some o → ∃ d2, (masks done l)[done.length + i]? = some (maskOf d2 o) ∧ d2.length = done.length + i ∧ ∀ j, j < d2.length → d2[j]? = (masks done l)[j]?
  | [], _, _, _, h => by simp at h
  | o :: l, done, 0, o', h => by
    simp only [List.getElem?_cons_zero, Option.some.injEq] at h
    subst h
    refine ⟨done, ?_, rfl, fun j hj => ?_⟩
    · rw [masks, masks_pre l _ _ (by simp)]
      simp [maskOf]
    · rw [masks, masks_pre l _ j (by simp; omega), List.getElem?_append_left hj]
  | o :: l, done, i + 1, o', h => by
    obtain ⟨d2, h1, h2, h3⟩ := masks_at l (done ++ [maskOf done o]) i o' (by simpa using h)
    refine ⟨d2, ?_, by rw [h2]; simp; omega, h3⟩
    have : done.length + (i + 1) = (done ++ [maskOf done o]).length + i := by simp; omega
    rw [this]; exact h1
/-- What a bit of a mask says. -/
theorem masks_bit {ops : Array Oper} {i k : Nat} {o : Oper} (ho : ops[i]? = some o) (hlt : ∀ e ∈ o.after, Region.binds .any e = true → e.on < i) (h : hasBit ((masks [] ops.toList).getD i 0) k = true) :
    ∃ e ∈ o.after, Region.binds .any e = true ∧ (e.on = k ∨ hasBit ((masks [] ops.toList).getD e.on 0) k = true) := by
  obtain ⟨d2, h1, h2, h3⟩ := masks_at ops.toList [] i o (by simpa using ho)
  simp only [List.length_nil, Nat.zero_add] at h1 h2
  rw [List.getD_eq_getElem?_getD, h1, hasBit_eq] at h
  have h' : (maskOf d2 o).testBit k = true := h
  unfold maskOf at h'
  rcases fold_bit d2 k _ 0 h' with h4 | ⟨e, e1, e2, e3⟩
  · simp at h4
  · have e1' : e ∈ o.after := Array.mem_toList_iff.1 e1
    refine ⟨e, e1', e2, e3.imp id fun e4 => ?_⟩
    have := hlt e e1' e2
    rw [hasBit_eq, List.getD_eq_getElem?_getD, ← h3 e.on (by omega), ← List.getD_eq_getElem?_getD]
    exact e4

/-! what may be drawn at all -/
def named (ops : Array Oper) (o : Oper) (t : Tmp) : Bool := (o.looksAt ops).contains t || o.dst == some t
def clash (ops : Array Oper) (x y : Oper) : Bool :=
  (match x.dst with | some d => named ops y d | none => false) || (match y.dst with | some d => named ops x d | none => false)
def okDrawn (ops : Array Oper) : Bool :=
  let ms := masks [] ops.toList
  (List.range ops.size).all fun i => match ops[i]? with
    | some o => (o.after.all fun e => !(Region.binds .any e) || Nat.blt e.on i) && (!(Nat.beq (cls o.op) 2) || (o.guard.isNone && Nat.beq (ms.getD i 0) 0)) &&
      (List.range i).all fun j => match ops[j]? with
        | some x => !(clash ops x o) || hasBit (ms.getD i 0) j
        | none => true
    | none => true

structure Drawable (ops : Array Oper) (ms : List Nat) : Prop where
  edge : ∀ i o, ops[i]? = some o → ∀ e ∈ o.after, Region.binds .any e = true → e.on < i
  var : ∀ i o, ops[i]? = some o → cls o.op = 2 → o.guard = none ∧ ms.getD i 0 = 0
  apart : ∀ i j o x, ops[i]? = some o → ops[j]? = some x → j < i → clash ops x o = true → hasBit (ms.getD i 0) j = true
theorem okDrawn_spec {ops : Array Oper} (h : okDrawn ops = true) : Drawable ops (masks [] ops.toList) := by
  unfold okDrawn at h
  simp only [List.all_eq_true, List.mem_range] at h
  have key : ∀ i o, ops[i]? = some o → _ := fun i o ho => by
    have hi : i < ops.size := by
      rcases Nat.lt_or_ge i ops.size with h' | h'
      · exact h'
      · rw [Array.getElem?_eq_none h'] at ho; cases ho
    have := h i hi
    rw [ho] at this
    exact this
  refine ⟨fun i o ho e he hb => ?_, fun i o ho hc => ?_, fun i j o x ho hx hji hcl => ?_⟩
  · have := key i o ho
    simp only [Bool.and_eq_true] at this
    have h1 := this.1.1
    rw [Array.all_eq_true'] at h1
    have := h1 e he
    rw [blt_iff] at this
    simpa [hb] using this
  · have := key i o ho
    simp only [Bool.and_eq_true, nbeq, hc, decide_true, Bool.not_true, Bool.false_or] at this
    exact ⟨by simpa using this.1.2.1, of_decide_eq_true this.1.2.2⟩
  · have := key i o ho
    simp only [Bool.and_eq_true, List.all_eq_true, List.mem_range] at this
    have h1 := this.2 j hji
    rw [hx] at h1
    simpa [hcl] using h1

theorem cls_call {o : Oper} (h : isCall o = true) : cls o.op = 3 := by
  unfold isCall at h
  split at h <;> try (simp at h; done)
  rename_i c ho
  split at h <;> try (simp at h; done)
  rename_i f hf
  simp [cls, ho, hf]
theorem cls_le (o : Op) : cls o ≤ 3 := by
  unfold cls
  split <;> try (simp; done)
  split <;> simp
theorem cls_throw {o : Oper} (h : isThrow o = true) : cls o.op = 3 := by
  unfold isThrow at h
  split at h <;> try (simp at h; done)
  · rename_i x ho; simp [cls, ho]
  · rename_i c ho
    split at h <;> try (simp at h; done)
    rename_i hf
    simp [cls, ho, hf]
theorem any_op {E : Env} {call : CallF} {fr : Fr} {σ : St} {o : Oper} (h : cls o.op ≠ 3) : E.any call fr σ o = retd (E.op (fr.ev E.base) σ o) := by
  unfold Env.any
  cases hi : isCall o
  · cases ht : isThrow o
    · rfl
    · exact absurd (cls_throw ht) h
  · exact absurd (cls_call hi) h
theorem retd_ret {x : Option (Value × St)} {v : Value} {σ : St} (h : retd x = some (.ret v, σ)) : x = some (v, σ) := by
  obtain ⟨u, e, h2⟩ := retd_some h
  cases e
  exact h2
theorem any_same {E : Env} {call : CallF} {fr : Fr} {σ σ1 : St} {o : Oper} {v : Value} (h : cls o.op = 0 ∨ cls o.op = 1) (he : E.any call fr σ o = some (.ret v, σ1)) : σ1 = σ := by
  rw [any_op (by omega)] at he
  have he := retd_ret he
  rcases h with h | h
  · exact (op_cls0 h he σ).1
  · exact op_cls1 h he

/-! the walk in the order of the text -/

def StepAt (E : Env) (call : CallF) (ops : Array Oper) (frs : Nat → Fr) (sgs : Nat → St) (vs : Nat → Value) (j : Nat) (o : Oper) : Prop :=
  (cls o.op = 2 → frs (j + 1) = frs j ∧ sgs (j + 1) = sgs j) ∧
  (cls o.op ≠ 2 → wants ops (frs j) o = true → E.any call (frs j) (sgs j) o = some (.ret (vs j), sgs (j + 1)) ∧ (frs j).put o.dst (vs j) = some (frs (j + 1))) ∧
  (cls o.op ≠ 2 → wants ops (frs j) o = false → (frs j).put o.dst undef = some (frs (j + 1)) ∧ sgs (j + 1) = sgs j ∧ vs j = undef)

theorem StepAt.congr {E : Env} {call : CallF} {ops : Array Oper} {frs frs' : Nat → Fr} {sgs sgs' : Nat → St} {vs vs' : Nat → Value} {j : Nat} {o : Oper} (h : StepAt E call ops frs sgs vs j o)
    (h1 : frs' j = frs j) (h2 : frs' (j + 1) = frs (j + 1)) (h3 : sgs' j = sgs j) (h4 : sgs' (j + 1) = sgs (j + 1)) (h5 : vs' j = vs j) : StepAt E call ops frs' sgs' vs' j o := by
  unfold StepAt at h ⊢
  rw [h1, h2, h3, h4, h5]; exact h

def isC (ops : Array Oper) (frs : Nat → Fr) (j : Nat) : Prop := ∃ o, ops[j]? = some o ∧ cls o.op = 3 ∧ wants ops (frs j) o = true
/-- Just s of the rising numbers lie below j. -/
def Below' (ch : List Nat) (s j : Nat) : Prop := (∀ k c, k < s → ch[k]? = some c → c < j) ∧ (∀ k c, s ≤ k → ch[k]? = some c → j ≤ c)

structure Texted (E : Env) (call : CallF) (ops : Array Oper) (i n : Nat) (frs : Nat → Fr) (sgs : Nat → St) (vs : Nat → Value) (rds2 : List Rd) (ch ch2 : List Nat) (ss ss2 : List St) : Prop where
  step : ∀ j o, i ≤ j → j < n → ops[j]? = some o → StepAt E call ops frs sgs vs j o
  grow : ∃ ch', ch2 = ch ++ ch' ∧ ss2 = ss ++ (ch'.map sgs ++ [sgs n]) ∧ (∀ c ∈ ch', i ≤ c ∧ c < n ∧ isC ops frs c) ∧ ch'.Pairwise (· < ·)
  mem : ∀ j, i ≤ j → j < n → isC ops frs j → j ∈ ch2
  read : ∀ j o, i ≤ j → j < n → ops[j]? = some o → cls o.op = 1 → wants ops (frs j) o = true → ∃ r ∈ rds2, r.i = j ∧ r.o = o ∧ r.fr = frs j ∧ r.v = vs j ∧ Below' ch2 r.seg j

theorem text_spec {E : Env} {call : CallF} {ops : Array Oper} : ∀ (rest : List Oper) (i : Nat) (fr : Fr) (σ : St) (rds : List Rd) (ch : List Nat) (ss : List St) (fr2 : Fr) (σ2 : St) (rds2 : List Rd) (ch2 : List Nat) (ss2 : List St),
    (∀ k, rest[k]? = ops[i + k]?) → (∀ c ∈ ch, c < i) → E.text call ops i rest fr σ rds ch ss = some (fr2, σ2, rds2, ch2, ss2) →
    (∀ r ∈ rds, r ∈ rds2) ∧ ∃ frs sgs vs, frs i = fr ∧ sgs i = σ ∧ frs (i + rest.length) = fr2 ∧ sgs (i + rest.length) = σ2 ∧ Texted E call ops i (i + rest.length) frs sgs vs rds2 ch ch2 ss ss2
  | [], i, fr, σ, rds, ch, ss, fr2, σ2, rds2, ch2, ss2, _, _, h => by
    simp only [Env.text, Option.some.injEq, Prod.mk.injEq] at h
    obtain ⟨rfl, rfl, rfl, rfl, rfl⟩ := h
    exact ⟨fun r hr => hr, fun _ => fr, fun _ => σ, fun _ => undef, rfl, rfl, rfl, rfl, ⟨fun j o a b => by simp at b; omega, ⟨[], by simp, by simp, by simp, by simp⟩, fun j a b => by simp at b; omega, fun j o a b => by simp at b; omega⟩⟩
  | o :: rest, i, fr, σ, rds, ch, ss, fr2, σ2, rds2, ch2, ss2, hl, hch, h => by
    have ho : ops[i]? = some o := by have := hl 0; simpa using this.symm
    have hl' : ∀ k, rest[k]? = ops[i + 1 + k]? := fun k => by have := hl (k + 1); rw [List.getElem?_cons_succ] at this; rw [this]; congr 1; omega
    have hch' : ∀ c ∈ ch, c < i + 1 := fun c hc => Nat.lt_succ_of_lt (hch c hc)
    have hlen : i + (o :: rest).length = i + 1 + rest.length := by simp; omega
    rw [hlen]
    -- one step put ahead of the rest
    have glue : ∀ (v : Value) (fr1 : Fr) (σ1 : St) (frs : Nat → Fr) (sgs : Nat → St) (vs : Nat → Value) (che : List Nat) (sse : List St), frs (i + 1) = fr1 → sgs (i + 1) = σ1 →
        StepAt E call ops (fun k => if k = i then fr else frs k) (fun k => if k = i then σ else sgs k) (fun k => if k = i then v else vs k) i o →
        (isC ops (fun k => if k = i then fr else frs k) i ∧ che = ch ++ [i] ∧ sse = ss ++ [σ] ∨ ¬ isC ops (fun k => if k = i then fr else frs k) i ∧ che = ch ∧ sse = ss) →
        (cls o.op = 1 → wants ops fr o = true → ∃ r ∈ rds2, r.i = i ∧ r.o = o ∧ r.fr = fr ∧ r.v = v ∧ r.seg = ch.length) →
        Texted E call ops (i + 1) (i + 1 + rest.length) frs sgs vs rds2 che ch2 sse ss2 →
        Texted E call ops i (i + 1 + rest.length) (fun k => if k = i then fr else frs k) (fun k => if k = i then σ else sgs k) (fun k => if k = i then v else vs k) rds2 ch ch2 ss ss2 := by
      intro v fr1 σ1 frs sgs vs che sse hf hs hst hcc hrd ht
      obtain ⟨ch', g1, g2, g3, g4⟩ := ht.grow
      have hC : ∀ j, i + 1 ≤ j → (isC ops (fun k => if k = i then fr else frs k) j ↔ isC ops frs j) := fun j hj => by
        unfold isC
        have : ¬ j = i := by omega
        simp only [this, if_false]
      have hne : ∀ c ∈ ch', (fun k => if k = i then σ else sgs k) c = sgs c := fun c hc => by
        have := (g3 c hc).1
        have : ¬ c = i := by omega
        simp [this]
      have hend : (fun k => if k = i then σ else sgs k) (i + 1 + rest.length) = sgs (i + 1 + rest.length) := by
        have : ¬ i + 1 + rest.length = i := by omega
        simp only [this, if_false]
      have hmap : ch'.map (fun k => if k = i then σ else sgs k) = ch'.map sgs := List.map_congr_left hne
      refine ⟨fun j o' a b e => ?_, ?_, fun j a b c => ?_, fun j o' a b e hc hw => ?_⟩
      · by_cases hj : j = i
        · subst hj; rw [ho] at e; cases e; exact hst
        · have h1 : ¬ j + 1 = i := by omega
          exact (ht.step j o' (by omega) b e).congr (by simp [hj]) (by simp [h1]) (by simp [hj]) (by simp [h1]) (by simp [hj])
      · rcases hcc with ⟨q1, q2, q3⟩ | ⟨q1, q2, q3⟩
        · refine ⟨i :: ch', by rw [g1, q2]; simp, ?_, fun c hc => ?_, ?_⟩
          · rw [g2, q3, List.map_cons, hmap]
            have hne' : ¬ i + 1 + rest.length = i := by omega
            simp [hne']
          · rcases List.mem_cons.1 hc with rfl | hc
            · exact ⟨Nat.le_refl _, by omega, q1⟩
            · obtain ⟨a, b, d⟩ := g3 c hc
              exact ⟨by omega, b, (hC c a).2 d⟩
          · exact List.pairwise_cons.2 ⟨fun c hc => by have := (g3 c hc).1; omega, g4⟩
        · have hne' : ¬ i + 1 + rest.length = i := by omega
          refine ⟨ch', by rw [g1, q2], by rw [g2, q3, hmap]; simp [hne'], fun c hc => ?_, g4⟩
          obtain ⟨a, b, d⟩ := g3 c hc
          exact ⟨by omega, b, (hC c a).2 d⟩
      · by_cases hj : j = i
        · subst hj
          rcases hcc with ⟨_, q2, _⟩ | ⟨q1, _, _⟩
          · rw [g1, q2]; simp
          · exact absurd c q1
        · exact ht.mem j (by omega) b ((hC j (by omega)).1 c)
      · by_cases hj : j = i
        · subst hj
          rw [ho] at e; cases e
          simp only [if_true] at hw
          obtain ⟨r, r1, r2, r3, r4, r5, r6⟩ := hrd hc hw
          refine ⟨r, r1, r2, r3, by simp [r4], by simp [r5], ?_⟩
          rw [r6]
          rcases hcc with ⟨⟨o2, x1, x2, _⟩, _, _⟩ | ⟨_, q2, _⟩
          · rw [ho] at x1; cases x1; omega
          · rw [g1, q2]
            refine ⟨fun k c hk hc => hch c ?_, fun k c hk hc => ?_⟩
            · rw [List.getElem?_append_left hk] at hc
              exact List.mem_of_getElem? hc
            · rw [List.getElem?_append_right hk] at hc
              have := (g3 c (List.mem_of_getElem? hc)).1
              omega
        · have hji : ¬ j = i := hj
          simp only [hji, if_false] at hw ⊢
          exact ht.read j o' (by omega) b e hc hw
    unfold Env.text at h
    rw [nbeq] at h
    by_cases h2 : cls o.op = 2
    · simp only [h2, decide_true, cond_true] at h
      obtain ⟨hm, frs, sgs, vs, e1, e2, e3, e4, ht⟩ := text_spec rest (i + 1) fr σ rds ch ss fr2 σ2 rds2 ch2 ss2 hl' hch' h
      refine ⟨hm, _, _, _, by simp, by simp, ?_, ?_, glue undef fr σ frs sgs vs ch ss e1 e2 ⟨fun _ => ?_, fun q => absurd h2 q, fun q => absurd h2 q⟩ (.inr ⟨fun ⟨o2, x1, x2, _⟩ => by rw [ho] at x1; cases x1; omega, rfl, rfl⟩) (fun q => by omega) ht⟩
      · have : ¬ i + 1 + rest.length = i := by omega
        simp only [this, if_false, e3]
      · have : ¬ i + 1 + rest.length = i := by omega
        simp only [this, if_false, e4]
      · simp [e1, e2]
    · simp only [h2, decide_false, cond_false] at h
      rcases Bool.eq_false_or_eq_true (wants ops fr o) with hw | hw
      · rw [hw, cond_true] at h
        split at h <;> try (simp at h; done)
        rename_i v σ1 hany
        split at h <;> try (simp at h; done)
        rename_i fr1 hput
        have hst : ∀ (frs : Nat → Fr) (sgs : Nat → St) (vs : Nat → Value), frs (i + 1) = fr1 → sgs (i + 1) = σ1 →
            StepAt E call ops (fun k => if k = i then fr else frs k) (fun k => if k = i then σ else sgs k) (fun k => if k = i then v else vs k) i o := fun frs sgs vs e1 e2 => by
          have hne : ¬ i + 1 = i := by omega
          refine ⟨fun q => absurd q h2, fun _ _ => ?_, fun _ q => ?_⟩
          · simp only [if_true, hne, if_false, e1, e2]; exact ⟨hany, hput⟩
          · simp only [if_true] at q; rw [hw] at q; cases q
        have hfin : ∀ (frs : Nat → Fr) (f2 : Fr), frs (i + 1 + rest.length) = f2 → (fun k => if k = i then fr else frs k) (i + 1 + rest.length) = f2 := fun frs f2 e => by
          have : ¬ i + 1 + rest.length = i := by omega
          simp only [this, if_false, e]
        have hfin2 : ∀ (sgs : Nat → St) (f2 : St), sgs (i + 1 + rest.length) = f2 → (fun k => if k = i then σ else sgs k) (i + 1 + rest.length) = f2 := fun sgs f2 e => by
          have : ¬ i + 1 + rest.length = i := by omega
          simp only [this, if_false, e]
        rw [nbeq, nbeq] at h
        by_cases h3 : cls o.op = 3
        · simp only [h3, decide_true, cond_true] at h
          obtain ⟨hm, frs, sgs, vs, e1, e2, e3, e4, ht⟩ := text_spec rest (i + 1) fr1 σ1 rds (ch ++ [i]) (ss ++ [σ]) fr2 σ2 rds2 ch2 ss2 hl' (fun c hc => by
            rcases List.mem_append.1 hc with hc | hc
            · exact hch' c hc
            · simp at hc; omega) h
          exact ⟨hm, _, _, _, by simp, by simp, hfin frs _ e3, hfin2 sgs _ e4, glue v fr1 σ1 frs sgs vs (ch ++ [i]) (ss ++ [σ]) e1 e2 (hst frs sgs vs e1 e2) (.inl ⟨⟨o, ho, h3, by simpa using hw⟩, rfl, rfl⟩) (fun q => by omega) ht⟩
        · have hnC : ∀ (frs : Nat → Fr), ¬ isC ops (fun k => if k = i then fr else frs k) i := fun frs ⟨o2, x1, x2, _⟩ => by rw [ho] at x1; cases x1; exact h3 x2
          simp only [h3, decide_false, cond_false] at h
          by_cases h1 : cls o.op = 1
          · simp only [h1, decide_true, cond_true] at h
            have hsame : σ1 = σ := any_same (.inr h1) hany
            rw [← hsame] at h
            obtain ⟨hm, frs, sgs, vs, e1, e2, e3, e4, ht⟩ := text_spec rest (i + 1) fr1 σ1 (⟨i, o, fr, v, ch.length⟩ :: rds) ch ss fr2 σ2 rds2 ch2 ss2 hl' hch' h
            exact ⟨fun r hr => hm r (by simp [hr]), _, _, _, by simp, by simp, hfin frs _ e3, hfin2 sgs _ e4, glue v fr1 σ1 frs sgs vs ch ss e1 e2 (hst frs sgs vs e1 e2) (.inr ⟨hnC frs, rfl, rfl⟩) (fun _ _ => ⟨⟨i, o, fr, v, ch.length⟩, hm _ (by simp), rfl, rfl, rfl, rfl, rfl⟩) ht⟩
          · simp only [h1, decide_false, cond_false] at h
            have hsame : σ1 = σ := any_same (.inl (by have := cls_le o.op; omega)) hany
            rw [← hsame] at h
            obtain ⟨hm, frs, sgs, vs, e1, e2, e3, e4, ht⟩ := text_spec rest (i + 1) fr1 σ1 rds ch ss fr2 σ2 rds2 ch2 ss2 hl' hch' h
            exact ⟨hm, _, _, _, by simp, by simp, hfin frs _ e3, hfin2 sgs _ e4, glue v fr1 σ1 frs sgs vs ch ss e1 e2 (hst frs sgs vs e1 e2) (.inr ⟨hnC frs, rfl, rfl⟩) (fun q => absurd q h1) ht⟩
      · rw [hw, cond_false] at h
        split at h <;> try (simp at h; done)
        rename_i fr1 hput
        obtain ⟨hm, frs, sgs, vs, e1, e2, e3, e4, ht⟩ := text_spec rest (i + 1) fr1 σ rds ch ss fr2 σ2 rds2 ch2 ss2 hl' hch' h
        have hne : ¬ i + 1 = i := by omega
        refine ⟨hm, _, _, _, by simp, by simp, ?_, ?_, glue undef fr1 σ frs sgs vs ch ss e1 e2 ⟨fun q => absurd q h2, fun _ q => ?_, fun _ _ => ?_⟩ (.inr ⟨fun ⟨o2, x1, x2, x3⟩ => ?_, rfl, rfl⟩) (fun _ q => by rw [hw] at q; cases q) ht⟩
        · have : ¬ i + 1 + rest.length = i := by omega
          simp only [this, if_false, e3]
        · have : ¬ i + 1 + rest.length = i := by omega
          simp only [this, if_false, e4]
        · simp only [if_true] at q; rw [hw] at q; cases q
        · simp only [if_true, hne, if_false, e1, e2]; simp [hput]
        · rw [ho] at x1; cases x1; simp only [if_true] at x3; rw [hw] at x3; cases x3
end Go.B
