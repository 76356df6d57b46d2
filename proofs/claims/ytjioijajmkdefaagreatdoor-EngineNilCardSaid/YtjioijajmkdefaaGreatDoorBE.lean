/-
  Regions that draw their order: variables made ahead, who wrote a temporary last, what the interpreter knows of such a region.
-/
import Derived.Test.YtjioijajmkdefaaGreatDoorBD
namespace Go.B
open Go

/-! the last writer -/
def wr (ops : Array Oper) (t k : Nat) : Bool := match ops[k]? with | some o => o.dst == some t | none => false
theorem wr_iff {ops : Array Oper} {t k : Nat} : wr ops t k = true ↔ ∃ o, ops[k]? = some o ∧ o.dst = some t := by
  unfold wr
  cases h : ops[k]? with
  | none => simp
  | some o => simp
def lastW (p : Nat → Bool) : Nat → Option Nat
  | 0 => none
  | n + 1 => bif p n then some n else lastW p n
theorem lastW_some {p : Nat → Bool} : ∀ {n k : Nat}, lastW p n = some k → k < n ∧ p k = true
  | 0, k, h => by simp [lastW] at h
  | n + 1, k, h => by
    unfold lastW at h
    cases hp : p n
    · rw [hp, cond_false] at h
      obtain ⟨a, b⟩ := lastW_some h
      exact ⟨by omega, b⟩
    · rw [hp, cond_true] at h
      cases h
      exact ⟨by omega, hp⟩
theorem lastW_none {p : Nat → Bool} : ∀ {n : Nat}, lastW p n = none → ∀ j, j < n → p j = false
  | 0, _, j, hj => by omega
  | n + 1, h, j, hj => by
    unfold lastW at h
    cases hp : p n
    · rw [hp, cond_false] at h
      by_cases e : j = n
      · rw [e]; exact hp
      · exact lastW_none h j (by omega)
    · rw [hp, cond_true] at h; cases h
theorem lastW_eq {p : Nat → Bool} : ∀ {n k : Nat}, k < n → p k = true → (∀ j, k < j → j < n → p j = false) → lastW p n = some k
  | 0, k, h, _, _ => by omega
  | n + 1, k, h, hp, hn => by
    unfold lastW
    by_cases e : k = n
    · subst e; rw [hp, cond_true]
    · rw [hn n (by omega) (by omega), cond_false]
      exact lastW_eq (by omega) hp fun j a b => hn j a (by omega)
theorem lastW_congr {p q : Nat → Bool} : ∀ {n : Nat}, (∀ k, k < n → p k = q k) → lastW p n = lastW q n
  | 0, _ => rfl
  | n + 1, h => by unfold lastW; rw [h n (by omega), lastW_congr fun k hk => h k (by omega)]
theorem lastW_cut {p : Nat → Bool} {j : Nat} : ∀ {n : Nat}, j ≤ n → lastW (fun k => decide (k < j) && p k) n = lastW p j
  | 0, h => by
    have : j = 0 := by omega
    subst this; rfl
  | n + 1, h => by
    by_cases e : j = n + 1
    · subst e
      exact lastW_congr fun k hk => by simp [hk]
    · have hnj : ¬ n < j := by omega
      have ih := lastW_cut (p := p) (j := j) (n := n) (by omega)
      rw [lastW.eq_2]
      simp only [hnj, decide_false, Bool.false_and, cond_false]
      exact ih
def rv (val : Nat → Value) (fr : Fr) (t : Nat) : Option Nat → Value
  | some k => val k
  | none => fr.get t

/-! the unlisted -/
def cntU (L : Nat → Bool) : Nat → Nat
  | 0 => 0
  | n + 1 => (bif L n then 0 else 1) + cntU L n
theorem cntU_le (L : Nat → Bool) : ∀ n, cntU L n ≤ n
  | 0 => Nat.le_refl _
  | n + 1 => by
    have := cntU_le L n
    unfold cntU
    cases L n <;> simp <;> omega
theorem cntU_zero {L : Nat → Bool} : ∀ {n : Nat}, cntU L n = 0 → ∀ k, k < n → L k = true
  | 0, _, k, h => by omega
  | n + 1, h, k, hk => by
    unfold cntU at h
    cases hl : L n
    · rw [hl] at h; simp at h
    · by_cases e : k = n
      · rw [e]; exact hl
      · have h' : cntU L n = 0 := by omega
        exact cntU_zero h' k (by omega)
theorem cntU_mono {L L' : Nat → Bool} (h : ∀ k, L k = true → L' k = true) : ∀ n, cntU L' n ≤ cntU L n
  | 0 => Nat.le_refl _
  | n + 1 => by
    have := cntU_mono h n
    unfold cntU
    cases hl : L n
    · cases L' n <;> simp <;> omega
    · rw [h n hl]; simp; omega
theorem cntU_lt {L L' : Nat → Bool} (h : ∀ k, L k = true → L' k = true) {i : Nat} (h1 : L i = false) (h2 : L' i = true) : ∀ n, i < n → cntU L' n < cntU L n
  | 0, hi => by omega
  | n + 1, hi => by
    unfold cntU
    by_cases e : i = n
    · subst e
      have := cntU_mono h i
      rw [h1, h2]; simp; omega
    · have := cntU_lt h h1 h2 n (by omega)
      cases hl : L n
      · cases L' n <;> simp <;> omega
      · rw [h n hl]; simp; omega

/-! variables made ahead -/
structure Alld (E : Env) (ops : Array Oper) (i n : Nat) (frA : Nat → Fr) (sgA : Nat → St) (ptr : Nat → Value) : Prop where
  yes : ∀ j o, i ≤ j → j < n → ops[j]? = some o → cls o.op = 2 → E.op ((frA j).ev E.base) (sgA j) o = some (ptr j, sgA (j + 1)) ∧ (frA j).put o.dst (ptr j) = some (frA (j + 1))
  no : ∀ j o, i ≤ j → j < n → ops[j]? = some o → cls o.op ≠ 2 → frA (j + 1) = frA j ∧ sgA (j + 1) = sgA j

theorem allocs_spec {E : Env} {ops : Array Oper} : ∀ (rest : List Oper) (i : Nat) (fr : Fr) (σ : St) (fr2 : Fr) (σ2 : St), (∀ k, rest[k]? = ops[i + k]?) → E.allocs rest fr σ = some (fr2, σ2) →
    ∃ frA sgA ptr, frA i = fr ∧ sgA i = σ ∧ frA (i + rest.length) = fr2 ∧ sgA (i + rest.length) = σ2 ∧ Alld E ops i (i + rest.length) frA sgA ptr
  | [], i, fr, σ, fr2, σ2, _, h => by
    simp only [Env.allocs, Option.some.injEq, Prod.mk.injEq] at h
    obtain ⟨rfl, rfl⟩ := h
    exact ⟨fun _ => fr, fun _ => σ, fun _ => undef, rfl, rfl, rfl, rfl, ⟨fun j o a b => by simp at b; omega, fun j o a b => by simp at b; omega⟩⟩
  | o :: rest, i, fr, σ, fr2, σ2, hl, h => by
    have ho : ops[i]? = some o := by have := hl 0; simpa using this.symm
    have hl' : ∀ k, rest[k]? = ops[i + 1 + k]? := fun k => by have := hl (k + 1); rw [List.getElem?_cons_succ] at this; rw [this]; congr 1; omega
    have hlen : i + (o :: rest).length = i + 1 + rest.length := by simp; omega
    have hne : ¬ i + 1 = i := by omega
    have hne2 : ¬ i + 1 + rest.length = i := by omega
    rw [hlen]
    have glue : ∀ (v : Value) (fr1 : Fr) (σ1 : St), (cls o.op = 2 → E.op (fr.ev E.base) σ o = some (v, σ1) ∧ fr.put o.dst v = some fr1) → (cls o.op ≠ 2 → fr1 = fr ∧ σ1 = σ) → E.allocs rest fr1 σ1 = some (fr2, σ2) →
        ∃ frA sgA ptr, frA i = fr ∧ sgA i = σ ∧ frA (i + 1 + rest.length) = fr2 ∧ sgA (i + 1 + rest.length) = σ2 ∧ Alld E ops i (i + 1 + rest.length) frA sgA ptr := by
      intro v fr1 σ1 h1 h2 h3
      obtain ⟨frA, sgA, ptr, e1, e2, e3, e4, ha⟩ := allocs_spec rest (i + 1) fr1 σ1 fr2 σ2 hl' h3
      refine ⟨fun k => if k = i then fr else frA k, fun k => if k = i then σ else sgA k, fun k => if k = i then v else ptr k, by simp, by simp, by simp [hne2, e3], by simp [hne2, e4], ⟨fun j o' a b c d => ?_, fun j o' a b c d => ?_⟩⟩
      · by_cases hj : j = i
        · subst hj
          rw [ho] at c; cases c
          simp only [if_true, hne, if_false, e1, e2]
          exact h1 d
        · have hj1 : ¬ j + 1 = i := by omega
          simp only [hj, hj1, if_false]
          exact ha.yes j o' (by omega) b c d
      · by_cases hj : j = i
        · subst hj
          rw [ho] at c; cases c
          simp only [if_true, hne, if_false, e1, e2]
          exact h2 d
        · have hj1 : ¬ j + 1 = i := by omega
          simp only [hj, hj1, if_false]
          exact ha.no j o' (by omega) b c d
    unfold Env.allocs at h
    rw [nbeq] at h
    by_cases h2 : cls o.op = 2
    · simp only [h2, decide_true, cond_true] at h
      split at h <;> try (simp at h; done)
      rename_i v σ1 hop
      split at h <;> try (simp at h; done)
      rename_i fr1 hput
      exact glue v fr1 σ1 (fun _ => ⟨hop, hput⟩) (fun q => absurd h2 q) h
    · simp only [h2, decide_false, cond_false] at h
      exact glue undef fr σ (fun q => absurd q h2) (fun _ => ⟨rfl, rfl⟩) h

theorem cls_two {o : Op} (h : cls o = 2) : ∃ t, o = .alloc t := by
  unfold cls at h
  split at h <;> try (simp at h; done)
  · split at h <;> simp at h
  · exact ⟨_, rfl⟩

/-- What the variable's making says. -/
theorem alloc_says {E : Env} {ρ : Operand → Value} {σ σ' : St} {o : Oper} {v : Value} {t : TypeId} (ho : o.op = .alloc t) (h : E.op ρ σ o = some (v, σ')) :
    ∃ z, (E.P.info? t).bind (·.zero) = some z ∧ flats z.cells.toList = true ∧ σ.ok z.cells.toList.length = true ∧ v = .pointer (some ⟨σ.nx, 0, none⟩) ∧ σ' = σ.new (blkOf z.cells.toList (unit E.P t)) := by
  unfold Env.op at h
  rw [ho] at h
  simp only [Env.opAlloc] at h
  split at h <;> try (simp at h; done)
  rename_i z hz
  cases hc : flats z.cells.toList && σ.ok z.cells.toList.length
  · rw [hc, cond_false] at h; cases h
  simp only [hc, cond_true, Option.some.injEq, Prod.mk.injEq] at h
  obtain ⟨hc1, hc2⟩ := (Bool.and_eq_true _ _).mp hc
  exact ⟨z, hz, hc1, hc2, h.1.symm, h.2.symm⟩

theorem Alld.step {E : Env} {ops : Array Oper} {frA : Nat → Fr} {sgA : Nat → St} {ptr : Nat → Value} (h : Alld E ops 0 ops.size frA sgA ptr) {j : Nat} (hj : j < ops.size) :
    (sgA j).nx ≤ (sgA (j + 1)).nx ∧ (∀ i, i < (sgA j).nx → (sgA (j + 1)).blk i = (sgA j).blk i) ∧ (0 ≤ (sgA j).nx → 0 ≤ (sgA (j + 1)).nx) ∧ (frA (j + 1)).n = (frA j).n := by
  have ho : ops[j]? = some ops[j] := Array.getElem?_eq_getElem hj
  by_cases hc : cls (ops[j]).op = 2
  · obtain ⟨h1, h2⟩ := h.yes j _ (by omega) hj ho hc
    obtain ⟨t, ht⟩ := cls_two hc
    obtain ⟨z, _, _, hok, _, e⟩ := alloc_says ht h1
    obtain ⟨k1, k2⟩ := St.ok_iff hok
    rw [e]
    refine ⟨by simp [St.new], fun i hi => ?_, fun _ => Nat.zero_le _, Fr.put_n h2⟩
    rw [St.blk_new, if_neg (by omega)]
  · obtain ⟨h1, h2⟩ := h.no j _ (by omega) hj ho hc
    rw [h1, h2]
    exact ⟨Nat.le_refl _, fun _ _ => rfl, fun q => q, rfl⟩
theorem Alld.steps {E : Env} {ops : Array Oper} {frA : Nat → Fr} {sgA : Nat → St} {ptr : Nat → Value} (h : Alld E ops 0 ops.size frA sgA ptr) (j : Nat) : ∀ d, j + d ≤ ops.size →
    (sgA j).nx ≤ (sgA (j + d)).nx ∧ (∀ i, i < (sgA j).nx → (sgA (j + d)).blk i = (sgA j).blk i) ∧ (0 ≤ (sgA j).nx → 0 ≤ (sgA (j + d)).nx) ∧ (frA (j + d)).n = (frA j).n
  | 0, _ => ⟨Nat.le_refl _, fun _ _ => rfl, fun q => q, rfl⟩
  | d + 1, hd => by
    obtain ⟨a, b, c, e⟩ := h.steps j d (by omega)
    obtain ⟨a', b', c', e'⟩ := h.step (j := j + d) (by omega)
    exact ⟨Nat.le_trans a a', fun i hi => (b' i (by omega)).trans (b i hi), fun q => c' (c q), e'.trans e⟩

theorem Alld.df {E : Env} {ops : Array Oper} {frA : Nat → Fr} {sgA : Nat → St} {ptr : Nat → Value} (h : Alld E ops 0 ops.size frA sgA ptr) : ∀ j, j ≤ ops.size → (frA j).df = (frA 0).df
  | 0, _ => rfl
  | j + 1, hj => by
    have hlt : j < ops.size := by omega
    have ho : ops[j]? = some ops[j] := Array.getElem?_eq_getElem hlt
    rw [← h.df j (by omega)]
    by_cases hc : cls (ops[j]).op = 2
    · exact Fr.put_df (h.yes j _ (by omega) hlt ho hc).2
    · rw [(h.no j _ (by omega) hlt ho hc).1]

def isA (ops : Array Oper) (k : Nat) : Bool := match ops[k]? with | some o => Nat.beq (cls o.op) 2 | none => false
theorem isA_iff {ops : Array Oper} {k : Nat} {o : Oper} (h : ops[k]? = some o) : isA ops k = true ↔ cls o.op = 2 := by
  unfold isA; rw [h]; simp

/-- Who put a temporary, of those made ahead. -/
theorem Alld.get {E : Env} {ops : Array Oper} {frA : Nat → Fr} {sgA : Nat → St} {ptr : Nat → Value} (h : Alld E ops 0 ops.size frA sgA ptr) (hn : (frA 0).n < 4294967296) (t : Nat) : ∀ j, j ≤ ops.size →
    (frA j).get t = rv ptr (frA 0) t (lastW (fun k => isA ops k && wr ops t k) j)
  | 0, _ => rfl
  | j + 1, hj => by
    have ih := h.get hn t j (by omega)
    have hlt : j < ops.size := by omega
    have ho : ops[j]? = some ops[j] := Array.getElem?_eq_getElem hlt
    have hnj : (frA j).n = (frA 0).n := by have := (h.steps 0 j (by omega)).2.2.2; simpa using this
    unfold lastW
    by_cases hc : cls (ops[j]).op = 2
    · obtain ⟨_, h2⟩ := h.yes j _ (by omega) hlt ho hc
      rw [(isA_iff ho).2 hc, Bool.true_and]
      cases hw : wr ops t j
      · rw [cond_false, ← ih]
        cases hd : (ops[j]).dst with
        | none => rw [hd] at h2; simp [Fr.put] at h2; rw [h2]
        | some d =>
          rw [hd] at h2
          rw [Fr.get_put (by omega) h2, if_neg]
          intro e
          rw [wr_iff.2 ⟨_, ho, by rw [hd, e]⟩] at hw; cases hw
      · rw [cond_true]
        obtain ⟨o', x1, x2⟩ := wr_iff.1 hw
        rw [ho] at x1; cases x1
        rw [x2] at h2
        rw [Fr.get_put (by omega) h2, if_pos rfl]; rfl
    · have : isA ops j = false := by
        cases hA : isA ops j
        · rfl
        · exact absurd ((isA_iff ho).1 hA) hc
      rw [this, Bool.false_and, cond_false, (h.no j _ (by omega) hlt ho hc).1, ih]

/-! who clashes -/
theorem named_dst {ops : Array Oper} {o : Oper} {t : Tmp} (h : o.dst = some t) : named ops o t = true := by simp [named, h]
theorem named_look {ops : Array Oper} {o : Oper} {t : Tmp} (h : t ∈ o.looksAt ops) : named ops o t = true := by simp [named, h]
theorem clash_left {ops : Array Oper} {x y : Oper} {t : Tmp} (h : x.dst = some t) (hy : named ops y t = true) : clash ops x y = true := by simp [clash, h, hy]
theorem clash_right {ops : Array Oper} {x y : Oper} {t : Tmp} (h : y.dst = some t) (hx : named ops x t = true) : clash ops x y = true := by simp [clash, h, hx]

theorem hasBit_zero (k : Nat) : hasBit 0 k = false := by simp [hasBit_eq]

/-! what the interpreter knows of a region -/

structure Plan (E : Env) (call : CallF) (ops : Array Oper) (fr0 : Fr) (σ0 σ1 : St) (val : Nat → Value) (frs : Nat → Fr) (sgs : Nat → St) (idf : Nat → Nat) (ch : List Nat) : Prop where
  n : fr0.n < 4294967296
  edge : ∀ i o, ops[i]? = some o → ∀ e ∈ o.after, Region.binds .any e = true → e.on < i
  order : ∀ i j o x, ops[i]? = some o → ops[j]? = some x → j < i → clash ops x o = true → hasBit ((masks [] ops.toList).getD i 0) j = true
  look : ∀ j o t, ops[j]? = some o → t ∈ o.looksAt ops → (frs j).get t = rv val fr0 t (lastW (wr ops t) j)
  dst : ∀ (j : Nat) (o : Oper) (d : Tmp), ops[j]? = some o → o.dst = some d → d < fr0.n
  nx : σ0.nx ≤ σ1.nx
  top : 0 ≤ σ0.nx → 0 ≤ σ1.nx
  same : ∀ i, i < σ0.nx → σ1.blk i = σ0.blk i
  var : ∀ j o, ops[j]? = some o → cls o.op = 2 → o.guard = none ∧ ∃ t z, o.op = .alloc t ∧ val j = .pointer (some ⟨idf j, 0, none⟩) ∧ σ0.nx ≤ idf j ∧ idf j < σ1.nx ∧ (E.P.info? t).bind (·.zero) = some z ∧ flats z.cells.toList = true ∧ 0 ≤ z.cells.toList.length ∧ σ1.blk (idf j) = some (blkOf z.cells.toList (unit E.P t))
  inj : ∀ i j o x, ops[i]? = some o → ops[j]? = some x → cls o.op = 2 → cls x.op = 2 → idf i = idf j → i = j
  want : ∀ j o, ops[j]? = some o → cls o.op ≠ 2 → wants ops (frs j) o = true → E.any call (frs j) (sgs j) o = some (.ret (val j), sgs (j + 1))
  unwant : ∀ j o, ops[j]? = some o → cls o.op ≠ 2 → wants ops (frs j) o = false → val j = undef
  start : sgs 0 = σ1
  quiet : ∀ j, j < ops.size → ¬ isC ops frs j → sgs (j + 1) = sgs j
  chC : ∀ c ∈ ch, c < ops.size ∧ isC ops frs c
  chAll : ∀ j, isC ops frs j → j ∈ ch
  chSort : ch.Pairwise (· < ·)
  chBit : ∀ k c d, ch[k]? = some c → ch[k + 1]? = some d → hasBit ((masks [] ops.toList).getD d 0) c = true
  read : ∀ j o s, ops[j]? = some o → cls o.op = 1 → wants ops (frs j) o = true → s ≤ ch.length → may (masks [] ops.toList) j s ch = true →
    E.op ((frs j).ev E.base) (sgs (ch.getD s ops.size)) o = some (val j, sgs (ch.getD s ops.size))
end Go.B
