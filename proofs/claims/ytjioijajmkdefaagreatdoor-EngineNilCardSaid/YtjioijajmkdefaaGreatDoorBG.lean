/-
  Regions that draw their order: each order that may be drawn ends as the interpreter says.
-/
import Derived.Test.YtjioijajmkdefaaGreatDoorBF
import Derived.Orders
namespace Go.B
open Go

def L (listed : Array Bool) (k : Nat) : Bool := listed.getD k false

theorem L_set {listed : Array Bool} {i : Nat} (hi : i < listed.size) (k : Nat) : L (listed.setIfInBounds i true) k = (L listed k || decide (k = i)) := by
  unfold L
  rw [Array.getD_eq_getD_getElem?, Array.getD_eq_getD_getElem?, Array.getElem?_setIfInBounds]
  by_cases h : i = k
  · subst h; simp [hi]
  · have : ¬ k = i := fun e => h e.symm
    simp [h, this]

theorem wants_congr {ops : Array Oper} {fr fr' : Fr} {o : Oper} (h : ∀ t ∈ o.looksAt ops, fr.get t = fr'.get t) : wants ops fr o = wants ops fr' o := by
  unfold wants
  cases hg : o.guard with
  | none => rfl
  | some p =>
    obtain ⟨j, b⟩ := p
    simp only
    cases hd : (ops[j]?).bind (·.dst) with
    | none => rfl
    | some d =>
      simp only
      have := h d (by simp [Oper.looksAt, hg, hd])
      unfold Fr.get at this
      rw [this]

theorem thrown_congr {ρ ρ' : Operand → Value} {o : Oper} (h : ∀ x ∈ o.op.operands, ρ x = ρ' x) : thrown ρ o = thrown ρ' o := by
  have key : ∀ x, (match o.op with
    | .panic x => some x
    | .call c => (match c.callee, c.args.toList with | .builtin .panic, [x] => some x | _, _ => none)
    | _ => none) = some x → x ∈ o.op.operands := by
    intro x hx
    split at hx
    · rename_i y ho
      rw [ho]; simp only [Option.some.injEq] at hx; subst hx; simp [Op.operands]
    · rename_i c ho
      split at hx <;> try (simp at hx; done)
      rename_i y hc ha
      simp only [Option.some.injEq] at hx; subst hx
      rw [ho]
      have : y ∈ c.args := by rw [← Array.mem_toList_iff, ha]; simp
      simp [Op.operands, Call.operands, hc, this]
    · cases hx
  unfold thrown
  split
  · rename_i x hx
    rw [h x (key x hx)]
  · rfl
theorem any_congr {E : Env} {call : CallF} {ops : Array Oper} {fr fr' : Fr} {σ : St} {o : Oper} (h : ∀ t ∈ o.looksAt ops, fr.get t = fr'.get t) : E.any call fr σ o = E.any call fr' σ o := by
  have hx : ∀ x ∈ o.op.operands, fr.ev E.base x = fr'.ev E.base x := fun x hx => by
    cases x with
    | tmp t => exact h t (List.mem_append_left _ (List.mem_filterMap.2 ⟨.tmp t, by simpa using hx, rfl⟩))
    | _ => rfl
  unfold Env.any
  rw [op_congr hx, callee_congr hx]
  cases hi : isCall o
  · simp only [cond_false]
    rw [thrown_congr hx]
  · have hs : sel o.op = false := by
      unfold isCall at hi
      split at hi
      · rename_i c ho; rw [ho]; rfl
      · cases hi
    simp only [cond_true, ext_congr hx hs]

theorem alloc_run {P : Program} {ρ : Operand → Value} {o : Oper} {t : TypeId} (ho : o.op = .alloc t) {z : Value} (hz : (P.info? t).bind (·.zero) = some z) (w : World) :
    Did ((execOp ρ o).run P w) (.pointer (some ⟨w.heap.size, 0, none⟩)) (w.alloc (.cells z.cells t)) := by
  cases hi : P.info? t with
  | none => rw [hi] at hz; simp at hz
  | some i =>
    rw [hi] at hz
    simp only [Option.bind_some] at hz
    unfold execOp; rw [ho]
    exact did_v (by simp [Instr.alloc, zeroValue, typeInfo, hi, hz, newVar, newRow])

structure Inv (E : Env) (w0 : World) (ops : Array Oper) (M0 : Mp) (fr0 : Fr) (σ0 σ1 : St) (val : Nat → Value) (sgs : Nat → St) (idf : Nat → Nat) (ch : List Nat) (listed : Array Bool) (a : Act) (w : World) (M : Mp) (s : Nat) (frL : Fr) : Prop where
  size : listed.size = ops.size
  closed : ∀ j, L listed j = true → ∀ k, hasBit ((masks [] ops.toList).getD j 0) k = true → L listed k = true
  sle : s ≤ ch.length
  ctl : ∀ k c, ch[k]? = some c → (L listed c = true ↔ k < s)
  stp : Stp M0 M σ0 (sgs (ch.getD s ops.size))
  rel : Rel E.P w0 M (sgs (ch.getD s ops.size)) w
  fr : FR M frL a
  frn : frL.n = fr0.n
  frdf : frL.df = fr0.df
  val : ∀ t, frL.get t = rv val fr0 t (lastW (fun k => L listed k && wr ops t k) ops.size)
  todo : ∀ j o, ops[j]? = some o → cls o.op = 2 → L listed j = false → ¬ M.al (idf j) ∧ (sgs (ch.getD s ops.size)).blk (idf j) = σ1.blk (idf j) ∧ idf j < (sgs (ch.getD s ops.size)).nx

section
variable {E : Env} {w0 : World} {call : CallF} {ops : Array Oper} {M0 : Mp} {fr0 : Fr} {σ0 σ1 : St} {val : Nat → Value} {frs : Nat → Fr} {sgs : Nat → St} {idf : Nat → Nat} {ch : List Nat} {listed : Array Bool} {a : Act} {w : World} {M : Mp} {s : Nat} {frL : Fr}

/-- What stands ahead of one that is ready is listed. -/
theorem ready_pre (pl : Plan E call ops fr0 σ0 σ1 val frs sgs idf ch) (hcl : ∀ j, L listed j = true → ∀ k, hasBit ((masks [] ops.toList).getD j 0) k = true → L listed k = true) {i : Nat} {o : Oper} (ho : ops[i]? = some o)
    (hpre : ∀ e ∈ o.after, Region.binds .any e = true → L listed e.on = true) {k : Nat} (h : hasBit ((masks [] ops.toList).getD i 0) k = true) : L listed k = true := by
  obtain ⟨e, e1, e2, e3⟩ := masks_bit ho (pl.edge i o ho) h
  rcases e3 with rfl | e3
  · exact hpre e e1 e2
  · exact hcl _ (hpre e e1 e2) k e3

/-- The temporaries that one looks at hold what they held in the order of the text. -/
theorem look_eq (pl : Plan E call ops fr0 σ0 σ1 val frs sgs idf ch) (iv : Inv E w0 ops M0 fr0 σ0 σ1 val sgs idf ch listed a w M s frL) {i : Nat} {o : Oper} (ho : ops[i]? = some o) (hun : L listed i = false)
    (hpre : ∀ e ∈ o.after, Region.binds .any e = true → L listed e.on = true) : ∀ t ∈ o.looksAt ops, frL.get t = (frs i).get t := by
  intro t ht
  have hlt : i < ops.size := (Array.getElem?_eq_some_iff.1 ho).1
  rw [iv.val, pl.look i o t ho ht, ← lastW_cut (p := wr ops t) (Nat.le_of_lt hlt)]
  congr 1
  refine lastW_congr fun k hk => ?_
  cases hw : wr ops t k
  · simp
  · rw [Bool.and_true, Bool.and_true]
    obtain ⟨x, y1, y2⟩ := wr_iff.1 hw
    rcases Nat.lt_trichotomy k i with h | h | h
    · rw [decide_eq_true h]
      exact ready_pre pl iv.closed ho hpre (pl.order i k o x ho y1 h (clash_left y2 (named_look ht)))
    · subst h; rw [hun]; simp
    · have : ¬ k < i := by omega
      rw [decide_eq_false this]
      cases hL : L listed k
      · rfl
      · have := iv.closed k hL i (pl.order k i x o y1 ho h (clash_right y2 (named_look ht)))
        rw [hun] at this; cases this

/-- One more is listed. -/
theorem Inv.list (pl : Plan E call ops fr0 σ0 σ1 val frs sgs idf ch) (iv : Inv E w0 ops M0 fr0 σ0 σ1 val sgs idf ch listed a w M s frL) {i : Nat} {o : Oper} (ho : ops[i]? = some o) (hun : L listed i = false)
    (hpre : ∀ e ∈ o.after, Region.binds .any e = true → L listed e.on = true) {M' : Mp} {w' : World} {s' : Nat} {v' : Value} (hv : V M' (val i) v') (hle : M.le M') (hstp : Stp M0 M' σ0 (sgs (ch.getD s' ops.size))) (hrel : Rel E.P w0 M' (sgs (ch.getD s' ops.size)) w')
    (hs : s' ≤ ch.length) (hctl : ∀ k c, ch[k]? = some c → ((L listed c = true ∨ c = i) ↔ k < s'))
    (htodo : ∀ j x, ops[j]? = some x → cls x.op = 2 → L listed j = false → j ≠ i → ¬ M'.al (idf j) ∧ (sgs (ch.getD s' ops.size)).blk (idf j) = σ1.blk (idf j) ∧ idf j < (sgs (ch.getD s' ops.size)).nx) :
    ∃ frL', Inv E w0 ops M0 fr0 σ0 σ1 val sgs idf ch (listed.setIfInBounds i true) (a.put o.dst v') w' M' s' frL' := by
  have hlt : i < ops.size := (Array.getElem?_eq_some_iff.1 ho).1
  have hls : i < listed.size := by rw [iv.size]; exact hlt
  obtain ⟨frL', hput⟩ : ∃ frL', frL.put o.dst (val i) = some frL' := by
    cases hd : o.dst with
    | none => exact ⟨frL, rfl⟩
    | some d =>
      have : d < frL.n := by rw [iv.frn]; exact pl.dst i o d ho hd
      exact ⟨_, by simp only [Fr.put, blt_iff, this, decide_true, cond_true]; rfl⟩
  have hfn : frL.n < 4294967296 := by rw [iv.frn]; exact pl.n
  refine ⟨frL', ⟨by simpa using iv.size, fun j hj k hk => ?_, hs, fun k c hc => ?_, hstp, hrel, (iv.fr.mono hle).put hfn hv hput, (Fr.put_n hput).trans iv.frn, (Fr.put_df hput).trans iv.frdf, fun t => ?_, fun j x hx hc hj => ?_⟩⟩
  · rw [L_set hls, Bool.or_eq_true, decide_eq_true_eq] at hj ⊢
    rcases hj with hj | rfl
    · exact .inl (iv.closed j hj k hk)
    · exact .inl (ready_pre pl iv.closed ho hpre hk)
  · rw [L_set hls, Bool.or_eq_true, decide_eq_true_eq]; exact hctl k c hc
  · cases hw : wr ops t i
    · have h1 : frL'.get t = frL.get t := by
        cases hd : o.dst with
        | none => rw [hd] at hput; simp only [Fr.put, Option.some.injEq] at hput; rw [hput]
        | some d =>
          rw [hd] at hput
          rw [Fr.get_put hfn hput, if_neg]
          intro e
          rw [wr_iff.2 ⟨o, ho, by rw [hd, e]⟩] at hw; cases hw
      rw [h1, iv.val]
      congr 1
      refine lastW_congr fun k hk => ?_
      rw [L_set hls]
      by_cases e : k = i
      · subst e; rw [hw]; simp
      · simp [e]
    · obtain ⟨x, y1, y2⟩ := wr_iff.1 hw
      rw [ho] at y1; cases y1
      rw [y2] at hput
      rw [Fr.get_put hfn hput, if_pos rfl, lastW_eq hlt (by rw [L_set hls, hw]; simp) fun j hj hjn => ?_]
      · rfl
      · cases hwj : wr ops t j
        · simp
        · obtain ⟨x, z1, z2⟩ := wr_iff.1 hwj
          rw [Bool.and_true, L_set hls]
          have hne : ¬ j = i := by omega
          rw [decide_eq_false hne, Bool.or_false]
          cases hL : L listed j
          · rfl
          · have := iv.closed j hL i (pl.order j i x o z1 ho hj (clash_left y2 (named_dst z2)))
            rw [hun] at this; cases this
  · rw [L_set hls, Bool.or_eq_false_iff, decide_eq_false_iff_not] at hj
    exact htodo j x hx hc hj.1 hj.2

theorem may_true {ms : List Nat} {i : Nat} : ∀ {ch : List Nat} {s : Nat}, (∀ k d, ch[k]? = some d → k < s → hasBit (ms.getD d 0) i = false) → (∀ k d, ch[k]? = some d → s ≤ k → hasBit (ms.getD i 0) d = false) → may ms i s ch = true
  | [], s, _, _ => by cases s <;> rfl
  | d :: r, 0, h1, h2 => by
    have a := h2 0 d rfl (Nat.zero_le _)
    simp only [may, Bool.and_eq_true, Bool.not_eq_true', a, true_and]
    exact may_true (fun k e hk hlt => by omega) (fun k e hk _ => h2 (k + 1) e (by simpa using hk) (Nat.zero_le _))
  | d :: r, s + 1, h1, h2 => by
    have a := h1 0 d rfl (by omega)
    simp only [may, Bool.and_eq_true, Bool.not_eq_true', a, true_and]
    exact may_true (fun k e hk hlt => h1 (k + 1) e (by simpa using hk) (by omega)) (fun k e hk hle => h2 (k + 1) e (by simpa using hk) (by omega))

/-- Each order. -/
theorem any_order (hE : E.ok w0) (hc : CallOK E w0 call) (hb0 : M0.base = E.base) (hnx0 : M0.base ≤ σ0.nx) (hok : ops.toList.all (okOper E.base) = true) (pl : Plan E call ops fr0 σ0 σ1 val frs sgs idf ch) {Q : Exit → Act → World → Prop}
    (hQ : ∀ M frL a w, FR M frL a → frL.n = fr0.n → frL.df = fr0.df → (∀ t, frL.get t = rv val fr0 t (lastW (wr ops t) ops.size)) → Rel E.P w0 M (sgs ops.size) w → Stp M0 M σ0 (sgs ops.size) → Q .normal a w) :
    ∀ (fuel : Nat) (listed : Array Bool) (a : Act) (w : World) (M : Mp) (s : Nat) (frL : Fr), cntU (L listed) ops.size ≤ fuel → Inv E w0 ops M0 fr0 σ0 σ1 val sgs idf ch listed a w M s frL → wpAny E.P .any ops Q fuel listed a w := by
  have done : ∀ (listed : Array Bool) (a : Act) (w : World) (M : Mp) (s : Nat) (frL : Fr), Inv E w0 ops M0 fr0 σ0 σ1 val sgs idf ch listed a w M s frL → (∀ k, k < ops.size → L listed k = true) → Q .normal a w := by
    intro listed a w M s frL iv hall
    have hs : s = ch.length := by
      rcases Nat.lt_or_ge s ch.length with h | h
      · have e : ch[s]? = some ch[s] := List.getElem?_eq_getElem h
        have := (iv.ctl s _ e).1 (hall _ (pl.chC _ (List.getElem_mem h)).1)
        omega
      · have := iv.sle; omega
    have hC : ch.getD s ops.size = ops.size := by rw [List.getD_eq_getElem?_getD, hs]; simp
    have h1 := iv.rel
    have h2 := iv.stp
    rw [hC] at h1 h2
    refine hQ M frL a w iv.fr iv.frn iv.frdf (fun t => ?_) h1 h2
    rw [iv.val]
    congr 1
    exact lastW_congr fun k hk => by rw [hall k hk, Bool.true_and]
  have noReady : ∀ (listed : Array Bool), listed.size = ops.size → Region.ready .any ops listed = [] → ∀ k, k < ops.size → L listed k = true := by
    intro listed hsz hr k
    induction k using Nat.strongRecOn with
    | ind k ih =>
      intro hk
      cases hL : L listed k
      · have ho : ops[k]? = some ops[k] := Array.getElem?_eq_getElem hk
        have hmem : k ∈ Region.ready .any ops listed := mem_ready.2 ⟨by
          have hk' : k < listed.size := by omega
          unfold L at hL
          rw [Array.getD_eq_getD_getElem?, Array.getElem?_eq_getElem hk'] at hL ⊢
          simpa using hL, _, ho, fun e he hb => by
          have := pl.edge k _ ho e he hb
          exact ih e.on this (by omega)⟩
        rw [hr] at hmem; simp at hmem
      · rfl
  intro fuel
  induction fuel with
  | zero =>
    intro listed a w M s frL hcnt iv
    have hall := cntU_zero (Nat.le_zero.1 hcnt)
    refine ⟨?_, done listed a w M s frL iv hall⟩
    cases hr : Region.ready .any ops listed with
    | nil => rfl
    | cons j r =>
      have hj : j ∈ Region.ready .any ops listed := by rw [hr]; simp
      obtain ⟨h0, o, ho, _⟩ := mem_ready.1 hj
      have hlt : j < ops.size := (Array.getElem?_eq_some_iff.1 ho).1
      have := hall j hlt
      have hk' : j < listed.size := by rw [iv.size]; exact hlt
      unfold L at this
      rw [Array.getD_eq_getD_getElem?, Array.getElem?_eq_getElem hk'] at this h0
      simp at this h0
      rw [this] at h0; cases h0
  | succ fuel ih =>
    intro listed a w M s frL hcnt iv
    refine ⟨fun hr => done listed a w M s frL iv (noReady listed iv.size hr), fun i hi => ?_⟩
    obtain ⟨h0, o, ho, hpre⟩ := mem_ready.1 hi
    have hlt : i < ops.size := (Array.getElem?_eq_some_iff.1 ho).1
    have hls : i < listed.size := by rw [iv.size]; exact hlt
    have hun : L listed i = false := by
      unfold L
      rw [Array.getD_eq_getD_getElem?, Array.getElem?_eq_getElem hls] at h0 ⊢
      simpa using h0
    have hpre' : ∀ e ∈ o.after, Region.binds .any e = true → L listed e.on = true := hpre
    have hlook := look_eq pl iv ho hun hpre'
    have hcnt' : cntU (L (listed.setIfInBounds i true)) ops.size ≤ fuel := by
      have := cntU_lt (L := L listed) (L' := L (listed.setIfInBounds i true)) (fun k hk => by rw [L_set hls, hk]; rfl) hun (by rw [L_set hls]; simp) ops.size hlt
      omega
    have hb : M.base = E.base := iv.stp.le.base.trans hb0
    have hoko : okOper E.base o = true := List.all_eq_true.1 hok o (Array.mem_toList_iff.2 (Array.mem_of_getElem? ho))
    have hwe := wants_eq iv.fr ops o
    rw [wants_congr hlook] at hwe
    -- going on with no other turned
    have goOn : (∀ c ∈ ch, c ≠ i) → ∀ M' v' w', V M' (val i) v' → M.le M' → Stp M0 M' σ0 (sgs (ch.getD s ops.size)) → Rel E.P w0 M' (sgs (ch.getD s ops.size)) w' →
        (∀ j x, ops[j]? = some x → cls x.op = 2 → L listed j = false → j ≠ i → ¬ M'.al (idf j)) → wpAny E.P .any ops Q fuel (listed.setIfInBounds i true) (a.put o.dst v') w' := by
      intro hne M' v' w' hv hle hstp hrel htd
      obtain ⟨frL', iv'⟩ := iv.list pl ho hun hpre' hv hle hstp hrel iv.sle (fun k c hk => by
        have := hne c (List.mem_of_getElem? hk)
        rw [← iv.ctl k c hk]
        exact ⟨fun h => h.elim id fun e => absurd e this, .inl⟩) (fun j x hx hcx hj hji => by
        obtain ⟨_, t2, t3⟩ := iv.todo j x hx hcx hj
        exact ⟨htd j x hx hcx hj hji, t2, t3⟩)
      exact ih _ _ _ M' s frL' hcnt' iv'
    have noAl : ∀ M' σ', Stp M M' (sgs (ch.getD s ops.size)) σ' → ∀ j x, ops[j]? = some x → cls x.op = 2 → L listed j = false → ¬ M'.al (idf j) := by
      intro M' σ' hs j x hx hcx hj hal
      obtain ⟨t1, _, t3⟩ := iv.todo j x hx hcx hj
      rcases hs.al _ hal with h | h
      · exact t1 h
      · omega
    unfold wpOp
    rw [ho]
    simp only
    rw [← hwe]
    by_cases h2 : cls o.op = 2
    · -- a variable
      obtain ⟨hg, t, z, z1, z2, z3, z4, z5, z6, z7, z8⟩ := pl.var i o ho h2
      have hw : wants ops (frs i) o = true := by simp [wants, hg]
      rw [hw, if_pos rfl]
      obtain ⟨t1, t2, t3⟩ := iv.todo i o ho h2 hun
      have hbase : M.base ≤ idf i := by
        rw [hb]
        omega
      have hnC : ∀ c ∈ ch, c ≠ i := fun c hc e => by
        subst e
        obtain ⟨o', x1, x2, _⟩ := (pl.chC c hc).2
        rw [ho] at x1; cases x1; omega
      have hle : M.le (M.push (idf i) w.heap.size 0 (E.P.cellsOf (unit E.P t)) z.cells.size) := Mp.push_le t1
      have hrel := Rel.push iv.rel (i := idf i) (sz := E.P.cellsOf (unit E.P t)) (lim := z.cells.size) (o := .cells z.cells t) t1 hbase (Nat.le_refl _) t3 (t2.trans z8) (fun _ _ => rfl) (by
        refine ⟨z.cells, (0, 0), t, thaw_zero _, by show (w.heap.push _)[w.heap.size]? = _; simp, by simp [Mp.push], by simp [Mp.push], by simp, fun k hk' => ?_⟩
        have hv : z.cells.toList[k]? = some z.cells.toList[k] := List.getElem?_eq_getElem hk'
        obtain ⟨v', e1, e2⟩ := (VL.of_flats (M := M.push (idf i) w.heap.size 0 (E.P.cellsOf (unit E.P t)) z.cells.size) z6).get k _ hv
        refine ⟨z.cells.toList[k], v', by rw [get_blkOf hk', hv], ?_, e2⟩
        rw [Nat.zero_add, ← Array.getElem?_toList]; exact e1)
      have hst : Stp M0 (M.push (idf i) w.heap.size 0 (E.P.cellsOf (unit E.P t)) z.cells.size) σ0 (sgs (ch.getD s ops.size)) :=
        ⟨iv.stp.le.trans hle, iv.stp.nx, fun j hj => by
          rcases hj with hj | rfl
          · exact iv.stp.al j hj
          · exact .inr ⟨z3, t3⟩, iv.stp.unt⟩
      have hgo := goOn hnC _ (.pointer (some ⟨w.heap.size, 0, none⟩)) _ (by
        rw [z2]
        exact .ptr _ _ (.inr ⟨hbase, .inr rfl, rfl, fun g d e => by simp [Mp.push] at e; obtain ⟨rfl, rfl⟩ := e; rfl⟩)) hle hst hrel (fun j x hx hcx hj hji hal => by
        rcases hal with hal | hal
        · exact (iv.todo j x hx hcx hj).1 hal
        · exact hji (pl.inj j i x o hx ho hcx h2 hal))
      refine .inl ?_
      unfold Oper.wp
      rcases alloc_run (P := E.P) (ρ := a.eval) z1 z5 w with hd | ⟨hd, hu⟩
      · rw [hd]; exact hgo
      · cases hu
    · rcases Bool.eq_false_or_eq_true (wants ops (frs i) o) with hw | hw
      · rw [hw, if_pos rfl]
        have hany := pl.want i o ho h2 hw
        by_cases h3 : cls o.op = 3
        · -- one of the chain
          have hiC : isC ops frs i := ⟨o, ho, h3, hw⟩
          obtain ⟨m, hm⟩ := List.getElem?_of_mem (pl.chAll i hiC)
          have hms : s ≤ m := by
            rcases Nat.lt_or_ge m s with h | h
            · have := (iv.ctl m i hm).2 h; rw [hun] at this; cases this
            · exact h
          have hm' : m = s := by
            rcases Nat.eq_or_lt_of_le hms with h | h
            · exact h.symm
            · exfalso
              have hml : m < ch.length := (List.getElem?_eq_some_iff.1 hm).1
              have e1 : ch[m - 1]? = some ch[m - 1] := List.getElem?_eq_getElem (by omega)
              have hbit := pl.chBit (m - 1) _ i e1 (by rw [show m - 1 + 1 = m by omega]; exact hm)
              have := (iv.ctl _ _ e1).1 (ready_pre pl iv.closed ho hpre' hbit)
              omega
          subst hm'
          have hsl : m < ch.length := (List.getElem?_eq_some_iff.1 hm).1
          have hCs : ch.getD m ops.size = i := by rw [List.getD_eq_getElem?_getD, hm]; rfl
          have hnext : sgs (ch.getD (m + 1) ops.size) = sgs (i + 1) := flatTo pl.quiet pl.chAll pl.chSort (fun c hc => (pl.chC c hc).1) (by omega) ⟨fun k c hk hc => by
            rcases Nat.eq_or_lt_of_le (Nat.le_of_lt_succ hk) with h | h
            · subst h; rw [hm] at hc; cases hc; omega
            · have := pair_lt pl.chSort h hc hm; omega, fun k c hk hc => by
            have := pair_lt pl.chSort hk hm hc; omega⟩
          have hrel := iv.rel
          have hstp := iv.stp
          have htd := iv.todo
          rw [hCs] at hrel hstp htd noAl
          refine .inl (any_sim hE hc hb iv.fr hrel hoko (by rw [any_congr hlook]; exact hany) (fun M' v0 v' w' he hv hr' hs => ?_) (fun _ _ _ _ he => by cases he))
          cases he
          obtain ⟨frL', iv'⟩ := iv.list pl (s' := m + 1) ho hun hpre' hv hs.le (by rw [hnext]; exact hstp.trans hs) (by rw [hnext]; exact hr') (by omega) (fun k c hk => by
            constructor
            · rintro (h | rfl)
              · have := (iv.ctl k c hk).1 h; omega
              · rcases Nat.lt_trichotomy k m with h | h | h
                · omega
                · omega
                · have := pair_lt pl.chSort h hm hk; omega
            · intro h
              rcases Nat.eq_or_lt_of_le (Nat.le_of_lt_succ h) with h | h
              · subst h; rw [hm] at hk; cases hk; exact .inr rfl
              · exact .inl ((iv.ctl k c hk).2 h)) (fun j x hx hcx hj hji => by
            obtain ⟨t1, t2, t3⟩ := htd j x hx hcx hj
            rw [hnext]
            exact ⟨noAl M' _ hs j x hx hcx hj, (hs.unt _ t3 t1).trans t2, Nat.lt_of_lt_of_le t3 hs.nx⟩)
          exact ih _ _ _ M' (m + 1) frL' hcnt' iv'
        · -- one that turns nothing
          have hnC : ∀ c ∈ ch, c ≠ i := fun c hc e => by
            subst e
            obtain ⟨o', x1, x2, _⟩ := (pl.chC c hc).2
            rw [ho] at x1; cases x1; exact h3 x2
          have hany' : E.any call frL (sgs (ch.getD s ops.size)) o = some (.ret (val i), sgs (ch.getD s ops.size)) := by
            rw [any_congr hlook, any_op h3]
            rw [any_op h3] at hany
            have hany := retd_ret hany
            refine congrArg retd (a₂ := some (val i, sgs (ch.getD s ops.size))) ?_
            by_cases h1 : cls o.op = 1
            · refine pl.read i o s ho h1 hw iv.sle (may_true (fun k d hk hlt' => ?_) (fun k d hk hle => ?_))
              · cases hbit : hasBit ((masks [] ops.toList).getD d 0) i
                · rfl
                · have := iv.closed d ((iv.ctl k d hk).2 hlt') i hbit
                  rw [hun] at this; cases this
              · cases hbit : hasBit ((masks [] ops.toList).getD i 0) d
                · rfl
                · have := (iv.ctl k d hk).1 (ready_pre pl iv.closed ho hpre' hbit)
                  omega
            · exact (op_cls0 (by have := cls_le o.op; omega) hany _).2
          refine .inl (any_sim hE hc hb iv.fr iv.rel hoko hany' (fun M' v0 v' w' he hv hr' hs => ?_) (fun _ _ _ _ he => by cases he))
          cases he
          exact goOn hnC M' v' w' hv hs.le (iv.stp.trans hs) hr' fun j x hx hcx hj _ => noAl M' _ hs j x hx hcx hj
      · rw [hw, if_neg (by simp)]
        have hnC : ∀ c ∈ ch, c ≠ i := fun c hc e => by
          subst e
          obtain ⟨o', x1, _, x3⟩ := (pl.chC c hc).2
          rw [ho] at x1; cases x1; rw [hw] at x3; cases x3
        have hval := pl.unwant i o ho h2 hw
        exact goOn hnC M undef w (by rw [hval]; exact V.of_flatter rfl) (.refl M) iv.stp iv.rel fun j x hx hcx hj _ => (iv.todo j x hx hcx hj).1
end
end Go.B
