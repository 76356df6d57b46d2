/-
  Regions that draw their order: an operation hangs on its operands alone; those that turn nothing.
-/
import Derived.Test.YtjioijajmkdefaaGreatDoorBB
namespace Go.B
open Go

section
variable {E : Env} {σ : St} {ρ ρ' : Operand → Value} {o : Oper}

theorem map_congr {ρ ρ' : Operand → Value} : ∀ {l : List Operand}, (∀ x ∈ l, ρ x = ρ' x) → l.map ρ = l.map ρ'
  | [], _ => rfl
  | x :: l, h => by rw [List.map_cons, List.map_cons, h x (by simp), map_congr fun y hy => h y (by simp [hy])]
theorem parts_congr {ρ ρ' : Operand → Value} : ∀ {l : List (Nat × Operand)}, (∀ p ∈ l, ρ p.2 = ρ' p.2) → (l.map fun p => (p.1, ρ p.2)) = l.map fun p => (p.1, ρ' p.2)
  | [], _ => rfl
  | x :: l, h => by rw [List.map_cons, List.map_cons, h x (by simp), parts_congr fun y hy => h y (by simp [hy])]

theorem plain_congr (h : ∀ x ∈ o.op.operands, ρ x = ρ' x) : E.plain ρ o = E.plain ρ' o := by
  unfold Env.plain
  cases hs : sel o.op
  · have e : execOp ρ o = execOp ρ' o := execOp_congr o (fun cs b e => by rw [e] at hs; simp [sel] at hs) h
    have e2 : o.op.operands.toList.all (fun x => flatter (ρ x)) = o.op.operands.toList.all (fun x => flatter (ρ' x)) := by
      rw [Bool.eq_iff_iff, List.all_eq_true, List.all_eq_true]
      exact ⟨fun a x hx => by rw [← h x (Array.mem_toList_iff.1 hx)]; exact a x hx, fun a x hx => by rw [h x (Array.mem_toList_iff.1 hx)]; exact a x hx⟩
    rw [e, e2]
  · rfl

theorem op_congr (h : ∀ x ∈ o.op.operands, ρ x = ρ' x) : E.op ρ σ o = E.op ρ' σ o := by
  have hp := plain_congr (E := E) h
  unfold Env.op
  split
  · rename_i x ho; rw [h x (by simp [ho, Op.operands])]
  · rename_i x ho; rw [h x (by simp [ho, Op.operands])]
  · rename_i c a b ho; simp only [Env.opPick]; rw [h c (by simp [ho, Op.operands]), h a (by simp [ho, Op.operands]), h b (by simp [ho, Op.operands])]
  · rename_i t x ho; simp only [Env.opLoad]; rw [h x (by simp [ho, Op.operands])]
  · rename_i t x y ho; simp only [Env.opStore]; rw [h x (by simp [ho, Op.operands]), h y (by simp [ho, Op.operands])]
  · rfl
  · rename_i t x ho; simp only [Env.opBox]; rw [h x (by simp [ho, Op.operands])]
  · rename_i t ps ho
    have := parts_congr (ρ := ρ) (ρ' := ρ') (l := ps.toList) fun p hp => h p.2 (by simp [ho, Op.operands]; exact ⟨p.1, by simpa using hp⟩)
    simp only [Env.opBuild, this]
  · rename_i t n ps ho
    have := parts_congr (ρ := ρ) (ρ' := ρ') (l := ps.toList) fun p hp => h p.2 (by simp [ho, Op.operands]; exact ⟨p.1, by simpa using hp⟩)
    simp only [Env.opBuildSlice, this]
  · rename_i x ho; simp only [Env.opNil]; rw [h x (by simp [ho, Op.operands])]
  · rename_i s x f ho; simp only [Env.opField]; rw [h x (by simp [ho, Op.operands])]
  · rename_i t x i ho; simp only [Env.opIndex]; rw [h x (by simp [ho, Op.operands]), h i (by simp [ho, Op.operands])]
  · rename_i t x lo hi mx ho
    have h1 : lo.map ρ = lo.map ρ' := by cases lo with | none => rfl | some y => simp [h y (by simp [ho, Op.operands])]
    have h2 : hi.map ρ = hi.map ρ' := by cases hi with | none => rfl | some y => simp [h y (by simp [ho, Op.operands])]
    have h3 : mx.map ρ = mx.map ρ' := by cases mx with | none => rfl | some y => simp [h y (by simp [ho, Op.operands])]
    simp only [Env.opSlice, Env.opSliceA, hp, h1, h2, h3]; rw [h x (by simp [ho, Op.operands])]
  · rename_i x i ho; simp only [Env.opExtract]; rw [h x (by simp [ho, Op.operands])]
  · rename_i t x f ho; simp only [Env.opPart]; rw [h x (by simp [ho, Op.operands])]
  · rename_i t x i ho; simp only [Env.opAt, hp]; rw [h x (by simp [ho, Op.operands]), h i (by simp [ho, Op.operands])]
  · rename_i fn a b ho
    have h1 := map_congr (ρ := ρ) (ρ' := ρ') (l := a.toList) fun x hx => h x (by simp [ho, Op.operands]; left; simpa using hx)
    have h2 := map_congr (ρ := ρ) (ρ' := ρ') (l := b.toList) fun x hx => h x (by simp [ho, Op.operands]; right; simpa using hx)
    simp only [Env.opFunc, h1, h2]
  · rename_i t l c ho; simp only [Env.opMake]; rw [h l (by simp [ho, Op.operands]), h c (by simp [ho, Op.operands])]
  · rfl
  · rename_i t x i ok ho; simp only [Env.opLookup]; rw [h x (by simp [ho, Op.operands]), h i (by simp [ho, Op.operands])]
  · rename_i t x i y ho; simp only [Env.opUpdate]; rw [h x (by simp [ho, Op.operands]), h i (by simp [ho, Op.operands]), h y (by simp [ho, Op.operands])]
  · rename_i t x ho; simp only [Env.opRange]; rw [h x (by simp [ho, Op.operands])]
  · rename_i x s ho; simp only [Env.opNext]; rw [h x (by simp [ho, Op.operands])]
  · rename_i x ho; simp only [Env.opEntry]; rw [h x (by simp [ho, Op.operands])]
  · rename_i s d x ho; simp only [Env.opString, hp]; rw [h x (by simp [ho, Op.operands])]
  · rename_i op t x y ty ho; simp only [Env.opQuick, Env.opEq, hp]; rw [h x (by simp [ho, Op.operands]), h y (by simp [ho, Op.operands])]
  · rw [hp]
  · rw [hp]
  · rw [hp]
  · rename_i c ho
    have hargs : ∀ x ∈ c.args.toList, ρ x = ρ' x := fun x hx => h x (by simp [ho, Op.operands, Call.operands]; right; simpa using hx)
    split
    · split
      · rename_i s x t tx h2 h3
        rw [h2] at hargs
        simp only [Env.opAppend]; rw [hargs s (by simp), hargs x (by simp)]
      · rfl
    · split
      · rename_i x y t ty h2 h3
        rw [h2] at hargs
        simp only [Env.opCopy]; rw [hargs x (by simp), hargs y (by simp)]
      · rfl
    · split
      · rename_i x i t ty h2 h3
        rw [h2] at hargs
        simp only [Env.opDelete]; rw [hargs x (by simp), hargs i (by simp)]
      · rfl
    · split
      · rename_i x t h2 h3
        rw [h2] at hargs
        simp only [Env.opLen, Env.opLenMap, hp]; rw [hargs x (by simp)]
      · rfl
    · rw [hp]
    · rw [hp]
    · rfl
  · rfl

theorem callee_congr (h : ∀ x ∈ o.op.operands, ρ x = ρ' x) : Env.callee ρ o = Env.callee ρ' o := by
  unfold Env.callee
  split
  · rename_i c ho
    have hargs : ∀ x ∈ c.args.toList, ρ x = ρ' x := fun x hx => h x (by simp [ho, Op.operands, Call.operands]; right; simpa using hx)
    split
    · rename_i f hf
      rw [h f (by simp [ho, Op.operands, Call.operands, hf]), map_congr hargs]
    · rfl
  · rfl

theorem ext_congr (h : ∀ x ∈ o.op.operands, ρ x = ρ' x) (hs : sel o.op = false) : E.ext ρ o = E.ext ρ' o := by
  unfold Env.ext
  have e : execOp ρ o = execOp ρ' o := execOp_congr o (fun cs b e => by rw [e] at hs; simp [sel] at hs) h
  have e2 : o.op.operands.toList.all (fun x => flatF (ρ x)) = o.op.operands.toList.all (fun x => flatF (ρ' x)) := by
    rw [Bool.eq_iff_iff, List.all_eq_true, List.all_eq_true]
    exact ⟨fun a x hx => by rw [← h x (Array.mem_toList_iff.1 hx)]; exact a x hx, fun a x hx => by rw [h x (Array.mem_toList_iff.1 hx)]; exact a x hx⟩
  rw [e, e2]

theorem keep_keep {σ σ' σ1 : St} {x : Option Value} {v : Value} (h : keep σ x = some (v, σ1)) : σ1 = σ ∧ keep σ' x = some (v, σ') := by
  obtain ⟨h1, h2⟩ := keep_some h
  exact ⟨h2, by rw [h1]; rfl⟩

/-- Those of the class 0 hang on no state. -/
theorem op_cls0 {v : Value} {σ1 : St} (hc : cls o.op = 0) (h : E.op ρ σ o = some (v, σ1)) (σ' : St) : σ1 = σ ∧ E.op ρ σ' o = some (v, σ') := by
  unfold Env.op at h ⊢
  cases ho : o.op <;> rw [ho] at h hc <;> simp only [cls] at hc h ⊢ <;> first
    | (simp at hc; done)
    | (exact keep_keep h)
    | (simp only [Option.some.injEq, Prod.mk.injEq] at h; obtain ⟨rfl, rfl⟩ := h; exact ⟨rfl, rfl⟩)
    | skip
  · split at hc <;> simp at hc
/-- Those of the class 1 turn none. -/
theorem op_cls1 {v : Value} {σ1 : St} (hc : cls o.op = 1) (h : E.op ρ σ o = some (v, σ1)) : σ1 = σ := by
  unfold Env.op at h
  cases ho : o.op <;> rw [ho] at h hc <;> simp only [cls] at hc h <;> first
    | (simp at hc; done)
    | (exact (keep_some h).2)
    | skip
  · unfold Env.opLoad at h
    split at h <;> try (simp at h; done)
    split at h <;> try (simp at h; done)
    simp only [Option.some.injEq, Prod.mk.injEq] at h; exact h.2.symm
  · rename_i c
    split at hc <;> try (simp at hc; done)
    · rename_i hcc
      rw [hcc] at h
      simp only at h
      split at h <;> try (simp at h; done)
      exact (keep_some h).2
    · rename_i hcc
      rw [hcc] at h
      exact (keep_some h).2
    · rename_i hcc
      rw [hcc] at h
      exact (keep_some h).2
end

theorem vbeq_eq {a b : Value} (h : vbeq a b = true) : a = b := by
  unfold vbeq at h
  split at h <;> first
    | rfl
    | (simp at h; done)
    | (simp [nbeq] at h; simp [h]; done)
    | skip
theorem vbeqs_eq : ∀ {l k : List Value}, vbeqs l k = true → l = k
  | [], [], _ => rfl
  | a :: l, b :: k, h => by
    simp only [vbeqs, Bool.and_eq_true] at h
    rw [vbeq_eq h.1, vbeqs_eq h.2]
  | [], _ :: _, h => by simp [vbeqs] at h
  | _ :: _, [], h => by simp [vbeqs] at h
theorem vbeq'_eq {a b : Value} (h : vbeq' a b = true) : a = b := by
  unfold vbeq' at h
  split at h
  · rw [vbeqs_eq h]
  · exact vbeq_eq h
end Go.B
