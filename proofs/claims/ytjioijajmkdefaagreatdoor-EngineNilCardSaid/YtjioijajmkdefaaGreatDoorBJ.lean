/-
  What a row's list of laid variables says of cells; the close of a row that says 'true, and nothing turned'; a run of the interpreter as a contract.
-/
import Derived.Test.YtjioijajmkdefaaGreatDoorBI
import Derived.ProofKit
import Derived.OpenShut
import Derived.LaidLaws
import Derived.ChangeArms
import Derived.Lib.LaidTab
namespace Go.B
open Go Go.ChangeShapes Go.WideShapes Go.ChangeAt Go.RowKit

/-- The pieces of a row of parts: type, place. -/
def glueD (P : Program) (rec : TypeId → DataW Unit → Option (List Value)) : Nat → List (TypeId × Nat) → List (DataW Unit) → Option (List Value)
  | _, [], [] => some []
  | off, (t, o) :: ts, d :: ds => bif Nat.beq o off then match rec t d with
      | some l => bif Nat.beq l.length (P.cellsOf t) then match glueD P rec (off + l.length) ts ds with
        | some r => some (l ++ r)
        | none => none
        else none
      | none => none
    else none
  | _, _, _ => none
def sized (n : Nat) : Option (List Value) → Option (List Value)
  | some l => bif Nat.beq l.length n then some l else none
  | none => none
theorem sized_some {n : Nat} {x : Option (List Value)} {l : List Value} (h : sized n x = some l) : x = some l ∧ l.length = n := by
  cases x with
  | none => simp [sized] at h
  | some k =>
    simp only [sized, nbeq] at h
    by_cases e : k.length = n
    · simp only [e, decide_true, cond_true, Option.some.injEq] at h; subst h; exact ⟨rfl, e⟩
    · simp [e] at h
/-- The cells of a plain datum. -/
def cutD (P : Program) : Nat → TypeId → DataW Unit → Option (List Value)
  | 0, _, _ => none
  | n + 1, t, d => match P.underlying t, d with
    | some (.int k), .lit (.int k' z) => bif decide (k' = k) then some [.int k z] else none
    | some (.struct fs), .agg ds => sized (P.cellsOf t) (glueD P (cutD P n) 0 (fs.toList.map fun f => (f.type, f.offset)) ds)
    | some (.array m e), .agg ds => sized (P.cellsOf t) (glueD P (cutD P n) 0 ((List.range m).map fun i => (e, i * P.cellsOf e)) ds)
    | _, _ => none

theorem glueD_cells {P : Program} {rec : TypeId → DataW Unit → Option (List Value)} {cs : List Value} : ∀ (ts : List (TypeId × Nat)) (ds : List (DataW Unit)) (off : Nat) (l : List Value), glueD P rec off ts ds = some l →
    (∀ (i : Nat) (p : TypeId × Nat) (d : DataW Unit) (k : List Value), ts[i]? = some p → ds[i]? = some d → rec p.1 d = some k → (cs.drop p.2).take (P.cellsOf p.1) = k) → (cs.drop off).take l.length = l
  | [], [], off, l, h, _ => by simp [glueD] at h; subst h; simp
  | (t, o) :: ts, d :: ds, off, l, h, hp => by
    simp only [glueD, nbeq] at h
    by_cases ho : o = off
    · subst ho
      simp only [decide_true, cond_true] at h
      cases hr : rec t d with
      | none => rw [hr] at h; simp at h
      | some k =>
        rw [hr] at h
        simp only at h
        by_cases hl : k.length = P.cellsOf t
        · simp only [hl, decide_true, cond_true] at h
          cases hg : glueD P rec (o + P.cellsOf t) ts ds with
          | none => rw [hg] at h; simp at h
          | some r =>
            rw [hg] at h
            simp only [Option.some.injEq] at h
            subst h
            have h1 := hp 0 (t, o) d k rfl rfl hr
            have h2 := glueD_cells (cs := cs) ts ds (o + P.cellsOf t) r hg fun i p d k a b c => hp (i + 1) p d k (by simpa using a) (by simpa using b) c
            simp only at h1
            rw [List.length_append, hl, List.take_add, h1, List.drop_drop, h2]
        · simp [hl] at h
    · simp [ho] at h
  | [], _ :: _, off, l, h, _ => by simp [glueD] at h
  | _ :: _, [], off, l, h, _ => by simp [glueD] at h

theorem cutD_cells {P : Program} {w : World} {base : Nat} {sp : Nat → Bool} {held : Bool} {enc : TypeId × Value → Unit} : ∀ (n fuel : Nat) (t : TypeId) (cs : List Value) (d : DataW Unit) (p : List MemPlace) (l : List Value),
    DataW.trod enc P w base sp held fuel t cs = some (d, p) → cutD P n t d = some l → cs = l
  | 0, _, _, _, _, _, _, _, h => by simp [cutD] at h
  | n + 1, fuel, t, cs, d, p, l, h, hc => by
    unfold cutD at hc
    split at hc <;> try (simp at hc; done)
    · rename_i k k' z hu
      by_cases hk : k' = k
      · subst hk
        simp only [decide_true, cond_true, Option.some.injEq] at hc
        subst hc
        obtain ⟨m, rfl, hx, _⟩ := DataW.trod_int hu h
        simp only [Prod.mk.injEq, DataW.lit.injEq, Lit.int.injEq, true_and] at hx
        rw [hx.1]
      · simp [hk] at hc
    · rename_i fs ds hu
      obtain ⟨xs, m, rfl, hx, hl, hn, hf⟩ := DataW.trod_struct hu h
      obtain ⟨hc, hln⟩ := sized_some hc
      have hds : ds = xs.map (·.1) := by simp only [Prod.mk.injEq, DataW.agg.injEq] at hx; exact hx.1
      have := glueD_cells (cs := cs) _ _ _ _ hc fun i q d k a b c => by
        rw [List.getElem?_map] at a
        cases hfi : fs[i]? with
        | none => rw [Array.getElem?_toList, hfi] at a; simp at a
        | some f =>
          rw [Array.getElem?_toList, hfi] at a
          simp only [Option.map_some, Option.some.injEq] at a
          subst a
          have h1 := hf i f hfi
          rw [hds, List.getElem?_map] at b
          cases hxi : xs[i]? with
          | none => rw [hxi] at b; simp at b
          | some x =>
            rw [hxi] at b h1
            simp only [Option.map_some, Option.some.injEq] at b
            obtain ⟨x1, x2⟩ := x
            subst b
            exact cutD_cells n m f.type _ _ _ _ h1 c
      rw [hln, ← hl] at this
      simpa using this
    · rename_i m e ds hu
      obtain ⟨hc, hln⟩ := sized_some hc
      cases fuel with
      | zero => simp [DataW.trod] at h
      | succ fuel =>
        simp only [DataW.trod, hu] at h
        split at h
        · rename_i hl
          obtain ⟨xs, hm, hx⟩ := Option.map_eq_some_iff.1 h
          have hds : ds = xs.map (·.1) := by simp only [Prod.mk.injEq, DataW.agg.injEq] at hx; exact hx.1.symm
          have := glueD_cells (cs := cs) _ _ _ _ hc fun i q d k a b c => by
            rw [List.getElem?_map] at a
            by_cases hi : i < m
            · rw [List.getElem?_range hi] at a
              simp only [Option.map_some, Option.some.injEq] at a
              subst a
              obtain ⟨x, hxi, hxf⟩ := Lib.mapM_at hm i i (by simp [hi])
              rw [hds, List.getElem?_map, hxi] at b
              simp only [Option.map_some, Option.some.injEq] at b
              obtain ⟨x1, x2⟩ := x
              subst b
              exact cutD_cells n fuel e _ _ _ _ hxf c
            · rw [List.getElem?_eq_none (by simp; omega)] at a; simp at a
          rw [hln, ← hl] at this
          simpa using this
        · cases h

/-- The first variable of a list, and the rest of it. -/
theorem laid_cons {P : Program} {w : World} {n : String} {d : DataW Unit} {r : List (String × DataW Unit)} {ps : List MemPlace} (h : DataW.LaidVars P w ((n, d) :: r) ps) {g : Nat} {t : TypeId} {l : List Value} (hg : P.globalNamed n = some g)
    (ht : (P.globals[g]?).map (·.type) = some t) {k : Nat} (hc : cutD P k t d = some l) : (∀ i v, l[i]? = some v → w.cell? ⟨g, i, none⟩ = some v) ∧ ∃ q, DataW.LaidVars P w r q := by
  obtain ⟨g', t', cs, fuel, p, q, h1, h2, h3, h4, h5, _⟩ := h
  obtain rfl := Option.some.inj (hg.symm.trans h1)
  obtain rfl := Option.some.inj (ht.symm.trans h2)
  have e := cutD_cells k fuel t cs.toList d p l h4 hc
  refine ⟨fun i v hv => ?_, q, h5⟩
  rw [World.var?_cell hg h3, ← Array.getElem?_toList, e]; exact hv

/-! the close of a row -/

theorem trodAll_stays {H : Type} {enc : TypeId × Value → H} {P : Program} (hl : laidOutB P = true) {W W' : World} (hb : Below W.heap.size W W') : ∀ {ts : List TypeId} {vs : List Value} {ds : List (DataW H)} {ps : List MemPlace},
    ts.all (fun t => P.readableRec t && decide (t < P.types.size)) = true → (∀ x ∈ ps, x.block < W.heap.size) → DataW.TrodAll enc P W 0 (fun _ => true) true ts vs ds ps → DataW.TrodAll enc P W' 0 (fun b => decide (b < W.heap.size)) true ts vs ds ps
  | [], [], [], ps, _, _, h => h
  | t :: ts, v :: vs, d :: ds, ps, hr, hlt, h => by
    obtain ⟨p, q, h1, h2, rfl⟩ := h
    simp only [List.all_cons, Bool.and_eq_true, decide_eq_true_eq] at hr
    exact ⟨p, q, Below.trod hl hr.1.1 hr.1.2 h1 hb (fun x hx => hlt x (by simp [hx])), trodAll_stays hl hb (by simpa using hr.2) (fun x hx => hlt x (by simp [hx])) h2, rfl⟩
  | [], _ :: _, _, _, _, _, h => h.elim
  | [], [], _ :: _, _, _, _, h => h.elim
  | _ :: _, [], _, _, _, _, h => h.elim
  | _ :: _, _ :: _, [], _, _, _, h => h.elim

/-- True, and nothing that was there is turned. -/
theorem post_true {H : Type} {enc : TypeId × Value → H} {P : Program} {f : Func} {s : ChangeSpec} {W W' : World} {args : Array Value} {ds gs : List (DataW H)} {before : List MemPlace} {tb : TypeId}
    (hl : laidOutB P = true) (hr : f.params.toList.all (fun t => P.readableRec t && decide (t < P.types.size)) = true) (hres : f.resultTypes = #[tb]) (htb : P.underlying tb = some .bool) (hv : s.vars = [])
    (hW : DataW.Whole enc P f.params.toList s.vars false W args.toList ds gs before) (h1 : (s.fn H (ds ++ gs)).results = [.lit (.bool true)]) (h2 : (s.fn H (ds ++ gs)).args = ds) (h3 : (s.fn H (ds ++ gs)).vars = [])
    (hb : Below W.heap.size W W') : s.post enc P f false true false false W args (.bool true) W' := by
  have hlt := hW.lt
  have hW' := hW
  obtain ⟨p, q, hA, hV, rfl, hfz, hnd⟩ := hW
  rw [hv] at hV
  obtain ⟨rfl, rfl⟩ := trodVars_none hV
  refine ⟨ds, [], _, [], p, [], hW', ?_, ?_, ?_, hb.frame _, fun h => by cases h⟩
  · rw [h1, hres]
    exact trodAll_cons_mk (shut_bool htb _) trodAll_mk0
  · rw [h2]
    exact trodAll_stays hl hb hr (fun x hx => hlt x (by simpa using hx)) hA
  · rw [h3, hv]; rfl

/-! a run as a contract -/
def isVal (u : Value) : Option (Out × St) → Bool
  | some (.ret v, _) => vbeq' v u
  | _ => false
theorem isVal_eq {u : Value} {x : Option (Out × St)} (h : isVal u x = true) : ∃ σ, x = some (.ret u, σ) := by
  unfold isVal at h
  split at h <;> try (simp at h; done)
  rename_i v σ
  exact ⟨σ, by rw [vbeq'_eq h]⟩

/-- A call without arguments that have parts, with a plain result: it returns it, and nothing that was there is turned. -/
theorem fn_below {E : Env} {w : World} {X : CallF} (hE : E.ok w) (hX : CallOK E w X) (hS : E.sound) (hb : E.base ≤ w.heap.size) (fuel d f : Nat) {args : List Value} (hargs : flats args = true) {v : Value} (hv : flatter v = true) (h : isVal v (E.fn X fuel d f args ⟨.e, E.base⟩) = true) :
    Calls E.P f ⟨args⟩ w fun e w' => e = .returned v ∧ Below w.heap.size w w' := by
  obtain ⟨σ, hσ⟩ := isVal_eq h
  refine (fn_run hE hX hS hb (fun _ _ => VL.of_flats hargs) hσ).mono ?_
  rintro e w' ⟨M, v', rfl, hvv, hbb, hr⟩
  exact ⟨by rw [flatter_eq hvv hv], hr.os, hr.tape, hr.output, hr.size, hr.old⟩
end Go.B
