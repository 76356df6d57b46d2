/-
  The operations on an abstract state that make memory: new variables, slices, append.
-/
import Derived.Test.YtjioijajmkdefaaGreatDoorB4
import Derived.Deep.AppendSrc
import Derived.Deep.Upon
import Derived.Laws.MakeOwn
import Derived.Laws.CopyRow
namespace Go.B
open Go

section
variable {E : Env} {w0 : World} {M : Mp} {σ : St} {w : World} {ρ ρ' : Operand → Value} {o : Oper}

theorem size_setCells (b : Nat) : ∀ (vs : List Value) (o : Nat) (w : World), (w.setCells b o vs).heap.size = w.heap.size
  | [], _, _ => rfl
  | v :: vs, o, w => by rw [World.setCells, size_setCells b vs]; simp
theorem tape_setCells (b : Nat) : ∀ (vs : List Value) (o : Nat) (w : World), (w.setCells b o vs).tape = w.tape
  | [], _, _ => rfl
  | v :: vs, o, w => by rw [World.setCells, tape_setCells b vs]; rfl
theorem other_setCells (b : Nat) {i : Nat} (hi : i ≠ b) : ∀ (vs : List Value) (o : Nat) (w : World), (w.setCells b o vs).heap[i]? = w.heap[i]?
  | [], _, _ => rfl
  | v :: vs, o, w => by rw [World.setCells, other_setCells b hi vs]; simp [World.setCell, Array.getElem?_modify, Ne.symm hi]
theorem block_setCells (b : Nat) {ty : TypeId} {m : Nat × Nat} : ∀ (vs : List Value) (o : Nat) (w : World) (cs : Array Value), w.heap[b]? = some (.cells cs ty m) → o + vs.length ≤ cs.size →
    ∃ cs', (w.setCells b o vs).heap[b]? = some (.cells cs' ty m) ∧ cs'.size = cs.size ∧ ∀ j, cs'[j]? = if o ≤ j ∧ j < o + vs.length then vs[j - o]? else cs[j]?
  | [], o, w, cs, h, _ => ⟨cs, h, rfl, fun j => by rw [if_neg (by simp only [List.length_nil]; omega)]⟩
  | v :: vs, o, w, cs, h, hl => by
    have hl' : o + 1 + vs.length ≤ cs.size := by simp at hl; omega
    obtain ⟨cs', h1, h2, h3⟩ := block_setCells (ty := ty) (m := m) b vs (o + 1) (w.setCell ⟨b, o, none⟩ v) (cs.setIfInBounds o v) (by simp [World.setCell, Array.getElem?_modify, h]) (by simpa using hl')
    refine ⟨cs', h1, by simpa using h2, fun j => ?_⟩
    rw [h3]
    by_cases hj : j = o
    · subst hj
      have e1 : ¬ (j + 1 ≤ j ∧ j < j + 1 + vs.length) := by omega
      have e2 : j ≤ j ∧ j < j + (v :: vs).length := by simp
      have e3 : j < cs.size := by omega
      rw [if_neg e1, if_pos e2, Array.getElem?_setIfInBounds, if_pos rfl, if_pos e3]; simp
    · by_cases hin : o + 1 ≤ j ∧ j < o + 1 + vs.length
      · have e2 : o ≤ j ∧ j < o + (v :: vs).length := by simp; omega
        obtain ⟨k, rfl⟩ : ∃ k, j = o + 1 + k := ⟨j - (o + 1), by omega⟩
        have e4 : o + 1 + k - (o + 1) = k := by omega
        have e5 : o + 1 + k - o = k + 1 := by omega
        rw [if_pos hin, if_pos e2, e4, e5]; simp
      · have e2 : ¬ (o ≤ j ∧ j < o + (v :: vs).length) := by simp; omega
        rw [if_neg hin, if_neg e2, Array.getElem?_setIfInBounds, if_neg (Ne.symm hj)]

/-- The cells of a list, as a tree. -/
def blkOf (l : List Value) (ty : TypeId) : Blk := .cells l.length (Tr.ofList l 0 .e) ty
theorem get_blkOf {l : List Value} {k : Nat} (hk : k < l.length) : (Tr.ofList l 0 .e : Tr Value).get k = l[k]? := by
  rw [Tr.get_ofList l 0 _ k, if_pos (by omega)]; simp

def St.ok (_ : St) (_ : Nat) : Bool := true
theorem St.ok_iff {σ : St} {n : Nat} (_ : σ.ok n = true) : 0 ≤ σ.nx ∧ 0 ≤ n := ⟨Nat.zero_le _, Nat.zero_le _⟩

/-- A new row of cells; in the world more of them may lie behind. -/
theorem row_sim' {P : Program} (hr : Rel P w0 M σ w) {l l' : List Value} (hl : VL M l l') (ty ty' : TypeId) (hok : σ.ok l.length = true) (more : List Value) :
    ∃ M', Rel P w0 M' (σ.new (blkOf l ty)) (w.alloc (.cells ⟨l' ++ more⟩ ty')) ∧ Stp M M' σ (σ.new (blkOf l ty)) ∧ M'.A ⟨σ.nx, 0, none⟩ ⟨w.heap.size, 0, none⟩ ∧ M'.f σ.nx = some (w.heap.size, 0) ∧ M'.sz σ.nx = P.cellsOf ty ∧ M'.lim σ.nx = l'.length + more.length := by
  have hk : ¬ M.al σ.nx := fun h => Nat.lt_irrefl _ (hr.al _ h).2
  have hle : M.le (M.push σ.nx w.heap.size 0 (P.cellsOf ty) (l'.length + more.length)) := Mp.push_le hk
  obtain ⟨a, b⟩ := hr.new (sz := P.cellsOf ty) (lim := l'.length + more.length) (B := blkOf l ty) (o := .cells ⟨l' ++ more⟩ ty') (by
    refine ⟨⟨l' ++ more⟩, (0, 0), ty', thaw_zero _, by show (w.heap.push _)[w.heap.size]? = _; simp, by simp [Mp.push], by simp [Mp.push], by simp [hl.length], fun k hk' => ?_⟩
    have hv : l[k]? = some l[k] := List.getElem?_eq_getElem hk'
    obtain ⟨v', e1, e2⟩ := hl.get k _ hv
    refine ⟨l[k], v', by rw [get_blkOf hk', hv], ?_, e2.mono hle⟩
    simp only [Nat.zero_add, List.getElem?_toArray]
    rw [List.getElem?_append_left (by rw [hl.length]; exact hk')]; exact e1)
  exact ⟨_, a, b, .inr ⟨hr.nx, .inr rfl, rfl, fun g d e => by simp [Mp.push] at e; obtain ⟨rfl, rfl⟩ := e; rfl⟩, by simp [Mp.push], by simp [Mp.push], by simp [Mp.push]⟩

/-- A new row of cells; in the world more of them may lie behind. -/
theorem row_sim {P : Program} (hr : Rel P w0 M σ w) {l l' : List Value} (hl : VL M l l') (ty : TypeId) (hok : σ.ok l.length = true) (more : List Value) :
    ∃ M', Rel P w0 M' (σ.new (blkOf l ty)) (w.alloc (.cells ⟨l' ++ more⟩ ty)) ∧ Stp M M' σ (σ.new (blkOf l ty)) ∧ M'.A ⟨σ.nx, 0, none⟩ ⟨w.heap.size, 0, none⟩ ∧ M'.f σ.nx = some (w.heap.size, 0) ∧ M'.sz σ.nx = P.cellsOf ty ∧ M'.lim σ.nx = l'.length + more.length :=
  row_sim' hr hl ty ty hok more

/-- What a variable's row is cut into: an array's elements, or itself. -/
def unit (P : Program) (t : TypeId) : TypeId := match P.underlying t with | some (.array _ e) => e | _ => t
/-- alloc, box -/
def Env.opAlloc (E : Env) (σ : St) (t : TypeId) : Option (Value × St) :=
  match (E.P.info? t).bind (·.zero) with
  | some z => bif flats z.cells.toList && σ.ok z.cells.toList.length then some (.pointer (some ⟨σ.nx, 0, none⟩), σ.new (blkOf z.cells.toList (unit E.P t))) else none
  | none => none
theorem opAlloc_sim (hr : Rel E.P w0 M σ w) {t : TypeId} (ho : o.op = .alloc t) {v : Value} {σ' : St} (h : E.opAlloc σ t = some (v, σ')) : OSim E w0 M σ w (execOp ρ' o) v σ' := by
  unfold Env.opAlloc at h
  split at h <;> try (simp at h; done)
  rename_i z hz
  cases hc : flats z.cells.toList && σ.ok z.cells.toList.length
  · rw [hc, cond_false] at h; cases h
  simp only [hc, cond_true, Option.some.injEq, Prod.mk.injEq] at h
  obtain ⟨rfl, rfl⟩ := h
  obtain ⟨hc1, hc2⟩ := (Bool.and_eq_true _ _).mp hc
  obtain ⟨M', h1, h2, h3, _⟩ := row_sim' hr (VL.of_flats hc1) (unit E.P t) t hc2 []
  refine ⟨M', _, _, ?_, .ptr _ _ h3, by simpa using h1, h2⟩
  cases hi : E.P.info? t with
  | none => rw [hi] at hz; simp at hz
  | some i =>
    rw [hi] at hz
    simp only [Option.bind_some] at hz
    unfold execOp; rw [ho]
    exact did_v (by simp [Instr.alloc, zeroValue, typeInfo, hi, hz, newVar, newRow])

def Env.opBox (ρ : Operand → Value) (σ : St) (t : TypeId) (x : Operand) : Option (Value × St) :=
  bif σ.ok (ρ x).cells.toList.length then some (.pointer (some ⟨σ.nx, 0, none⟩), σ.new (blkOf (ρ x).cells.toList t)) else none
theorem opBox_sim (hr : Rel E.P w0 M σ w) (hρ : RR M ρ ρ') {t : TypeId} {x : Operand} (ho : o.op = .box t x) {v : Value} {σ' : St} (h : Env.opBox ρ σ t x = some (v, σ')) : OSim E w0 M σ w (execOp ρ' o) v σ' := by
  unfold Env.opBox at h
  cases hc : σ.ok (ρ x).cells.toList.length
  · simp only [hc, cond_false] at h; cases h
  simp only [hc, cond_true, Option.some.injEq, Prod.mk.injEq] at h
  obtain ⟨rfl, rfl⟩ := h
  obtain ⟨M', h1, h2, h3, _⟩ := row_sim hr (hρ x).cells t hc []
  refine ⟨M', _, _, ?_, .ptr _ _ h3, by simpa using h1, h2⟩
  unfold execOp; rw [ho]
  exact did_v (by simp [Instr.box, newVar, newRow])

/-- parts put into cells -/
theorem foldl_rel {M : Mp} (off : Nat) : ∀ (l l' : List Value) (k : Nat) (cs cs' : Array Value), VL M l l' → VL M cs.toList cs'.toList →
    VL M ((l.zipIdx k).foldl (fun (cs : Array Value) (p : Value × Nat) => cs.setIfInBounds (off + p.2) p.1) cs).toList ((l'.zipIdx k).foldl (fun (cs : Array Value) (p : Value × Nat) => cs.setIfInBounds (off + p.2) p.1) cs').toList
  | _, _, k, cs, cs', .nil, h => h
  | _, _, k, cs, cs', .cons hv t, h => by
    simp only [List.zipIdx_cons, List.foldl_cons]
    refine foldl_rel off _ _ (k + 1) _ _ t ?_
    simp only [Array.toList_setIfInBounds]
    exact h.set _ hv
theorem fill_rel {M : Mp} (place : Nat → Option (Nat × Nat)) (hρ : RR M ρ ρ') : ∀ (ps : List (Nat × Operand)) (cs cs' r : Array Value), VL M cs.toList cs'.toList → Instr.fill place cs (ps.map fun p => (p.1, ρ p.2)) = some r →
    ∃ r', Instr.fill place cs' (ps.map fun p => (p.1, ρ' p.2)) = some r' ∧ VL M r.toList r'.toList
  | [], cs, cs', r, h, e => by simp [Instr.fill] at e; subst e; exact ⟨cs', rfl, h⟩
  | (i, x) :: ps, cs, cs', r, h, e => by
    simp only [List.map_cons, Instr.fill] at e ⊢
    have hlx : (ρ' x).cells.size = (ρ x).cells.size := by simpa using VL.length (hρ x).cells
    have hlc : cs'.size = cs.size := by simpa using VL.length h
    cases hp : place i with
    | none => rw [hp] at e; simp at e
    | some q =>
      obtain ⟨off, size⟩ := q
      rw [hp] at e
      simp only [hlx, hlc]
      simp only at e
      split at e
      · simp at e
      · rename_i hn
        rw [if_neg hn]
        refine fill_rel place hρ ps _ _ r ?_ e
        have := foldl_rel off _ _ 0 cs cs' (hρ x).cells h
        rw [← Array.foldl_toList, ← Array.foldl_toList, Array.toList_zipIdx, Array.toList_zipIdx]
        exact this

theorem parts_map (ρ : Operand → Value) (ps : Array (Nat × Operand)) : (ps.map fun (i, x) => (i, ρ x)).toList = ps.toList.map fun p => (p.1, ρ p.2) := by
  rw [Array.toList_map]

/-- a struct or an array, built -/
def Env.places (E : Env) : List Field → Option (List (Nat × Nat))
  | [] => some []
  | f :: fs => match (E.P.info? f.type).map (·.size), E.places fs with
    | some n, some l => some ((f.offset, n) :: l)
    | _, _ => none
theorem places_run {P : Program} {base : Nat} {G : Nat → Nat → Option Value} : ∀ (fs : List Field) (l : List (Nat × Nat)) (w : World), Env.places ⟨P, base, G⟩ fs = some l → (fs.mapM (fun f => Prod.mk f.offset <$> sizeOf f.type : Field → Sem (Nat × Nat))).run P w = .ok l w
  | [], l, w, h => by simp [Env.places] at h; subst h; simp
  | f :: fs, l, w, h => by
    unfold Env.places at h
    split at h
    · rename_i n l' hn hl
      simp only [Option.some.injEq] at h
      subst h
      have e1 := run_sizeOf (E := ⟨P, base, G⟩) hn w
      have e2 := places_run fs l' w hl
      simp only at e1
      simp [List.mapM_cons, e1, e2]
    · simp at h

def Env.opBuild (E : Env) (ρ : Operand → Value) (t : TypeId) (ps : Array (Nat × Operand)) : Option Value :=
  match (E.P.info? t).bind (·.zero), E.P.underlying t with
  | some z, some (.struct fs) => match E.places fs.toList with
    | some pl => bif flats z.cells.toList then match Instr.fill (fun i => pl[i]?) z.cells (ps.toList.map fun p => (p.1, ρ p.2)) with
      | some r => some (.agg r)
      | none => none
      else none
    | none => none
  | some z, some (.array _ e) => match (E.P.info? e).map (·.size) with
    | some n => bif flats z.cells.toList then match Instr.fill (fun i => some (i * n, n)) z.cells (ps.toList.map fun p => (p.1, ρ p.2)) with
      | some r => some (.agg r)
      | none => none
      else none
    | none => none
  | _, _ => none
theorem opBuild_sim (hr : Rel E.P w0 M σ w) (hρ : RR M ρ ρ') {t : TypeId} {ps : Array (Nat × Operand)} (ho : o.op = .build t ps) {v : Value} (h : E.opBuild ρ t ps = some v) : OSim E w0 M σ w (execOp ρ' o) v σ := by
  unfold Env.opBuild at h
  split at h
  · rename_i z fs hz hu
    split at h <;> try (simp at h; done)
    rename_i pl hpl
    cases hf : flats z.cells.toList
    · simp [hf] at h
    simp only [hf, cond_true] at h
    split at h <;> try (simp at h; done)
    rename_i r hfill
    simp only [Option.some.injEq] at h
    subst h
    obtain ⟨r', e1, e2⟩ := fill_rel _ hρ ps.toList z.cells z.cells r (VL.of_flats hf) hfill
    obtain ⟨r⟩ := r
    obtain ⟨r'⟩ := r'
    refine .same hr ?_ (.agg e2)
    cases hi : E.P.info? t with
    | none => rw [hi] at hz; simp at hz
    | some i =>
      rw [hi] at hz
      simp only [Option.bind_some] at hz
      have hp := places_run (P := E.P) (base := E.base) (G := E.G) fs.toList pl w hpl
      unfold execOp; rw [ho]
      refine did_v ?_
      have hmap : (fs.mapM (fun f => Prod.mk f.offset <$> sizeOf f.type : Field → Sem (Nat × Nat))).run E.P w = .ok pl.toArray w := by
        rw [← Array.toArray_toList (xs := fs), List.mapM_toArray]
        simp only [Sem.run_map, hp, Result.andThen_ok]
      simp [Instr.build, zeroValue, typeInfo, hi, hz, run_und hu, hmap, e1]
  · rename_i z len e hz hu
    split at h <;> try (simp at h; done)
    rename_i n hn
    cases hf : flats z.cells.toList
    · simp [hf] at h
    simp only [hf, cond_true] at h
    split at h <;> try (simp at h; done)
    rename_i r hfill
    simp only [Option.some.injEq] at h
    subst h
    obtain ⟨r', e1, e2⟩ := fill_rel _ hρ ps.toList z.cells z.cells r (VL.of_flats hf) hfill
    obtain ⟨r⟩ := r
    obtain ⟨r'⟩ := r'
    refine .same hr ?_ (.agg e2)
    cases hi : E.P.info? t with
    | none => rw [hi] at hz; simp at hz
    | some i =>
      rw [hi] at hz
      simp only [Option.bind_some] at hz
      unfold execOp; rw [ho]
      refine did_v ?_
      simp [Instr.build, zeroValue, typeInfo, hi, hz, run_und hu, run_sizeOf hn, e1]
  · simp at h
end
end Go.B
