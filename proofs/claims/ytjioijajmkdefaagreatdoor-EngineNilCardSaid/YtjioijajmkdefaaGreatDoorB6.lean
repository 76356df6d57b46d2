/-
  The operations on an abstract state: slices made, cut, appended to.
-/
import Derived.Test.YtjioijajmkdefaaGreatDoorB5
namespace Go.B
open Go

section
variable {E : Env} {w0 : World} {M : Mp} {σ : St} {w : World} {ρ ρ' : Operand → Value} {o : Oper}

theorem cellsOf_eq {P : Program} {t : TypeId} {n : Nat} (h : (P.info? t).map (·.size) = some n) : P.cellsOf t = n := by simp [Program.cellsOf, h]

/-- a slice of a new row, whole -/
theorem slice_new {M' : Mp} {i g sz lim : Nat} (hA : M'.A ⟨i, 0, none⟩ ⟨g, 0, none⟩) (hf : M'.f i = some (g, 0)) (hs : M'.sz i = sz) (hl : M'.lim i = lim) {n c c' : Nat} (hn : n ≤ c') (hc : c ≠ om → c' = c) (hr : c' * sz ≤ lim) :
    V M' (.slice (some ⟨i, 0, none⟩) n c) (.slice (some ⟨g, 0, none⟩) n c') :=
  .slice _ _ _ _ _ ⟨hn, hc, .inl ⟨hA, fun g' d _ e => by
    simp only at e
    rw [hf] at e
    simp only [Option.some.injEq, Prod.mk.injEq] at e
    obtain ⟨rfl, rfl⟩ := e
    simp only [hs, hl]; omega⟩⟩

/-- buildSlice -/
def Env.opBuildSlice (E : Env) (ρ : Operand → Value) (σ : St) (t : TypeId) (len : Nat) (ps : Array (Nat × Operand)) : Option (Value × St) :=
  match E.P.underlying t with
  | some (.slice e) => match (E.P.info? e).map (·.size), (E.P.info? e).bind (·.zero) with
    | some n, some z => bif Nat.blt 16777216 (len * n) || Nat.beq n 0 then none else
      bif flats ((Array.range (len * n)).map (z.cells[· % z.cells.size]!)).toList then
        match Instr.fill (fun i => some (i * n, n)) ((Array.range (len * n)).map (z.cells[· % z.cells.size]!)) (ps.toList.map fun p => (p.1, ρ p.2)) with
        | some r => bif σ.ok r.toList.length && Nat.beq r.toList.length (len * n) then some (.slice (some ⟨σ.nx, 0, none⟩) len len, σ.new (blkOf r.toList e)) else none
        | none => none
      else none
    | _, _ => none
  | _ => none
theorem opBuildSlice_sim (hr : Rel E.P w0 M σ w) (hρ : RR M ρ ρ') {t : TypeId} {len : Nat} {ps : Array (Nat × Operand)} (ho : o.op = .buildSlice t len ps) {v : Value} {σ' : St} (h : E.opBuildSlice ρ σ t len ps = some (v, σ')) :
    OSim E w0 M σ w (execOp ρ' o) v σ' := by
  unfold Env.opBuildSlice at h
  split at h <;> try (simp at h; done)
  rename_i e hu
  split at h <;> try (simp at h; done)
  rename_i n z hn hz
  rw [blt_iff, nbeq] at h
  by_cases hbig : 16777216 < len * n
  · simp [hbig] at h
  by_cases hn0 : n = 0
  · simp [hn0] at h
  simp only [hbig, hn0, decide_false, Bool.or_self, cond_false] at h
  cases hf : flats ((Array.range (len * n)).map (z.cells[· % z.cells.size]!)).toList
  · rw [hf, cond_false] at h; cases h
  rw [hf, cond_true] at h
  split at h <;> try (simp at h; done)
  rename_i r hfill
  cases hc : σ.ok r.toList.length && Nat.beq r.toList.length (len * n)
  · rw [hc, cond_false] at h; cases h
  rw [hc, cond_true] at h
  simp only [Option.some.injEq, Prod.mk.injEq] at h
  obtain ⟨rfl, rfl⟩ := h
  obtain ⟨hc1, hc2⟩ := (Bool.and_eq_true _ _).mp hc
  rw [nbeq] at hc2
  have hc2 := of_decide_eq_true hc2
  obtain ⟨r', e1, e2⟩ := fill_rel _ hρ ps.toList _ _ r (VL.of_flats hf) hfill
  obtain ⟨M', h1, h2, h3, h4, h5, h6⟩ := row_sim hr e2 e hc1 []
  refine ⟨M', _, _, ?_, slice_new h3 h4 (h5.trans (cellsOf_eq hn)) h6 (Nat.le_refl _) (fun _ => rfl) ?_, by simpa using h1, h2⟩
  · cases hi : E.P.info? e with
    | none => rw [hi] at hz; simp at hz
    | some i =>
      rw [hi] at hz
      simp only [Option.bind_some] at hz
      have hb : ¬ (len * n > 2 ^ 24) := by omega
      unfold execOp; rw [ho]
      refine did_v ?_
      by_cases h0 : len * n = 0
      · rw [h0] at e1
        have e0 : (Array.range 0) = (#[] : Array Nat) := rfl
        rw [e0] at e1
        simp only [Array.map_empty] at e1
        simp [Instr.buildSlice, zeroValue, typeInfo, hi, run_und hu, run_sizeOf hn, newRow, h0, e0, e1]
      · have hb' : ¬ (16777216 < len * n) := hbig
        simp [Instr.buildSlice, zeroValue, typeInfo, hi, hz, run_und hu, run_sizeOf hn, newRow, h0, hb', e1]
  · rw [e2.length, hc2]; simp

/-- makeSlice -/
def Env.opMake (E : Env) (ρ : Operand → Value) (σ : St) (t : TypeId) (l c : Operand) : Option (Value × St) :=
  match E.P.underlying t, natOf (ρ l), natOf (ρ c) with
  | some (.slice e), some n, some m => match E.P.info? e with
    | some i => match i.zero with
      | some z => bif Nat.ble n m && Nat.blt m om && Nat.ble (i.bytes * m) 140737488355328 && flats (madeCells z.cells (m * i.size)).toList && σ.ok (madeCells z.cells (m * i.size)).toList.length then
          some (.slice (some ⟨σ.nx, 0, none⟩) n m, σ.new (blkOf (madeCells z.cells (m * i.size)).toList e)) else none
      | none => none
    | none => none
  | _, _, _ => none
theorem opMake_sim (hr : Rel E.P w0 M σ w) (hρ : RR M ρ ρ') {t : TypeId} {l c : Operand} (ho : o.op = .makeSlice t l c) {v : Value} {σ' : St} (h : E.opMake ρ σ t l c = some (v, σ')) : OSim E w0 M σ w (execOp ρ' o) v σ' := by
  unfold Env.opMake at h
  split at h <;> try (simp at h; done)
  rename_i e n m hu hn hm
  split at h <;> try (simp at h; done)
  rename_i i hi
  split at h <;> try (simp at h; done)
  rename_i z hz
  cases hc : Nat.ble n m && Nat.blt m om && Nat.ble (i.bytes * m) 140737488355328 && flats (madeCells z.cells (m * i.size)).toList && σ.ok (madeCells z.cells (m * i.size)).toList.length
  · rw [hc, cond_false] at h; cases h
  rw [hc, cond_true] at h
  simp only [Option.some.injEq, Prod.mk.injEq] at h
  obtain ⟨rfl, rfl⟩ := h
  simp only [Bool.and_eq_true] at hc
  obtain ⟨⟨⟨⟨c1, c2⟩, c3⟩, c4⟩, c5⟩ := hc
  have c1 := Nat.le_of_ble_eq_true c1
  rw [blt_iff] at c2
  have c2 := of_decide_eq_true c2
  have c3 := Nat.le_of_ble_eq_true c3
  unfold om at c2
  obtain ⟨k1, e1⟩ := nat_rel hn (hρ l)
  obtain ⟨k2, e2⟩ := nat_rel hm (hρ c)
  obtain ⟨M', h1, h2, h3, h4, h5, h6⟩ := row_sim hr (VL.of_flats c4) e c5 []
  have hbytes : (i.bytes : Int) * (m : Int) ≤ 281474976710656 := by
    have : ((i.bytes * m : Nat) : Int) ≤ 140737488355328 := by omega
    rw [Int.natCast_mul] at this; omega
  have hrun := run_make (P := E.P) w t e i z hu hi hz k1 k2 n m (by omega) (by omega) hbytes (by omega)
  simp only [Int.toNat_natCast] at hrun
  refine ⟨M', _, _, ?_, slice_new h3 h4 h5 h6 c1 (fun _ => rfl) ?_, by simpa using h1, h2⟩
  · unfold execOp; rw [ho]
    exact did_v (by rw [e1, e2]; exact hrun)
  · simp [madeCells, Program.cellsOf, hi]

/-- x[lo:hi:mx] of a slice -/
def bound (d : Nat) : Option Value → Option Nat
  | none => some d
  | some v => natOf v
theorem bound_rel (hρ : RR M ρ ρ') {x : Option Operand} {d k : Nat} (h : bound d (x.map ρ) = some k) : (x = none ∧ k = d) ∨ (∃ y kd, x = some y ∧ ρ' y = .int kd (k : Int)) := by
  cases x with
  | none => simp [bound] at h; exact .inl ⟨rfl, h.symm⟩
  | some y => obtain ⟨kd, e⟩ := nat_rel (v := ρ y) (by simpa [bound] using h) (hρ y); exact .inr ⟨y, kd, rfl, e⟩

theorem run_bound {P : Program} (kd : IntKind) (k y : Nat) (code : BoundsCode) (h : k ≤ y) (w : World) : (Instr.sliceBound (.int kd (k : Int)) y code).run P w = .ok k w := by
  simp [Instr.sliceBound, asIntOf, h]

def Env.opSlice (E : Env) (ρ : Operand → Value) (σ : St) (t : TypeId) (x : Operand) (lo hi mx : Option Operand) : Option Value :=
  match E.P.underlying t, ρ x with
  | some (.slice e), .slice (some a) n c =>
    match bound 0 (lo.map ρ), bound n (hi.map ρ), bound c (mx.map ρ), (E.P.info? e).map (·.size) with
    | some l, some h, some m, some s =>
      bif Nat.ble l h && Nat.ble h n && !a.spot.isSome && (Nat.blt a.block E.base || match σ.blk a.block with | some (.cells _ _ ty) => Nat.beq ty e | _ => false) then
        match mx with
        | none => bif Nat.beq c om then some (.slice (some ⟨a.block, a.off + l * s, none⟩) (h - l) om)
            else some (.slice (some ⟨a.block, (bif Nat.beq c l then a.off else a.off + l * s), none⟩) (h - l) (c - l))
        | some _ => bif Nat.ble h m && Nat.ble m n && hi.isSome then some (.slice (some ⟨a.block, (bif Nat.beq m l then a.off else a.off + l * s), none⟩) (h - l) (m - l)) else none
      else none
    | _, _, _, _ => none
  | _, _ => none

theorem A_off {a b : Addr} (h : M.A a b) (hs : a.spot = none) (hl : a.block < M.base ∨ ∃ p, M.f a.block = some p) : b = ⟨b.block, b.off, none⟩ ∧ M.A ⟨a.block, a.off, none⟩ b := by
  rcases h with ⟨h1, rfl⟩ | ⟨h1, h2, h3, h4⟩
  · cases b with | mk x y z => simp at hs; subst hs; exact ⟨rfl, .inl ⟨h1, rfl⟩⟩
  · refine ⟨?_, .inr ⟨h1, h2, rfl, h4⟩⟩
    rcases hl with h | ⟨⟨g, d⟩, hf⟩
    · omega
    · rw [h4 g d hf]

theorem opSlice_sim (hb : M.base = E.base) (hr : Rel E.P w0 M σ w) (hρ : RR M ρ ρ') {t : TypeId} {x : Operand} {lo hi mx : Option Operand} (ho : o.op = .slice t x lo hi mx) {v : Value} (h : E.opSlice ρ σ t x lo hi mx = some v) :
    OSim E w0 M σ w (execOp ρ' o) v σ := by
  unfold Env.opSlice at h
  split at h <;> try (simp at h; done)
  rename_i e a n c hu hx
  split at h <;> try (simp at h; done)
  rename_i l hh m s hl hhi hm hs
  cases hc : Nat.ble l hh && Nat.ble hh n && !a.spot.isSome && (Nat.blt a.block E.base || match σ.blk a.block with | some (.cells _ _ ty) => Nat.beq ty e | _ => false)
  · rw [hc, cond_false] at h; cases h
  rw [hc, cond_true] at h
  simp only [Bool.and_eq_true, Bool.or_eq_true] at hc
  obtain ⟨⟨⟨c1, c2⟩, c3⟩, c4⟩ := hc
  have c1 := Nat.le_of_ble_eq_true c1
  have c2 := Nat.le_of_ble_eq_true c2
  have hsp : a.spot = none := by cases hsp : a.spot with | none => rfl | some z => rw [hsp] at c3; simp at c3
  have hxx := hρ x
  rw [hx] at hxx
  generalize hy : ρ' x = y at hxx
  cases hxx with
  | slice _ b _ _ c' hS =>
  obtain ⟨hS1, hS2, hS3⟩ := hS
  have hlo := bound_rel hρ hl
  have hhi' := bound_rel hρ hhi
  have hmx := bound_rel hρ hm
  -- the run
  have hrun : ∀ m', (mx = none ∧ m' = c' ∨ ∃ y kd, mx = some y ∧ ρ' y = .int kd (m' : Int) ∧ m' ≤ c' ∧ hi.isSome = true) → hh ≤ m' →
      (Instr.sliceAt t (ρ' x) (lo.map ρ') (hi.map ρ') (mx.map ρ')).run E.P w = .ok (.slice (if m' = l then some b else (some b).map (·.add (l * s))) (hh - l) (m' - l)) w := by
    intro m' hm' hhm
    have hb2 : (Instr.sliceBounds true n c' (lo.map ρ') (hi.map ρ') (mx.map ρ')).run E.P w = .ok (l, hh, m') w := by
      rcases hm' with ⟨rfl, rfl⟩ | ⟨ym, km, rfl, em, hmc, hiS⟩
      · rcases hhi' with ⟨rfl, rfl⟩ | ⟨yh, kh, rfl, eh⟩
        · rcases hlo with ⟨rfl, rfl⟩ | ⟨yl, kl, rfl, el⟩
          · simp [Instr.sliceBounds]
          · simp [Instr.sliceBounds, el, run_bound kl l hh _ c1]
        · rcases hlo with ⟨rfl, rfl⟩ | ⟨yl, kl, rfl, el⟩
          · simp [Instr.sliceBounds, eh, run_bound kh hh m' _ hhm]
          · simp [Instr.sliceBounds, eh, run_bound kh hh m' _ hhm, el, run_bound kl l hh _ c1]
      · rcases hhi' with ⟨rfl, rfl⟩ | ⟨yh, kh, rfl, eh⟩
        · simp at hiS
        · rcases hlo with ⟨rfl, rfl⟩ | ⟨yl, kl, rfl, el⟩
          · simp [Instr.sliceBounds, em, run_bound km m' c' _ hmc, eh, run_bound kh hh m' _ hhm]
          · simp [Instr.sliceBounds, em, run_bound km m' c' _ hmc, eh, run_bound kh hh m' _ hhm, el, run_bound kl l hh _ c1]
    simp [Instr.sliceAt, run_und hu, Instr.slice, hy, hb2, run_sizeOf hs]
  -- what the block is
  have hlive : a.block < M.base ∨ ∃ p, M.f a.block = some p ∧ M.sz a.block = s := by
    rcases c4 with h4 | h4
    · rw [blt_iff] at h4; exact .inl (by rw [hb]; exact of_decide_eq_true h4)
    · rcases hS3 with ⟨hA, _⟩ | ⟨_, _, hA⟩
      · rcases hA with ⟨h1, _⟩ | ⟨h1, h2, _, _⟩
        · exact .inl h1
        · cases hf : M.f a.block with
          | none => rw [hr.dead _ h2 hf] at h4; simp at h4
          | some p =>
            obtain ⟨g, d⟩ := p
            obtain ⟨_, B, hB, hbr⟩ := hr.live _ g d h2 hf
            rw [hB] at h4
            cases B with
            | cells nn cc ty =>
              simp only [nbeq, decide_eq_true_eq] at h4
              subst h4
              obtain ⟨cs, _, _, _, _, _, e3, _⟩ := hbr
              exact .inr ⟨_, rfl, e3.trans (cellsOf_eq hs)⟩
            | _ => simp at h4
      · rcases hA with h1 | h2
        · exact .inl h1
        · cases hf : M.f a.block with
          | none => rw [hr.dead _ h2 hf] at h4; simp at h4
          | some p =>
            obtain ⟨g, d⟩ := p
            obtain ⟨_, B, hB, hbr⟩ := hr.live _ g d h2 hf
            rw [hB] at h4
            cases B with
            | cells nn cc ty =>
              simp only [nbeq, decide_eq_true_eq] at h4
              subst h4
              obtain ⟨cs, _, _, _, _, _, e3, _⟩ := hbr
              exact .inr ⟨_, rfl, e3.trans (cellsOf_eq hs)⟩
            | _ => simp at h4
  have hlive' : a.block < M.base ∨ ∃ p, M.f a.block = some p := hlive.imp id fun ⟨p, hp, _⟩ => ⟨p, hp⟩
  -- the relation of what is cut, of an exact capacity
  have hcut : ∀ m', m' ≤ c' → hh ≤ m' → ∀ k, (k ≠ om → m' - l = k) → (M.A a b ∧ ∀ g d, M.base ≤ a.block → M.f a.block = some (g, d) → d + a.off + c' * M.sz a.block ≤ M.lim a.block) →
      (m' = l → k ≠ om → V M (.slice (some ⟨a.block, a.off, none⟩) (hh - l) k) (.slice (some b) (hh - l) (m' - l))) ∧
      V M (.slice (some ⟨a.block, a.off + l * s, none⟩) (hh - l) k) (.slice (some (b.add (l * s))) (hh - l) (m' - l)) := by
    intro m' hm1 hm2 k hk ⟨hA, hroom⟩
    refine ⟨fun _ hk' => .slice _ _ _ _ _ ⟨by omega, fun _ => hk hk', .inl ⟨(A_off hA hsp hlive').2, fun g d h1 h2 => ?_⟩⟩, .slice _ _ _ _ _ ⟨by omega, hk, .inl ⟨A_add hA hsp (l * s), fun g d h1 h2 => ?_⟩⟩⟩
    · have := hroom g d h1 h2
      simp only at h1 h2 ⊢
      have hle : (m' - l) * M.sz a.block ≤ c' * M.sz a.block := Nat.mul_le_mul_right _ (by omega)
      omega
    · have := hroom g d h1 h2
      simp only at h1 h2 ⊢
      rcases hlive with hb' | ⟨_, _, hsz⟩
      · omega
      · rw [hsz] at this ⊢
        have hle : l * s + (m' - l) * s ≤ c' * s := by rw [← Nat.add_mul]; exact Nat.mul_le_mul_right _ (by omega)
        omega
  have hdid : ∀ r, (Instr.sliceAt t (ρ' x) (lo.map ρ') (hi.map ρ') (mx.map ρ')).run E.P w = .ok r w → V M v r → OSim E w0 M σ w (execOp ρ' o) v σ := fun r h1 h2 => by
    refine .same hr ?_ h2
    unfold execOp; rw [ho]
    exact did_v h1
  have hal : M.A a b → (a.block < M.base ∨ M.al a.block) := fun hA => hA.imp (fun h => h.1) (fun h => h.2.1)
  rcases hmx with ⟨rfl, rfl⟩ | ⟨ym, km, rfl, em⟩
  · have hr1 := hrun c' (.inl ⟨rfl, rfl⟩) (by omega)
    simp only [nbeq] at h
    by_cases hom : m = om
    · simp only [hom, decide_true, cond_true, Option.some.injEq] at h
      subst h
      refine hdid _ hr1 ?_
      by_cases hcl : c' = l
      · rw [if_pos hcl]
        refine .slice _ _ _ _ _ ⟨by omega, fun h => absurd rfl h, .inr ⟨by omega, by omega, ?_⟩⟩
        rcases hS3 with ⟨hA, _⟩ | ⟨_, _, hA⟩
        · exact hal hA
        · exact hA
      · rw [if_neg hcl]
        rcases hS3 with hA | ⟨h0, h1, _⟩
        · exact (hcut c' (Nat.le_refl _) (by omega) om (fun h => absurd rfl h) hA).2
        · omega
    · have hce := hS2 hom
      simp only [hom, decide_false, cond_false, Option.some.injEq] at h
      subst h
      refine hdid _ hr1 ?_
      by_cases hcl : c' = l
      · have hml : m = l := by omega
        rw [if_pos hcl]
        simp only [hml, decide_true, cond_true]
        rcases hS3 with hA | ⟨h0, h1, hA⟩
        · have := (hcut c' (Nat.le_refl _) (by omega) (m - l) (fun _ => by omega) hA).1 hcl (by unfold om; omega)
          rwa [hml] at this
        · exact .slice _ _ _ _ _ ⟨by omega, fun _ => by omega, .inr ⟨by omega, by omega, hA⟩⟩
      · have hml : ¬ m = l := by omega
        rw [if_neg hcl]
        simp only [hml, decide_false, cond_false]
        rcases hS3 with hA | ⟨h0, h1, hA⟩
        · exact (hcut c' (Nat.le_refl _) (by omega) (m - l) (fun _ => by omega) hA).2
        · omega
  · simp only [nbeq] at h
    cases hcc : Nat.ble hh m && Nat.ble m n && hi.isSome
    · rw [hcc, cond_false] at h; cases h
    rw [hcc, cond_true] at h
    simp only [Option.some.injEq] at h
    subst h
    simp only [Bool.and_eq_true] at hcc
    obtain ⟨⟨d1, d2⟩, d3⟩ := hcc
    have d1 := Nat.le_of_ble_eq_true d1
    have d2 := Nat.le_of_ble_eq_true d2
    refine hdid _ (hrun m (.inr ⟨ym, km, rfl, em, by omega, d3⟩) d1) ?_
    by_cases hml : m = l
    · rw [if_pos hml]
      simp only [hml, decide_true, cond_true]
      rcases hS3 with hA | ⟨h0, h1, hA⟩
      · have := (hcut m (by omega) (by omega) (m - l) (fun _ => rfl) hA).1 hml (by unfold om; omega)
        rwa [hml] at this
      · exact .slice _ _ _ _ _ ⟨by omega, fun _ => by omega, .inr ⟨by omega, by omega, hA⟩⟩
    · rw [if_neg hml]
      simp only [hml, decide_false, cond_false]
      rcases hS3 with hA | ⟨h0, h1, hA⟩
      · exact (hcut m (by omega) (by omega) (m - l) (fun _ => rfl) hA).2
      · omega
/-- A part of an array, by its address. -/
def Env.opSliceA (E : Env) (ρ : Operand → Value) (σ : St) (t : TypeId) (x : Operand) (lo hi mx : Option Operand) : Option Value :=
  match E.P.underlying t, ρ x, mx with
  | some (.pointer arr), .pointer (some a), none => match E.P.underlying arr with
    | some (.array n e) => match bound 0 (lo.map ρ), bound n (hi.map ρ), (E.P.info? e).map (·.size), σ.blk a.block with
      | some l, some h, some s, some (.cells nn _ ty) =>
        bif Nat.ble l h && Nat.ble h n && !a.spot.isSome && !(Nat.blt a.block E.base) && Nat.beq ty e && Nat.ble (a.off + n * s) nn && Nat.blt n om then
          some (.slice (some ⟨a.block, (bif Nat.beq n l then a.off else a.off + l * s), none⟩) (h - l) (n - l))
        else none
      | _, _, _, _ => none
    | _ => none
  | _, _, _ => none

theorem opSliceA_sim (hb : M.base = E.base) (hr : Rel E.P w0 M σ w) (hρ : RR M ρ ρ') {t : TypeId} {x : Operand} {lo hi mx : Option Operand} (ho : o.op = .slice t x lo hi mx) {v : Value} (h : E.opSliceA ρ σ t x lo hi mx = some v) :
    OSim E w0 M σ w (execOp ρ' o) v σ := by
  unfold Env.opSliceA at h
  split at h <;> try (simp at h; done)
  rename_i arr a hu hx
  split at h <;> try (simp at h; done)
  rename_i n e hua
  split at h <;> try (simp at h; done)
  rename_i l hh s nn cc ty hl hhi hs hblk
  cases hc : Nat.ble l hh && Nat.ble hh n && !a.spot.isSome && !(Nat.blt a.block E.base) && Nat.beq ty e && Nat.ble (a.off + n * s) nn && Nat.blt n om
  · rw [hc, cond_false] at h; cases h
  rw [hc, cond_true, Option.some.injEq] at h
  simp only [Bool.and_eq_true, Bool.not_eq_true', nbeq, blt_iff, decide_eq_true_eq, decide_eq_false_iff_not] at hc
  obtain ⟨⟨⟨⟨⟨⟨c1, c2⟩, c3⟩, c4⟩, c5⟩, c6⟩, c7⟩ := hc
  have c1 := Nat.le_of_ble_eq_true c1
  have c2 := Nat.le_of_ble_eq_true c2
  have c6 := Nat.le_of_ble_eq_true c6
  subst c5
  have hsp : a.spot = none := by cases hsp : a.spot with | none => rfl | some z => rw [hsp] at c3; simp at c3
  have hxx := hρ x
  rw [hx] at hxx
  generalize hy : ρ' x = y at hxx
  cases hxx with
  | ptr _ b hA =>
  have hlo := bound_rel hρ hl
  have hhi' := bound_rel hρ hhi
  rw [← hb] at c4
  have hA' := hA
  rcases hA with ⟨h1, _⟩ | ⟨h1, h2, h3, h4⟩
  · exact absurd h1 c4
  cases hf : M.f a.block with
  | none => rw [hr.dead _ h2 hf] at hblk; cases hblk
  | some p =>
  obtain ⟨g, d⟩ := p
  obtain ⟨_, B, hB, hbr⟩ := hr.live _ g d h2 hf
  rw [hblk] at hB
  cases hB
  obtain ⟨cs, _, _, _, _, e2, e3, e4, _⟩ := hbr
  have hsz : M.sz a.block = s := e3.trans (cellsOf_eq hs)
  have hb2 : (Instr.sliceBounds false n n (lo.map ρ') (hi.map ρ') none).run E.P w = .ok (l, hh, n) w := by
    rcases hhi' with ⟨rfl, rfl⟩ | ⟨yh, kh, rfl, eh⟩
    · rcases hlo with ⟨rfl, rfl⟩ | ⟨yl, kl, rfl, el⟩
      · simp [Instr.sliceBounds]
      · simp [Instr.sliceBounds, el, run_bound kl l hh _ c1]
    · rcases hlo with ⟨rfl, rfl⟩ | ⟨yl, kl, rfl, el⟩
      · simp [Instr.sliceBounds, eh, run_bound kh hh n _ c2]
      · simp [Instr.sliceBounds, eh, run_bound kh hh n _ c2, el, run_bound kl l hh _ c1]
  have hrun : (Instr.sliceAt t (ρ' x) (lo.map ρ') (hi.map ρ') none).run E.P w = .ok (.slice (some (if n = l then b else b.add (l * s))) (hh - l) (n - l)) w := by
    simp [Instr.sliceAt, run_und hu, Instr.slice, hy, asAddr, run_und hua, hb2, run_sizeOf hs]
  have hbb : b = ⟨b.block, b.off, none⟩ := (A_off hA' hsp (.inr ⟨_, hf⟩)).1
  refine .same hr (v' := .slice (some (if n = l then b else b.add (l * s))) (hh - l) (n - l)) (by unfold execOp; rw [ho]; exact did_v hrun) ?_
  rw [← h]
  by_cases hnl : n = l
  · subst hnl
    simp only [nbeq, decide_true, cond_true, if_true]
    refine .slice _ _ _ _ _ ⟨by omega, fun _ => rfl, .inl ⟨(A_off hA' hsp (.inr ⟨_, hf⟩)).2, fun g' d' q1 q2 => ?_⟩⟩
    simp only at q1 q2 ⊢
    rw [hf] at q2; cases q2
    rw [hsz, e2, Nat.sub_self, Nat.zero_mul]
    have := Nat.le_add_right a.off (n * s)
    omega
  · simp only [nbeq, hnl, decide_false, cond_false, if_false]
    refine .slice _ _ _ _ _ ⟨by omega, fun _ => rfl, .inl ⟨A_add hA' hsp (l * s), fun g' d' q1 q2 => ?_⟩⟩
    simp only at q1 q2 ⊢
    rw [hf] at q2; cases q2
    rw [hsz, e2]
    have hle : l * s + (n - l) * s ≤ n * s := by rw [← Nat.add_mul]; exact Nat.mul_le_mul_right _ (by omega)
    omega
end
end Go.B
