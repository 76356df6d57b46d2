/-
  The operations on an abstract state: append, copy.
-/
import Derived.Test.YtjioijajmkdefaaGreatDoorB6
namespace Go.B
open Go

section
variable {E : Env} {w0 : World} {M : Mp} {σ : St} {w : World} {ρ ρ' : Operand → Value} {o : Oper}

def ones : List Value → Bool
  | [] => true
  | v :: l => v.oneCell' && ones l
theorem ones_rel {M : Mp} : ∀ {l l' : List Value}, VL M l l' → ones l = true → ∀ u ∈ l', u.oneCell' = true
  | _, _, .nil, _ => by simp
  | _, _, .cons hv t, h => by
    simp only [ones, Bool.and_eq_true] at h
    intro u hu
    rcases List.mem_cons.1 hu with rfl | hu
    · rw [hv.oneCell]; exact h.1
    · exact ones_rel t h.2 u hu

/-- What is appended: how many elements, their cells. -/
def Env.src (E : Env) (σ : St) (size : Nat) : Value → Option (Nat × List Value)
  | .slice (some p) m _ => bif p.spot.isSome then none else match E.loads σ p.block p.off (m * size) with
    | some l => bif ones l then some (m, l) else none
    | none => none
  | .slice none 0 0 => some (0, [])
  | .string s => bif Nat.beq size 1 then some (s.size, byteCells s) else none
  | _ => none
def Env.srcKind (E : Env) (t : TypeId) (v : Value) : Bool :=
  match E.P.underlying t, v with
  | some (.slice _), .slice .. => true
  | some .string, .string _ => true
  | _, _ => false

theorem byteCells_flat (s : ByteArray) : flats (byteCells s) = true := by
  unfold byteCells
  induction s.data.toList with
  | nil => rfl
  | cons b l ih => simpa [flats, flat] using ih

theorem src_sim (hE : E.ok w0) (hb : M.base = E.base) (hr : Rel E.P w0 M σ w) {size m : Nat} {l : List Value} {x x' : Value} (hx : V M x x') {t : TypeId} (hk : E.srcKind t x = true) (h : E.src σ size x = some (m, l)) :
    ∃ l', Src E.P size t x' m l' w ∧ VL M l l' := by
  unfold Env.srcKind at hk
  cases hx with
  | slice0 =>
    simp only [Env.src, Option.some.injEq, Prod.mk.injEq] at h
    obtain ⟨rfl, rfl⟩ := h
    split at hk
    · rename_i e _ _ _ hu _; exact ⟨[], Src.ofNil w hu 0, .nil⟩
    · rename_i he; cases he
    · simp at hk
  | slice p b n c c' hS =>
    have hu : ∃ e, E.P.underlying t = some (.slice e) := by
      split at hk
      · rename_i e _ _ _ hu _; exact ⟨e, hu⟩
      · rename_i he; cases he
      · simp at hk
    obtain ⟨e, hu⟩ := hu
    simp only [Env.src] at h
    cases hs : p.spot with
    | some z => rw [hs] at h; simp at h
    | none =>
      rw [hs] at h
      cases hl : E.loads σ p.block p.off (n * size) with
      | none => simp [hl] at h
      | some l0 =>
        simp only [hl, Option.isSome_none, cond_false] at h
        cases ho : ones l0
        · rw [ho, cond_false] at h; cases h
        rw [ho, cond_true] at h
        simp only [Option.some.injEq, Prod.mk.injEq] at h
        obtain ⟨rfl, rfl⟩ := h
        rcases hS.2.2 with ⟨hA, _⟩ | ⟨h0, _⟩
        · obtain ⟨l', h1, h2, h3⟩ := loads_sim hE hb hr hA hs (n * size) 0 l0 (by simpa using hl)
          exact ⟨l', Src.ofSlice w hu b n c' l' h1 (fun j u hj => by simpa using h3 j u hj) (ones_rel h2 ho), h2⟩
        · subst h0
          simp only [Nat.zero_mul, Env.loads, Option.some.injEq] at hl
          subst hl
          exact ⟨[], Src.ofSlice w hu b 0 c' [] (by simp) (fun j u hj => by simp at hj) (by simp), .nil⟩
  | string s =>
    simp only [Env.src, nbeq] at h
    by_cases h1 : size = 1
    · simp only [h1, decide_true, cond_true, Option.some.injEq, Prod.mk.injEq] at h
      obtain ⟨rfl, rfl⟩ := h
      subst h1
      split at hk
      · rename_i he; cases he
      · rename_i hu he; exact ⟨_, Src.ofString w hu s, VL.of_flats (byteCells_flat s)⟩
      · simp at hk
    · simp [h1] at h
  | _ => simp [Env.src] at h

theorem run_append_zero {P : Program} (t tx ty e : TypeId) (i : TypeInfo) (ht : P.underlying t = some (.slice e)) (hi : P.info? e = some i) (base : Option Addr) (n c : Nat) (x : Value) (hs : Src P i.size tx x 0 [] w) (hn : n ≤ c) :
    (Builtin.append_ #[t, tx] ty #[.slice base n c, x]).run P w = .ok (.slice base n c) w := by
  cases base <;> rcases hs.kind with ⟨e', hk⟩ | hk <;> simp [Builtin.append_, run_underlying ht, run_underlying hk, sizeOf, typeInfo, hi, hs.len, hn, hs.cells, storeCells]

theorem run_append_room' {P : Program} (t tx ty e : TypeId) (i : TypeInfo) (ht : P.underlying t = some (.slice e)) (hi : P.info? e = some i) (b : Addr) (n c : Nat) (x : Value) (m : Nat) (news : List Value) (hs : Src P i.size tx x m news w) (hn : n + m ≤ c)
    {w' : World} (hst : (storeCells (b.add (n * i.size)) news 0).run P w = .ok () w') :
    (Builtin.append_ #[t, tx] ty #[.slice (some b) n c, x]).run P w = .ok (.slice (some b) (n + m) c) w' := by
  rcases hs.kind with ⟨e', hk⟩ | hk <;> simp [Builtin.append_, run_underlying ht, run_underlying hk, sizeOf, typeInfo, hi, hs.len, hn, hs.cells, hst]

/-- The old cells of a slice that grows. -/
def Env.olds (E : Env) (σ : St) (base : Option Addr) (n : Nat) : Option (List Value) :=
  match base with
  | none => some []
  | some a => bif a.spot.isSome then none else E.loads σ a.block a.off n

def Env.opAppend (E : Env) (ρ : Operand → Value) (σ : St) (s x : Operand) (t tx : TypeId) : Option (Value × St) :=
  match E.P.underlying t with
  | some (.slice e) => match E.P.info? e with
    | some i => match i.zero with
      | some z => bif E.srcKind tx (ρ x) && Nat.beq z.cells.toList.length i.size then
        match E.src σ i.size (ρ x), ρ s with
        | some (m, news), .slice base n c =>
          bif Nat.beq m 0 then some (.slice base n c, σ) else
          bif Nat.ble (n + m) 70368744177664 && Nat.ble ((n + m) * i.bytes) 140737488355328 then
            bif Nat.blt c (n + m) then
              -- it grows
              match E.olds σ base (n * i.size) with
              | some old => bif σ.ok (old ++ news).length && Nat.beq (old ++ news).length ((n + m) * i.size) then some (.slice (some ⟨σ.nx, 0, none⟩) (n + m) om, σ.new (blkOf (old ++ news) e)) else none
              | none => none
            else match base with
              | none => none
              | some a =>
                bif Nat.beq c om then
                  -- nobody knows: the block is given up
                  bif Nat.blt a.block E.base || a.spot.isSome then none else match σ.blk a.block with
                  | some (.cells _ _ ty) => bif Nat.beq ty e then match E.loads σ a.block a.off (n * i.size) with
                    | some old => bif (σ.setb a.block none).ok (old ++ news).length && Nat.beq (old ++ news).length ((n + m) * i.size) then some (.slice (some ⟨σ.nx, 0, none⟩) (n + m) om, (σ.setb a.block none).new (blkOf (old ++ news) e)) else none
                    | none => none
                    else none
                  | _ => none
                else
                  bif a.spot.isSome then none else
                  -- there is room
                  match E.stores σ a.block (a.off + n * i.size) news with
                  | some σ' => some (.slice (some a) (n + m) c, σ')
                  | none => none
          else none
        | _, _ => none
        else none
      | none => none
    | none => none
  | _ => none
end

section
variable {E : Env} {w0 : World} {M : Mp} {σ : St} {w : World} {ρ ρ' : Operand → Value} {o : Oper}

theorem did_append {P : Program} {s x : Operand} {t tx : TypeId} (ho : o.op = .call { callee := .builtin .append, args := #[s, x], argTypes := #[t, tx] }) {v : Value} {w' : World}
    (h : (Builtin.append_ #[t, tx] o.type #[ρ' s, ρ' x]).run P w = .ok v w') : Did ((execOp ρ' o).run P w) v w' := by
  unfold execOp; rw [ho]
  exact .inl (by simp [resolve, invoke, builtin, h])

/-- the append that grows, the old cells being known in the world -/
theorem grow_sim (hr : Rel E.P w0 M σ w) {t tx ty e : TypeId} {i : TypeInfo} {z : Value} (hu : E.P.underlying t = some (.slice e)) (hi : E.P.info? e = some i) (hz : i.zero = some z) (hz1 : z.cells.toList.length = i.size) {base' : Option Addr} {n m c' : Nat} {x' : Value} {olds olds' news news' : List Value}
    (hs : Src E.P i.size tx x' m news' w) (hn : VL M news news') (hold : VL M olds olds') (ho : (Builtin.firstCells i.size n (.slice base' n c')).run E.P w.drew = .ok olds'.toArray w.drew)
    (hg : c' < n + m) (h46 : n + m ≤ 70368744177664) (hb47 : (n + m) * i.bytes ≤ 140737488355328) (hok : σ.ok (olds ++ news).length = true) (hlen : (olds ++ news).length = (n + m) * i.size) :
    ∃ M' v' w', (Builtin.append_ #[t, tx] ty #[.slice base' n c', x']).run E.P w = .ok v' w' ∧ V M' (.slice (some ⟨σ.nx, 0, none⟩) (n + m) om) v' ∧ Rel E.P w0 M' (σ.new (blkOf (olds ++ news) e)) w' ∧ Stp M M' σ (σ.new (blkOf (olds ++ news) e)) := by
  have hrun := run_append_grow_src (P := E.P) w t tx ty e i z hu hi hz base' n c' olds' ho x' m news' hs hg (by omega) (growslice_fits hg hb47)
  obtain ⟨M', h1, h2, h3, h4, h5, h6⟩ := row_sim (P := E.P) (w := w.drew) hr.drew (hold.append hn) e hok (Builtin.zeroCells z.cells (grownCap w (n + m) c' e - (n + m))).toList
  refine ⟨M', _, _, hrun, slice_new h3 h4 h5 h6 ?_ (fun h => absurd rfl h) ?_, ?_, h2⟩
  · unfold grownCap
    simp only [Question.cut]; omega
  · have hz2 : z.cells.size = i.size := by simpa using hz1
    have hge : n + m ≤ grownCap w (n + m) c' e := by unfold grownCap; simp only [Question.cut]; omega
    have hl1 : (olds' ++ news').length = (n + m) * i.size := by rw [(hold.append hn).length, hlen]
    rw [hl1]
    simp only [Program.cellsOf, hi, Option.map_some, Option.getD_some, Builtin.zeroCells, Array.length_toList, Array.size_map, Array.size_range, hz2]
    rw [← Nat.add_mul]
    exact Nat.mul_le_mul_right _ (by omega)
  · have e1 : ((olds' ++ news').toArray ++ Builtin.zeroCells z.cells (grownCap w (n + m) c' e - (n + m))) = (⟨(olds' ++ news') ++ (Builtin.zeroCells z.cells (grownCap w (n + m) c' e - (n + m))).toList⟩ : Array Value) := by
      apply Array.ext'; simp
    rw [e1]; exact h1

theorem src_drew {P : Program} {size : Nat} {t : TypeId} {x : Value} {m : Nat} {l : List Value} (h : Src P size t x m l w) : Src P size t x m l w := h

theorem olds_sim (hE : E.ok w0) (hb : M.base = E.base) (hr : Rel E.P w0 M σ w) {base base' : Option Addr} {n c c' size : Nat} (hV : V M (.slice base n c) (.slice base' n c')) {l : List Value} (h : E.olds σ base (n * size) = some l) :
    ∃ l', VL M l l' ∧ (Builtin.firstCells size n (.slice base' n c')).run E.P w.drew = .ok l'.toArray w.drew ∧ l'.length = n * size ∧ ∀ b, base' = some b → ∀ (j : Nat) (u : Value), l'[j]? = some u → w.cell? (b.add j) = some u := by
  cases hV with
  | slice0 =>
    simp [Env.olds] at h; subst h
    exact ⟨[], .nil, by simpa using run_firstCells_none (P := E.P) w.drew size 0 0 0, by simp, fun b hb => by cases hb⟩
  | slice a b n c c' hS =>
    simp only [Env.olds] at h
    cases hs : a.spot with
    | some z => rw [hs] at h; simp at h
    | none =>
      rw [hs] at h
      simp only [Option.isSome_none, cond_false] at h
      rcases hS.2.2 with ⟨hA, _⟩ | ⟨h0, _⟩
      · obtain ⟨l', h1, h2, h3⟩ := loads_sim hE hb hr hA hs (n * size) 0 l (by simpa using h)
        have h3' : ∀ (j : Nat) (u : Value), l'[j]? = some u → w.cell? (b.add j) = some u := fun j u hj => by simpa using h3 j u hj
        refine ⟨l', h2, run_firstCells_some (P := E.P) w.drew size n b n c' l' h1 (by simpa using h3'), h1, fun b' hb' => by cases hb'; exact h3'⟩
      · subst h0
        simp only [Nat.zero_mul, Env.loads, Option.some.injEq] at h
        subst h
        exact ⟨[], .nil, run_firstCells_some (P := E.P) w.drew size 0 b 0 c' [] (by simp) (by simp), by simp, fun b' _ j u hj => by simp at hj⟩

theorem opAppend_sim (hE : E.ok w0) (hb : M.base = E.base) (hr : Rel E.P w0 M σ w) (hρ : RR M ρ ρ') {s x : Operand} {t tx : TypeId} (ho : o.op = .call { callee := .builtin .append, args := #[s, x], argTypes := #[t, tx] })
    {v : Value} {σ' : St} (h : E.opAppend ρ σ s x t tx = some (v, σ')) : OSim E w0 M σ w (execOp ρ' o) v σ' := by
  unfold Env.opAppend at h
  split at h <;> try (simp at h; done)
  rename_i e hu
  split at h <;> try (simp at h; done)
  rename_i i hi
  split at h <;> try (simp at h; done)
  rename_i z hz
  cases hkz : E.srcKind tx (ρ x) && Nat.beq z.cells.toList.length i.size
  · rw [hkz, cond_false] at h; cases h
  rw [hkz, cond_true] at h
  obtain ⟨hk, hz1⟩ := (Bool.and_eq_true _ _).mp hkz
  rw [nbeq] at hz1
  have hz1 := of_decide_eq_true hz1
  split at h <;> try (simp at h; done)
  rename_i m news base n c hsrc hs
  obtain ⟨news', hS, hnews⟩ := src_sim hE hb hr (hρ x) hk hsrc
  have hsv := hρ s
  rw [hs] at hsv
  have hform : ∃ base' c', ρ' s = .slice base' n c' := by
    generalize ρ' s = y at hsv
    cases hsv <;> exact ⟨_, _, rfl⟩
  obtain ⟨base', c', hy⟩ := hform
  rw [hy] at hsv
  have hn' : n ≤ c' := by
    cases hsv with
    | slice0 => exact Nat.le_refl _
    | slice _ _ _ _ _ hS => exact hS.1
  rw [nbeq] at h
  by_cases hm0 : m = 0
  · simp only [hm0, decide_true, cond_true, Option.some.injEq, Prod.mk.injEq] at h
    obtain ⟨rfl, rfl⟩ := h
    subst hm0
    have hnl : news' = [] := List.eq_nil_of_length_eq_zero (by simpa using hS.newsLen)
    subst hnl
    exact .same hr (did_append ho (by rw [hy]; exact run_append_zero t tx o.type e i hu hi base' n c' _ hS hn')) hsv
  simp only [hm0, decide_false, cond_false] at h
  cases hbd : Nat.ble (n + m) 70368744177664 && Nat.ble ((n + m) * i.bytes) 140737488355328
  · rw [hbd, cond_false] at h; cases h
  rw [hbd, cond_true] at h
  obtain ⟨h46, h47⟩ := (Bool.and_eq_true _ _).mp hbd
  have h46 := Nat.le_of_ble_eq_true h46
  have h47 := Nat.le_of_ble_eq_true h47
  rw [blt_iff] at h
  by_cases hg : c < n + m
  · -- it grows
    simp only [hg, decide_true, cond_true] at h
    split at h <;> try (simp at h; done)
    rename_i old hold
    cases hok : σ.ok (old ++ news).length && Nat.beq (old ++ news).length ((n + m) * i.size)
    · rw [hok, cond_false] at h; cases h
    rw [hok, cond_true] at h
    simp only [Option.some.injEq, Prod.mk.injEq] at h
    obtain ⟨rfl, rfl⟩ := h
    obtain ⟨hok1, hok2⟩ := (Bool.and_eq_true _ _).mp hok
    rw [nbeq] at hok2
    obtain ⟨l', g1, g2, _, _⟩ := olds_sim hE hb hr hsv hold
    have hce : c' < n + m := by
      cases hsv with
      | slice0 => exact hg
      | slice _ _ _ _ _ hS =>
        by_cases hom : c = om
        · exfalso; unfold om at hom; omega
        · have := hS.2.1 hom; omega
    obtain ⟨M', v', w', q1, q2, q3, q4⟩ := grow_sim hr hu hi hz hz1 hS hnews g1 g2 hce h46 h47 hok1 (of_decide_eq_true hok2) (ty := o.type)
    exact ⟨M', v', w', did_append ho (by rw [hy]; exact q1), q2, q3, q4⟩
  simp only [hg, decide_false, cond_false] at h
  split at h <;> try (simp at h; done)
  rename_i a
  cases hsv with
  | slice _ b _ _ _ hSS =>
  rw [nbeq] at h
  by_cases hom : c = om
  · -- nobody knows
    simp only [hom, decide_true, cond_true, blt_iff] at h
    rcases Bool.eq_false_or_eq_true (decide (a.block < E.base) || a.spot.isSome) with hba | hba
    · rw [hba, cond_true] at h; cases h
    rw [hba, cond_false] at h
    rw [Bool.or_eq_false_iff] at hba
    obtain ⟨hba1, hba2⟩ := hba
    have hba1 := of_decide_eq_false hba1
    have hsp : a.spot = none := by cases hsp : a.spot with | none => rfl | some q => rw [hsp] at hba2; simp at hba2
    split at h <;> try (simp at h; done)
    rename_i nn cc tyy hblk
    rw [nbeq] at h
    by_cases hty : ¬ tyy = e
    · simp [hty] at h
    have hty := Decidable.not_not.1 hty
    subst hty
    simp only [decide_true, cond_true] at h
    split at h <;> try (simp at h; done)
    rename_i old hold
    cases hok : (σ.setb a.block none).ok (old ++ news).length && Nat.beq (old ++ news).length ((n + m) * i.size)
    · rw [hok, cond_false] at h; cases h
    rw [hok, cond_true] at h
    simp only [Option.some.injEq, Prod.mk.injEq] at h
    obtain ⟨rfl, rfl⟩ := h
    obtain ⟨hok1, hok2⟩ := (Bool.and_eq_true _ _).mp hok
    rw [nbeq] at hok2
    have hok2 := of_decide_eq_true hok2
    have hnx : (σ.setb a.block none).nx = σ.nx := rfl
    have hal : M.al a.block := by
      rcases hSS.2.2 with ⟨hA, _⟩ | ⟨_, _, hA⟩
      · rcases hA with ⟨h1, _⟩ | ⟨_, h2, _⟩
        · omega
        · exact h2
      · rcases hA with h1 | h2
        · omega
        · exact h2
    obtain ⟨old', g1, g2, g3, g4⟩ := olds_sim hE hb hr (.slice a b n c c' hSS) (size := i.size) (l := old) (by simp [Env.olds, hsp, hold])
    by_cases hroom : n + m ≤ c'
    · -- in the world there is room
      rcases hSS.2.2.symm with ⟨_, h1, _⟩ | ⟨hA, hrm⟩
      · omega
      cases hf : M.f a.block with
      | none => rw [hr.dead _ hal hf] at hblk; cases hblk
      | some p =>
      obtain ⟨g, d⟩ := p
      obtain ⟨hg0, B, hB, hbr⟩ := hr.live _ g d hal hf
      rw [hblk] at hB
      cases hB
      obtain ⟨cs, ⟨m1, m2⟩, ty', e0, e1, e2, e3, e4, e5⟩ := hbr
      have hbe : b = ⟨g, d + a.off, none⟩ := by
        rcases hA with ⟨h1, _⟩ | ⟨_, _, _, h4⟩
        · omega
        · exact h4 g d hf
      have hrm' := hrm g d (by omega) hf
      have hsz : M.sz a.block = i.size := e3.trans (cellsOf_eq (by simp [hi]))
      rw [hsz, e2] at hrm'
      have hnl : news'.length = m * i.size := hS.newsLen
      have hle : (n + m) * i.size ≤ c' * i.size := Nat.mul_le_mul_right _ hroom
      have hadd : (n + m) * i.size = n * i.size + m * i.size := Nat.add_mul _ _ _
      have hcell : ∀ j, j < news'.length → w.cell? ⟨g, d + a.off + n * i.size + j, none⟩ = cs[d + a.off + n * i.size + j]? := fun j _ => by simp [World.cell?, e1]
      have hrun := run_append_room_src (P := E.P) w t tx o.type tyy i hu hi g (d + a.off) n c' (ρ' x) m news' hS hroom
        (fun j hj => by rw [hcell j hj, Array.getElem?_eq_getElem (by omega)]; rfl) (fun j hj => by simpa [World.frozen?, e1] using e0 (d + a.off + n * i.size + j) (by omega))
      obtain ⟨cs', k1, k2, k3⟩ := block_setCells (ty := ty') g news' (d + a.off + n * i.size) w cs e1 (by omega)
      have hle' : M.le (M.swap a.block σ.nx g (d + a.off) (E.P.cellsOf tyy) cs.size) := Mp.swap_le (fun h => Nat.lt_irrefl _ (hr.al _ h).2)
      obtain ⟨s1, s2⟩ := hr.swap (w' := w.setCells g (d + a.off + n * i.size) news') (d' := d + a.off) (sz := E.P.cellsOf tyy) (lim := cs.size) hal hf (B := blkOf (old ++ news) tyy)
        (World.os_setCells _ _ _ _) (tape_setCells _ _ _ _) (World.output_setCells _ _ _ _) (size_setCells _ _ _ _) (fun j hj => other_setCells g hj _ _ _) (by
          refine ⟨cs', _, _, by rw [k2]; exact e0, k1, by simp [Mp.swap, k2], by simp [Mp.swap], by rw [hok2, k2]; omega, fun k hk => ?_⟩
          have hv : (old ++ news)[k]? = some (old ++ news)[k] := List.getElem?_eq_getElem hk
          obtain ⟨v', q1, q2⟩ := (g1.append hnews).get k _ hv
          refine ⟨_, v', by rw [get_blkOf hk, hv], ?_, q2.mono hle'⟩
          rw [k3]
          have hk' : k < (n + m) * i.size := by rw [← hok2]; exact hk
          by_cases hkn : k < n * i.size
          · rw [if_neg (by omega)]
            rw [List.getElem?_append_left (by rw [g3]; exact hkn)] at q1
            have := g4 b rfl k v' q1
            rw [hbe] at this
            have h2 : (⟨g, d + a.off, none⟩ : Addr).add k = ⟨g, d + a.off + k, none⟩ := by unfold Addr.add; split <;> simp_all
            rw [h2] at this
            simpa [World.cell?, e1] using this
          · rw [if_pos (by omega)]
            rw [List.getElem?_append_right (by rw [g3]; omega), g3] at q1
            have h2 : d + a.off + k - (d + a.off + n * i.size) = k - n * i.size := by omega
            rw [h2]; exact q1)
      refine ⟨_, _, _, did_append ho (by rw [hy, hbe]; exact hrun), .slice _ _ _ _ _ ⟨hroom, fun h => absurd rfl h, .inl ⟨.inr ⟨by show M.base ≤ σ.nx; exact hr.nx, Or.inr rfl, rfl, fun g' d' q => ?_⟩, fun g' d' _ q => ?_⟩⟩, s1, s2⟩
      · simp only [Mp.swap, if_true, Option.some.injEq, Prod.mk.injEq] at q
        obtain ⟨rfl, rfl⟩ := q; rfl
      · simp only [Mp.swap, if_true, Option.some.injEq, Prod.mk.injEq] at q
        obtain ⟨rfl, rfl⟩ := q
        simp only [Mp.swap, if_true, Program.cellsOf, hi, Option.map_some, Option.getD_some]
        omega
    · -- there is none
      obtain ⟨kr1, kr2⟩ := hr.kill hal
      have hS' := hS
      have gl : VL (M.kill a.block) old old' := g1.mono (M.kill_le _)
      obtain ⟨M', v', w', q1, q2, q3, q4⟩ := grow_sim (σ := σ.setb a.block none) kr1 hu hi hz hz1 hS (hnews.mono (M.kill_le _)) gl g2 (by omega) h46 h47 hok1 hok2 (ty := o.type)
      exact ⟨M', v', w', did_append ho (by rw [hy]; exact q1), q2, q3, kr2.trans q4⟩
  · -- there is room
    simp only [hom, decide_false, cond_false] at h
    cases hsp : a.spot with
    | some q => rw [hsp] at h; simp at h
    | none =>
    rw [hsp] at h
    simp only [Option.isSome_none, cond_false] at h
    split at h <;> try (simp at h; done)
    rename_i σ2 hst
    simp only [Option.some.injEq, Prod.mk.injEq] at h
    obtain ⟨rfl, rfl⟩ := h
    have hce := hSS.2.1 hom
    rcases hSS.2.2.symm with ⟨_, h1, _⟩ | ⟨hA, hrm⟩
    · omega
    have hA2 := A_add hA hsp (n * i.size)
    obtain ⟨w', q1, q2, q3⟩ := stores_sim hb hA2 rfl news news' 0 σ σ2 w hr hnews (by simpa using hst)
    exact ⟨M, _, w', did_append ho (by rw [hy]; exact run_append_room' t tx o.type e i hu hi b n c' _ m news' hS (by omega) q1), .slice _ _ _ _ _ ⟨by omega, fun h => hSS.2.1 h, .inl ⟨hA, hrm⟩⟩, q2, q3⟩
end
end Go.B
