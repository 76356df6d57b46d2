/-
  The operations with continuations do what the interpreter's do.
-/
import Derived.Test.YtjioijajmkdefaaGreatDoorCA
namespace Go.B
open Go

theorem pur_bind {α β : Type} {P : Program} : ∀ (s : Sem α) (f : α → Sem β), pur P (s >>= f) = match pur P s with | some a => pur P (f a) | none => none := by
  intro s f
  induction s with
  | pure a => rfl
  | program k ih => exact ih P
  | mark m k ih => exact ih
  | _ => rfl
theorem pur_und {P : Program} {t : TypeId} {d : TypeDesc} (h : P.underlying t = some d) : pur P (underlying t) = some d := by
  unfold underlying
  rw [pur_bind]
  show pur P (match P.underlying t with | some d => pure d | none => stuck "no such type") = some d
  rw [h]; rfl

theorem pur_builtin {P : Program} {ρ : Operand → Value} {o : Oper} {c : Call} {b : Builtin} (hp : o.op = .call c) (hc : c.callee = .builtin b) :
    pur P (execOp ρ o) = pur P (builtin b c.argTypes o.type (c.args.map fun | .const _ => true | _ => false) (c.args.map ρ)) := by
  unfold execOp; rw [hp]; simp only [resolve, hc]; rfl

theorem addrOf_spot {v : Value} {a : Addr} (h : addrOf v = some a) : a.spot.isSome = false := by
  unfold addrOf at h
  split at h
  · rename_i b
    cases hs : b.spot.isSome
    · rw [hs] at h; simp at h; rw [← h]; exact hs
    · rw [hs] at h; simp at h
  · cases h
theorem one_cells {v : Value} (h : v.oneCell' = true) : v.cells.toList = [v] := by
  cases v <;> first | rfl | (simp [Value.oneCell'] at h)
theorem store_one {E : Env} {σ σ' : St} {a : Addr} {v : Value} (h : E.store σ a v = some σ') : v.oneCell' = true := by
  unfold Env.store at h
  cases h1 : a.spot.isSome
  · rw [h1, cond_false] at h
    cases h2 : Nat.blt a.block E.base
    · rw [h2, cond_false] at h
      split at h
      · rename_i n c ty hb
        cases h3 : (Nat.blt a.off n && v.oneCell')
        · rw [h3] at h; cases h
        · simp only [Bool.and_eq_true] at h3; exact h3.2
      · cases h
    · rw [h2] at h; cases h
  · rw [h1] at h; cases h

section
variable {β : Type} {E : Env} {σ : St} {ρ : Operand → Value} {o : Oper} {k : Value → St → Option β} {r : β}

theorem plain_one {p : Operand → Op} {x : Operand} (hs : ∀ y, sel (p y) = false) (ho : o.op = p x) (hop : ∀ y, (p y).operands.toList = [y])
    (he : ∀ (ρ ρ' : Operand → Value) (o o' : Oper) (x y : Operand), o.op = p x → o'.op = p y → ρ x = ρ' y → pur E.P (execOp ρ o) = pur E.P (execOp ρ' o')) : E.plain ρ o = pl1 E p (ρ x) := by
  unfold pl1 Env.plain
  rw [ho, he ρ (two (ρ x) (ρ x)) o (opr (p (.tmp 0))) x (.tmp 0) ho rfl rfl]
  simp only [hs, opr, hop, List.all_cons, List.all_nil, two]
theorem plain_two {p : Operand → Operand → Op} {x y : Operand} (hs : ∀ y z, sel (p y z) = false) (ho : o.op = p x y) (hop : ∀ y z, (p y z).operands.toList = [y, z])
    (he : ∀ (ρ ρ' : Operand → Value) (o o' : Oper) (x y x' y' : Operand), o.op = p x y → o'.op = p x' y' → ρ x = ρ' x' → ρ y = ρ' y' → pur E.P (execOp ρ o) = pur E.P (execOp ρ' o')) : E.plain ρ o = pl2 E p (ρ x) (ρ y) := by
  unfold pl2 Env.plain
  rw [ho, he ρ (two (ρ x) (ρ y)) o (opr (p (.tmp 0) (.tmp 1))) x y (.tmp 0) (.tmp 1) ho rfl rfl rfl]
  simp only [hs, opr, hop, List.all_cons, List.all_nil, two]

theorem opd_two {cx cy : Bool} {v w : Value} : two v w (opd cx 0 v) = v ∧ two v w (opd cy 1 w) = w := by
  cases cx <;> cases cy <;> exact ⟨rfl, rfl⟩
theorem guard_same {op : BinOp} {t : TypeId} {x y x' y' : Operand} (hx : isC? x = isC? x') (hy : isC? y = isC? y') (a b : Value) : eqGuard op t x y a b = eqGuard op t x' y' a b := by
  cases x <;> cases x' <;> simp [isC?] at hx <;> cases y <;> cases y' <;> simp [isC?] at hy <;> rfl
theorem isC_opd (c : Bool) (i : Nat) (v : Value) : isC? (opd c i v) = c := by cases c <;> rfl
theorem bin_eq {op : BinOp} {t ty : TypeId} {x y : Operand} (ho : o.op = .binOp op t x y ty) :
    orr (Env.opQuick ρ op x y) (orr (E.plain ρ o) (E.opEq ρ op t x y)) = bin E op t (isC? x) (isC? y) (ρ x) (ρ y) := by
  obtain ⟨e1, e2⟩ := opd_two (cx := isC? x) (cy := isC? y) (v := ρ x) (w := ρ y)
  unfold bin
  have h1 : Env.opQuick ρ op x y = Env.opQuick (two (ρ x) (ρ y)) op (opd (isC? x) 0 (ρ x)) (opd (isC? y) 1 (ρ y)) := by
    unfold Env.opQuick; rw [e1, e2]
  have h2 : E.opEq ρ op t x y = E.opEq (two (ρ x) (ρ y)) op t (opd (isC? x) 0 (ρ x)) (opd (isC? y) 1 (ρ y)) := by
    unfold Env.opEq; rw [e1, e2]
  have h3 : E.plain ρ o = E.plain (two (ρ x) (ρ y)) (opr (.binOp op t (opd (isC? x) 0 (ρ x)) (opd (isC? y) 1 (ρ y)) 0)) := by
    unfold Env.plain execOp
    rw [ho]
    simp only [opr, sel, Op.operands, e1, e2, List.all_cons, List.all_nil]
    rw [guard_same (x := x) (y := y) (x' := opd (isC? x) 0 (ρ x)) (y' := opd (isC? y) 1 (ρ y)) (isC_opd _ _ _).symm (isC_opd _ _ _).symm]
  simp only
  rw [h1, h2, h3]

theorem cvi_eq {s d : TypeId} {ks kd : IntKind} {x : Operand} (ho : o.op = .convert s d x) (hs : E.P.underlying s = some (.int ks)) (hd : E.P.underlying d = some (.int kd)) {v : Value} (h : cvi kd (ρ x) = some v) : E.plain ρ o = some v := by
  have key : ∀ (k : IntKind) (n : Int), ρ x = .int k n → v = .int kd (kd.wrap n) → E.plain ρ o = some v := by
    intro k n hx hv
    subst hv
    have hp : pur E.P (execOp ρ o) = some (.value (.int kd (kd.wrap n))) := by
      unfold execOp
      rw [ho]
      simp only [hx, convert, pur_bind, pur_und hs, pur_und hd, Conv.intToInt, pur]
      rfl
    unfold Env.plain
    rw [ho, hp]
    simp [sel, Op.operands, hx, flatter, flat]
  unfold cvi at h
  split at h
  · rename_i k n hx
    refine key k _ hx ?_
    cases hb : Nat.blt n (capOf kd)
    · rw [hb, cond_false, Option.some.injEq] at h; exact h.symm
    · rw [hb, cond_true, Option.some.injEq] at h; rw [← h, wrap_small (by rw [blt_iff] at hb; exact of_decide_eq_true hb)]
  · rename_i k n hx1 hx
    refine key k n hx ?_
    simp at h; rw [← h]
  · cases h

theorem keep_is {σ : St} {x : Option Value} {v : Value} (h : x = some v) : keep σ x = some (v, σ) := by rw [h]; rfl

theorem opK_sound {p : Op} (hp : o.op = p) (h : E.opK ρ σ p k = some r) : ∃ v σ', E.op ρ σ o = some (v, σ') ∧ k v σ' = some r := by
  unfold Env.opK at h
  unfold Env.op
  rw [hp]
  split at h
  -- move, assign
  · exact ⟨_, _, rfl, h⟩
  · exact ⟨_, _, rfl, h⟩
  -- pick
  · rename_i c a b
    rcases cnd_is h with ⟨e, h⟩ | ⟨e, h⟩
    · exact ⟨_, _, by simp only [Env.opPick, e]; rfl, h⟩
    · exact ⟨_, _, by simp only [Env.opPick, e]; rfl, h⟩
  -- load
  · rename_i t x
    split at h
    · rename_i ha
      split at h
      · rename_i n hn
        obtain ⟨v, h1, h2⟩ := bnd_is h
        refine ⟨v, σ, ?_, h2⟩
        unfold ldn at h1
        split at h1 <;> try (cases h1; done)
        rename_i a hx
        simp only [Env.opLoad, hx, Env.loadVar, ha, show (E.P.info? t).map (·.size) = some n from hn, addrOf_spot hx, cond_false]
        split at h1 <;> cases h1
        rename_i l hl
        rw [hl]
      · cases h
    · rename_i ha
      obtain ⟨v, h1, h2⟩ := bnd_is h
      refine ⟨v, σ, ?_, h2⟩
      unfold ld1 at h1
      split at h1 <;> try (cases h1; done)
      rename_i a hx
      simp only [Env.opLoad, hx, Env.loadVar, ha, h1]
    · cases h
  -- store
  · rename_i t x y
    split at h
    · rename_i ha hn
      obtain ⟨σ', h1, h2⟩ := bnd_is h
      refine ⟨undef, σ', ?_, h2⟩
      unfold st1 at h1
      split at h1 <;> try (cases h1; done)
      rename_i a hx
      have hc := one_cells (store_one h1)
      simp only [Env.opStore, hx, Env.storeVar, show (E.P.info? t).map (·.size) = some 1 from hn, hc, addrOf_spot hx, List.length_cons, List.length_nil, Env.stores]
      have ea : (⟨a.block, a.off, none⟩ : Addr) = a := by
        have := addrOf_spot hx
        obtain ⟨b, o, s⟩ := a
        cases s with
        | none => rfl
        | some s => simp at this
      rw [ea, h1]
      rfl
    · rename_i bb n _ _ hn
      obtain ⟨σ', h1, h2⟩ := bnd_is h
      refine ⟨undef, σ', ?_, h2⟩
      unfold stn at h1
      split at h1 <;> try (cases h1; done)
      rename_i a hx
      simp only [Env.opStore, hx, Env.storeVar, show (E.P.info? t).map (·.size) = some n from hn, addrOf_spot hx, Bool.not_false, Bool.and_true]
      cases hb : Nat.beq (ρ y).cells.toList.length n
      · rw [hb] at h1; cases h1
      · rw [hb, cond_true] at h1
        rw [cond_true, h1]
    · cases h
  -- alloc
  · rename_i t
    split at h <;> try (cases h; done)
    rename_i z hz
    cases hf : flats z.cells.toList
    · rw [hf] at h; cases h
    · rw [hf, cond_true] at h
      exact ⟨_, _, by simp only [Env.opAlloc, hz, hf, St.ok, Bool.and_self, cond_true], h⟩
  -- box
  · exact ⟨_, _, by simp only [Env.opBox, St.ok, cond_true], h⟩
  -- build
  · rename_i t ps
    split at h
    · rename_i z fs hz hu
      split at h <;> try (cases h; done)
      rename_i pl hpl
      cases hf : flats z.cells.toList
      · rw [hf] at h; cases h
      · rw [hf, cond_true] at h
        obtain ⟨v, h1, h2⟩ := bnd_is h
        refine ⟨v, σ, keep_is ?_, h2⟩
        unfold bld lst at h1
        simp only [Env.opBuild, hz, hu, hpl, hf, cond_true]
        exact h1
    · rename_i z n e hz hu
      split at h <;> try (cases h; done)
      rename_i n hn
      cases hf : flats z.cells.toList
      · rw [hf] at h; cases h
      · rw [hf, cond_true] at h
        obtain ⟨v, h1, h2⟩ := bnd_is h
        refine ⟨v, σ, keep_is ?_, h2⟩
        unfold bld lst at h1
        simp only [Env.opBuild, hz, hu, show (E.P.info? e).map (·.size) = some n from hn, hf, cond_true]
        exact h1
    · cases h
  -- buildSlice
  · rename_i t len ps
    split at h <;> try (cases h; done)
    rename_i e hu
    split at h <;> try (cases h; done)
    rename_i n z hn hz
    cases hb : (!(Nat.blt 16777216 (len * n) || Nat.beq n 0) && flats ((Array.range (len * n)).map (z.cells[· % z.cells.size]!)).toList)
    · rw [hb] at h; cases h
    rw [hb, cond_true] at h
    simp only [Bool.and_eq_true, Bool.not_eq_true'] at hb
    obtain ⟨l, h1, h2⟩ := bnd_is h
    unfold bls lst at h1
    split at h1 <;> try (cases h1; done)
    rename_i rr hr
    cases hlen : Nat.beq rr.toList.length (len * n)
    · rw [hlen] at h1; cases h1
    · rw [hlen, cond_true, Option.some.injEq] at h1
      subst h1
      refine ⟨_, _, ?_, h2⟩
      simp only [Env.opBuildSlice, hu, show (E.P.info? e).map (·.size) = some n from hn, hz, hb.1, hb.2, cond_false, cond_true, hr, hlen, St.ok, Bool.and_self]
  -- nilCheck
  · obtain ⟨v, h1, h2⟩ := bnd_is h
    exact ⟨v, σ, keep_is h1, h2⟩
  -- fieldAddr
  · rename_i s x f
    split at h <;> try (cases h; done)
    rename_i off hoff
    obtain ⟨v, h1, h2⟩ := bnd_is h
    refine ⟨v, σ, keep_is ?_, h2⟩
    unfold ofc at hoff
    split at hoff <;> try (cases hoff; done)
    rename_i fs hu
    split at hoff <;> try (cases hoff; done)
    rename_i fd hfd
    split at hoff <;> try (cases hoff; done)
    rename_i n hn
    cases hz : Nat.beq n 0
    · rw [hz, cond_false, Option.some.injEq] at hoff
      subst hoff
      simp only [Env.opField, hu, hfd, hn, hz, cond_false]
      exact h1
    · rw [hz] at hoff; cases hoff
  -- indexAddr
  · rename_i t x i
    split at h
    · rename_i len e hu
      split at h <;> try (cases h; done)
      rename_i n hn
      obtain ⟨v, h1, h2⟩ := bnd_is h
      refine ⟨v, σ, keep_is ?_, h2⟩
      unfold ixa at h1
      unfold Env.opIndex
      split at h1 <;> try (cases h1; done)
      rename_i kk hk
      split at h1 <;> try (cases h1; done)
      rename_i a hx
      simp only [hk, hu, hx, show (E.P.info? e).map (·.size) = some n from hn]
      exact h1
    · rename_i e hu
      split at h <;> try (cases h; done)
      rename_i n hn
      obtain ⟨v, h1, h2⟩ := bnd_is h
      refine ⟨v, σ, keep_is ?_, h2⟩
      unfold ixs at h1
      unfold Env.opIndex
      split at h1 <;> try (cases h1; done)
      rename_i kk hk
      split at h1 <;> try (cases h1; done)
      rename_i a len c hx
      simp only [hk, hu, hx, show (E.P.info? e).map (·.size) = some n from hn]
      exact h1
    · cases h
  -- slice
  · rename_i t x lo hi mx
    obtain ⟨v, h1, h2⟩ := bnd_is h
    refine ⟨v, σ, keep_is ?_, h2⟩
    rw [← h1]
    have e1 : ∀ y : Option Operand, y.map ρ = (y.map ρ) := fun _ => rfl
    have key : ∀ (g : Operand → Value) (i : Nat) (y : Option Operand), g (.tmp i) = (y.map ρ).getD undef → ((y.map ρ).map (fun _ => Operand.tmp i)).map g = y.map ρ := fun g i y hg => by
      cases y with
      | none => rfl
      | some y => simp only [Option.map_some, Option.getD_some] at hg ⊢; rw [hg]
    unfold slc
    simp only
    split
    · rename_i a n c hx
      simp only [hx]
      unfold Env.opSlice
      simp only [hx]
      rw [key _ 1 lo rfl, key _ 2 hi rfl, key _ 3 mx rfl]
      cases mx <;> cases hi <;> rfl
    · rename_i a hx
      simp only [hx]
      unfold Env.opSliceA
      simp only [hx]
      rw [key _ 1 lo rfl, key _ 2 hi rfl]
      cases mx with
      | none => rfl
      | some m => cases E.P.underlying t with
        | none => rfl
        | some d => cases d <;> rfl
    · rename_i hx1 hx2
      split
      · rename_i hh; exact absurd hh (by simpa using hx1 _ _ _)
      · rename_i hh; exact absurd hh (by simpa using hx2 _)
      unfold Env.plain execOp
      rw [hp]
      simp only [opr, sel]
      have e2 : ∀ (g : Operand → Value), g (.tmp 0) = ρ x → g (.tmp 1) = (lo.map ρ).getD undef → g (.tmp 2) = (hi.map ρ).getD undef → g (.tmp 3) = (mx.map ρ).getD undef →
          ((Op.slice t (.tmp 0) ((lo.map ρ).map fun _ => .tmp 1) ((hi.map ρ).map fun _ => .tmp 2) ((mx.map ρ).map fun _ => .tmp 3)).operands.toList.all fun z => flatter (g z)) = ((Op.slice t x lo hi mx).operands.toList.all fun z => flatter (ρ z)) := by
        intro g g0 g1 g2 g3
        cases lo <;> cases hi <;> cases mx <;> simp_all [Op.operands]
      rw [e2 _ rfl rfl rfl rfl, key _ 1 lo rfl, key _ 2 hi rfl, key _ 3 mx rfl]
  -- extract
  · obtain ⟨v, h1, h2⟩ := bnd_is h
    exact ⟨v, σ, keep_is h1, h2⟩
  -- field
  · rename_i t x f
    split at h <;> try (cases h; done)
    rename_i ft off hpf
    unfold pfc at hpf
    split at hpf <;> try (cases hpf; done)
    rename_i fs hu
    split at hpf <;> try (cases hpf; done)
    rename_i fd hfd
    simp only [Option.some.injEq, Prod.mk.injEq] at hpf
    obtain ⟨rfl, rfl⟩ := hpf
    split at h
    · rename_i ha
      split at h <;> try (cases h; done)
      rename_i n hn
      obtain ⟨v, h1, h2⟩ := bnd_is h
      refine ⟨v, σ, keep_is ?_, h2⟩
      unfold prtn at h1
      split at h1 <;> try (cases h1; done)
      rename_i l hx
      simp only [Env.opPart, hu, hfd, hx, Env.part, ha, show (E.P.info? fd.type).map (·.size) = some n from hn]
      exact h1
    · rename_i ha
      obtain ⟨v, h1, h2⟩ := bnd_is h
      refine ⟨v, σ, keep_is ?_, h2⟩
      unfold prt1 at h1
      split at h1 <;> try (cases h1; done)
      rename_i l hx
      simp only [Env.opPart, hu, hfd, hx, Env.part, ha]
      exact h1
    · cases h
  -- index
  · rename_i t x i
    split at h
    · rename_i len e hu
      split at h
      · rename_i n hn ha
        obtain ⟨v, h1, h2⟩ := bnd_is h
        refine ⟨v, σ, keep_is ?_, h2⟩
        unfold atn at h1
        split at h1 <;> try (cases h1; done)
        rename_i kk hk
        split at h1 <;> try (cases h1; done)
        rename_i l hx
        simp only [hx, Env.opAt, hk, hu, show (E.P.info? e).map (·.size) = some n from hn, Env.part, ha]
        exact h1
      · rename_i n hn ha
        obtain ⟨v, h1, h2⟩ := bnd_is h
        refine ⟨v, σ, keep_is ?_, h2⟩
        unfold at1 at h1
        split at h1 <;> try (cases h1; done)
        rename_i kk hk
        split at h1 <;> try (cases h1; done)
        rename_i l hx
        simp only [hx, Env.opAt, hk, hu, show (E.P.info? e).map (·.size) = some n from hn, Env.part, ha]
        exact h1
      · cases h
    · rename_i hu
      obtain ⟨v, h1, h2⟩ := bnd_is h
      refine ⟨v, σ, keep_is ?_, h2⟩
      unfold sat at h1
      split at h1 <;> try (cases h1; done)
      rename_i sx hx
      rw [hx] at h1
      simp only [hx]
      rw [plain_two (p := fun x i => .index t x i) (x := x) (y := i) (fun _ _ => rfl) hp (fun _ _ => rfl) (fun ρ ρ' o o' x y x' y' e1 e2 e3 e4 => by unfold execOp; rw [e1, e2]; simp only [e3, e4]), hx]
      exact h1
    · cases h
  -- makeFunc
  · exact ⟨_, _, rfl, h⟩
  -- makeSlice
  · obtain ⟨v, h1, h2⟩ := bnd_is h
    exact ⟨v.1, v.2, h1, h2⟩
  -- makeMap
  · exact ⟨_, _, rfl, h⟩
  -- lookup
  · obtain ⟨v, h1, h2⟩ := bnd_is h
    exact ⟨v, σ, keep_is h1, h2⟩
  -- mapUpdate
  · obtain ⟨v, h1, h2⟩ := bnd_is h
    exact ⟨v.1, v.2, h1, h2⟩
  -- range
  · obtain ⟨v, h1, h2⟩ := bnd_is h
    exact ⟨v.1, v.2, h1, h2⟩
  -- next
  · obtain ⟨v, h1, h2⟩ := bnd_is h
    exact ⟨v.1, v.2, h1, h2⟩
  -- entry
  · obtain ⟨v, h1, h2⟩ := bnd_is h
    exact ⟨v, σ, keep_is h1, h2⟩
  -- convert
  · rename_i s d x
    split at h
    · rename_i ks kd hs hd
      obtain ⟨v, h1, h2⟩ := bnd_is h
      refine ⟨v, σ, keep_is ?_, h2⟩
      have := cvi_eq (E := E) hp hs hd h1
      unfold cvi at h1
      split at h1 <;> try (cases h1; done)
      · rename_i hx; simp only [hx]; exact this
      · rename_i hx; simp only [hx]; exact this
    · obtain ⟨v, h1, h2⟩ := bnd_is h
      refine ⟨v, σ, keep_is ?_, h2⟩
      rw [← h1]
      unfold str
      have e2 : E.plain ρ o = E.plain (two (ρ x) (ρ x)) (opr (.convert s d (.tmp 0))) :=
        plain_one (p := fun x => .convert s d x) (x := x) (fun _ => rfl) hp (fun _ => rfl) (fun ρ ρ' o o' x y e1 e2 e3 => by unfold execOp; rw [e1, e2]; simp only [e3])
      split
      · rename_i a n c hx
        simp only [hx]
        unfold Env.opString
        simp only [hx, two]
      · rename_i hx
        rw [← e2]
        split
        · rename_i hh; exact absurd hh (by simpa using hx _ _ _)
        · rfl
  -- binOp
  · rename_i op t x y ty
    obtain ⟨v, h1, h2⟩ := bnd_is h
    exact ⟨v, σ, keep_is ((bin_eq hp).trans h1), h2⟩
  -- unOp
  · rename_i op t x
    split at h
    · obtain ⟨v, h1, h2⟩ := bnd_is h
      refine ⟨v, σ, keep_is ?_, h2⟩
      unfold notV at h1
      split at h1 <;> try (cases h1; done)
      rename_i b hx
      simp only [Option.some.injEq] at h1
      subst h1
      have hpp : pur E.P (execOp ρ o) = some (.value (.bool (!b))) := by
        unfold execOp; rw [hp]; simp only [hx, Op.unary]; rfl
      unfold Env.plain
      rw [hp, hpp]
      simp [sel, Op.operands, hx, flatter, flat]
    · obtain ⟨v, h1, h2⟩ := bnd_is h
      refine ⟨v, σ, keep_is ?_, h2⟩
      rw [plain_one (p := fun x => .unOp op t x) (x := x) (fun _ => rfl) hp (fun _ => rfl) (fun ρ ρ' o o' x y e1 e2 e3 => by unfold execOp; rw [e1, e2]; simp only [e3])]
      exact h1
  -- makeInterface
  · rename_i t x
    obtain ⟨v, h1, h2⟩ := bnd_is h
    refine ⟨v, σ, keep_is ?_, h2⟩
    rw [plain_one (p := fun x => .makeInterface t x) (x := x) (fun _ => rfl) hp (fun _ => rfl) (fun ρ ρ' o o' x y e1 e2 e3 => by unfold execOp; rw [e1, e2]; simp only [e3])]
    exact h1
  -- typeAssert
  · rename_i x t a ok
    obtain ⟨v, h1, h2⟩ := bnd_is h
    refine ⟨v, σ, keep_is ?_, h2⟩
    rw [plain_one (p := fun x => .typeAssert x t a ok) (x := x) (fun _ => rfl) hp (fun _ => rfl) (fun ρ ρ' o o' x y e1 e2 e3 => by unfold execOp; rw [e1, e2]; simp only [e3])]
    exact h1
  -- builtins
  · rename_i c
    split at h
    · rename_i hc
      split at h <;> try (cases h; done)
      rename_i s x t tx h1 h2
      obtain ⟨v, q1, q2⟩ := bnd_is h
      exact ⟨v.1, v.2, by simp only [hc, h1, h2]; exact q1, q2⟩
    · rename_i hc
      split at h <;> try (cases h; done)
      rename_i x y t ty h1 h2
      obtain ⟨v, q1, q2⟩ := bnd_is h
      exact ⟨v.1, v.2, by simp only [hc, h1, h2]; exact q1, q2⟩
    · rename_i hc
      split at h <;> try (cases h; done)
      rename_i x y t ty h1 h2
      obtain ⟨v, q1, q2⟩ := bnd_is h
      exact ⟨v.1, v.2, by simp only [hc, h1, h2]; exact q1, q2⟩
    · rename_i hc
      split at h <;> try (cases h; done)
      rename_i x t h1 h2
      simp only [hc, h1, h2]
      split at h
      · rename_i e hu
        obtain ⟨v, q1, q2⟩ := bnd_is h
        refine ⟨v, σ, keep_is ?_, q2⟩
        unfold lns at q1
        split at q1 <;> try (cases q1; done)
        rename_i b n c hx
        simp only [hx, Env.opLen, hu]
        exact q1
      · rename_i hu
        obtain ⟨v, q1, q2⟩ := bnd_is h
        refine ⟨v, σ, keep_is ?_, q2⟩
        unfold lnt at q1
        split at q1 <;> try (cases q1; done)
        rename_i sx hx
        simp only [hx]
        simp only [Option.some.injEq] at q1
        subst q1
        have hc' := args1 hc h1 h2
        have hpp : pur E.P (execOp ρ o) = some (.value (goInt sx.size)) := by
          rw [pur_builtin (hp.trans (congrArg Op.call hc')) rfl]
          show pur E.P (Builtin.len_ #[t] o.type (#[x].map ρ) >>= fun v => pure (Next.value v)) = _
          rw [pur_bind]
          have : #[x].map ρ = #[.string sx] := by simp [hx]
          rw [this]
          have : pur E.P (Builtin.len_ #[t] o.type #[.string sx]) = some (goInt sx.size) := by
            show pur E.P (underlying t >>= _) = _
            rw [pur_bind, pur_und hu]; rfl
          rw [this]; rfl
        unfold Env.plain
        rw [hp, hc', hpp]
        simp [sel, Op.operands, Call.operands, hx, flatter, flat, goInt]
      · obtain ⟨v, q1, q2⟩ := bnd_is h
        refine ⟨v, σ, keep_is ?_, q2⟩
        unfold lnm at q1
        split at q1 <;> try (cases q1; done)
        rename_i rr hx
        simp only [hx]
        unfold Env.opLenMap at q1 ⊢
        simpa only [hx, two] using q1
    · rename_i hc
      split at h <;> try (cases h; done)
      rename_i x y h1
      obtain ⟨v, q1, q2⟩ := bnd_is h
      refine ⟨v, σ, ?_, q2⟩
      simp only [hc]
      refine keep_is ?_
      rw [← q1]
      have a0 : c.args = #[x, y] := by cases hca : c.args; rw [hca] at h1; simp at h1; rw [h1]
      have a1 : c.args.map ρ = #[ρ x, ρ y] := by rw [a0]; simp
      have a2 : #[Operand.tmp 0, Operand.tmp 1].map (two (ρ x) (ρ y)) = #[ρ x, ρ y] := by simp [two]
      have p1 : pur E.P (execOp ρ o) = pur E.P (Builtin.min_ c.argTypes 0 #[ρ x, ρ y] >>= fun v => pure (Next.value v)) := by rw [pur_builtin hp hc, a1]; rfl
      have p2 : pur E.P (execOp (two (ρ x) (ρ y)) (opr (.call { callee := .builtin .min, args := #[.tmp 0, .tmp 1], argTypes := c.argTypes }))) = pur E.P (Builtin.min_ c.argTypes 0 #[ρ x, ρ y] >>= fun v => pure (Next.value v)) := by
        rw [pur_builtin (c := { callee := .builtin .min, args := #[.tmp 0, .tmp 1], argTypes := c.argTypes }) rfl rfl, a2]; rfl
      unfold mnx Env.plain
      rw [p1, p2, hp]
      simp [sel, opr, Op.operands, Call.operands, hc, a0, two]
    · rename_i hc
      split at h <;> try (cases h; done)
      rename_i x y h1
      obtain ⟨v, q1, q2⟩ := bnd_is h
      refine ⟨v, σ, ?_, q2⟩
      simp only [hc]
      refine keep_is ?_
      rw [← q1]
      have a0 : c.args = #[x, y] := by cases hca : c.args; rw [hca] at h1; simp at h1; rw [h1]
      have a1 : c.args.map ρ = #[ρ x, ρ y] := by rw [a0]; simp
      have a2 : #[Operand.tmp 0, Operand.tmp 1].map (two (ρ x) (ρ y)) = #[ρ x, ρ y] := by simp [two]
      have p1 : pur E.P (execOp ρ o) = pur E.P (Builtin.max_ c.argTypes 0 #[ρ x, ρ y] >>= fun v => pure (Next.value v)) := by rw [pur_builtin hp hc, a1]; rfl
      have p2 : pur E.P (execOp (two (ρ x) (ρ y)) (opr (.call { callee := .builtin .max, args := #[.tmp 0, .tmp 1], argTypes := c.argTypes }))) = pur E.P (Builtin.max_ c.argTypes 0 #[ρ x, ρ y] >>= fun v => pure (Next.value v)) := by
        rw [pur_builtin (c := { callee := .builtin .max, args := #[.tmp 0, .tmp 1], argTypes := c.argTypes }) rfl rfl, a2]; rfl
      unfold mnx Env.plain
      rw [p1, p2, hp]
      simp [sel, opr, Op.operands, Call.operands, hc, a0, two]
    · cases h
  · cases h
end
end Go.B
