/-
  An abstract state of the model's memory (no tape, no capacities), and what it means that a world is as it says: values, blocks, steps from one state to a later one.
-/
import Derived.Orders
import Derived.Laws.Sem
import Derived.Laws.World
import Derived.Laws.Cells
namespace Go.B
open Go

/-- A tree that holds something at natural numbers. -/
inductive Tr (α : Type) where
  | e
  | n (v : Option α) (l r : Tr α)

def Tr.get {α : Type} : Tr α → Nat → Option α
  | .e, _ => none
  | .n v l r, k => bif Nat.beq k 0 then v else bif Nat.beq (k % 2) 1 then l.get (k / 2) else r.get (k / 2 - 1)

def Tr.put {α : Type} (x : Option α) : Nat → Tr α → Nat → Tr α
  | 0, t, _ => t
  | f + 1, .e, k => bif Nat.beq k 0 then .n x .e .e else bif Nat.beq (k % 2) 1 then .n none (Tr.put x f .e (k / 2)) .e else .n none .e (Tr.put x f .e (k / 2 - 1))
  | f + 1, .n v l r, k => bif Nat.beq k 0 then .n x l r else bif Nat.beq (k % 2) 1 then .n v (Tr.put x f l (k / 2)) r else .n v l (Tr.put x f r (k / 2 - 1))

def Tr.set {α : Type} (t : Tr α) (k : Nat) (x : Option α) : Tr α := Tr.put x (k + 1) t k

theorem nbeq (a b : Nat) : Nat.beq a b = decide (a = b) := by
  cases h : Nat.beq a b
  · have := Nat.ne_of_beq_eq_false h; simp [this]
  · have := Nat.eq_of_beq_eq_true h; simp [this]

theorem Tr.get_e {α : Type} (k : Nat) : (Tr.e : Tr α).get k = none := rfl

theorem Tr.get_put {α : Type} (x : Option α) : ∀ (f : Nat) (t : Tr α) (k j : Nat), k + 1 < 2 ^ f → (Tr.put x f t k).get j = if j = k then x else t.get j
  | 0, _, k, _, h => by simp at h
  | f + 1, t, k, j, h => by
    have h2 : 2 ^ (f + 1) = 2 * 2 ^ f := by rw [Nat.pow_succ]; omega
    have ihL : ∀ t : Tr α, k % 2 = 1 → (Tr.put x f t (k / 2)).get (j / 2) = if j / 2 = k / 2 then x else t.get (j / 2) := fun t hm => Tr.get_put x f t _ _ (by omega)
    have ihR : ∀ t : Tr α, k % 2 = 0 → 0 < k → (Tr.put x f t (k / 2 - 1)).get (j / 2 - 1) = if j / 2 - 1 = k / 2 - 1 then x else t.get (j / 2 - 1) := fun t hm hk => Tr.get_put x f t _ _ (by omega)
    by_cases k0 : k = 0
    · subst k0
      cases t <;> by_cases j0 : j = 0 <;> simp [Tr.put, Tr.get, nbeq, j0]
    · by_cases km : k % 2 = 1
      · by_cases j0 : j = 0
        · subst j0
          have : ¬ (0 = k) := by omega
          cases t <;> simp [Tr.put, Tr.get, nbeq, k0, km, this]
        · by_cases jm : j % 2 = 1
          · have e : (j / 2 = k / 2) = (j = k) := propext ⟨fun _ => by omega, fun h => by rw [h]⟩
            cases t <;> simp [Tr.put, Tr.get, nbeq, k0, km, j0, jm, ihL _ km, e]
          · have : ¬ (j = k) := fun h => jm (h ▸ km)
            cases t <;> simp [Tr.put, Tr.get, nbeq, k0, km, j0, jm, this]
      · by_cases j0 : j = 0
        · subst j0
          have : ¬ (0 = k) := by omega
          cases t <;> simp [Tr.put, Tr.get, nbeq, k0, km, this]
        · by_cases jm : j % 2 = 1
          · have : ¬ (j = k) := fun h => km (h ▸ jm)
            cases t <;> simp [Tr.put, Tr.get, nbeq, k0, km, j0, jm, this]
          · have e : (j / 2 - 1 = k / 2 - 1) = (j = k) := propext ⟨fun _ => by omega, fun h => by rw [h]⟩
            cases t <;> simp [Tr.put, Tr.get, nbeq, k0, km, j0, jm, ihR _ (by omega) (by omega), e]

theorem Tr.get_set {α : Type} (t : Tr α) (k j : Nat) (x : Option α) : (t.set k x).get j = if j = k then x else t.get j :=
  Tr.get_put x (k + 1) t k j Nat.lt_two_pow_self

/-- A list as a tree. -/
def Tr.ofList {α : Type} : List α → Nat → Tr α → Tr α
  | [], _, t => t
  | v :: r, i, t => Tr.ofList r (i + 1) (t.set i (some v))

theorem Tr.get_ofList {α : Type} : ∀ (l : List α) (i : Nat) (t : Tr α) (j : Nat), (Tr.ofList l i t).get j = if i ≤ j ∧ j < i + l.length then l[j - i]? else t.get j
  | [], i, t, j => by
    have : ¬ (i ≤ j ∧ j < i + ([] : List α).length) := by simp only [List.length_nil]; omega
    rw [if_neg this]; rfl
  | v :: r, i, t, j => by
    rw [Tr.ofList, Tr.get_ofList r (i + 1) _ j, Tr.get_set _ _ _ _]
    by_cases e : j = i
    · subst e
      have h1 : ¬ (j + 1 ≤ j ∧ j < j + 1 + r.length) := by omega
      have h2 : j ≤ j ∧ j < j + (v :: r).length := by simp
      rw [if_neg h1, if_pos rfl, if_pos h2]; simp
    · by_cases hj : i + 1 ≤ j ∧ j < i + 1 + r.length
      · have h2 : i ≤ j ∧ j < i + (v :: r).length := by simp; omega
        rw [if_pos hj, if_pos h2]
        obtain ⟨k, rfl⟩ : ∃ k, j = i + 1 + k := ⟨j - (i + 1), by omega⟩
        have e1 : i + 1 + k - (i + 1) = k := by omega
        have e2 : i + 1 + k - i = k + 1 := by omega
        rw [e1, e2]; simp
      · have h2 : ¬ (i ≤ j ∧ j < i + (v :: r).length) := by simp; omega
        rw [if_neg hj, if_neg h2, if_neg e]

/-- What a block of the abstract state is. -/
inductive Blk where
  | cells (n : Nat) (c : Tr Value) (ty : TypeId)
  | map (l : List MapEntry) (clock : Nat)
  | iter (s : ByteArray) (pos : Nat)
  | miter (r : Nat) (since : Nat) (seen : Array Nat) (stepped : Nat)

structure St where
  t : Tr Blk
  nx : Nat

def St.blk (σ : St) (i : Nat) : Option Blk := σ.t.get i

/-- Where the abstract blocks lie in a world: those below base are themselves; of the others that are there (al) the block and the place, or nothing: it is gone. -/
structure Mp where
  base : Nat
  al : Nat → Prop
  f : Nat → Option (Nat × Nat)
  sz : Nat → Nat
  lim : Nat → Nat

/-- An unknown capacity. -/
def om : Nat := 4611686018427387904

def Mp.A (M : Mp) (a b : Addr) : Prop :=
  (a.block < M.base ∧ b = a) ∨ (M.base ≤ a.block ∧ M.al a.block ∧ a.spot = none ∧ ∀ g d, M.f a.block = some (g, d) → b = ⟨g, d + a.off, none⟩)

def Mp.S (M : Mp) (a b : Addr) (n c c' : Nat) : Prop :=
  n ≤ c' ∧ (c ≠ om → c' = c) ∧
  ((M.A a b ∧ ∀ g d, M.base ≤ a.block → M.f a.block = some (g, d) → d + a.off + c' * M.sz a.block ≤ M.lim a.block) ∨ (n = 0 ∧ c' = 0 ∧ (a.block < M.base ∨ M.al a.block)))

mutual
inductive V (M : Mp) : Value → Value → Prop
  | bool (b : Bool) : V M (.bool b) (.bool b)
  | int (k : IntKind) (n : Int) : V M (.int k n) (.int k n)
  | float (k : FloatKind) (b : Nat) : V M (.float k b) (.float k b)
  | string (s : ByteArray) : V M (.string s) (.string s)
  | ptr0 : V M (.pointer none) (.pointer none)
  | ptr (a b : Addr) (h : M.A a b) : V M (.pointer (some a)) (.pointer (some b))
  | slice0 : V M (.slice none 0 0) (.slice none 0 0)
  | slice (a b : Addr) (n c c' : Nat) (h : M.S a b n c c') : V M (.slice (some a) n c) (.slice (some b) n c')
  | map0 : V M (.map none) (.map none)
  | map (r r' : Nat) (h : M.A ⟨r, 0, none⟩ ⟨r', 0, none⟩) : V M (.map (some r)) (.map (some r'))
  | nilFunc : V M .nilFunc .nilFunc
  | nilIface : V M .nilIface .nilIface
  | func (fn : Fn) {l l' k k' : List Value} (h : VL M l l') (h' : VL M k k') : V M (.func fn ⟨l⟩ ⟨k⟩) (.func fn ⟨l'⟩ ⟨k'⟩)
  | iface (t : TypeId) {v v' : Value} (h : V M v v') : V M (.iface t v) (.iface t v')
  | agg {l l' : List Value} (h : VL M l l') : V M (.agg ⟨l⟩) (.agg ⟨l'⟩)
  | tuple {l l' : List Value} (h : VL M l l') : V M (.tuple ⟨l⟩) (.tuple ⟨l'⟩)
inductive VL (M : Mp) : List Value → List Value → Prop
  | nil : VL M [] []
  | cons {v v' : Value} {l l' : List Value} (h : V M v v') (t : VL M l l') : VL M (v :: l) (v' :: l')
end

structure Mp.le (M M' : Mp) : Prop where
  base : M'.base = M.base
  al : ∀ i, M.al i → M'.al i
  f : ∀ i, M.al i → M'.f i = M.f i ∨ M'.f i = none
  sz : ∀ i, M.al i → M'.sz i = M.sz i
  lim : ∀ i, M.al i → M'.lim i = M.lim i

theorem Mp.le.refl (M : Mp) : M.le M := ⟨rfl, fun _ h => h, fun _ _ => .inl rfl, fun _ _ => rfl, fun _ _ => rfl⟩
theorem Mp.le.trans {M M' M'' : Mp} (h : M.le M') (k : M'.le M'') : M.le M'' :=
  ⟨k.base.trans h.base, fun i a => k.al i (h.al i a), fun i a => by
    rcases k.f i (h.al i a) with e | e
    · rcases h.f i a with e' | e'
      · exact .inl (e.trans e')
      · exact .inr (e.trans e')
    · exact .inr e, fun i a => (k.sz i (h.al i a)).trans (h.sz i a), fun i a => (k.lim i (h.al i a)).trans (h.lim i a)⟩

theorem Mp.A.mono {M M' : Mp} (hm : M.le M') {a b : Addr} (h : M.A a b) : M'.A a b := by
  rcases h with ⟨h1, h2⟩ | ⟨h1, h2, h3, h4⟩
  · exact .inl ⟨by rw [hm.base]; exact h1, h2⟩
  · refine .inr ⟨by rw [hm.base]; exact h1, hm.al _ h2, h3, fun g d e => ?_⟩
    rcases hm.f _ h2 with e' | e'
    · exact h4 g d (e' ▸ e)
    · rw [e'] at e; cases e

theorem Mp.S.mono {M M' : Mp} (hm : M.le M') {a b : Addr} {n c c' : Nat} (h : M.S a b n c c') : M'.S a b n c c' := by
  obtain ⟨h1, h2, h3⟩ := h
  refine ⟨h1, h2, ?_⟩
  rcases h3 with ⟨ha, hr⟩ | ⟨e1, e2, hb⟩
  · refine .inl ⟨ha.mono hm, fun g d hb e => ?_⟩
    rw [hm.base] at hb
    rcases ha with ⟨l, _⟩ | ⟨_, hal, _, _⟩
    · omega
    · rcases hm.f _ hal with e' | e'
      · rw [hm.sz _ hal, hm.lim _ hal]; exact hr g d hb (e' ▸ e)
      · rw [e'] at e; cases e
  · exact .inr ⟨e1, e2, hb.imp (fun h => by rw [hm.base]; exact h) (hm.al _)⟩

theorem V.mono {M M' : Mp} (hm : M.le M') {v v' : Value} (h : V M v v') : V M' v v' :=
  V.rec (motive_1 := fun v v' _ => V M' v v') (motive_2 := fun l l' _ => VL M' l l')
    .bool .int .float .string .ptr0 (fun a b h => .ptr a b (h.mono hm)) .slice0 (fun a b n c c' h => .slice a b n c c' (h.mono hm)) .map0 (fun r r' h => .map r r' (h.mono hm)) .nilFunc .nilIface
    (fun fn _ _ _ _ _ _ h1 h2 => .func fn h1 h2) (fun t _ _ _ h => .iface t h) (fun _ h => .agg h) (fun _ h => .tuple h) .nil (fun _ _ h1 h2 => .cons h1 h2) h
theorem VL.mono {M M' : Mp} (hm : M.le M') : ∀ {l l' : List Value}, VL M l l' → VL M' l l'
  | _, _, .nil => .nil
  | _, _, .cons h t => .cons (h.mono hm) (VL.mono hm t)

theorem VL.length {M : Mp} : ∀ {l l' : List Value}, VL M l l' → l'.length = l.length
  | _, _, .nil => rfl
  | _, _, .cons _ t => by simp [VL.length t]
theorem VL.get {M : Mp} : ∀ {l l' : List Value} (_ : VL M l l') (i : Nat) (v : Value), l[i]? = some v → ∃ v', l'[i]? = some v' ∧ V M v v'
  | _, _, .nil, _, _, h => by simp at h
  | _, _, .cons h _, 0, v, e => by simp at e; subst e; exact ⟨_, rfl, h⟩
  | _, _, .cons _ t, i + 1, v, e => by simpa using VL.get t i v (by simpa using e)
theorem VL.append {M : Mp} : ∀ {l l' k k' : List Value}, VL M l l' → VL M k k' → VL M (l ++ k) (l' ++ k')
  | _, _, _, _, .nil, h => h
  | _, _, _, _, .cons h t, h' => .cons h (VL.append t h')
theorem VL.of_get {M : Mp} : ∀ {l l' : List Value}, l'.length = l.length → (∀ (i : Nat) (v : Value), l[i]? = some v → ∃ v', l'[i]? = some v' ∧ V M v v') → VL M l l'
  | [], [], _, _ => .nil
  | v :: l, v' :: l', e, h => .cons (by obtain ⟨x, hx, hv⟩ := h 0 v rfl; simp at hx; subst hx; exact hv) (VL.of_get (by simpa using e) fun i u hu => by simpa using h (i + 1) u (by simpa using hu))
theorem VL.drop {M : Mp} : ∀ {l l' : List Value} (n : Nat), VL M l l' → VL M (l.drop n) (l'.drop n)
  | _, _, 0, h => by simpa using h
  | _, _, _ + 1, .nil => .nil
  | _, _, n + 1, .cons _ t => by simpa using VL.drop n t
theorem VL.take {M : Mp} : ∀ {l l' : List Value} (n : Nat), VL M l l' → VL M (l.take n) (l'.take n)
  | _, _, 0, _ => by simpa using VL.nil
  | _, _, _ + 1, .nil => .nil
  | _, _, n + 1, .cons h t => by simpa using VL.cons h (VL.take n t)
theorem VL.set {M : Mp} : ∀ {l l' : List Value} (n : Nat) {v v' : Value}, VL M l l' → V M v v' → VL M (l.set n v) (l'.set n v')
  | _, _, _, _, _, .nil, _ => .nil
  | _, _, 0, _, _, .cons _ t, h => .cons h t
  | _, _, n + 1, _, _, .cons h t, hv => .cons h (VL.set n t hv)

/-- A value without an address: related to itself alone. -/
def flat : Value → Bool
  | .bool _ | .int .. | .float .. | .string _ | .pointer none | .slice none 0 0 | .map none | .nilFunc | .nilIface => true
  | _ => false
theorem flat_eq {M : Mp} {v v' : Value} (h : V M v v') (hf : flat v = true) : v' = v := by
  cases h <;> first | rfl | (simp [flat] at hf)
theorem V.of_flat {M : Mp} {v : Value} (h : flat v = true) : V M v v := by
  match v, h with
  | .bool b, _ => exact .bool b
  | .int k n, _ => exact .int k n
  | .float k b, _ => exact .float k b
  | .string s, _ => exact .string s
  | .pointer none, _ => exact .ptr0
  | .slice none 0 0, _ => exact .slice0
  | .map none, _ => exact .map0
  | .nilFunc, _ => exact .nilFunc
  | .nilIface, _ => exact .nilIface
def flats : List Value → Bool
  | [] => true
  | v :: l => flat v && flats l
theorem flats_eq {M : Mp} : ∀ {l l' : List Value}, VL M l l' → flats l = true → l' = l
  | _, _, .nil, _ => rfl
  | _, _, .cons h t, hf => by simp [flats] at hf; rw [flat_eq h hf.1, flats_eq t hf.2]
/-- A value of flat parts. -/
def flatter : Value → Bool
  | .agg ⟨l⟩ | .tuple ⟨l⟩ => flats l
  | .iface _ v => flat v
  | v => flat v
theorem flatter_eq {M : Mp} {v v' : Value} (h : V M v v') (hf : flatter v = true) : v' = v := by
  cases h <;> first | rfl | (rename_i h; rw [flats_eq h (by simpa [flatter] using hf)]) | (rename_i h; rw [flat_eq h (by simpa [flatter] using hf)]) | (simp [flatter, flat] at hf)
theorem VL.of_flats {M : Mp} : ∀ {l : List Value}, flats l = true → VL M l l
  | [], _ => .nil
  | v :: l, h => by simp [flats] at h; exact .cons (V.of_flat h.1) (VL.of_flats h.2)
theorem V.of_flatter {M : Mp} {v : Value} (h : flatter v = true) : V M v v := by
  match v, h with
  | .agg ⟨l⟩, h => exact .agg (VL.of_flats (by simpa [flatter] using h))
  | .tuple ⟨l⟩, h => exact .tuple (VL.of_flats (by simpa [flatter] using h))
  | .slice none 0 0, _ => exact .slice0
  | .iface t v, h => exact .iface t (V.of_flat (by simpa [flatter] using h))
  | .bool b, _ => exact .bool b
  | .int k n, _ => exact .int k n
  | .float k b, _ => exact .float k b
  | .string s, _ => exact .string s
  | .pointer none, _ => exact .ptr0
  | .map none, _ => exact .map0
  | .nilFunc, _ => exact .nilFunc
  | .nilIface, _ => exact .nilIface
end Go.B
