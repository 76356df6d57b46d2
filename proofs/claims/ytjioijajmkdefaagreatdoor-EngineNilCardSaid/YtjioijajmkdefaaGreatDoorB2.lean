/-
  What it means that a world is as an abstract state says, and what becomes of that by a load, a store, a new block.
-/
import Derived.Test.YtjioijajmkdefaaGreatDoorB1
namespace Go.B
open Go

inductive ML (M : Mp) : List MapEntry → List MapEntry → Prop
  | nil : ML M [] []
  | cons {k v v' : Value} {b : Nat} {l es : List MapEntry} (hk : flat k = true) (hv : V M v v') (t : ML M l es) : ML M ({ key := k, val := v, born := b } :: l) ({ key := k, val := v', born := b } :: es)

theorem ML.mono {M M' : Mp} (hm : M.le M') : ∀ {l es : List MapEntry}, ML M l es → ML M' l es
  | _, _, .nil => .nil
  | _, _, .cons hk hv t => .cons hk (hv.mono hm) (ML.mono hm t)

/-- No cell of the row is marked. -/
def thaw (n : Nat) (m : Nat × Nat) : Prop := ∀ i, i < n → (decide (m.1 ≤ i) && decide (i < m.2)) = false
theorem thaw_zero (n : Nat) : thaw n (0, 0) := fun i _ => by simp
def BR (P : Program) (M : Mp) (w : World) (i g d : Nat) : Blk → Prop
  | .cells n c ty => ∃ (cs : Array Value) (m : Nat × Nat) (ty' : TypeId), thaw cs.size m ∧ w.heap[g]? = some (.cells cs ty' m) ∧ M.lim i = cs.size ∧ M.sz i = P.cellsOf ty ∧ d + n ≤ cs.size ∧
      ∀ k, k < n → ∃ v v', c.get k = some v ∧ cs[d + k]? = some v' ∧ V M v v'
  | .map l clock => d = 0 ∧ ∃ es, w.heap[g]? = some (.map es clock) ∧ ML M l es.toList
  | .iter s pos => d = 0 ∧ w.heap[g]? = some (.stringIter s pos)
  | .miter r since seen stepped => d = 0 ∧ ∃ r', w.heap[g]? = some (.mapIter (some r') since seen stepped) ∧ M.A ⟨r, 0, none⟩ ⟨r', 0, none⟩

theorem BR.mono {P : Program} {M M' : Mp} (hm : M.le M') {w : World} {i g d : Nat} (hi : M.al i) : ∀ {B : Blk}, BR P M w i g d B → BR P M' w i g d B
  | .cells n c ty, ⟨cs, m, ty', h0, h1, h2, h3, h4, h5⟩ => ⟨cs, m, ty', h0, h1, (hm.lim i hi).trans h2, (hm.sz i hi).trans h3, h4, fun k hk => by
      obtain ⟨v, v', a, b, c⟩ := h5 k hk
      exact ⟨v, v', a, b, c.mono hm⟩⟩
  | .map _ _, ⟨h0, es, h1, h2⟩ => ⟨h0, es, h1, h2.mono hm⟩
  | .iter _ _, h => h
  | .miter _ _ _ _, ⟨h0, r', h1, h2⟩ => ⟨h0, r', h1, h2.mono hm⟩

theorem BR.world {P : Program} {M : Mp} {w w' : World} {i g d : Nat} (hw : w'.heap[g]? = w.heap[g]?) : ∀ {B : Blk}, BR P M w i g d B → BR P M w' i g d B
  | .cells n c ty, ⟨cs, m, ty', h0, h1, h⟩ => ⟨cs, m, ty', h0, hw.trans h1, h⟩
  | .map _ _, ⟨h0, es, h1, h2⟩ => ⟨h0, es, hw.trans h1, h2⟩
  | .iter _ _, ⟨h0, h⟩ => ⟨h0, hw.trans h⟩
  | .miter _ _ _ _, ⟨h0, r', h1, h2⟩ => ⟨h0, r', hw.trans h1, h2⟩

structure Rel (P : Program) (w0 : World) (M : Mp) (σ : St) (w : World) : Prop where
  os : w.os = w0.os
  tape : w.tape = w0.tape
  output : w.output = w0.output
  size : w0.heap.size ≤ w.heap.size
  old : ∀ i, i < w0.heap.size → w.heap[i]? = w0.heap[i]?
  bs : M.base ≤ w0.heap.size
  nx : M.base ≤ σ.nx
  al : ∀ i, M.al i → M.base ≤ i ∧ i < σ.nx
  inj : ∀ i j g d d', M.al i → M.al j → M.f i = some (g, d) → M.f j = some (g, d') → i = j
  live : ∀ i g d, M.al i → M.f i = some (g, d) → w0.heap.size ≤ g ∧ ∃ B, σ.blk i = some B ∧ BR P M w i g d B
  dead : ∀ i, M.al i → M.f i = none → σ.blk i = none

structure Stp (M M' : Mp) (σ σ' : St) : Prop where
  le : M.le M'
  nx : σ.nx ≤ σ'.nx
  al : ∀ i, M'.al i → M.al i ∨ (σ.nx ≤ i ∧ i < σ'.nx)
  unt : ∀ i, i < σ.nx → ¬ M.al i → σ'.blk i = σ.blk i

theorem Stp.refl (M : Mp) (σ : St) : Stp M M σ σ := ⟨.refl M, Nat.le_refl _, fun _ h => .inl h, fun _ _ _ => rfl⟩
theorem Stp.trans {M M' M'' : Mp} {σ σ' σ'' : St} (h : Stp M M' σ σ') (k : Stp M' M'' σ' σ'') : Stp M M'' σ σ'' :=
  ⟨h.le.trans k.le, Nat.le_trans h.nx k.nx, fun i hi => by
    rcases k.al i hi with a | ⟨a, b⟩
    · rcases h.al i a with c | ⟨c, d⟩
      · exact .inl c
      · exact .inr ⟨c, Nat.lt_of_lt_of_le d k.nx⟩
    · exact .inr ⟨Nat.le_trans h.nx a, b⟩, fun i hi hn => by
    refine (k.unt i (Nat.lt_of_lt_of_le hi h.nx) fun hx => ?_).trans (h.unt i hi hn)
    rcases h.al i hx with a | ⟨a, _⟩
    · exact hn a
    · omega⟩

/-- The program, the blocks that are themselves, and what is known of these. -/
structure Env where
  P : Program
  base : Nat
  G : Nat → Nat → Option Value

structure Env.ok (E : Env) (w0 : World) : Prop where
  G : ∀ g i v, g < E.base → E.G g i = some v → w0.cell? ⟨g, i, none⟩ = some v ∧ ∀ M : Mp, M.base = E.base → V M v v

def Env.load (E : Env) (σ : St) (a : Addr) : Option Value :=
  bif a.spot.isSome then none else bif Nat.blt a.block E.base then E.G a.block a.off else
  match σ.blk a.block with
  | some (.cells n c _) => bif Nat.blt a.off n then c.get a.off else none
  | _ => none

theorem blt_iff (a b : Nat) : Nat.blt a b = decide (a < b) := by
  simp only [Nat.blt]
  cases h : Nat.ble a.succ b
  · have : ¬ a.succ ≤ b := Nat.not_le_of_not_ble_eq_true (by rw [h]; simp)
    have h2 : ¬ a < b := this
    simp [h2]
  · have : a.succ ≤ b := Nat.le_of_ble_eq_true h
    have h2 : a < b := this
    simp [h2]

theorem cell_old {P : Program} {w0 w : World} {M : Mp} {σ : St} (hr : Rel P w0 M σ w) {a : Addr} {v : Value} (h : w0.cell? a = some v) : w.cell? a = some v := by
  have hlt := World.block_lt_of_cell? w0 a h
  unfold World.cell? at h ⊢
  rw [hr.old _ hlt]; exact h

theorem Rel.cell {E : Env} {w0 w : World} {M : Mp} {σ : St} (hE : E.ok w0) (hb : M.base = E.base) (hr : Rel E.P w0 M σ w) {a b : Addr} (ha : M.A a b) {v : Value} (h : E.load σ a = some v) :
    ∃ v', w.cell? b = some v' ∧ V M v v' := by
  unfold Env.load at h
  rcases Bool.eq_false_or_eq_true a.spot.isSome with hs | hs
  · simp [hs] at h
  rw [hs, cond_false, blt_iff] at h
  rcases ha with ⟨h1, rfl⟩ | ⟨h1, h2, h3, h4⟩
  · rw [hb] at h1
    simp only [h1, decide_true, cond_true] at h
    obtain ⟨hc, hv⟩ := hE.G _ _ _ h1 h
    refine ⟨v, ?_, hv M hb⟩
    have : b = ⟨b.block, b.off, none⟩ := by
      cases b with | mk x y z => cases z <;> simp_all
    rw [this]; exact cell_old hr hc
  · have : ¬ a.block < E.base := by omega
    simp only [this, decide_false, cond_false] at h
    cases hf : M.f a.block with
    | none => rw [hr.dead _ h2 hf] at h; simp at h
    | some p =>
      obtain ⟨g, d⟩ := p
      obtain ⟨_, B, hB, hbr⟩ := hr.live _ g d h2 hf
      rw [hB] at h
      cases B with
      | cells n c ty =>
        simp only [blt_iff] at h
        obtain ⟨cs, m, _, _, e1, _, _, _, e5⟩ := hbr
        rcases Nat.lt_or_ge a.off n with hlt | hge
        · simp only [hlt, decide_true, cond_true] at h
          obtain ⟨u, u', x1, x2, x3⟩ := e5 _ hlt
          rw [x1] at h
          injection h with h
          subst h
          refine ⟨u', ?_, x3⟩
          rw [h4 g d hf]
          simp [World.cell?, e1, x2]
        · have : ¬ a.off < n := by omega
          simp [this] at h
      | _ => simp at h

theorem Rel.drew {P : Program} {w0 w : World} {M : Mp} {σ : St} (hr : Rel P w0 M σ w) : Rel P w0 M σ { w with drawn := w.drawn + 1 } :=
  ⟨hr.os, hr.tape, hr.output, hr.size, hr.old, hr.bs, hr.nx, hr.al, hr.inj, fun i g d a b => by
    obtain ⟨h1, B, h2, h3⟩ := hr.live i g d a b
    exact ⟨h1, B, h2, BR.world (w := w) rfl h3⟩, hr.dead⟩

/-- A block that was not there (or not yet there in the world) lies now at a place. -/
def Mp.push (M : Mp) (i g d sz lim : Nat) : Mp :=
  { base := M.base, al := fun j => M.al j ∨ j = i, f := fun j => if j = i then some (g, d) else M.f j, sz := fun j => if j = i then sz else M.sz j, lim := fun j => if j = i then lim else M.lim j }

theorem Mp.push_le {M : Mp} {i g d sz lim : Nat} (hi : ¬ M.al i) : M.le (M.push i g d sz lim) := by
  have hne : ∀ j, M.al j → j ≠ i := fun j hj e => hi (e ▸ hj)
  exact ⟨rfl, fun j h => .inl h, fun j h => .inl (by simp [Mp.push, hne j h]), fun j h => by simp [Mp.push, hne j h], fun j h => by simp [Mp.push, hne j h]⟩

/-- A new block of the world, for an abstract one that is there, or comes. -/
theorem Rel.push {P : Program} {w0 w : World} {M : Mp} {σ σ' : St} (hr : Rel P w0 M σ w) {i sz lim : Nat} (hi : ¬ M.al i) (hbi : M.base ≤ i) (hnx : σ.nx ≤ σ'.nx) (hlt : i < σ'.nx) {B : Blk} {o : Obj}
    (hB : σ'.blk i = some B) (hold : ∀ j, M.al j → σ'.blk j = σ.blk j) (hbr : BR P (M.push i w.heap.size 0 sz lim) (w.alloc o) i w.heap.size 0 B) :
    Rel P w0 (M.push i w.heap.size 0 sz lim) σ' (w.alloc o) := by
  have hle : M.le (M.push i w.heap.size 0 sz lim) := Mp.push_le hi
  have hne : ∀ j, M.al j → j ≠ i := fun j hj e => hi (e ▸ hj)
  have hg : ∀ j g d, M.al j → M.f j = some (g, d) → g < w.heap.size := by
    intro j g d a b
    obtain ⟨_, B, _, h3⟩ := hr.live j g d a b
    rcases Nat.lt_or_ge g w.heap.size with h | h
    · exact h
    · have e : w.heap[g]? = none := Array.getElem?_eq_none h
      cases B <;> simp [BR, e] at h3
  have hheap : ∀ g, g < w.heap.size → (w.alloc o).heap[g]? = w.heap[g]? := fun g h => by show (w.heap.push o)[g]? = _; rw [Array.getElem?_push, if_neg (Nat.ne_of_lt h)]
  refine ⟨hr.os, hr.tape, hr.output, by simp; exact Nat.le_succ_of_le hr.size, fun j hj => (hheap j (Nat.lt_of_lt_of_le hj hr.size)).trans (hr.old j hj), hr.bs, Nat.le_trans hr.nx hnx, ?_, ?_, ?_, ?_⟩
  · rintro j (h | rfl)
    · exact ⟨(hr.al j h).1, Nat.lt_of_lt_of_le (hr.al j h).2 hnx⟩
    · exact ⟨hbi, hlt⟩
  · rintro j k g d d' (h | rfl) (h' | rfl) e e'
    · simp only [Mp.push, hne j h, hne k h', if_false] at e e'
      exact hr.inj j k g d d' h h' e e'
    · simp only [Mp.push, hne j h, if_false, if_true] at e e'
      have := hg j g d h e
      simp only [Option.some.injEq, Prod.mk.injEq] at e'
      omega
    · simp only [Mp.push, hne k h', if_false, if_true] at e e'
      have := hg k g d' h' e'
      simp only [Option.some.injEq, Prod.mk.injEq] at e
      omega
    · rfl
  · rintro j g d (h | rfl) e
    · simp only [Mp.push, hne j h, if_false] at e
      obtain ⟨h1, B', h2, h3⟩ := hr.live j g d h e
      exact ⟨h1, B', (hold j h).trans h2, (BR.world (hheap g (hg j g d h e)) h3).mono hle h⟩
    · simp only [Mp.push, if_true, Option.some.injEq, Prod.mk.injEq] at e
      obtain ⟨rfl, rfl⟩ := e
      exact ⟨hr.size, B, hB, hbr⟩
  · rintro j (h | rfl) e
    · simp only [Mp.push, hne j h, if_false] at e
      exact (hold j h).trans (hr.dead j h e)
    · simp [Mp.push] at e

def St.setb (σ : St) (i : Nat) (B : Option Blk) : St := ⟨σ.t.set i B, σ.nx⟩
theorem St.blk_setb {σ : St} {i : Nat} {B : Option Blk} (j : Nat) : (σ.setb i B).blk j = if j = i then B else σ.blk j := Tr.get_set _ _ _ _
def St.new (σ : St) (B : Blk) : St := ⟨σ.t.set σ.nx (some B), σ.nx + 1⟩
theorem St.blk_new {σ : St} {B : Blk} (j : Nat) : (σ.new B).blk j = if j = σ.nx then some B else σ.blk j := Tr.get_set _ _ _ _

theorem BR.lt {P : Program} {M : Mp} {w : World} {i g d : Nat} {B : Blk} (h : BR P M w i g d B) : g < w.heap.size := by
  rcases Nat.lt_or_ge g w.heap.size with hl | hl
  · exact hl
  · have e : w.heap[g]? = none := Array.getElem?_eq_none hl
    cases B <;> simp [BR, e] at h

/-- One block is turned, where it lies. -/
theorem Rel.turn {P : Program} {w0 w w' : World} {M : Mp} {σ : St} (hr : Rel P w0 M σ w) {i g d : Nat} (hi : M.al i) (hf : M.f i = some (g, d)) {B : Blk}
    (hos : w'.os = w.os) (htape : w'.tape = w.tape) (hout : w'.output = w.output) (hsz : w'.heap.size = w.heap.size) (hh : ∀ j, j ≠ g → w'.heap[j]? = w.heap[j]?) (hbr : BR P M w' i g d B) :
    Rel P w0 M (σ.setb i (some B)) w' ∧ Stp M M σ (σ.setb i (some B)) := by
  have hlt := (hr.al i hi).2
  have hblk := St.blk_setb (σ := σ) (i := i) (B := some B)
  obtain ⟨hg0, B0, hB0, hbr0⟩ := hr.live i g d hi hf
  refine ⟨⟨hos.trans hr.os, htape.trans hr.tape, hout.trans hr.output, by rw [hsz]; exact hr.size, fun j hj => (hh j (by omega)).trans (hr.old j hj), hr.bs, hr.nx, hr.al, hr.inj, ?_, ?_⟩, .refl M, Nat.le_refl _, fun _ h => .inl h, ?_⟩
  · intro j g' d' ha he
    by_cases hj : j = i
    · subst hj
      rw [hf] at he
      injection he with he
      injection he with e1 e2
      subst e1 e2
      exact ⟨hg0, B, by rw [hblk, if_pos rfl], hbr⟩
    · obtain ⟨h1, B', h2, h3⟩ := hr.live j g' d' ha he
      refine ⟨h1, B', by rw [hblk, if_neg hj]; exact h2, BR.world (hh _ fun e => ?_) h3⟩
      subst e
      exact hj (hr.inj j i _ _ _ ha hi he hf)
  · intro j ha he
    rw [hblk]
    by_cases hj : j = i
    · subst hj; rw [hf] at he; cases he
    · rw [if_neg hj]; exact hr.dead j ha he
  · intro j _ hn
    rw [hblk, if_neg (fun e : j = i => hn (e ▸ hi))]

/-- A block is given up. -/
def Mp.kill (M : Mp) (i : Nat) : Mp := { M with f := fun j => if j = i then none else M.f j }
theorem Mp.kill_le (M : Mp) (i : Nat) : M.le (M.kill i) :=
  ⟨rfl, fun _ h => h, fun j _ => by by_cases h : j = i <;> simp [Mp.kill, h], fun _ _ => rfl, fun _ _ => rfl⟩
theorem Rel.kill {P : Program} {w0 w : World} {M : Mp} {σ : St} (hr : Rel P w0 M σ w) {i : Nat} (hi : M.al i) :
    Rel P w0 (M.kill i) (σ.setb i none) w ∧ Stp M (M.kill i) σ (σ.setb i none) := by
  have hlt := (hr.al i hi).2
  have hblk := St.blk_setb (σ := σ) (i := i) (B := none)
  refine ⟨⟨hr.os, hr.tape, hr.output, hr.size, hr.old, hr.bs, hr.nx, hr.al, ?_, ?_, ?_⟩, M.kill_le i, Nat.le_refl _, fun _ h => .inl h, ?_⟩
  · intro j k g d d' ha hb he he'
    by_cases hj : j = i <;> by_cases hk : k = i <;> simp [Mp.kill, hj, hk] at he he'
    exact hr.inj j k g d d' ha hb he he'
  · intro j g d ha he
    by_cases hj : j = i
    · simp [Mp.kill, hj] at he
    · simp only [Mp.kill, hj, if_false] at he
      obtain ⟨h1, B, h2, h3⟩ := hr.live j g d ha he
      exact ⟨h1, B, by rw [hblk, if_neg hj]; exact h2, h3.mono (M.kill_le i) ha⟩
  · intro j ha he
    rw [hblk]
    by_cases hj : j = i
    · rw [if_pos hj]
    · rw [if_neg hj]; simp only [Mp.kill, hj, if_false] at he; exact hr.dead j ha he
  · intro j _ hn
    rw [hblk, if_neg (fun e : j = i => hn (e ▸ hi))]

/-- A block is given up, and another one, new, lies at its place in the world. -/
def Mp.swap (M : Mp) (i k g d sz lim : Nat) : Mp :=
  { base := M.base, al := fun j => M.al j ∨ j = k, f := fun j => if j = k then some (g, d) else if j = i then none else M.f j, sz := fun j => if j = k then sz else M.sz j, lim := fun j => if j = k then lim else M.lim j }
theorem Mp.swap_le {M : Mp} {i k g d sz lim : Nat} (hk : ¬ M.al k) : M.le (M.swap i k g d sz lim) := by
  have hne : ∀ j, M.al j → j ≠ k := fun j hj e => hk (e ▸ hj)
  refine ⟨rfl, fun j h => .inl h, fun j h => ?_, fun j h => by simp [Mp.swap, hne j h], fun j h => by simp [Mp.swap, hne j h]⟩
  by_cases e : j = i
  · subst e; exact .inr (by simp [Mp.swap, hne j h])
  · exact .inl (by simp [Mp.swap, hne j h, e])
theorem Rel.swap {P : Program} {w0 w w' : World} {M : Mp} {σ : St} (hr : Rel P w0 M σ w) {i g d d' sz lim : Nat} (hi : M.al i) (hf : M.f i = some (g, d)) {B : Blk}
    (hos : w'.os = w.os) (htape : w'.tape = w.tape) (hout : w'.output = w.output) (hsz : w'.heap.size = w.heap.size) (hh : ∀ j, j ≠ g → w'.heap[j]? = w.heap[j]?)
    (hbr : BR P (M.swap i σ.nx g d' sz lim) w' σ.nx g d' B) :
    Rel P w0 (M.swap i σ.nx g d' sz lim) ((σ.setb i none).new B) w' ∧ Stp M (M.swap i σ.nx g d' sz lim) σ ((σ.setb i none).new B) := by
  have hk : ¬ M.al σ.nx := fun h => Nat.lt_irrefl _ (hr.al _ h).2
  have hlt := (hr.al i hi).2
  have hle : M.le (M.swap i σ.nx g d' sz lim) := Mp.swap_le hk
  have hne : ∀ j, M.al j → j ≠ σ.nx := fun j hj e => hk (e ▸ hj)
  have hnx : ((σ.setb i none).new B).nx = σ.nx + 1 := rfl
  have hblk : ∀ j, ((σ.setb i none).new B).blk j = if j = σ.nx then some B else if j = i then none else σ.blk j := fun j => by
    rw [St.blk_new]
    show (if j = σ.nx then _ else _) = _
    rw [St.blk_setb]
  obtain ⟨hg0, B0, hB0, hbr0⟩ := hr.live i g d hi hf
  refine ⟨⟨hos.trans hr.os, htape.trans hr.tape, hout.trans hr.output, by rw [hsz]; exact hr.size, fun j hj => (hh j (by omega)).trans (hr.old j hj), hr.bs, by rw [hnx]; exact Nat.le_succ_of_le hr.nx, ?_, ?_, ?_, ?_⟩, hle, by rw [hnx]; omega, ?_, ?_⟩
  · rintro j (h | rfl)
    · exact ⟨(hr.al j h).1, by rw [hnx]; exact Nat.lt_succ_of_lt (hr.al j h).2⟩
    · exact ⟨hr.nx, by rw [hnx]; omega⟩
  · have hother : ∀ j g' d2, M.al j → j ≠ i → M.f j = some (g', d2) → g' ≠ g := fun j g' d2 ha hji he e => hji (hr.inj j i g' d2 d ha hi he (e ▸ hf))
    rintro j l g' d1 d2 (h | rfl) (h' | rfl) e e'
    · by_cases ji : j = i
      · simp [Mp.swap, hne j h, ji, hne i hi] at e
      · by_cases li : l = i
        · simp [Mp.swap, hne l h', li, hne i hi] at e'
        · simp only [Mp.swap, hne j h, hne l h', ji, li, if_false] at e e'
          exact hr.inj j l g' d1 d2 h h' e e'
    · by_cases ji : j = i
      · simp [Mp.swap, hne j h, ji, hne i hi] at e
      · simp only [Mp.swap, hne j h, ji, if_false, if_true, Option.some.injEq, Prod.mk.injEq] at e e'
        exact absurd e'.1.symm (hother j g' d1 h ji e)
    · by_cases li : l = i
      · simp [Mp.swap, hne l h', li, hne i hi] at e'
      · simp only [Mp.swap, hne l h', li, if_false, if_true, Option.some.injEq, Prod.mk.injEq] at e e'
        exact absurd e.1.symm (hother l g' d2 h' li e')
    · rfl
  · rintro j g' d1 (h | rfl) e
    · by_cases ji : j = i
      · simp [Mp.swap, hne j h, ji, hne i hi] at e
      · simp only [Mp.swap, hne j h, ji, if_false] at e
        obtain ⟨h1, B', h2, h3⟩ := hr.live j g' d1 h e
        refine ⟨h1, B', by rw [hblk, if_neg (hne j h), if_neg ji]; exact h2, (BR.world (hh _ fun eg => ?_) h3).mono hle h⟩
        subst eg
        exact ji (hr.inj j i _ _ _ h hi e hf)
    · simp only [Mp.swap, if_true, Option.some.injEq, Prod.mk.injEq] at e
      obtain ⟨rfl, rfl⟩ := e
      exact ⟨hg0, B, by rw [hblk, if_pos rfl], hbr⟩
  · rintro j (h | rfl) e
    · rw [hblk, if_neg (hne j h)]
      by_cases ji : j = i
      · rw [if_pos ji]
      · rw [if_neg ji]
        simp only [Mp.swap, hne j h, ji, if_false] at e
        exact hr.dead j h e
    · simp [Mp.swap] at e
  · rintro j (h | rfl)
    · exact .inl h
    · exact .inr ⟨Nat.le_refl _, by rw [hnx]; omega⟩
  · intro j hj hn
    rw [hblk, if_neg (by omega), if_neg (fun e : j = i => hn (e ▸ hi))]

/-- A new block at the end of both. -/
theorem Rel.new {P : Program} {w0 w : World} {M : Mp} {σ : St} (hr : Rel P w0 M σ w) {sz lim : Nat} {B : Blk} {o : Obj}
    (hbr : BR P (M.push σ.nx w.heap.size 0 sz lim) (w.alloc o) σ.nx w.heap.size 0 B) :
    Rel P w0 (M.push σ.nx w.heap.size 0 sz lim) (σ.new B) (w.alloc o) ∧ Stp M (M.push σ.nx w.heap.size 0 sz lim) σ (σ.new B) := by
  have hk : ¬ M.al σ.nx := fun h => Nat.lt_irrefl _ (hr.al _ h).2
  have hblk := St.blk_new (σ := σ) (B := B)
  have hnx : (σ.new B).nx = σ.nx + 1 := rfl
  refine ⟨hr.push hk hr.nx (by rw [hnx]; omega) (by rw [hnx]; omega) (by rw [hblk, if_pos rfl]) (fun j hj => by rw [hblk, if_neg (fun e : j = σ.nx => hk (e ▸ hj))]) hbr, Mp.push_le hk, by rw [hnx]; omega, ?_, ?_⟩
  · rintro j (h | rfl)
    · exact .inl h
    · exact .inr ⟨Nat.le_refl _, by rw [hnx]; omega⟩
  · intro j hj _
    rw [hblk, if_neg (by omega)]

def Env.store (E : Env) (σ : St) (a : Addr) (v : Value) : Option St :=
  bif a.spot.isSome then none else bif Nat.blt a.block E.base then none else
  match σ.blk a.block with
  | some (.cells n c ty) => bif Nat.blt a.off n && v.oneCell' then some (σ.setb a.block (some (.cells n (c.set a.off (some v)) ty))) else none
  | _ => none

theorem V.oneCell {M : Mp} {v v' : Value} (h : V M v v') : v'.oneCell' = v.oneCell' := by cases h <;> rfl

theorem Rel.store {E : Env} {w0 w : World} {M : Mp} {σ σ' : St} (hb : M.base = E.base) (hr : Rel E.P w0 M σ w) {a b : Addr} (ha : M.A a b) {v v' : Value} (hv : V M v v') (h : E.store σ a v = some σ') :
    ∃ u, w.cell? b = some u ∧ w.frozen? b = false ∧ v'.oneCell' = true ∧ Rel E.P w0 M σ' (w.setCell b v') ∧ Stp M M σ σ' := by
  unfold Env.store at h
  rcases Bool.eq_false_or_eq_true a.spot.isSome with hs | hs
  · simp [hs] at h
  rw [hs, cond_false, blt_iff] at h
  rcases ha with ⟨h1, rfl⟩ | ⟨h1, h2, h3, h4⟩
  · rw [hb] at h1; simp [h1] at h
  · have : ¬ a.block < E.base := by omega
    simp only [this, decide_false, cond_false] at h
    cases hf : M.f a.block with
    | none => rw [hr.dead _ h2 hf] at h; simp at h
    | some p =>
      obtain ⟨g, d⟩ := p
      obtain ⟨_, B, hB, hbr⟩ := hr.live _ g d h2 hf
      rw [hB] at h
      cases B with
      | map l cl => simp at h
      | iter s p => simp at h
      | miter r a b c => simp at h
      | cells n c ty =>
        simp only [blt_iff] at h
        obtain ⟨cs, ⟨m1, m2⟩, ty', e0, e1, e2, e3, e4, e5⟩ := hbr
        by_cases hc : (decide (a.off < n) && v.oneCell') = true
        · rw [hc, cond_true] at h
          injection h with h
          subst h
          simp only [Bool.and_eq_true, decide_eq_true_eq] at hc
          obtain ⟨hlt, h1c⟩ := hc
          obtain ⟨u, u', x1, x2, x3⟩ := e5 _ hlt
          have hbb := h4 g d hf
          have hcell : (w.setCell b v').heap[g]? = some (.cells (cs.setIfInBounds (d + a.off) v') ty' (m1, m2)) := by
            simp [World.setCell, hbb, Array.getElem?_modify, e1]
          refine ⟨u', by rw [hbb]; simp [World.cell?, e1, x2], by rw [hbb]; simpa [World.frozen?, e1] using e0 (d + a.off) (by omega), by rw [hv.oneCell]; exact h1c, ?_⟩
          refine Rel.turn hr h2 hf rfl rfl rfl (by simp) (fun j hj => by simp [World.setCell, hbb, Array.getElem?_modify, Ne.symm hj]) ?_
          refine ⟨_, _, _, by simpa using e0, hcell, by simpa using e2, e3, by simpa using e4, fun k hk => ?_⟩
          obtain ⟨y, y', z1, z2, z3⟩ := e5 k hk
          by_cases hka : k = a.off
          · subst hka
            refine ⟨v, v', by rw [Tr.get_set _ _ _ _, if_pos rfl], ?_, hv⟩
            rw [Array.getElem?_setIfInBounds, if_pos rfl, if_pos (by omega)]
          · refine ⟨y, y', by rw [Tr.get_set _ _ _ _, if_neg hka]; exact z1, ?_, z3⟩
            rw [Array.getElem?_setIfInBounds, if_neg (by omega)]; exact z2
        · simp [Bool.eq_false_iff.2 hc] at h
end Go.B
