/-
  Quick ways for integers that are not negative.
-/
import Derived.Test.YtjioijajmkdefaaGreatDoorB9
namespace Go.B
open Go

/-- From here on a number of this kind is none, or wraps. -/
def capOf : IntKind → Nat
  | .i8 => 128
  | .i16 => 32768
  | .i32 => 2147483648
  | .i64 => 9223372036854775808
  | .u8 => 256
  | .u16 => 65536
  | .u32 => 4294967296
  | .u64 => 18446744073709551616

theorem wrap_small {k : IntKind} {n : Nat} (h : n < capOf k) : k.wrap (Int.ofNat n) = Int.ofNat n := by
  cases k <;> simp [capOf] at h <;> simp [IntKind.wrap, IntKind.bits, IntKind.signed] <;> omega

def quick (op : BinOp) (k : IntKind) (x y : Nat) : Option Value :=
  match op with
  | .add => bif Nat.blt (Nat.add x y) (capOf k) then some (.int k (.ofNat (Nat.add x y))) else none
  | .sub => bif Nat.ble y x && Nat.blt x (capOf k) then some (.int k (.ofNat (Nat.sub x y))) else none
  | .mul => bif Nat.blt (Nat.mul x y) (capOf k) then some (.int k (.ofNat (Nat.mul x y))) else none
  | .quo => bif Nat.blt x (capOf k) && !(Nat.beq y 0) then some (.int k (.ofNat (Nat.div x y))) else none
  | .rem => bif !(Nat.beq y 0) then some (.int k (.ofNat (Nat.mod x y))) else none
  | .eql => some (.bool (Nat.beq x y))
  | .neq => some (.bool (!(Nat.beq x y)))
  | .lss => some (.bool (Nat.blt x y))
  | .leq => some (.bool (Nat.ble x y))
  | .gtr => some (.bool (Nat.blt y x))
  | .geq => some (.bool (Nat.ble y x))
  | _ => none

theorem ble_eq (a b : Nat) : Nat.ble a b = decide (a ≤ b) := by
  cases h : Nat.ble a b
  · have := Nat.not_le_of_not_ble_eq_true (by rw [h]; simp); simp [this]
  · have := Nat.le_of_ble_eq_true h; simp [this]

theorem quick_run {op : BinOp} {k : IntKind} {x y : Nat} {t : TypeId} {v : Value} (h : quick op k x y = some v) : binOp op t (.int k (.ofNat x)) (.int k (.ofNat y)) = pure v := by
  unfold quick at h
  cases op <;> simp only [blt_iff, ble_eq, nbeq] at h <;> try (simp at h; done)
  case add =>
    by_cases hc : Nat.add x y < capOf k
    · rw [decide_eq_true hc, cond_true, Option.some.injEq] at h; subst h
      have e : binOp .add t (.int k (.ofNat x)) (.int k (.ofNat y)) = pure (.int k (k.wrap (.ofNat (Nat.add x y)))) := by simp [binOp, Op.intArith]
      rw [e, wrap_small hc]
    · rw [decide_eq_false hc] at h; cases h
  case sub =>
    by_cases hc : y ≤ x ∧ x < capOf k
    · rw [decide_eq_true hc.1, decide_eq_true hc.2] at h
      simp only [Bool.and_self, cond_true, Option.some.injEq] at h; subst h
      have h1 : Nat.sub x y < capOf k := Nat.lt_of_le_of_lt (Nat.sub_le x y) hc.2
      have e2 : (Int.ofNat x) - (Int.ofNat y) = Int.ofNat (Nat.sub x y) := (Int.ofNat_sub hc.1).symm
      have e : binOp .sub t (.int k (.ofNat x)) (.int k (.ofNat y)) = pure (.int k (k.wrap (Int.ofNat x - Int.ofNat y))) := by simp [binOp, Op.intArith]
      rw [e, e2, wrap_small h1]
    · have : (decide (y ≤ x) && decide (x < capOf k)) = false := by rw [← Bool.decide_and, decide_eq_false hc]
      rw [this] at h; cases h
  case mul =>
    by_cases hc : Nat.mul x y < capOf k
    · rw [decide_eq_true hc, cond_true, Option.some.injEq] at h; subst h
      have e : binOp .mul t (.int k (.ofNat x)) (.int k (.ofNat y)) = pure (.int k (k.wrap (.ofNat (Nat.mul x y)))) := by simp [binOp, Op.intArith]
      rw [e, wrap_small hc]
    · rw [decide_eq_false hc] at h; cases h
  case quo =>
    by_cases hy : y = 0
    · simp [hy] at h
    · by_cases hc : x < capOf k
      · simp only [hc, hy, decide_true, decide_false, Bool.not_false, Bool.and_self, cond_true, Option.some.injEq] at h; subst h
        have h1 : Nat.div x y < capOf k := Nat.lt_of_le_of_lt (Nat.div_le_self x y) hc
        have e : binOp .quo t (.int k (.ofNat x)) (.int k (.ofNat y)) = pure (.int k (k.wrap (.ofNat (Nat.div x y)))) := by simp [binOp, Op.intDiv, hy]; rfl
        rw [e, wrap_small h1]
      · simp [hc] at h
  case rem =>
    by_cases hy : y = 0
    · simp [hy] at h
    · simp only [hy, decide_false, Bool.not_false, cond_true, Option.some.injEq] at h; subst h
      simp [binOp, Op.intDiv, hy]; rfl
  case eql =>
    simp only [Option.some.injEq] at h; subst h
    have e : ((x : Int) == (y : Int)) = decide (x = y) := by
      by_cases h : x = y
      · simp [h]
      · have : ¬ (x : Int) = (y : Int) := by omega
        simp [h, this]
    simp [binOp, Op.intCmp, e]
  case neq =>
    simp only [Option.some.injEq] at h; subst h
    have e : ((x : Int) != (y : Int)) = !decide (x = y) := by
      by_cases h : x = y
      · simp [h]
      · have : ¬ (x : Int) = (y : Int) := by omega
        simp [h, this]
    simp [binOp, Op.intCmp, e]
  all_goals
    simp only [Option.some.injEq] at h; subst h
    simp [binOp, Op.intCmp]

def Env.opQuick (ρ : Operand → Value) (op : BinOp) (x y : Operand) : Option Value :=
  match ρ x, ρ y with
  | .int k (.ofNat a), .int k' (.ofNat b) => bif decide (k = k') then quick op k a b else none
  | _, _ => none

theorem cond_none {c : Bool} {a v : Value} (h : (bif c then some a else none) = some v) : v = a := by
  cases c
  · cases h
  · exact (Option.some.inj h).symm

theorem quick_flat {op : BinOp} {k : IntKind} {x y : Nat} {v : Value} (h : quick op k x y = some v) : flat v = true := by
  unfold quick at h
  cases op <;> simp only at h <;> first
    | (simp at h; done)
    | (simp only [Option.some.injEq] at h; subst h; rfl)
    | (have e := cond_none h; subst e; rfl)

theorem opQuick_sim {E : Env} {w0 w : World} {M : Mp} {σ : St} {ρ ρ' : Operand → Value} {o : Oper} (hr : Rel E.P w0 M σ w) (hρ : RR M ρ ρ') {op : BinOp} {t : TypeId} {x y : Operand} {ty : TypeId} (ho : o.op = .binOp op t x y ty) {v : Value} (h : Env.opQuick ρ op x y = some v) :
    OSim E w0 M σ w (execOp ρ' o) v σ := by
  unfold Env.opQuick at h
  split at h <;> try (simp at h; done)
  rename_i k a k' b hx hy
  by_cases hk : k = k'
  · subst hk
    simp only [decide_true, cond_true] at h
    have ex : ρ' x = .int k (.ofNat a) := flat_eq (hx ▸ hρ x) rfl
    have ey : ρ' y = .int k (.ofNat b) := flat_eq (hy ▸ hρ y) rfl
    refine .same hr ?_ (V.of_flat (quick_flat h))
    unfold execOp
    rw [ho]
    refine did_v ?_
    simp only [ex, ey]
    have hg : (eqGuard op t x y (.int k (.ofNat a)) (.int k (.ofNat b))).run E.P w = .ok () w := by
      unfold eqGuard
      cases op <;> rfl
    rw [Sem.run_bind, hg, Result.andThen_ok, quick_run h]
    rfl
  · simp [hk] at h
end Go.B
