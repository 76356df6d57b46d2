/-
  The walks of the nil ledger's methods.
-/
import Derived.Test.YtcfehggjkidhkaaGreatDoorRows
import Derived.WalkKit
import Derived.WalkSpells
import Derived.WalkLawsBesides
namespace Go.Proofs.YtcfehggjkidhkaaGreatDoor.Nil
open Go Go.RowKit

abbrev op (a b : Int) (sl : Value) (c : Int) (s : ByteArray) : Value := .agg #[.int .i64 a, .int .u32 b, sl, .int .u32 c, .string s]
theorem version (w : World) : Calls Tryz.prog 12 #[.pointer none] w fun e w' => e = .returned (.int .u32 0) ∧ w' = w := by
  go_enter Tryz.func12, Tryz.ntmps12
  go_wp2
  go_ret
  exact ⟨rfl, rfl⟩
theorem search (s : ByteArray) (n : Int) (w : World) : Calls Tryz.prog 6 #[.pointer none, .string s, .int .u32 n] w fun e w' => e = .returned (.tuple #[.slice none 0 0, .int .i64 1]) ∧ w' = w := by
  go_enter Tryz.func6, Tryz.ntmps6
  go_wp2
  go_ret2
  exact ⟨rfl, rfl⟩
theorem tryy (a b c : Int) (sl : Value) (s : ByteArray) (w : World) : Calls Tryz.prog 8 #[.pointer none, op a b sl c s] w fun e w' => e = .returned (.int .i64 1) ∧ Below w.heap.size w w' := by
  go_enter Tryz.func8, Tryz.ntmps8
  go_wp2
  go_ret
  exact ⟨rfl, by repeat (first | exact Below.refl _ _ | refine Below.alloc ?_ (by simp) _)⟩
theorem fits (a b c : Int) (sl : Value) (s : ByteArray) (w : World) : Calls Tryz.prog 10 #[.pointer none, op a b sl c s] w fun e w' => e = .returned (.bool false) ∧ Below w.heap.size w w' := by
  go_enter Tryz.func10, Tryz.ntmps10
  go_wp2
  go_ret
  exact ⟨rfl, by repeat (first | exact Below.refl _ _ | refine Below.alloc ?_ (by simp) _)⟩
theorem doo (a b c : Int) (sl : Value) (s : ByteArray) (w : World) : Calls Tryz.prog 9 #[.pointer none, op a b sl c s] w fun e w' => e = .returned (.int .i64 1) ∧ Below w.heap.size w w' := by
  go_enter Tryz.func9, Tryz.ntmps9
  go_wp2_with ((go_at_call 8; refine (tryy _ _ _ _ _ _).mono ?_; rintro e w1 ⟨rfl, hb⟩; have hb := hb))
  go_ret
  exact ⟨rfl, (Below.alloc (Below.refl _ _) (Nat.le_refl _) _).trans (hb.mono (by simp))⟩

/-- A contract, said of the world that stood first. -/
theorem chain {f : FuncId} {args : Array Value} {v : Value} {W1 : World} (h : ∀ w, Below W1.heap.size W1 w → Calls Tryz.prog f args w fun e w' => e = .returned v ∧ Below w.heap.size w w') {w : World} (hb : Below W1.heap.size W1 w) :
    Calls Tryz.prog f args w fun e w' => e = .returned v ∧ Below W1.heap.size W1 w' :=
  (h w hb).mono fun _ _ ⟨he, hw⟩ => ⟨he, hb.trans (hw.mono hb.size)⟩
end Go.Proofs.YtcfehggjkidhkaaGreatDoor.Nil
