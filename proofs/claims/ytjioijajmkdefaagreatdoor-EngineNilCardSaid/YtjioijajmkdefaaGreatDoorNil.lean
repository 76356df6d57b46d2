/-
  The walk of a nil engine's Begin, and the bookkeeping of contracts.
-/
import Derived.Test.YtjioijajmkdefaaGreatDoorRows
import Derived.WalkKit
import Derived.WalkSpells
import Derived.WalkLawsBesides
namespace Go.Proofs.YtjioijajmkdefaaGreatDoor.Nil
open Go Go.RowKit

abbrev op (a b : Int) (sl : Value) (c : Int) (s : ByteArray) : Value := .agg #[.int .i64 a, .int .u32 b, sl, .int .u32 c, .string s]
theorem begins (n a b c : Int) (sl : Value) (s : ByteArray) (w : World) : Calls Tryz.prog 5 #[.pointer none, .int .i64 n, op a b sl c s] w fun e w' => e = .returned (.int .i64 1) ∧ Below w.heap.size w w' := by
  go_enter Tryz.func5, Tryz.ntmps5
  go_wp2
  go_ret
  exact ⟨rfl, by repeat (first | exact Below.refl _ _ | refine Below.alloc ?_ (by simp) _ | refine Below.alloc ?_ (by simp; omega) _)⟩

/-- A contract, said of the world that stood first. -/
theorem chain {f : FuncId} {args : Array Value} {v : Value} {W1 : World} (h : ∀ w, Below W1.heap.size W1 w → Calls Tryz.prog f args w fun e w' => e = .returned v ∧ Below w.heap.size w w') {w : World} (hb : Below W1.heap.size W1 w) :
    Calls Tryz.prog f args w fun e w' => e = .returned v ∧ Below W1.heap.size W1 w' :=
  (h w hb).mono fun _ _ ⟨he, hw⟩ => ⟨he, hb.trans (hw.mono hb.size)⟩
end Go.Proofs.YtjioijajmkdefaaGreatDoor.Nil
