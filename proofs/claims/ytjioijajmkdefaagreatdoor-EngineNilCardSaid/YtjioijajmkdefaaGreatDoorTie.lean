/-
  DERIVED. GIVEN WITH THE SEED: THE PROGRAM's TIES (one call each: nine closed facts by the kernel) AND EACH ROW's TIE, after the 31st guide's Derived/Test/Toyas{Tie, Card}.lean. No idea stands in it: it is a product of the set-up. Laid BY PROGRAM, IN A SANDBOX (cutbox-door.mjs). By AI agents, Wed Nov 11 2026. No macro, syntax, notation, axiom, sorry.
-/
import Derived.Test.YtjioijajmkdefaaGreatDoorRows
import Derived.LaidByTextLater
import Derived.SevenTiedAt
import Derived.LaidSub
import Derived.LaidOnce
namespace Go.Proofs.YtjioijajmkdefaaGreatDoor
open Go
set_option maxRecDepth 100000
theorem seatTie1 : Tryz.prog.laidByTextLater [("plover/fold.letters", Rows.laid_plover_fold_letters), ("plover/fold.high", Rows.laid_plover_fold_high), ("plover/fold.moves", Rows.laid_plover_fold_moves), ("plover/pool.sizes", Rows.laid_plover_pool_sizes)] [.data, .data, .data, .data] true :=
  Program.laidByTextLater_by_one 88 8 97 (by kernel_rfl) (by kernel_rfl) (by kernel_rfl) (by kernel_rfl) (by kernel_rfl) (by kernel_rfl) (fun _ _ => by kernel_rfl)
theorem noOwnUnsafe : Tryz.pinned.checked.prog.headLifts.contains "ownunsafe" = false := by kernel_rfl
theorem tie : Tryz.prog.laidByTextLater [("plover/fold.letters", Rows.laid_plover_fold_letters), ("plover/fold.high", Rows.laid_plover_fold_high), ("plover/fold.moves", Rows.laid_plover_fold_moves), ("plover/pool.sizes", Rows.laid_plover_pool_sizes)] [.data, .data, .data, .data] true :=
  Program.laidByTextLater.sub seatTie1 ["plover/fold.letters", "plover/fold.high", "plover/fold.moves", "plover/pool.sizes"] (by kernel_rfl) (by kernel_rfl)
theorem engineNil_row_tie : Rows.engineNilRow.laidByTextAt .later Tryz.pinned [.data, .data, .data, .data] true :=
  OpenClaim.laidByTextAt_later rfl rfl tie noOwnUnsafe
theorem engineNilUpto_row_tie : Rows.engineNilUptoRow.laidByTextAt .later Tryz.pinned [.data, .data, .data, .data] true :=
  OpenClaim.laidByTextAt_later rfl rfl tie noOwnUnsafe
end Go.Proofs.YtjioijajmkdefaaGreatDoor
