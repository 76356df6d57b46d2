/-
  DERIVED. GIVEN WITH THE SEED: THE CARDS: each row of YtcfehggjkidhkaaGreatDoorRows.lean that lists a variable, with what it lists TIED to the program's text (the seventh form; the later family's looks); each row that meets fmt, with fmt's text TOLD by the authors' own Lean function (tested against real Go, not proved from fmt's source: count such statements apart). THE CARD IS WHAT COUNTS. Prove the row's statement (the work); the ties are given (YtcfehggjkidhkaaGreatDoorTie.lean); close each card by the builder's one call (the guide's Derived/Test/ToyasCard.lean, 'card_holds'). Laid BY PROGRAM, IN A SANDBOX (cutbox-door.mjs). By AI agents, Wed Nov 11 2026. No macro, syntax, notation, axiom, sorry.
-/
import Derived.Test.YtcfehggjkidhkaaGreatDoorRows
import GoSem.ClaimSeven
namespace Go.Proofs.YtcfehggjkidhkaaGreatDoor
namespace Rows

/-- THE TIED CARD OF 'ploverlaw22.LedgerNil'. -/
def ledgerNilCard : Claim7 := { stood := { row := ledgerNilRow, standIns := [], harness := (true, "f8063be9ee571a6d291d2c4625c0c5e01bd90450fd49c4888ad36d3199a42530"), looks := true }, kinds := [], alts := [], laidByText := true, laidKinds := [.data, .data, .data, .data], laidTests := true, laidLooks := .later }
def LedgerNilCardSaid : Prop := Claim7.holds Tryz.pinned (.plain (OpenSpec.ofChange ledgerNilSpec)) ledgerNilCard

/-- THE TIED CARD OF 'ploverlaw24.AuditReplays'. -/
def auditReplaysCard : Claim7 := { stood := { row := auditReplaysRow, standIns := [], harness := (true, "f8063be9ee571a6d291d2c4625c0c5e01bd90450fd49c4888ad36d3199a42530"), looks := true }, kinds := [], alts := [], laidByText := true, laidKinds := [.data, .data, .data, .data], laidTests := true, laidLooks := .later }
def AuditReplaysCardSaid : Prop := Claim7.holds Tryz.pinned (.plain (OpenSpec.ofChange auditReplaysSpec)) auditReplaysCard

/-- THE TIED CARD OF 'ploverlaw24.AuditWrong'. -/
def auditWrongCard : Claim7 := { stood := { row := auditWrongRow, standIns := [], harness := (true, "f8063be9ee571a6d291d2c4625c0c5e01bd90450fd49c4888ad36d3199a42530"), looks := true }, kinds := [], alts := [], laidByText := true, laidKinds := [.data, .data, .data, .data], laidTests := true, laidLooks := .later }
def AuditWrongCardSaid : Prop := Claim7.holds Tryz.pinned (.plain (OpenSpec.ofChange auditWrongSpec)) auditWrongCard

/-- THE SECOND FORM's CARD OF 'ploverlaw22.LedgerNil'. -/
def ledgerNilUptoCard : Claim7 := { stood := { row := ledgerNilUptoRow, standIns := [], harness := (true, "f8063be9ee571a6d291d2c4625c0c5e01bd90450fd49c4888ad36d3199a42530"), looks := true }, kinds := [], alts := [], laidByText := true, laidKinds := [.data, .data, .data, .data], laidTests := true, laidLooks := .later }
def LedgerNilUptoCardSaid : Prop := Claim7.holds Tryz.pinned (.plain (OpenSpec.upto ledgerNilSpec)) ledgerNilUptoCard

/-- THE SECOND FORM's CARD OF 'ploverlaw24.AuditReplays'. -/
def auditReplaysUptoCard : Claim7 := { stood := { row := auditReplaysUptoRow, standIns := [], harness := (true, "f8063be9ee571a6d291d2c4625c0c5e01bd90450fd49c4888ad36d3199a42530"), looks := true }, kinds := [], alts := [], laidByText := true, laidKinds := [.data, .data, .data, .data], laidTests := true, laidLooks := .later }
def AuditReplaysUptoCardSaid : Prop := Claim7.holds Tryz.pinned (.plain (OpenSpec.upto auditReplaysSpec)) auditReplaysUptoCard

/-- THE SECOND FORM's CARD OF 'ploverlaw24.AuditWrong'. -/
def auditWrongUptoCard : Claim7 := { stood := { row := auditWrongUptoRow, standIns := [], harness := (true, "f8063be9ee571a6d291d2c4625c0c5e01bd90450fd49c4888ad36d3199a42530"), looks := true }, kinds := [], alts := [], laidByText := true, laidKinds := [.data, .data, .data, .data], laidTests := true, laidLooks := .later }
def AuditWrongUptoCardSaid : Prop := Claim7.holds Tryz.pinned (.plain (OpenSpec.upto auditWrongSpec)) auditWrongUptoCard
end Rows
end Go.Proofs.YtcfehggjkidhkaaGreatDoor
