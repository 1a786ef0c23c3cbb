/-
  DERIVED. GIVEN WITH THE SEED: THE CARDS: each row of YtiokdncglbfmlaaGreatDoorRows.lean that lists a variable, with what it lists TIED to the program's text (the seventh form; the later family's looks); each row that meets fmt, with fmt's text TOLD by the authors' own Lean function (tested against real Go, not proved from fmt's source: count such statements apart). THE CARD IS WHAT COUNTS. Prove the row's statement (the work); the ties are given (YtiokdncglbfmlaaGreatDoorTie.lean); close each card by the builder's one call (the guide's Derived/Test/ToyasCard.lean, 'card_holds'). Laid BY PROGRAM, IN A SANDBOX (cutbox-door.mjs). By AI agents, Wed Nov 11 2026. No macro, syntax, notation, axiom, sorry.
-/
import Derived.Test.YtiokdncglbfmlaaGreatDoorRows
import GoSem.ClaimSeven
namespace Go.Proofs.YtiokdncglbfmlaaGreatDoor
namespace Rows

/-- THE TIED CARD OF 'smithylaw18.EvmNil'. -/
def evmNilCard : Claim7 := { stood := { row := evmNilRow, standIns := [], harness := (true, "f2608cfccbf4ed797bd49d4e2378b29092e2ab778d5a64f21b512b9c96b55845"), looks := false }, kinds := [], alts := [], laidByText := true, laidKinds := [.data, .data, .data, .data, .data, .data, .data], laidTests := true, laidLooks := .later }
def EvmNilCardSaid : Prop := Claim7.holds Tryz.pinned (.plain (OpenSpec.ofChange evmNilSpec)) evmNilCard

/-- THE TIED CARD OF 'smithylaw20.ExecMissing'. -/
def execMissingCard : Claim7 := { stood := { row := execMissingRow, standIns := [], harness := (true, "f2608cfccbf4ed797bd49d4e2378b29092e2ab778d5a64f21b512b9c96b55845"), looks := false }, kinds := [], alts := [], laidByText := true, laidKinds := [.data, .data, .data, .data, .data, .data, .data], laidTests := true, laidLooks := .later }
def ExecMissingCardSaid : Prop := Claim7.holds Tryz.pinned (.plain (OpenSpec.ofChange execMissingSpec)) execMissingCard

/-- THE TIED CARD OF 'smithylaw18.EvmFetches'. -/
def evmFetchesCard : Claim7 := { stood := { row := evmFetchesRow, standIns := [], harness := (true, "f2608cfccbf4ed797bd49d4e2378b29092e2ab778d5a64f21b512b9c96b55845"), looks := false }, kinds := [], alts := [], laidByText := true, laidKinds := [.data, .data, .data, .data, .data, .data, .data], laidTests := true, laidLooks := .later }
def EvmFetchesCardSaid : Prop := Claim7.holds Tryz.pinned (.plain (OpenSpec.ofChange evmFetchesSpec)) evmFetchesCard

/-- THE TIED CARD OF 'smithylaw18.EvmPlain'. -/
def evmPlainCard : Claim7 := { stood := { row := evmPlainRow, standIns := [], harness := (true, "f2608cfccbf4ed797bd49d4e2378b29092e2ab778d5a64f21b512b9c96b55845"), looks := false }, kinds := [], alts := [], laidByText := true, laidKinds := [.data, .data, .data, .data, .data, .data, .data], laidTests := true, laidLooks := .later }
def EvmPlainCardSaid : Prop := Claim7.holds Tryz.pinned (.plain (OpenSpec.ofChange evmPlainSpec)) evmPlainCard

/-- THE TIED CARD OF 'smithylaw18.EvmAlike'. -/
def evmAlikeCard : Claim7 := { stood := { row := evmAlikeRow, standIns := [], harness := (true, "f2608cfccbf4ed797bd49d4e2378b29092e2ab778d5a64f21b512b9c96b55845"), looks := false }, kinds := [], alts := [], laidByText := true, laidKinds := [.data, .data, .data, .data, .data, .data, .data], laidTests := true, laidLooks := .later }
def EvmAlikeCardSaid : Prop := Claim7.holds Tryz.pinned (.plain (OpenSpec.ofChange evmAlikeSpec)) evmAlikeCard

/-- THE TIED CARD OF 'smithylaw18.EvmUndone'. -/
def evmUndoneCard : Claim7 := { stood := { row := evmUndoneRow, standIns := [], harness := (true, "f2608cfccbf4ed797bd49d4e2378b29092e2ab778d5a64f21b512b9c96b55845"), looks := false }, kinds := [], alts := [], laidByText := true, laidKinds := [.data, .data, .data, .data, .data, .data, .data], laidTests := true, laidLooks := .later }
def EvmUndoneCardSaid : Prop := Claim7.holds Tryz.pinned (.plain (OpenSpec.ofChange evmUndoneSpec)) evmUndoneCard

/-- THE TIED CARD OF 'smithylaw20.ExecPaid'. -/
def execPaidCard : Claim7 := { stood := { row := execPaidRow, standIns := [], harness := (true, "f2608cfccbf4ed797bd49d4e2378b29092e2ab778d5a64f21b512b9c96b55845"), looks := false }, kinds := [], alts := [], laidByText := true, laidKinds := [.data, .data, .data, .data, .data, .data, .data], laidTests := true, laidLooks := .later }
def ExecPaidCardSaid : Prop := Claim7.holds Tryz.pinned (.plain (OpenSpec.ofChange execPaidSpec)) execPaidCard

/-- THE SECOND FORM's CARD OF 'smithylaw18.EvmNil'. -/
def evmNilUptoCard : Claim7 := { stood := { row := evmNilUptoRow, standIns := [], harness := (true, "f2608cfccbf4ed797bd49d4e2378b29092e2ab778d5a64f21b512b9c96b55845"), looks := false }, kinds := [], alts := [], laidByText := true, laidKinds := [.data, .data, .data, .data, .data, .data, .data], laidTests := true, laidLooks := .later }
def EvmNilUptoCardSaid : Prop := Claim7.holds Tryz.pinned (.plain (OpenSpec.upto evmNilSpec)) evmNilUptoCard

/-- THE SECOND FORM's CARD OF 'smithylaw20.ExecMissing'. -/
def execMissingUptoCard : Claim7 := { stood := { row := execMissingUptoRow, standIns := [], harness := (true, "f2608cfccbf4ed797bd49d4e2378b29092e2ab778d5a64f21b512b9c96b55845"), looks := false }, kinds := [], alts := [], laidByText := true, laidKinds := [.data, .data, .data, .data, .data, .data, .data], laidTests := true, laidLooks := .later }
def ExecMissingUptoCardSaid : Prop := Claim7.holds Tryz.pinned (.plain (OpenSpec.upto execMissingSpec)) execMissingUptoCard

/-- THE SECOND FORM's CARD OF 'smithylaw18.EvmFetches'. -/
def evmFetchesUptoCard : Claim7 := { stood := { row := evmFetchesUptoRow, standIns := [], harness := (true, "f2608cfccbf4ed797bd49d4e2378b29092e2ab778d5a64f21b512b9c96b55845"), looks := false }, kinds := [], alts := [], laidByText := true, laidKinds := [.data, .data, .data, .data, .data, .data, .data], laidTests := true, laidLooks := .later }
def EvmFetchesUptoCardSaid : Prop := Claim7.holds Tryz.pinned (.plain (OpenSpec.upto evmFetchesSpec)) evmFetchesUptoCard

/-- THE SECOND FORM's CARD OF 'smithylaw18.EvmPlain'. -/
def evmPlainUptoCard : Claim7 := { stood := { row := evmPlainUptoRow, standIns := [], harness := (true, "f2608cfccbf4ed797bd49d4e2378b29092e2ab778d5a64f21b512b9c96b55845"), looks := false }, kinds := [], alts := [], laidByText := true, laidKinds := [.data, .data, .data, .data, .data, .data, .data], laidTests := true, laidLooks := .later }
def EvmPlainUptoCardSaid : Prop := Claim7.holds Tryz.pinned (.plain (OpenSpec.upto evmPlainSpec)) evmPlainUptoCard

/-- THE SECOND FORM's CARD OF 'smithylaw18.EvmAlike'. -/
def evmAlikeUptoCard : Claim7 := { stood := { row := evmAlikeUptoRow, standIns := [], harness := (true, "f2608cfccbf4ed797bd49d4e2378b29092e2ab778d5a64f21b512b9c96b55845"), looks := false }, kinds := [], alts := [], laidByText := true, laidKinds := [.data, .data, .data, .data, .data, .data, .data], laidTests := true, laidLooks := .later }
def EvmAlikeUptoCardSaid : Prop := Claim7.holds Tryz.pinned (.plain (OpenSpec.upto evmAlikeSpec)) evmAlikeUptoCard

/-- THE SECOND FORM's CARD OF 'smithylaw18.EvmUndone'. -/
def evmUndoneUptoCard : Claim7 := { stood := { row := evmUndoneUptoRow, standIns := [], harness := (true, "f2608cfccbf4ed797bd49d4e2378b29092e2ab778d5a64f21b512b9c96b55845"), looks := false }, kinds := [], alts := [], laidByText := true, laidKinds := [.data, .data, .data, .data, .data, .data, .data], laidTests := true, laidLooks := .later }
def EvmUndoneUptoCardSaid : Prop := Claim7.holds Tryz.pinned (.plain (OpenSpec.upto evmUndoneSpec)) evmUndoneUptoCard

/-- THE SECOND FORM's CARD OF 'smithylaw20.ExecPaid'. -/
def execPaidUptoCard : Claim7 := { stood := { row := execPaidUptoRow, standIns := [], harness := (true, "f2608cfccbf4ed797bd49d4e2378b29092e2ab778d5a64f21b512b9c96b55845"), looks := false }, kinds := [], alts := [], laidByText := true, laidKinds := [.data, .data, .data, .data, .data, .data, .data], laidTests := true, laidLooks := .later }
def ExecPaidUptoCardSaid : Prop := Claim7.holds Tryz.pinned (.plain (OpenSpec.upto execPaidSpec)) execPaidUptoCard
end Rows
end Go.Proofs.YtiokdncglbfmlaaGreatDoor
