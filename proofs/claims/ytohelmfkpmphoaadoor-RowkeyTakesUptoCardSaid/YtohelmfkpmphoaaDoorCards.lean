/-
  DERIVED. GIVEN WITH THE SEED: THE CARDS: each row of YtohelmfkpmphoaaDoorRows.lean that lists a variable, with what it lists TIED to the program's text (the seventh form; the later family's looks); each row that meets fmt, with fmt's text TOLD by the authors' own Lean function (tested against real Go, not proved from fmt's source: count such statements apart). THE CARD IS WHAT COUNTS. Prove the row's statement (the work); the ties are given (YtohelmfkpmphoaaDoorTie.lean); close each card by the builder's one call (the guide's Derived/Test/ToyasCard.lean, 'card_holds'). Laid BY PROGRAM, IN A SANDBOX (cutbox-door.mjs). By AI agents, Wed Nov 11 2026. No macro, syntax, notation, axiom, sorry.
-/
import Derived.Test.YtohelmfkpmphoaaDoorRows
import GoSem.ClaimSeven
namespace Go.Proofs.YtohelmfkpmphoaaDoor
namespace Rows

/-- THE TIED CARD OF 'cormorantlaw20.RowkeyRows'. -/
def rowkeyRowsCard : Claim7 := { stood := { row := rowkeyRowsRow, standIns := [], harness := (true, "95c590734140a98951fb6e44062f2ba6c3e8f0f5eeb642634f7ca73c5714d6da"), looks := false }, kinds := [], alts := [], laidByText := true, laidKinds := [.data, .pinned], laidTests := true, laidLooks := .later }
def RowkeyRowsCardSaid : Prop := Claim7.holds Tryd.pinned (.plain (OpenSpec.ofChange rowkeyRowsSpec)) rowkeyRowsCard

/-- THE TIED CARD OF 'cormorantlaw20.RowkeyTakes'. -/
def rowkeyTakesCard : Claim7 := { stood := { row := rowkeyTakesRow, standIns := [], harness := (true, "95c590734140a98951fb6e44062f2ba6c3e8f0f5eeb642634f7ca73c5714d6da"), looks := false }, kinds := [], alts := [], laidByText := true, laidKinds := [.data, .pinned], laidTests := true, laidLooks := .later }
def RowkeyTakesCardSaid : Prop := Claim7.holds Tryd.pinned (.plain (OpenSpec.ofChange rowkeyTakesSpec)) rowkeyTakesCard

/-- THE SECOND FORM's CARD OF 'cormorantlaw20.RowkeyRows'. -/
def rowkeyRowsUptoCard : Claim7 := { stood := { row := rowkeyRowsUptoRow, standIns := [], harness := (true, "95c590734140a98951fb6e44062f2ba6c3e8f0f5eeb642634f7ca73c5714d6da"), looks := false }, kinds := [], alts := [], laidByText := true, laidKinds := [.data, .pinned], laidTests := true, laidLooks := .later }
def RowkeyRowsUptoCardSaid : Prop := Claim7.holds Tryd.pinned (.plain (OpenSpec.upto rowkeyRowsSpec)) rowkeyRowsUptoCard

/-- THE SECOND FORM's CARD OF 'cormorantlaw20.RowkeyTakes'. -/
def rowkeyTakesUptoCard : Claim7 := { stood := { row := rowkeyTakesUptoRow, standIns := [], harness := (true, "95c590734140a98951fb6e44062f2ba6c3e8f0f5eeb642634f7ca73c5714d6da"), looks := false }, kinds := [], alts := [], laidByText := true, laidKinds := [.data, .pinned], laidTests := true, laidLooks := .later }
def RowkeyTakesUptoCardSaid : Prop := Claim7.holds Tryd.pinned (.plain (OpenSpec.upto rowkeyTakesSpec)) rowkeyTakesUptoCard
end Rows
end Go.Proofs.YtohelmfkpmphoaaDoor
