/-
  DERIVED. GIVEN WITH THE SEED: THE CARDS: each row of YtaplndehoenghaaDoorRows.lean that lists a variable, with what it lists TIED to the program's text (the seventh form; the later family's looks); each row that meets fmt, with fmt's text TOLD by the authors' own Lean function (tested against real Go, not proved from fmt's source: count such statements apart). THE CARD IS WHAT COUNTS. Prove the row's statement (the work); the ties are given (YtaplndehoenghaaDoorTie.lean); close each card by the builder's one call (the guide's Derived/Test/ToyasCard.lean, 'card_holds'). Laid BY PROGRAM, IN A SANDBOX (cutbox-door.mjs). By AI agents, Wed Nov 11 2026. No macro, syntax, notation, axiom, sorry.
-/
import Derived.Test.YtaplndehoenghaaDoorRows
import GoSem.ClaimSeven
namespace Go.Proofs.YtaplndehoenghaaDoor
namespace Rows

/-- THE TIED CARD OF 'shibbolethlaw07.ParamsWrite'. -/
def paramsWriteCard : Claim7 := { stood := { row := paramsWriteRow, standIns := [], harness := (true, "cc6927b9d6a93ac3bb74d019ba219f47511f56506e9c674278fb3e965f14066b"), looks := false }, kinds := [], alts := [], laidByText := true, laidKinds := [.data, .data], laidTests := true, laidLooks := .later }
def ParamsWriteCardSaid : Prop := Claim7.holds Tryd.pinned (.plain (OpenSpec.ofChange paramsWriteSpec)) paramsWriteCard

/-- THE TIED CARD OF 'shibbolethlaw07.ParamsSame'. -/
def paramsSameCard : Claim7 := { stood := { row := paramsSameRow, standIns := [], harness := (true, "cc6927b9d6a93ac3bb74d019ba219f47511f56506e9c674278fb3e965f14066b"), looks := false }, kinds := [], alts := [], laidByText := true, laidKinds := [.data, .data], laidTests := true, laidLooks := .later }
def ParamsSameCardSaid : Prop := Claim7.holds Tryd.pinned (.plain (OpenSpec.ofChange paramsSameSpec)) paramsSameCard

/-- THE SECOND FORM's CARD OF 'shibbolethlaw07.ParamsWrite'. -/
def paramsWriteUptoCard : Claim7 := { stood := { row := paramsWriteUptoRow, standIns := [], harness := (true, "cc6927b9d6a93ac3bb74d019ba219f47511f56506e9c674278fb3e965f14066b"), looks := false }, kinds := [], alts := [], laidByText := true, laidKinds := [.data, .data], laidTests := true, laidLooks := .later }
def ParamsWriteUptoCardSaid : Prop := Claim7.holds Tryd.pinned (.plain (OpenSpec.upto paramsWriteSpec)) paramsWriteUptoCard

/-- THE SECOND FORM's CARD OF 'shibbolethlaw07.ParamsSame'. -/
def paramsSameUptoCard : Claim7 := { stood := { row := paramsSameUptoRow, standIns := [], harness := (true, "cc6927b9d6a93ac3bb74d019ba219f47511f56506e9c674278fb3e965f14066b"), looks := false }, kinds := [], alts := [], laidByText := true, laidKinds := [.data, .data], laidTests := true, laidLooks := .later }
def ParamsSameUptoCardSaid : Prop := Claim7.holds Tryd.pinned (.plain (OpenSpec.upto paramsSameSpec)) paramsSameUptoCard
end Rows
end Go.Proofs.YtaplndehoenghaaDoor
