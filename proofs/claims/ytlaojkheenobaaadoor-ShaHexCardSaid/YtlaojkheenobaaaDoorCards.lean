/-
  DERIVED. GIVEN WITH THE SEED: THE CARDS: each row of YtlaojkheenobaaaDoorRows.lean that lists a variable, with what it lists TIED to the program's text (the seventh form; the later family's looks); each row that meets fmt, with fmt's text TOLD by the authors' own Lean function (tested against real Go, not proved from fmt's source: count such statements apart). THE CARD IS WHAT COUNTS. Prove the row's statement (the work); the ties are given (YtlaojkheenobaaaDoorTie.lean); close each card by the builder's one call (the guide's Derived/Test/ToyasCard.lean, 'card_holds'). Laid BY PROGRAM, IN A SANDBOX (cutbox-door.mjs). By AI agents, Wed Nov 11 2026. No macro, syntax, notation, axiom, sorry.
-/
import Derived.Test.YtlaojkheenobaaaDoorRows
import GoSem.ClaimSeven
namespace Go.Proofs.YtlaojkheenobaaaDoor
namespace Rows

/-- THE TIED CARD OF 'outpostlaw01.ShaSums'. -/
def shaSumsCard : Claim7 := { stood := { row := shaSumsRow, standIns := [], harness := (true, "f30c262cb552fef06b6fbedf3b3ac4ecd10ccf786810bc3c230dc3959e13c989"), looks := false }, kinds := [], alts := [], laidByText := true, laidKinds := [.data, .data], laidTests := true, laidLooks := .later }
def ShaSumsCardSaid : Prop := Claim7.holds Tryd.pinned (.plain (OpenSpec.ofChange shaSumsSpec)) shaSumsCard

/-- THE TIED CARD OF 'outpostlaw01.ShaHex'. -/
def shaHexCard : Claim7 := { stood := { row := shaHexRow, standIns := [], harness := (true, "f30c262cb552fef06b6fbedf3b3ac4ecd10ccf786810bc3c230dc3959e13c989"), looks := false }, kinds := [], alts := [], laidByText := true, laidKinds := [.data], laidTests := true, laidLooks := .later }
def ShaHexCardSaid : Prop := Claim7.holds Tryd.pinned (.plain (OpenSpec.ofChange shaHexSpec)) shaHexCard

/-- THE TIED CARD OF 'outpostlaw01.ShaBack'. -/
def shaBackCard : Claim7 := { stood := { row := shaBackRow, standIns := [], harness := (true, "f30c262cb552fef06b6fbedf3b3ac4ecd10ccf786810bc3c230dc3959e13c989"), looks := false }, kinds := [], alts := [], laidByText := true, laidKinds := [.data], laidTests := true, laidLooks := .later }
def ShaBackCardSaid : Prop := Claim7.holds Tryd.pinned (.plain (OpenSpec.ofChange shaBackSpec)) shaBackCard

/-- THE TIED CARD OF 'outpostlaw01.ShaPieces'. -/
def shaPiecesCard : Claim7 := { stood := { row := shaPiecesRow, standIns := [], harness := (true, "f30c262cb552fef06b6fbedf3b3ac4ecd10ccf786810bc3c230dc3959e13c989"), looks := false }, kinds := [], alts := [], laidByText := true, laidKinds := [.data], laidTests := true, laidLooks := .later }
def ShaPiecesCardSaid : Prop := Claim7.holds Tryd.pinned (.plain (OpenSpec.ofChange shaPiecesSpec)) shaPiecesCard

/-- THE TIED CARD OF 'outpostlaw01.ShaKeeps'. -/
def shaKeepsCard : Claim7 := { stood := { row := shaKeepsRow, standIns := [], harness := (true, "f30c262cb552fef06b6fbedf3b3ac4ecd10ccf786810bc3c230dc3959e13c989"), looks := false }, kinds := [], alts := [], laidByText := true, laidKinds := [.data], laidTests := true, laidLooks := .later }
def ShaKeepsCardSaid : Prop := Claim7.holds Tryd.pinned (.plain (OpenSpec.ofChange shaKeepsSpec)) shaKeepsCard

/-- THE TIED CARD OF 'outpostlaw01.ShaLong'. -/
def shaLongCard : Claim7 := { stood := { row := shaLongRow, standIns := [], harness := (true, "f30c262cb552fef06b6fbedf3b3ac4ecd10ccf786810bc3c230dc3959e13c989"), looks := false }, kinds := [], alts := [], laidByText := true, laidKinds := [.data, .data], laidTests := true, laidLooks := .later }
def ShaLongCardSaid : Prop := Claim7.holds Tryd.pinned (.plain (OpenSpec.ofChange shaLongSpec)) shaLongCard

/-- THE SECOND FORM's CARD OF 'outpostlaw01.ShaSums'. -/
def shaSumsUptoCard : Claim7 := { stood := { row := shaSumsUptoRow, standIns := [], harness := (true, "f30c262cb552fef06b6fbedf3b3ac4ecd10ccf786810bc3c230dc3959e13c989"), looks := false }, kinds := [], alts := [], laidByText := true, laidKinds := [.data, .data], laidTests := true, laidLooks := .later }
def ShaSumsUptoCardSaid : Prop := Claim7.holds Tryd.pinned (.plain (OpenSpec.upto shaSumsSpec)) shaSumsUptoCard

/-- THE SECOND FORM's CARD OF 'outpostlaw01.ShaHex'. -/
def shaHexUptoCard : Claim7 := { stood := { row := shaHexUptoRow, standIns := [], harness := (true, "f30c262cb552fef06b6fbedf3b3ac4ecd10ccf786810bc3c230dc3959e13c989"), looks := false }, kinds := [], alts := [], laidByText := true, laidKinds := [.data], laidTests := true, laidLooks := .later }
def ShaHexUptoCardSaid : Prop := Claim7.holds Tryd.pinned (.plain (OpenSpec.upto shaHexSpec)) shaHexUptoCard

/-- THE SECOND FORM's CARD OF 'outpostlaw01.ShaBack'. -/
def shaBackUptoCard : Claim7 := { stood := { row := shaBackUptoRow, standIns := [], harness := (true, "f30c262cb552fef06b6fbedf3b3ac4ecd10ccf786810bc3c230dc3959e13c989"), looks := false }, kinds := [], alts := [], laidByText := true, laidKinds := [.data], laidTests := true, laidLooks := .later }
def ShaBackUptoCardSaid : Prop := Claim7.holds Tryd.pinned (.plain (OpenSpec.upto shaBackSpec)) shaBackUptoCard

/-- THE SECOND FORM's CARD OF 'outpostlaw01.ShaPieces'. -/
def shaPiecesUptoCard : Claim7 := { stood := { row := shaPiecesUptoRow, standIns := [], harness := (true, "f30c262cb552fef06b6fbedf3b3ac4ecd10ccf786810bc3c230dc3959e13c989"), looks := false }, kinds := [], alts := [], laidByText := true, laidKinds := [.data], laidTests := true, laidLooks := .later }
def ShaPiecesUptoCardSaid : Prop := Claim7.holds Tryd.pinned (.plain (OpenSpec.upto shaPiecesSpec)) shaPiecesUptoCard

/-- THE SECOND FORM's CARD OF 'outpostlaw01.ShaKeeps'. -/
def shaKeepsUptoCard : Claim7 := { stood := { row := shaKeepsUptoRow, standIns := [], harness := (true, "f30c262cb552fef06b6fbedf3b3ac4ecd10ccf786810bc3c230dc3959e13c989"), looks := false }, kinds := [], alts := [], laidByText := true, laidKinds := [.data], laidTests := true, laidLooks := .later }
def ShaKeepsUptoCardSaid : Prop := Claim7.holds Tryd.pinned (.plain (OpenSpec.upto shaKeepsSpec)) shaKeepsUptoCard

/-- THE SECOND FORM's CARD OF 'outpostlaw01.ShaLong'. -/
def shaLongUptoCard : Claim7 := { stood := { row := shaLongUptoRow, standIns := [], harness := (true, "f30c262cb552fef06b6fbedf3b3ac4ecd10ccf786810bc3c230dc3959e13c989"), looks := false }, kinds := [], alts := [], laidByText := true, laidKinds := [.data, .data], laidTests := true, laidLooks := .later }
def ShaLongUptoCardSaid : Prop := Claim7.holds Tryd.pinned (.plain (OpenSpec.upto shaLongSpec)) shaLongUptoCard
end Rows
end Go.Proofs.YtlaojkheenobaaaDoor
