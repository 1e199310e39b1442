/-
  DERIVED. GIVEN WITH THE SEED: THE CARDS: each row of YtmgpgjookiknkaaDoorRows.lean that lists a variable, with what it lists TIED to the program's text (the seventh form; the later family's looks); each row that meets fmt, with fmt's text TOLD by the authors' own Lean function (tested against real Go, not proved from fmt's source: count such statements apart). THE CARD IS WHAT COUNTS. Prove the row's statement (the work); the ties are given (YtmgpgjookiknkaaDoorTie.lean); close each card by the builder's one call (the guide's Derived/Test/ToyasCard.lean, 'card_holds'). Laid BY PROGRAM, IN A SANDBOX (cutbox-door.mjs). By AI agents, Wed Nov 11 2026. No macro, syntax, notation, axiom, sorry.
-/
import Derived.Test.YtmgpgjookiknkaaDoorRows
import GoSem.ClaimSeven
namespace Go.Proofs.YtmgpgjookiknkaaDoor
namespace Rows

/-- THE TIED CARD OF 'guillochelaw03.ShaCollide'. -/
def shaCollideCard : Claim7 := { stood := { row := shaCollideRow, standIns := [], harness := (true, "a871b3a9b7bba0c3e8189b17de6843c69040571c151e88a51ed904e6786dbd8d"), looks := false }, kinds := [], alts := [], laidByText := true, laidKinds := [.data], laidTests := true, laidLooks := .later }
def ShaCollideCardSaid : Prop := Claim7.holds Tryd.pinned (.plain (OpenSpec.ofChange shaCollideSpec)) shaCollideCard

/-- THE TIED CARD OF 'guillochelaw03.ShaHex'. -/
def shaHexCard : Claim7 := { stood := { row := shaHexRow, standIns := [], harness := (true, "a871b3a9b7bba0c3e8189b17de6843c69040571c151e88a51ed904e6786dbd8d"), looks := false }, kinds := [], alts := [], laidByText := true, laidKinds := [.data], laidTests := true, laidLooks := .later }
def ShaHexCardSaid : Prop := Claim7.holds Tryd.pinned (.plain (OpenSpec.ofChange shaHexSpec)) shaHexCard

/-- THE TIED CARD OF 'guillochelaw03.ShaFresh'. -/
def shaFreshCard : Claim7 := { stood := { row := shaFreshRow, standIns := [], harness := (true, "a871b3a9b7bba0c3e8189b17de6843c69040571c151e88a51ed904e6786dbd8d"), looks := false }, kinds := [], alts := [], laidByText := true, laidKinds := [.data], laidTests := true, laidLooks := .later }
def ShaFreshCardSaid : Prop := Claim7.holds Tryd.pinned (.plain (OpenSpec.ofChange shaFreshSpec)) shaFreshCard

/-- THE TIED CARD OF 'guillochelaw03.ShaDigits'. -/
def shaDigitsCard : Claim7 := { stood := { row := shaDigitsRow, standIns := [], harness := (true, "a871b3a9b7bba0c3e8189b17de6843c69040571c151e88a51ed904e6786dbd8d"), looks := false }, kinds := [], alts := [], laidByText := true, laidKinds := [.data], laidTests := true, laidLooks := .later }
def ShaDigitsCardSaid : Prop := Claim7.holds Tryd.pinned (.plain (OpenSpec.ofChange shaDigitsSpec)) shaDigitsCard

/-- THE SECOND FORM's CARD OF 'guillochelaw03.ShaCollide'. -/
def shaCollideUptoCard : Claim7 := { stood := { row := shaCollideUptoRow, standIns := [], harness := (true, "a871b3a9b7bba0c3e8189b17de6843c69040571c151e88a51ed904e6786dbd8d"), looks := false }, kinds := [], alts := [], laidByText := true, laidKinds := [.data], laidTests := true, laidLooks := .later }
def ShaCollideUptoCardSaid : Prop := Claim7.holds Tryd.pinned (.plain (OpenSpec.upto shaCollideSpec)) shaCollideUptoCard

/-- THE SECOND FORM's CARD OF 'guillochelaw03.ShaHex'. -/
def shaHexUptoCard : Claim7 := { stood := { row := shaHexUptoRow, standIns := [], harness := (true, "a871b3a9b7bba0c3e8189b17de6843c69040571c151e88a51ed904e6786dbd8d"), looks := false }, kinds := [], alts := [], laidByText := true, laidKinds := [.data], laidTests := true, laidLooks := .later }
def ShaHexUptoCardSaid : Prop := Claim7.holds Tryd.pinned (.plain (OpenSpec.upto shaHexSpec)) shaHexUptoCard

/-- THE SECOND FORM's CARD OF 'guillochelaw03.ShaFresh'. -/
def shaFreshUptoCard : Claim7 := { stood := { row := shaFreshUptoRow, standIns := [], harness := (true, "a871b3a9b7bba0c3e8189b17de6843c69040571c151e88a51ed904e6786dbd8d"), looks := false }, kinds := [], alts := [], laidByText := true, laidKinds := [.data], laidTests := true, laidLooks := .later }
def ShaFreshUptoCardSaid : Prop := Claim7.holds Tryd.pinned (.plain (OpenSpec.upto shaFreshSpec)) shaFreshUptoCard

/-- THE SECOND FORM's CARD OF 'guillochelaw03.ShaDigits'. -/
def shaDigitsUptoCard : Claim7 := { stood := { row := shaDigitsUptoRow, standIns := [], harness := (true, "a871b3a9b7bba0c3e8189b17de6843c69040571c151e88a51ed904e6786dbd8d"), looks := false }, kinds := [], alts := [], laidByText := true, laidKinds := [.data], laidTests := true, laidLooks := .later }
def ShaDigitsUptoCardSaid : Prop := Claim7.holds Tryd.pinned (.plain (OpenSpec.upto shaDigitsSpec)) shaDigitsUptoCard
end Rows
end Go.Proofs.YtmgpgjookiknkaaDoor
