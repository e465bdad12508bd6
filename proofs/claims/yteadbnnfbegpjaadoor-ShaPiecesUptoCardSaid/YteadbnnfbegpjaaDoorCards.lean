/-
  DERIVED. GIVEN WITH THE SEED: THE CARDS: each row of YteadbnnfbegpjaaDoorRows.lean that lists a variable, with what it lists TIED to the program's text (the seventh form; the later family's looks); each row that meets fmt, with fmt's text TOLD by the authors' own Lean function (tested against real Go, not proved from fmt's source: count such statements apart). THE CARD IS WHAT COUNTS. Prove the row's statement (the work); the ties are given (YteadbnnfbegpjaaDoorTie.lean); close each card by the builder's one call (the guide's Derived/Test/ToyasCard.lean, 'card_holds'). Laid BY PROGRAM, IN A SANDBOX (cutbox-door.mjs). By AI agents, Wed Nov 11 2026. No macro, syntax, notation, axiom, sorry.
-/
import Derived.Test.YteadbnnfbegpjaaDoorRows
import GoSem.ClaimSeven
namespace Go.Proofs.YteadbnnfbegpjaaDoor
namespace Rows

/-- THE TIED CARD OF 'cloisterlaw01.ShaSums'. -/
def shaSumsCard : Claim7 := { stood := { row := shaSumsRow, standIns := [], harness := (true, "87d367f66888df06109b416f393a28fcef5520a88963fa1abc95cee835d6c293"), looks := false }, kinds := [], alts := [], laidByText := true, laidKinds := [.data, .data], laidTests := true, laidLooks := .later }
def ShaSumsCardSaid : Prop := Claim7.holds Tryd.pinned (.plain (OpenSpec.ofChange shaSumsSpec)) shaSumsCard

/-- THE TIED CARD OF 'cloisterlaw01.ShaPieces'. -/
def shaPiecesCard : Claim7 := { stood := { row := shaPiecesRow, standIns := [], harness := (true, "87d367f66888df06109b416f393a28fcef5520a88963fa1abc95cee835d6c293"), looks := false }, kinds := [], alts := [], laidByText := true, laidKinds := [.data, .data], laidTests := true, laidLooks := .later }
def ShaPiecesCardSaid : Prop := Claim7.holds Tryd.pinned (.plain (OpenSpec.ofChange shaPiecesSpec)) shaPiecesCard

/-- THE TIED CARD OF 'cloisterlaw01.ShaNil'. -/
def shaNilCard : Claim7 := { stood := { row := shaNilRow, standIns := [], harness := (true, "87d367f66888df06109b416f393a28fcef5520a88963fa1abc95cee835d6c293"), looks := false }, kinds := [], alts := [], laidByText := true, laidKinds := [.data, .data], laidTests := true, laidLooks := .later }
def ShaNilCardSaid : Prop := Claim7.holds Tryd.pinned (.plain (OpenSpec.ofChange shaNilSpec)) shaNilCard

/-- THE TIED CARD OF 'cloisterlaw02.MacKeys'. -/
def macKeysCard : Claim7 := { stood := { row := macKeysRow, standIns := [], harness := (true, "87d367f66888df06109b416f393a28fcef5520a88963fa1abc95cee835d6c293"), looks := false }, kinds := [], alts := [], laidByText := true, laidKinds := [.data, .data], laidTests := true, laidLooks := .later }
def MacKeysCardSaid : Prop := Claim7.holds Tryd.pinned (.plain (OpenSpec.ofChange macKeysSpec)) macKeysCard

/-- THE TIED CARD OF 'cloisterlaw02.MacMacs'. -/
def macMacsCard : Claim7 := { stood := { row := macMacsRow, standIns := [], harness := (true, "87d367f66888df06109b416f393a28fcef5520a88963fa1abc95cee835d6c293"), looks := false }, kinds := [], alts := [], laidByText := true, laidKinds := [.data, .data], laidTests := true, laidLooks := .later }
def MacMacsCardSaid : Prop := Claim7.holds Tryd.pinned (.plain (OpenSpec.ofChange macMacsSpec)) macMacsCard

/-- THE TIED CARD OF 'cloisterlaw02.MacSame'. -/
def macSameCard : Claim7 := { stood := { row := macSameRow, standIns := [], harness := (true, "87d367f66888df06109b416f393a28fcef5520a88963fa1abc95cee835d6c293"), looks := false }, kinds := [], alts := [], laidByText := true, laidKinds := [.data], laidTests := true, laidLooks := .later }
def MacSameCardSaid : Prop := Claim7.holds Tryd.pinned (.plain (OpenSpec.ofChange macSameSpec)) macSameCard

/-- THE TIED CARD OF 'cloisterlaw02.MacDerives'. -/
def macDerivesCard : Claim7 := { stood := { row := macDerivesRow, standIns := [], harness := (true, "87d367f66888df06109b416f393a28fcef5520a88963fa1abc95cee835d6c293"), looks := false }, kinds := [], alts := [], laidByText := true, laidKinds := [.data, .data], laidTests := true, laidLooks := .later }
def MacDerivesCardSaid : Prop := Claim7.holds Tryd.pinned (.plain (OpenSpec.ofChange macDerivesSpec)) macDerivesCard

/-- THE SECOND FORM's CARD OF 'cloisterlaw01.ShaSums'. -/
def shaSumsUptoCard : Claim7 := { stood := { row := shaSumsUptoRow, standIns := [], harness := (true, "87d367f66888df06109b416f393a28fcef5520a88963fa1abc95cee835d6c293"), looks := false }, kinds := [], alts := [], laidByText := true, laidKinds := [.data, .data], laidTests := true, laidLooks := .later }
def ShaSumsUptoCardSaid : Prop := Claim7.holds Tryd.pinned (.plain (OpenSpec.upto shaSumsSpec)) shaSumsUptoCard

/-- THE SECOND FORM's CARD OF 'cloisterlaw01.ShaPieces'. -/
def shaPiecesUptoCard : Claim7 := { stood := { row := shaPiecesUptoRow, standIns := [], harness := (true, "87d367f66888df06109b416f393a28fcef5520a88963fa1abc95cee835d6c293"), looks := false }, kinds := [], alts := [], laidByText := true, laidKinds := [.data, .data], laidTests := true, laidLooks := .later }
def ShaPiecesUptoCardSaid : Prop := Claim7.holds Tryd.pinned (.plain (OpenSpec.upto shaPiecesSpec)) shaPiecesUptoCard

/-- THE SECOND FORM's CARD OF 'cloisterlaw01.ShaNil'. -/
def shaNilUptoCard : Claim7 := { stood := { row := shaNilUptoRow, standIns := [], harness := (true, "87d367f66888df06109b416f393a28fcef5520a88963fa1abc95cee835d6c293"), looks := false }, kinds := [], alts := [], laidByText := true, laidKinds := [.data, .data], laidTests := true, laidLooks := .later }
def ShaNilUptoCardSaid : Prop := Claim7.holds Tryd.pinned (.plain (OpenSpec.upto shaNilSpec)) shaNilUptoCard

/-- THE SECOND FORM's CARD OF 'cloisterlaw02.MacKeys'. -/
def macKeysUptoCard : Claim7 := { stood := { row := macKeysUptoRow, standIns := [], harness := (true, "87d367f66888df06109b416f393a28fcef5520a88963fa1abc95cee835d6c293"), looks := false }, kinds := [], alts := [], laidByText := true, laidKinds := [.data, .data], laidTests := true, laidLooks := .later }
def MacKeysUptoCardSaid : Prop := Claim7.holds Tryd.pinned (.plain (OpenSpec.upto macKeysSpec)) macKeysUptoCard

/-- THE SECOND FORM's CARD OF 'cloisterlaw02.MacMacs'. -/
def macMacsUptoCard : Claim7 := { stood := { row := macMacsUptoRow, standIns := [], harness := (true, "87d367f66888df06109b416f393a28fcef5520a88963fa1abc95cee835d6c293"), looks := false }, kinds := [], alts := [], laidByText := true, laidKinds := [.data, .data], laidTests := true, laidLooks := .later }
def MacMacsUptoCardSaid : Prop := Claim7.holds Tryd.pinned (.plain (OpenSpec.upto macMacsSpec)) macMacsUptoCard

/-- THE SECOND FORM's CARD OF 'cloisterlaw02.MacSame'. -/
def macSameUptoCard : Claim7 := { stood := { row := macSameUptoRow, standIns := [], harness := (true, "87d367f66888df06109b416f393a28fcef5520a88963fa1abc95cee835d6c293"), looks := false }, kinds := [], alts := [], laidByText := true, laidKinds := [.data], laidTests := true, laidLooks := .later }
def MacSameUptoCardSaid : Prop := Claim7.holds Tryd.pinned (.plain (OpenSpec.upto macSameSpec)) macSameUptoCard

/-- THE SECOND FORM's CARD OF 'cloisterlaw02.MacDerives'. -/
def macDerivesUptoCard : Claim7 := { stood := { row := macDerivesUptoRow, standIns := [], harness := (true, "87d367f66888df06109b416f393a28fcef5520a88963fa1abc95cee835d6c293"), looks := false }, kinds := [], alts := [], laidByText := true, laidKinds := [.data, .data], laidTests := true, laidLooks := .later }
def MacDerivesUptoCardSaid : Prop := Claim7.holds Tryd.pinned (.plain (OpenSpec.upto macDerivesSpec)) macDerivesUptoCard
end Rows
end Go.Proofs.YteadbnnfbegpjaaDoor
