/-
  DERIVED. GIVEN WITH THE SEED: THE CARDS: each row of YtojllgpnhaaagaaDoorRows.lean that lists a variable, with what it lists TIED to the program's text (the seventh form; the later family's looks); each row that meets fmt, with fmt's text TOLD by the authors' own Lean function (tested against real Go, not proved from fmt's source: count such statements apart). THE CARD IS WHAT COUNTS. Prove the row's statement (the work); the ties are given (YtojllgpnhaaagaaDoorTie.lean); close each card by the builder's one call (the guide's Derived/Test/ToyasCard.lean, 'card_holds'). Laid BY PROGRAM, IN A SANDBOX (cutbox-door.mjs). By AI agents, Wed Nov 11 2026. No macro, syntax, notation, axiom, sorry.
-/
import Derived.Test.YtojllgpnhaaagaaDoorRows
import GoSem.ClaimSeven
namespace Go.Proofs.YtojllgpnhaaagaaDoor
namespace Rows

/-- THE TIED CARD OF 'cloisterlaw10.MerkleUnlike'. -/
def merkleUnlikeCard : Claim7 := { stood := { row := merkleUnlikeRow, standIns := [], harness := (true, "0b397716be3d6cb8118b72eaf3dab24c4f550489c68b9fd11dab95209d034a1a"), looks := false }, kinds := [], alts := [], laidByText := true, laidKinds := [.data, .data], laidTests := true, laidLooks := .later }
def MerkleUnlikeCardSaid : Prop := Claim7.holds Tryd.pinned (.plain (OpenSpec.ofChange merkleUnlikeSpec)) merkleUnlikeCard

/-- THE TIED CARD OF 'cloisterlaw10.MerkleOrder'. -/
def merkleOrderCard : Claim7 := { stood := { row := merkleOrderRow, standIns := [], harness := (true, "0b397716be3d6cb8118b72eaf3dab24c4f550489c68b9fd11dab95209d034a1a"), looks := false }, kinds := [], alts := [], laidByText := true, laidKinds := [.data, .data], laidTests := true, laidLooks := .later }
def MerkleOrderCardSaid : Prop := Claim7.holds Tryd.pinned (.plain (OpenSpec.ofChange merkleOrderSpec)) merkleOrderCard

/-- THE TIED CARD OF 'cloisterlaw10.MerklePlays'. -/
def merklePlaysCard : Claim7 := { stood := { row := merklePlaysRow, standIns := [], harness := (true, "0b397716be3d6cb8118b72eaf3dab24c4f550489c68b9fd11dab95209d034a1a"), looks := false }, kinds := [], alts := [], laidByText := true, laidKinds := [.data, .data], laidTests := true, laidLooks := .later }
def MerklePlaysCardSaid : Prop := Claim7.holds Tryd.pinned (.plain (OpenSpec.ofChange merklePlaysSpec)) merklePlaysCard

/-- THE TIED CARD OF 'cloisterlaw10.MerkleNil'. -/
def merkleNilCard : Claim7 := { stood := { row := merkleNilRow, standIns := [], harness := (true, "0b397716be3d6cb8118b72eaf3dab24c4f550489c68b9fd11dab95209d034a1a"), looks := false }, kinds := [], alts := [], laidByText := true, laidKinds := [.data, .data], laidTests := true, laidLooks := .later }
def MerkleNilCardSaid : Prop := Claim7.holds Tryd.pinned (.plain (OpenSpec.ofChange merkleNilSpec)) merkleNilCard

/-- THE TIED CARD OF 'cloisterlaw10.MerkleFolds'. -/
def merkleFoldsCard : Claim7 := { stood := { row := merkleFoldsRow, standIns := [], harness := (true, "0b397716be3d6cb8118b72eaf3dab24c4f550489c68b9fd11dab95209d034a1a"), looks := false }, kinds := [], alts := [], laidByText := true, laidKinds := [.data, .data], laidTests := true, laidLooks := .later }
def MerkleFoldsCardSaid : Prop := Claim7.holds Tryd.pinned (.plain (OpenSpec.ofChange merkleFoldsSpec)) merkleFoldsCard

/-- THE TIED CARD OF 'cloisterlaw08.SlotsWrap'. -/
def slotsWrapCard : Claim7 := { stood := { row := slotsWrapRow, standIns := [], harness := (true, "0b397716be3d6cb8118b72eaf3dab24c4f550489c68b9fd11dab95209d034a1a"), looks := false }, kinds := [], alts := [], laidByText := true, laidKinds := [.data, .data], laidTests := true, laidLooks := .later }
def SlotsWrapCardSaid : Prop := Claim7.holds Tryd.pinned (.plain (OpenSpec.ofChange slotsWrapSpec)) slotsWrapCard

/-- THE TIED CARD OF 'cloisterlaw08.SlotsUnwrap'. -/
def slotsUnwrapCard : Claim7 := { stood := { row := slotsUnwrapRow, standIns := [], harness := (true, "0b397716be3d6cb8118b72eaf3dab24c4f550489c68b9fd11dab95209d034a1a"), looks := false }, kinds := [], alts := [], laidByText := true, laidKinds := [.data, .data], laidTests := true, laidLooks := .later }
def SlotsUnwrapCardSaid : Prop := Claim7.holds Tryd.pinned (.plain (OpenSpec.ofChange slotsUnwrapSpec)) slotsUnwrapCard

/-- THE TIED CARD OF 'cloisterlaw08.SlotsDecode'. -/
def slotsDecodeCard : Claim7 := { stood := { row := slotsDecodeRow, standIns := [], harness := (true, "0b397716be3d6cb8118b72eaf3dab24c4f550489c68b9fd11dab95209d034a1a"), looks := false }, kinds := [], alts := [], laidByText := true, laidKinds := [.data], laidTests := true, laidLooks := .later }
def SlotsDecodeCardSaid : Prop := Claim7.holds Tryd.pinned (.plain (OpenSpec.ofChange slotsDecodeSpec)) slotsDecodeCard

/-- THE TIED CARD OF 'cloisterlaw08.SlotsBack'. -/
def slotsBackCard : Claim7 := { stood := { row := slotsBackRow, standIns := [], harness := (true, "0b397716be3d6cb8118b72eaf3dab24c4f550489c68b9fd11dab95209d034a1a"), looks := false }, kinds := [], alts := [], laidByText := true, laidKinds := [.data, .data], laidTests := true, laidLooks := .later }
def SlotsBackCardSaid : Prop := Claim7.holds Tryd.pinned (.plain (OpenSpec.ofChange slotsBackSpec)) slotsBackCard

/-- THE TIED CARD OF 'cloisterlaw11.JournalPacks'. -/
def journalPacksCard : Claim7 := { stood := { row := journalPacksRow, standIns := [], harness := (true, "0b397716be3d6cb8118b72eaf3dab24c4f550489c68b9fd11dab95209d034a1a"), looks := false }, kinds := [], alts := [], laidByText := true, laidKinds := [.data, .data], laidTests := true, laidLooks := .later }
def JournalPacksCardSaid : Prop := Claim7.holds Tryd.pinned (.plain (OpenSpec.ofChange journalPacksSpec)) journalPacksCard

/-- THE TIED CARD OF 'cloisterlaw11.JournalUnpacks'. -/
def journalUnpacksCard : Claim7 := { stood := { row := journalUnpacksRow, standIns := [], harness := (true, "0b397716be3d6cb8118b72eaf3dab24c4f550489c68b9fd11dab95209d034a1a"), looks := false }, kinds := [], alts := [], laidByText := true, laidKinds := [.data, .data], laidTests := true, laidLooks := .later }
def JournalUnpacksCardSaid : Prop := Claim7.holds Tryd.pinned (.plain (OpenSpec.ofChange journalUnpacksSpec)) journalUnpacksCard

/-- THE TIED CARD OF 'cloisterlaw11.JournalBack'. -/
def journalBackCard : Claim7 := { stood := { row := journalBackRow, standIns := [], harness := (true, "0b397716be3d6cb8118b72eaf3dab24c4f550489c68b9fd11dab95209d034a1a"), looks := false }, kinds := [], alts := [], laidByText := true, laidKinds := [.data, .data], laidTests := true, laidLooks := .later }
def JournalBackCardSaid : Prop := Claim7.holds Tryd.pinned (.plain (OpenSpec.ofChange journalBackSpec)) journalBackCard

/-- THE TIED CARD OF 'cloisterlaw09.SuperEncodes'. -/
def superEncodesCard : Claim7 := { stood := { row := superEncodesRow, standIns := [], harness := (true, "0b397716be3d6cb8118b72eaf3dab24c4f550489c68b9fd11dab95209d034a1a"), looks := false }, kinds := [], alts := [], laidByText := true, laidKinds := [.data, .data], laidTests := true, laidLooks := .later }
def SuperEncodesCardSaid : Prop := Claim7.holds Tryd.pinned (.plain (OpenSpec.ofChange superEncodesSpec)) superEncodesCard

/-- THE TIED CARD OF 'cloisterlaw09.SuperDecodes'. -/
def superDecodesCard : Claim7 := { stood := { row := superDecodesRow, standIns := [], harness := (true, "0b397716be3d6cb8118b72eaf3dab24c4f550489c68b9fd11dab95209d034a1a"), looks := false }, kinds := [], alts := [], laidByText := true, laidKinds := [.data, .data], laidTests := true, laidLooks := .later }
def SuperDecodesCardSaid : Prop := Claim7.holds Tryd.pinned (.plain (OpenSpec.ofChange superDecodesSpec)) superDecodesCard

/-- THE TIED CARD OF 'cloisterlaw09.SuperBack'. -/
def superBackCard : Claim7 := { stood := { row := superBackRow, standIns := [], harness := (true, "0b397716be3d6cb8118b72eaf3dab24c4f550489c68b9fd11dab95209d034a1a"), looks := false }, kinds := [], alts := [], laidByText := true, laidKinds := [.data, .data], laidTests := true, laidLooks := .later }
def SuperBackCardSaid : Prop := Claim7.holds Tryd.pinned (.plain (OpenSpec.ofChange superBackSpec)) superBackCard

/-- THE TIED CARD OF 'cloisterlaw07.SealCloses'. -/
def sealClosesCard : Claim7 := { stood := { row := sealClosesRow, standIns := [], harness := (true, "0b397716be3d6cb8118b72eaf3dab24c4f550489c68b9fd11dab95209d034a1a"), looks := false }, kinds := [], alts := [], laidByText := true, laidKinds := [.data, .data], laidTests := true, laidLooks := .later }
def SealClosesCardSaid : Prop := Claim7.holds Tryd.pinned (.plain (OpenSpec.ofChange sealClosesSpec)) sealClosesCard

/-- THE TIED CARD OF 'cloisterlaw07.SealOpens'. -/
def sealOpensCard : Claim7 := { stood := { row := sealOpensRow, standIns := [], harness := (true, "0b397716be3d6cb8118b72eaf3dab24c4f550489c68b9fd11dab95209d034a1a"), looks := false }, kinds := [], alts := [], laidByText := true, laidKinds := [.data, .data], laidTests := true, laidLooks := .later }
def SealOpensCardSaid : Prop := Claim7.holds Tryd.pinned (.plain (OpenSpec.ofChange sealOpensSpec)) sealOpensCard

/-- THE TIED CARD OF 'cloisterlaw07.SealBack'. -/
def sealBackCard : Claim7 := { stood := { row := sealBackRow, standIns := [], harness := (true, "0b397716be3d6cb8118b72eaf3dab24c4f550489c68b9fd11dab95209d034a1a"), looks := false }, kinds := [], alts := [], laidByText := true, laidKinds := [.data, .data], laidTests := true, laidLooks := .later }
def SealBackCardSaid : Prop := Claim7.holds Tryd.pinned (.plain (OpenSpec.ofChange sealBackSpec)) sealBackCard

/-- THE SECOND FORM's CARD OF 'cloisterlaw10.MerkleUnlike'. -/
def merkleUnlikeUptoCard : Claim7 := { stood := { row := merkleUnlikeUptoRow, standIns := [], harness := (true, "0b397716be3d6cb8118b72eaf3dab24c4f550489c68b9fd11dab95209d034a1a"), looks := false }, kinds := [], alts := [], laidByText := true, laidKinds := [.data, .data], laidTests := true, laidLooks := .later }
def MerkleUnlikeUptoCardSaid : Prop := Claim7.holds Tryd.pinned (.plain (OpenSpec.upto merkleUnlikeSpec)) merkleUnlikeUptoCard

/-- THE SECOND FORM's CARD OF 'cloisterlaw10.MerkleOrder'. -/
def merkleOrderUptoCard : Claim7 := { stood := { row := merkleOrderUptoRow, standIns := [], harness := (true, "0b397716be3d6cb8118b72eaf3dab24c4f550489c68b9fd11dab95209d034a1a"), looks := false }, kinds := [], alts := [], laidByText := true, laidKinds := [.data, .data], laidTests := true, laidLooks := .later }
def MerkleOrderUptoCardSaid : Prop := Claim7.holds Tryd.pinned (.plain (OpenSpec.upto merkleOrderSpec)) merkleOrderUptoCard

/-- THE SECOND FORM's CARD OF 'cloisterlaw10.MerklePlays'. -/
def merklePlaysUptoCard : Claim7 := { stood := { row := merklePlaysUptoRow, standIns := [], harness := (true, "0b397716be3d6cb8118b72eaf3dab24c4f550489c68b9fd11dab95209d034a1a"), looks := false }, kinds := [], alts := [], laidByText := true, laidKinds := [.data, .data], laidTests := true, laidLooks := .later }
def MerklePlaysUptoCardSaid : Prop := Claim7.holds Tryd.pinned (.plain (OpenSpec.upto merklePlaysSpec)) merklePlaysUptoCard

/-- THE SECOND FORM's CARD OF 'cloisterlaw10.MerkleNil'. -/
def merkleNilUptoCard : Claim7 := { stood := { row := merkleNilUptoRow, standIns := [], harness := (true, "0b397716be3d6cb8118b72eaf3dab24c4f550489c68b9fd11dab95209d034a1a"), looks := false }, kinds := [], alts := [], laidByText := true, laidKinds := [.data, .data], laidTests := true, laidLooks := .later }
def MerkleNilUptoCardSaid : Prop := Claim7.holds Tryd.pinned (.plain (OpenSpec.upto merkleNilSpec)) merkleNilUptoCard

/-- THE SECOND FORM's CARD OF 'cloisterlaw10.MerkleFolds'. -/
def merkleFoldsUptoCard : Claim7 := { stood := { row := merkleFoldsUptoRow, standIns := [], harness := (true, "0b397716be3d6cb8118b72eaf3dab24c4f550489c68b9fd11dab95209d034a1a"), looks := false }, kinds := [], alts := [], laidByText := true, laidKinds := [.data, .data], laidTests := true, laidLooks := .later }
def MerkleFoldsUptoCardSaid : Prop := Claim7.holds Tryd.pinned (.plain (OpenSpec.upto merkleFoldsSpec)) merkleFoldsUptoCard

/-- THE SECOND FORM's CARD OF 'cloisterlaw08.SlotsWrap'. -/
def slotsWrapUptoCard : Claim7 := { stood := { row := slotsWrapUptoRow, standIns := [], harness := (true, "0b397716be3d6cb8118b72eaf3dab24c4f550489c68b9fd11dab95209d034a1a"), looks := false }, kinds := [], alts := [], laidByText := true, laidKinds := [.data, .data], laidTests := true, laidLooks := .later }
def SlotsWrapUptoCardSaid : Prop := Claim7.holds Tryd.pinned (.plain (OpenSpec.upto slotsWrapSpec)) slotsWrapUptoCard

/-- THE SECOND FORM's CARD OF 'cloisterlaw08.SlotsUnwrap'. -/
def slotsUnwrapUptoCard : Claim7 := { stood := { row := slotsUnwrapUptoRow, standIns := [], harness := (true, "0b397716be3d6cb8118b72eaf3dab24c4f550489c68b9fd11dab95209d034a1a"), looks := false }, kinds := [], alts := [], laidByText := true, laidKinds := [.data, .data], laidTests := true, laidLooks := .later }
def SlotsUnwrapUptoCardSaid : Prop := Claim7.holds Tryd.pinned (.plain (OpenSpec.upto slotsUnwrapSpec)) slotsUnwrapUptoCard

/-- THE SECOND FORM's CARD OF 'cloisterlaw08.SlotsDecode'. -/
def slotsDecodeUptoCard : Claim7 := { stood := { row := slotsDecodeUptoRow, standIns := [], harness := (true, "0b397716be3d6cb8118b72eaf3dab24c4f550489c68b9fd11dab95209d034a1a"), looks := false }, kinds := [], alts := [], laidByText := true, laidKinds := [.data], laidTests := true, laidLooks := .later }
def SlotsDecodeUptoCardSaid : Prop := Claim7.holds Tryd.pinned (.plain (OpenSpec.upto slotsDecodeSpec)) slotsDecodeUptoCard

/-- THE SECOND FORM's CARD OF 'cloisterlaw08.SlotsBack'. -/
def slotsBackUptoCard : Claim7 := { stood := { row := slotsBackUptoRow, standIns := [], harness := (true, "0b397716be3d6cb8118b72eaf3dab24c4f550489c68b9fd11dab95209d034a1a"), looks := false }, kinds := [], alts := [], laidByText := true, laidKinds := [.data, .data], laidTests := true, laidLooks := .later }
def SlotsBackUptoCardSaid : Prop := Claim7.holds Tryd.pinned (.plain (OpenSpec.upto slotsBackSpec)) slotsBackUptoCard

/-- THE SECOND FORM's CARD OF 'cloisterlaw11.JournalPacks'. -/
def journalPacksUptoCard : Claim7 := { stood := { row := journalPacksUptoRow, standIns := [], harness := (true, "0b397716be3d6cb8118b72eaf3dab24c4f550489c68b9fd11dab95209d034a1a"), looks := false }, kinds := [], alts := [], laidByText := true, laidKinds := [.data, .data], laidTests := true, laidLooks := .later }
def JournalPacksUptoCardSaid : Prop := Claim7.holds Tryd.pinned (.plain (OpenSpec.upto journalPacksSpec)) journalPacksUptoCard

/-- THE SECOND FORM's CARD OF 'cloisterlaw11.JournalUnpacks'. -/
def journalUnpacksUptoCard : Claim7 := { stood := { row := journalUnpacksUptoRow, standIns := [], harness := (true, "0b397716be3d6cb8118b72eaf3dab24c4f550489c68b9fd11dab95209d034a1a"), looks := false }, kinds := [], alts := [], laidByText := true, laidKinds := [.data, .data], laidTests := true, laidLooks := .later }
def JournalUnpacksUptoCardSaid : Prop := Claim7.holds Tryd.pinned (.plain (OpenSpec.upto journalUnpacksSpec)) journalUnpacksUptoCard

/-- THE SECOND FORM's CARD OF 'cloisterlaw11.JournalBack'. -/
def journalBackUptoCard : Claim7 := { stood := { row := journalBackUptoRow, standIns := [], harness := (true, "0b397716be3d6cb8118b72eaf3dab24c4f550489c68b9fd11dab95209d034a1a"), looks := false }, kinds := [], alts := [], laidByText := true, laidKinds := [.data, .data], laidTests := true, laidLooks := .later }
def JournalBackUptoCardSaid : Prop := Claim7.holds Tryd.pinned (.plain (OpenSpec.upto journalBackSpec)) journalBackUptoCard

/-- THE SECOND FORM's CARD OF 'cloisterlaw09.SuperEncodes'. -/
def superEncodesUptoCard : Claim7 := { stood := { row := superEncodesUptoRow, standIns := [], harness := (true, "0b397716be3d6cb8118b72eaf3dab24c4f550489c68b9fd11dab95209d034a1a"), looks := false }, kinds := [], alts := [], laidByText := true, laidKinds := [.data, .data], laidTests := true, laidLooks := .later }
def SuperEncodesUptoCardSaid : Prop := Claim7.holds Tryd.pinned (.plain (OpenSpec.upto superEncodesSpec)) superEncodesUptoCard

/-- THE SECOND FORM's CARD OF 'cloisterlaw09.SuperDecodes'. -/
def superDecodesUptoCard : Claim7 := { stood := { row := superDecodesUptoRow, standIns := [], harness := (true, "0b397716be3d6cb8118b72eaf3dab24c4f550489c68b9fd11dab95209d034a1a"), looks := false }, kinds := [], alts := [], laidByText := true, laidKinds := [.data, .data], laidTests := true, laidLooks := .later }
def SuperDecodesUptoCardSaid : Prop := Claim7.holds Tryd.pinned (.plain (OpenSpec.upto superDecodesSpec)) superDecodesUptoCard

/-- THE SECOND FORM's CARD OF 'cloisterlaw09.SuperBack'. -/
def superBackUptoCard : Claim7 := { stood := { row := superBackUptoRow, standIns := [], harness := (true, "0b397716be3d6cb8118b72eaf3dab24c4f550489c68b9fd11dab95209d034a1a"), looks := false }, kinds := [], alts := [], laidByText := true, laidKinds := [.data, .data], laidTests := true, laidLooks := .later }
def SuperBackUptoCardSaid : Prop := Claim7.holds Tryd.pinned (.plain (OpenSpec.upto superBackSpec)) superBackUptoCard

/-- THE SECOND FORM's CARD OF 'cloisterlaw07.SealCloses'. -/
def sealClosesUptoCard : Claim7 := { stood := { row := sealClosesUptoRow, standIns := [], harness := (true, "0b397716be3d6cb8118b72eaf3dab24c4f550489c68b9fd11dab95209d034a1a"), looks := false }, kinds := [], alts := [], laidByText := true, laidKinds := [.data, .data], laidTests := true, laidLooks := .later }
def SealClosesUptoCardSaid : Prop := Claim7.holds Tryd.pinned (.plain (OpenSpec.upto sealClosesSpec)) sealClosesUptoCard

/-- THE SECOND FORM's CARD OF 'cloisterlaw07.SealOpens'. -/
def sealOpensUptoCard : Claim7 := { stood := { row := sealOpensUptoRow, standIns := [], harness := (true, "0b397716be3d6cb8118b72eaf3dab24c4f550489c68b9fd11dab95209d034a1a"), looks := false }, kinds := [], alts := [], laidByText := true, laidKinds := [.data, .data], laidTests := true, laidLooks := .later }
def SealOpensUptoCardSaid : Prop := Claim7.holds Tryd.pinned (.plain (OpenSpec.upto sealOpensSpec)) sealOpensUptoCard

/-- THE SECOND FORM's CARD OF 'cloisterlaw07.SealBack'. -/
def sealBackUptoCard : Claim7 := { stood := { row := sealBackUptoRow, standIns := [], harness := (true, "0b397716be3d6cb8118b72eaf3dab24c4f550489c68b9fd11dab95209d034a1a"), looks := false }, kinds := [], alts := [], laidByText := true, laidKinds := [.data, .data], laidTests := true, laidLooks := .later }
def SealBackUptoCardSaid : Prop := Claim7.holds Tryd.pinned (.plain (OpenSpec.upto sealBackSpec)) sealBackUptoCard
end Rows
end Go.Proofs.YtojllgpnhaaagaaDoor
