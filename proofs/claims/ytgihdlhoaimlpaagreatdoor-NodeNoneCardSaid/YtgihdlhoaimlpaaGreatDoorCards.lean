/-
  DERIVED. GIVEN WITH THE SEED: THE CARDS: each row of YtgihdlhoaimlpaaGreatDoorRows.lean that lists a variable, with what it lists TIED to the program's text (the seventh form; the later family's looks); each row that meets fmt, with fmt's text TOLD by the authors' own Lean function (tested against real Go, not proved from fmt's source: count such statements apart). THE CARD IS WHAT COUNTS. Prove the row's statement (the work); the ties are given (YtgihdlhoaimlpaaGreatDoorTie.lean); close each card by the builder's one call (the guide's Derived/Test/ToyasCard.lean, 'card_holds'). Laid BY PROGRAM, IN A SANDBOX (cutbox-door.mjs). By AI agents, Wed Nov 11 2026. No macro, syntax, notation, axiom, sorry.
-/
import Derived.Test.YtgihdlhoaimlpaaGreatDoorRows
import GoSem.ClaimSeven
namespace Go.Proofs.YtgihdlhoaimlpaaGreatDoor
namespace Rows

/-- THE TIED CARD OF 'penstocklaw18.NodeAlone'. -/
def nodeAloneCard : Claim7 := { stood := { row := nodeAloneRow, standIns := [], harness := (true, "fe6d430bf0186f9ab2c5a09371fcdf74893f29c8cd1b71465fad8283ac8a112e"), looks := true }, kinds := [], alts := [], laidByText := true, laidKinds := [.data, .data, .data, .sentinel, .sentinel], laidTests := true, laidLooks := .later }
def NodeAloneCardSaid : Prop := Claim7.holds Tryz.pinned (.plain (OpenSpec.ofChange nodeAloneSpec)) nodeAloneCard

/-- THE TIED CARD OF 'penstocklaw18.NodeTxns'. -/
def nodeTxnsCard : Claim7 := { stood := { row := nodeTxnsRow, standIns := [], harness := (true, "fe6d430bf0186f9ab2c5a09371fcdf74893f29c8cd1b71465fad8283ac8a112e"), looks := true }, kinds := [], alts := [], laidByText := true, laidKinds := [.data, .data, .data, .sentinel, .sentinel], laidTests := true, laidLooks := .later }
def NodeTxnsCardSaid : Prop := Claim7.holds Tryz.pinned (.plain (OpenSpec.ofChange nodeTxnsSpec)) nodeTxnsCard

/-- THE TIED CARD OF 'penstocklaw18.NodeGroups'. -/
def nodeGroupsCard : Claim7 := { stood := { row := nodeGroupsRow, standIns := [], harness := (true, "fe6d430bf0186f9ab2c5a09371fcdf74893f29c8cd1b71465fad8283ac8a112e"), looks := true }, kinds := [], alts := [], laidByText := true, laidKinds := [.data, .data, .data, .sentinel, .sentinel], laidTests := true, laidLooks := .later }
def NodeGroupsCardSaid : Prop := Claim7.holds Tryz.pinned (.plain (OpenSpec.ofChange nodeGroupsSpec)) nodeGroupsCard

/-- THE TIED CARD OF 'penstocklaw18.NodeNone'. -/
def nodeNoneCard : Claim7 := { stood := { row := nodeNoneRow, standIns := [], harness := (true, "fe6d430bf0186f9ab2c5a09371fcdf74893f29c8cd1b71465fad8283ac8a112e"), looks := true }, kinds := [], alts := [], laidByText := true, laidKinds := [.data, .data, .data, .sentinel, .sentinel], laidTests := true, laidLooks := .later }
def NodeNoneCardSaid : Prop := Claim7.holds Tryz.pinned (.plain (OpenSpec.ofChange nodeNoneSpec)) nodeNoneCard

/-- THE TIED CARD OF 'penstocklaw18.NodeLasts'. -/
def nodeLastsCard : Claim7 := { stood := { row := nodeLastsRow, standIns := [], harness := (true, "fe6d430bf0186f9ab2c5a09371fcdf74893f29c8cd1b71465fad8283ac8a112e"), looks := true }, kinds := [], alts := [], laidByText := true, laidKinds := [.data, .data, .data, .sentinel, .sentinel], laidTests := true, laidLooks := .later }
def NodeLastsCardSaid : Prop := Claim7.holds Tryz.pinned (.plain (OpenSpec.ofChange nodeLastsSpec)) nodeLastsCard

/-- THE TIED CARD OF 'penstocklaw18.NodeImages'. -/
def nodeImagesCard : Claim7 := { stood := { row := nodeImagesRow, standIns := [], harness := (true, "fe6d430bf0186f9ab2c5a09371fcdf74893f29c8cd1b71465fad8283ac8a112e"), looks := true }, kinds := [], alts := [], laidByText := true, laidKinds := [.data, .data, .data, .sentinel, .sentinel], laidTests := true, laidLooks := .later }
def NodeImagesCardSaid : Prop := Claim7.holds Tryz.pinned (.plain (OpenSpec.ofChange nodeImagesSpec)) nodeImagesCard

/-- THE SECOND FORM's CARD OF 'penstocklaw18.NodeAlone'. -/
def nodeAloneUptoCard : Claim7 := { stood := { row := nodeAloneUptoRow, standIns := [], harness := (true, "fe6d430bf0186f9ab2c5a09371fcdf74893f29c8cd1b71465fad8283ac8a112e"), looks := true }, kinds := [], alts := [], laidByText := true, laidKinds := [.data, .data, .data, .sentinel, .sentinel], laidTests := true, laidLooks := .later }
def NodeAloneUptoCardSaid : Prop := Claim7.holds Tryz.pinned (.plain (OpenSpec.upto nodeAloneSpec)) nodeAloneUptoCard

/-- THE SECOND FORM's CARD OF 'penstocklaw18.NodeTxns'. -/
def nodeTxnsUptoCard : Claim7 := { stood := { row := nodeTxnsUptoRow, standIns := [], harness := (true, "fe6d430bf0186f9ab2c5a09371fcdf74893f29c8cd1b71465fad8283ac8a112e"), looks := true }, kinds := [], alts := [], laidByText := true, laidKinds := [.data, .data, .data, .sentinel, .sentinel], laidTests := true, laidLooks := .later }
def NodeTxnsUptoCardSaid : Prop := Claim7.holds Tryz.pinned (.plain (OpenSpec.upto nodeTxnsSpec)) nodeTxnsUptoCard

/-- THE SECOND FORM's CARD OF 'penstocklaw18.NodeGroups'. -/
def nodeGroupsUptoCard : Claim7 := { stood := { row := nodeGroupsUptoRow, standIns := [], harness := (true, "fe6d430bf0186f9ab2c5a09371fcdf74893f29c8cd1b71465fad8283ac8a112e"), looks := true }, kinds := [], alts := [], laidByText := true, laidKinds := [.data, .data, .data, .sentinel, .sentinel], laidTests := true, laidLooks := .later }
def NodeGroupsUptoCardSaid : Prop := Claim7.holds Tryz.pinned (.plain (OpenSpec.upto nodeGroupsSpec)) nodeGroupsUptoCard

/-- THE SECOND FORM's CARD OF 'penstocklaw18.NodeNone'. -/
def nodeNoneUptoCard : Claim7 := { stood := { row := nodeNoneUptoRow, standIns := [], harness := (true, "fe6d430bf0186f9ab2c5a09371fcdf74893f29c8cd1b71465fad8283ac8a112e"), looks := true }, kinds := [], alts := [], laidByText := true, laidKinds := [.data, .data, .data, .sentinel, .sentinel], laidTests := true, laidLooks := .later }
def NodeNoneUptoCardSaid : Prop := Claim7.holds Tryz.pinned (.plain (OpenSpec.upto nodeNoneSpec)) nodeNoneUptoCard

/-- THE SECOND FORM's CARD OF 'penstocklaw18.NodeLasts'. -/
def nodeLastsUptoCard : Claim7 := { stood := { row := nodeLastsUptoRow, standIns := [], harness := (true, "fe6d430bf0186f9ab2c5a09371fcdf74893f29c8cd1b71465fad8283ac8a112e"), looks := true }, kinds := [], alts := [], laidByText := true, laidKinds := [.data, .data, .data, .sentinel, .sentinel], laidTests := true, laidLooks := .later }
def NodeLastsUptoCardSaid : Prop := Claim7.holds Tryz.pinned (.plain (OpenSpec.upto nodeLastsSpec)) nodeLastsUptoCard

/-- THE SECOND FORM's CARD OF 'penstocklaw18.NodeImages'. -/
def nodeImagesUptoCard : Claim7 := { stood := { row := nodeImagesUptoRow, standIns := [], harness := (true, "fe6d430bf0186f9ab2c5a09371fcdf74893f29c8cd1b71465fad8283ac8a112e"), looks := true }, kinds := [], alts := [], laidByText := true, laidKinds := [.data, .data, .data, .sentinel, .sentinel], laidTests := true, laidLooks := .later }
def NodeImagesUptoCardSaid : Prop := Claim7.holds Tryz.pinned (.plain (OpenSpec.upto nodeImagesSpec)) nodeImagesUptoCard
end Rows
end Go.Proofs.YtgihdlhoaimlpaaGreatDoor
