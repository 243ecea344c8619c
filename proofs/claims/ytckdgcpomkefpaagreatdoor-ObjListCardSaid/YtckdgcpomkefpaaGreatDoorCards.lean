/-
  DERIVED. GIVEN WITH THE SEED: THE CARDS: each row of YtckdgcpomkefpaaGreatDoorRows.lean that lists a variable, with what it lists TIED to the program's text (the seventh form; the later family's looks); each row that meets fmt, with fmt's text TOLD by the authors' own Lean function (tested against real Go, not proved from fmt's source: count such statements apart). THE CARD IS WHAT COUNTS. Prove the row's statement (the work); the ties are given (YtckdgcpomkefpaaGreatDoorTie.lean); close each card by the builder's one call (the guide's Derived/Test/ToyasCard.lean, 'card_holds'). Laid BY PROGRAM, IN A SANDBOX (cutbox-door.mjs). By AI agents, Wed Nov 11 2026. No macro, syntax, notation, axiom, sorry.
-/
import Derived.Test.YtckdgcpomkefpaaGreatDoorRows
import GoSem.ClaimSeven
namespace Go.Proofs.YtckdgcpomkefpaaGreatDoor
namespace Rows

/-- THE TIED CARD OF 'colophonlaw06.OutWrites'. -/
def outWritesCard : Claim7 := { stood := { row := outWritesRow, standIns := [], harness := (true, "5c49b5f43d80d85fdc4d8427e113463cd01e168a07bc77b7e787d64addabb95a"), looks := true }, kinds := [], alts := [], laidByText := true, laidKinds := [.data, .data, .data, .data, .pinned], laidTests := true, laidLooks := .later }
def OutWritesCardSaid : Prop := Claim7.holds Tryz.pinned (.plain (OpenSpec.ofChange outWritesSpec)) outWritesCard

/-- THE TIED CARD OF 'colophonlaw06.OutPlaces'. -/
def outPlacesCard : Claim7 := { stood := { row := outPlacesRow, standIns := [], harness := (true, "5c49b5f43d80d85fdc4d8427e113463cd01e168a07bc77b7e787d64addabb95a"), looks := true }, kinds := [], alts := [], laidByText := true, laidKinds := [.data, .data, .data, .data, .pinned], laidTests := true, laidLooks := .later }
def OutPlacesCardSaid : Prop := Claim7.holds Tryz.pinned (.plain (OpenSpec.ofChange outPlacesSpec)) outPlacesCard

/-- THE TIED CARD OF 'colophonlaw05.ObjGoods'. -/
def objGoodsCard : Claim7 := { stood := { row := objGoodsRow, standIns := [], harness := (true, "5c49b5f43d80d85fdc4d8427e113463cd01e168a07bc77b7e787d64addabb95a"), looks := true }, kinds := [], alts := [], laidByText := true, laidKinds := [.data, .data, .data, .data, .sentinel, .sentinel, .pinned], laidTests := true, laidLooks := .later }
def ObjGoodsCardSaid : Prop := Claim7.holds Tryz.pinned (.plain (OpenSpec.ofChange objGoodsSpec)) objGoodsCard

/-- THE TIED CARD OF 'colophonlaw05.ObjPrints'. -/
def objPrintsCard : Claim7 := { stood := { row := objPrintsRow, standIns := [], harness := (true, "5c49b5f43d80d85fdc4d8427e113463cd01e168a07bc77b7e787d64addabb95a"), looks := true }, kinds := [], alts := [], laidByText := true, laidKinds := [.data, .data, .data, .data, .sentinel, .sentinel, .pinned], laidTests := true, laidLooks := .later }
def ObjPrintsCardSaid : Prop := Claim7.holds Tryz.pinned (.plain (OpenSpec.ofChange objPrintsSpec)) objPrintsCard

/-- THE TIED CARD OF 'colophonlaw05.ObjParses'. -/
def objParsesCard : Claim7 := { stood := { row := objParsesRow, standIns := [], harness := (true, "5c49b5f43d80d85fdc4d8427e113463cd01e168a07bc77b7e787d64addabb95a"), looks := true }, kinds := [], alts := [], laidByText := true, laidKinds := [.data, .data, .data, .data, .sentinel, .sentinel, .pinned], laidTests := true, laidLooks := .later }
def ObjParsesCardSaid : Prop := Claim7.holds Tryz.pinned (.plain (OpenSpec.ofChange objParsesSpec)) objParsesCard

/-- THE TIED CARD OF 'colophonlaw05.ObjBack'. -/
def objBackCard : Claim7 := { stood := { row := objBackRow, standIns := [], harness := (true, "5c49b5f43d80d85fdc4d8427e113463cd01e168a07bc77b7e787d64addabb95a"), looks := true }, kinds := [], alts := [], laidByText := true, laidKinds := [.data, .data, .data, .data, .sentinel, .sentinel, .pinned], laidTests := true, laidLooks := .later }
def ObjBackCardSaid : Prop := Claim7.holds Tryz.pinned (.plain (OpenSpec.ofChange objBackSpec)) objBackCard

/-- THE TIED CARD OF 'colophonlaw05.ObjList'. -/
def objListCard : Claim7 := { stood := { row := objListRow, standIns := [], harness := (true, "5c49b5f43d80d85fdc4d8427e113463cd01e168a07bc77b7e787d64addabb95a"), looks := true }, kinds := [], alts := [], laidByText := true, laidKinds := [.data, .data, .data, .data, .sentinel, .sentinel, .pinned], laidTests := true, laidLooks := .later }
def ObjListCardSaid : Prop := Claim7.holds Tryz.pinned (.plain (OpenSpec.ofChange objListSpec)) objListCard

/-- THE TIED CARD OF 'colophonlaw05.ObjOwn'. -/
def objOwnCard : Claim7 := { stood := { row := objOwnRow, standIns := [], harness := (true, "5c49b5f43d80d85fdc4d8427e113463cd01e168a07bc77b7e787d64addabb95a"), looks := true }, kinds := [], alts := [], laidByText := true, laidKinds := [.data, .data, .data, .data, .sentinel, .sentinel, .pinned], laidTests := true, laidLooks := .later }
def ObjOwnCardSaid : Prop := Claim7.holds Tryz.pinned (.plain (OpenSpec.ofChange objOwnSpec)) objOwnCard

/-- THE TIED CARD OF 'colophonlaw05.ObjGets'. -/
def objGetsCard : Claim7 := { stood := { row := objGetsRow, standIns := [], harness := (true, "5c49b5f43d80d85fdc4d8427e113463cd01e168a07bc77b7e787d64addabb95a"), looks := true }, kinds := [], alts := [], laidByText := true, laidKinds := [.data, .data, .data, .data, .sentinel, .sentinel, .pinned], laidTests := true, laidLooks := .later }
def ObjGetsCardSaid : Prop := Claim7.holds Tryz.pinned (.plain (OpenSpec.ofChange objGetsSpec)) objGetsCard

/-- THE SECOND FORM's CARD OF 'colophonlaw06.OutWrites'. -/
def outWritesUptoCard : Claim7 := { stood := { row := outWritesUptoRow, standIns := [], harness := (true, "5c49b5f43d80d85fdc4d8427e113463cd01e168a07bc77b7e787d64addabb95a"), looks := true }, kinds := [], alts := [], laidByText := true, laidKinds := [.data, .data, .data, .data, .pinned], laidTests := true, laidLooks := .later }
def OutWritesUptoCardSaid : Prop := Claim7.holds Tryz.pinned (.plain (OpenSpec.upto outWritesSpec)) outWritesUptoCard

/-- THE SECOND FORM's CARD OF 'colophonlaw06.OutPlaces'. -/
def outPlacesUptoCard : Claim7 := { stood := { row := outPlacesUptoRow, standIns := [], harness := (true, "5c49b5f43d80d85fdc4d8427e113463cd01e168a07bc77b7e787d64addabb95a"), looks := true }, kinds := [], alts := [], laidByText := true, laidKinds := [.data, .data, .data, .data, .pinned], laidTests := true, laidLooks := .later }
def OutPlacesUptoCardSaid : Prop := Claim7.holds Tryz.pinned (.plain (OpenSpec.upto outPlacesSpec)) outPlacesUptoCard

/-- THE SECOND FORM's CARD OF 'colophonlaw05.ObjGoods'. -/
def objGoodsUptoCard : Claim7 := { stood := { row := objGoodsUptoRow, standIns := [], harness := (true, "5c49b5f43d80d85fdc4d8427e113463cd01e168a07bc77b7e787d64addabb95a"), looks := true }, kinds := [], alts := [], laidByText := true, laidKinds := [.data, .data, .data, .data, .sentinel, .sentinel, .pinned], laidTests := true, laidLooks := .later }
def ObjGoodsUptoCardSaid : Prop := Claim7.holds Tryz.pinned (.plain (OpenSpec.upto objGoodsSpec)) objGoodsUptoCard

/-- THE SECOND FORM's CARD OF 'colophonlaw05.ObjPrints'. -/
def objPrintsUptoCard : Claim7 := { stood := { row := objPrintsUptoRow, standIns := [], harness := (true, "5c49b5f43d80d85fdc4d8427e113463cd01e168a07bc77b7e787d64addabb95a"), looks := true }, kinds := [], alts := [], laidByText := true, laidKinds := [.data, .data, .data, .data, .sentinel, .sentinel, .pinned], laidTests := true, laidLooks := .later }
def ObjPrintsUptoCardSaid : Prop := Claim7.holds Tryz.pinned (.plain (OpenSpec.upto objPrintsSpec)) objPrintsUptoCard

/-- THE SECOND FORM's CARD OF 'colophonlaw05.ObjParses'. -/
def objParsesUptoCard : Claim7 := { stood := { row := objParsesUptoRow, standIns := [], harness := (true, "5c49b5f43d80d85fdc4d8427e113463cd01e168a07bc77b7e787d64addabb95a"), looks := true }, kinds := [], alts := [], laidByText := true, laidKinds := [.data, .data, .data, .data, .sentinel, .sentinel, .pinned], laidTests := true, laidLooks := .later }
def ObjParsesUptoCardSaid : Prop := Claim7.holds Tryz.pinned (.plain (OpenSpec.upto objParsesSpec)) objParsesUptoCard

/-- THE SECOND FORM's CARD OF 'colophonlaw05.ObjBack'. -/
def objBackUptoCard : Claim7 := { stood := { row := objBackUptoRow, standIns := [], harness := (true, "5c49b5f43d80d85fdc4d8427e113463cd01e168a07bc77b7e787d64addabb95a"), looks := true }, kinds := [], alts := [], laidByText := true, laidKinds := [.data, .data, .data, .data, .sentinel, .sentinel, .pinned], laidTests := true, laidLooks := .later }
def ObjBackUptoCardSaid : Prop := Claim7.holds Tryz.pinned (.plain (OpenSpec.upto objBackSpec)) objBackUptoCard

/-- THE SECOND FORM's CARD OF 'colophonlaw05.ObjList'. -/
def objListUptoCard : Claim7 := { stood := { row := objListUptoRow, standIns := [], harness := (true, "5c49b5f43d80d85fdc4d8427e113463cd01e168a07bc77b7e787d64addabb95a"), looks := true }, kinds := [], alts := [], laidByText := true, laidKinds := [.data, .data, .data, .data, .sentinel, .sentinel, .pinned], laidTests := true, laidLooks := .later }
def ObjListUptoCardSaid : Prop := Claim7.holds Tryz.pinned (.plain (OpenSpec.upto objListSpec)) objListUptoCard

/-- THE SECOND FORM's CARD OF 'colophonlaw05.ObjOwn'. -/
def objOwnUptoCard : Claim7 := { stood := { row := objOwnUptoRow, standIns := [], harness := (true, "5c49b5f43d80d85fdc4d8427e113463cd01e168a07bc77b7e787d64addabb95a"), looks := true }, kinds := [], alts := [], laidByText := true, laidKinds := [.data, .data, .data, .data, .sentinel, .sentinel, .pinned], laidTests := true, laidLooks := .later }
def ObjOwnUptoCardSaid : Prop := Claim7.holds Tryz.pinned (.plain (OpenSpec.upto objOwnSpec)) objOwnUptoCard

/-- THE SECOND FORM's CARD OF 'colophonlaw05.ObjGets'. -/
def objGetsUptoCard : Claim7 := { stood := { row := objGetsUptoRow, standIns := [], harness := (true, "5c49b5f43d80d85fdc4d8427e113463cd01e168a07bc77b7e787d64addabb95a"), looks := true }, kinds := [], alts := [], laidByText := true, laidKinds := [.data, .data, .data, .data, .sentinel, .sentinel, .pinned], laidTests := true, laidLooks := .later }
def ObjGetsUptoCardSaid : Prop := Claim7.holds Tryz.pinned (.plain (OpenSpec.upto objGetsSpec)) objGetsUptoCard
end Rows
end Go.Proofs.YtckdgcpomkefpaaGreatDoor
