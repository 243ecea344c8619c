/-
  DERIVED. GIVEN WITH THE SEED: THE CARDS: each row of YtckdgcpomkefpaaDoorRows.lean that lists a variable, with what it lists TIED to the program's text (the seventh form; the later family's looks); each row that meets fmt, with fmt's text TOLD by the authors' own Lean function (tested against real Go, not proved from fmt's source: count such statements apart). THE CARD IS WHAT COUNTS. Prove the row's statement (the work); the ties are given (YtckdgcpomkefpaaDoorTie.lean); close each card by the builder's one call (the guide's Derived/Test/ToyasCard.lean, 'card_holds'). Laid BY PROGRAM, IN A SANDBOX (cutbox-door.mjs). By AI agents, Wed Nov 11 2026. No macro, syntax, notation, axiom, sorry.
-/
import Derived.Test.YtckdgcpomkefpaaDoorRows
import GoSem.ClaimSeven
namespace Go.Proofs.YtckdgcpomkefpaaDoor
namespace Rows

/-- THE TIED CARD OF 'colophonlaw06.OutBegins'. -/
def outBeginsCard : Claim7 := { stood := { row := outBeginsRow, standIns := [], harness := (true, "42c0081551d97d0ecbb51a60b0563973ed5178a6cbc18a05bbe69975564d978b"), looks := false }, kinds := [], alts := [], laidByText := true, laidKinds := [.data, .data, .data, .data, .pinned], laidTests := true, laidLooks := .later }
def OutBeginsCardSaid : Prop := Claim7.holds Tryd.pinned (.plain (OpenSpec.ofChange outBeginsSpec)) outBeginsCard

/-- THE TIED CARD OF 'colophonlaw06.OutMore'. -/
def outMoreCard : Claim7 := { stood := { row := outMoreRow, standIns := [], harness := (true, "42c0081551d97d0ecbb51a60b0563973ed5178a6cbc18a05bbe69975564d978b"), looks := false }, kinds := [], alts := [], laidByText := true, laidKinds := [.data, .data, .data, .data, .pinned], laidTests := true, laidLooks := .later }
def OutMoreCardSaid : Prop := Claim7.holds Tryd.pinned (.plain (OpenSpec.ofChange outMoreSpec)) outMoreCard

/-- THE SECOND FORM's CARD OF 'colophonlaw06.OutBegins'. -/
def outBeginsUptoCard : Claim7 := { stood := { row := outBeginsUptoRow, standIns := [], harness := (true, "42c0081551d97d0ecbb51a60b0563973ed5178a6cbc18a05bbe69975564d978b"), looks := false }, kinds := [], alts := [], laidByText := true, laidKinds := [.data, .data, .data, .data, .pinned], laidTests := true, laidLooks := .later }
def OutBeginsUptoCardSaid : Prop := Claim7.holds Tryd.pinned (.plain (OpenSpec.upto outBeginsSpec)) outBeginsUptoCard

/-- THE SECOND FORM's CARD OF 'colophonlaw06.OutMore'. -/
def outMoreUptoCard : Claim7 := { stood := { row := outMoreUptoRow, standIns := [], harness := (true, "42c0081551d97d0ecbb51a60b0563973ed5178a6cbc18a05bbe69975564d978b"), looks := false }, kinds := [], alts := [], laidByText := true, laidKinds := [.data, .data, .data, .data, .pinned], laidTests := true, laidLooks := .later }
def OutMoreUptoCardSaid : Prop := Claim7.holds Tryd.pinned (.plain (OpenSpec.upto outMoreSpec)) outMoreUptoCard
end Rows
end Go.Proofs.YtckdgcpomkefpaaDoor
