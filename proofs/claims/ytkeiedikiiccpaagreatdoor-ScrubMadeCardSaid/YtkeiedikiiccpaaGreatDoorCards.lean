/-
  DERIVED. GIVEN WITH THE SEED: THE CARDS: each row of YtkeiedikiiccpaaGreatDoorRows.lean that lists a variable, with what it lists TIED to the program's text (the seventh form; the later family's looks); each row that meets fmt, with fmt's text TOLD by the authors' own Lean function (tested against real Go, not proved from fmt's source: count such statements apart). THE CARD IS WHAT COUNTS. Prove the row's statement (the work); the ties are given (YtkeiedikiiccpaaGreatDoorTie.lean); close each card by the builder's one call (the guide's Derived/Test/ToyasCard.lean, 'card_holds'). Laid BY PROGRAM, IN A SANDBOX (cutbox-door.mjs). By AI agents, Wed Nov 11 2026. No macro, syntax, notation, axiom, sorry.
-/
import Derived.Test.YtkeiedikiiccpaaGreatDoorRows
import GoSem.ClaimSeven
namespace Go.Proofs.YtkeiedikiiccpaaGreatDoor
namespace Rows

/-- THE TIED CARD OF 'memfaultlaw15.ScrubRaw'. -/
def scrubRawCard : Claim7 := { stood := { row := scrubRawRow, standIns := [], harness := (true, "de3eb7d455de91ab071a109ef917c396faf86d8c636ac7e42c68fac18a4d3652"), looks := false }, kinds := [], alts := [], laidByText := true, laidKinds := [.data, .data, .pinned], laidTests := true, laidLooks := .later }
def ScrubRawCardSaid : Prop := Claim7.holds Tryz.pinned (.plain (OpenSpec.ofChange scrubRawSpec)) scrubRawCard

/-- THE TIED CARD OF 'memfaultlaw15.ScrubMade'. -/
def scrubMadeCard : Claim7 := { stood := { row := scrubMadeRow, standIns := [], harness := (true, "de3eb7d455de91ab071a109ef917c396faf86d8c636ac7e42c68fac18a4d3652"), looks := false }, kinds := [], alts := [], laidByText := true, laidKinds := [.data, .data, .pinned], laidTests := true, laidLooks := .later }
def ScrubMadeCardSaid : Prop := Claim7.holds Tryz.pinned (.plain (OpenSpec.ofChange scrubMadeSpec)) scrubMadeCard

/-- THE TIED CARD OF 'memfaultlaw15.ScrubOrder'. -/
def scrubOrderCard : Claim7 := { stood := { row := scrubOrderRow, standIns := [], harness := (true, "de3eb7d455de91ab071a109ef917c396faf86d8c636ac7e42c68fac18a4d3652"), looks := false }, kinds := [], alts := [], laidByText := true, laidKinds := [.data, .data, .pinned], laidTests := true, laidLooks := .later }
def ScrubOrderCardSaid : Prop := Claim7.holds Tryz.pinned (.plain (OpenSpec.ofChange scrubOrderSpec)) scrubOrderCard

/-- THE TIED CARD OF 'memfaultlaw15.ScrubKeeps'. -/
def scrubKeepsCard : Claim7 := { stood := { row := scrubKeepsRow, standIns := [], harness := (true, "de3eb7d455de91ab071a109ef917c396faf86d8c636ac7e42c68fac18a4d3652"), looks := false }, kinds := [], alts := [], laidByText := true, laidKinds := [.data, .data, .pinned], laidTests := true, laidLooks := .later }
def ScrubKeepsCardSaid : Prop := Claim7.holds Tryz.pinned (.plain (OpenSpec.ofChange scrubKeepsSpec)) scrubKeepsCard

/-- THE SECOND FORM's CARD OF 'memfaultlaw15.ScrubRaw'. -/
def scrubRawUptoCard : Claim7 := { stood := { row := scrubRawUptoRow, standIns := [], harness := (true, "de3eb7d455de91ab071a109ef917c396faf86d8c636ac7e42c68fac18a4d3652"), looks := false }, kinds := [], alts := [], laidByText := true, laidKinds := [.data, .data, .pinned], laidTests := true, laidLooks := .later }
def ScrubRawUptoCardSaid : Prop := Claim7.holds Tryz.pinned (.plain (OpenSpec.upto scrubRawSpec)) scrubRawUptoCard

/-- THE SECOND FORM's CARD OF 'memfaultlaw15.ScrubMade'. -/
def scrubMadeUptoCard : Claim7 := { stood := { row := scrubMadeUptoRow, standIns := [], harness := (true, "de3eb7d455de91ab071a109ef917c396faf86d8c636ac7e42c68fac18a4d3652"), looks := false }, kinds := [], alts := [], laidByText := true, laidKinds := [.data, .data, .pinned], laidTests := true, laidLooks := .later }
def ScrubMadeUptoCardSaid : Prop := Claim7.holds Tryz.pinned (.plain (OpenSpec.upto scrubMadeSpec)) scrubMadeUptoCard

/-- THE SECOND FORM's CARD OF 'memfaultlaw15.ScrubOrder'. -/
def scrubOrderUptoCard : Claim7 := { stood := { row := scrubOrderUptoRow, standIns := [], harness := (true, "de3eb7d455de91ab071a109ef917c396faf86d8c636ac7e42c68fac18a4d3652"), looks := false }, kinds := [], alts := [], laidByText := true, laidKinds := [.data, .data, .pinned], laidTests := true, laidLooks := .later }
def ScrubOrderUptoCardSaid : Prop := Claim7.holds Tryz.pinned (.plain (OpenSpec.upto scrubOrderSpec)) scrubOrderUptoCard

/-- THE SECOND FORM's CARD OF 'memfaultlaw15.ScrubKeeps'. -/
def scrubKeepsUptoCard : Claim7 := { stood := { row := scrubKeepsUptoRow, standIns := [], harness := (true, "de3eb7d455de91ab071a109ef917c396faf86d8c636ac7e42c68fac18a4d3652"), looks := false }, kinds := [], alts := [], laidByText := true, laidKinds := [.data, .data, .pinned], laidTests := true, laidLooks := .later }
def ScrubKeepsUptoCardSaid : Prop := Claim7.holds Tryz.pinned (.plain (OpenSpec.upto scrubKeepsSpec)) scrubKeepsUptoCard
end Rows
end Go.Proofs.YtkeiedikiiccpaaGreatDoor
