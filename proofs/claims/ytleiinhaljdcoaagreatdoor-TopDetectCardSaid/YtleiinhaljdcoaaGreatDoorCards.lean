/-
  DERIVED. GIVEN WITH THE SEED: THE CARDS: each row of YtleiinhaljdcoaaGreatDoorRows.lean that lists a variable, with what it lists TIED to the program's text (the seventh form; the later family's looks); each row that meets fmt, with fmt's text TOLD by the authors' own Lean function (tested against real Go, not proved from fmt's source: count such statements apart). THE CARD IS WHAT COUNTS. Prove the row's statement (the work); the ties are given (YtleiinhaljdcoaaGreatDoorTie.lean); close each card by the builder's one call (the guide's Derived/Test/ToyasCard.lean, 'card_holds'). Laid BY PROGRAM, IN A SANDBOX (cutbox-door.mjs). By AI agents, Wed Nov 11 2026. No macro, syntax, notation, axiom, sorry.
-/
import Derived.Test.YtleiinhaljdcoaaGreatDoorRows
import GoSem.ClaimSeven
namespace Go.Proofs.YtleiinhaljdcoaaGreatDoor
namespace Rows

/-- THE TIED CARD OF 'lontartop.TopFirst'. -/
def topFirstCard : Claim7 := { stood := { row := topFirstRow, standIns := [], harness := (true, "5176ff18c741b70a962a63e9a7062ee143e2b5aa0bc05314b7e4d56cf6ff6a5d"), looks := false }, kinds := [], alts := [], laidByText := true, laidKinds := [.data, .pinned, .pinned], laidTests := true, laidLooks := .later }
def TopFirstCardSaid : Prop := Claim7.holds Tryz.pinned (.plain (OpenSpec.ofChange topFirstSpec)) topFirstCard

/-- THE TIED CARD OF 'lontartop.TopNormal'. -/
def topNormalCard : Claim7 := { stood := { row := topNormalRow, standIns := [], harness := (true, "5176ff18c741b70a962a63e9a7062ee143e2b5aa0bc05314b7e4d56cf6ff6a5d"), looks := false }, kinds := [], alts := [], laidByText := true, laidKinds := [.data, .pinned, .pinned], laidTests := true, laidLooks := .later }
def TopNormalCardSaid : Prop := Claim7.holds Tryz.pinned (.plain (OpenSpec.ofChange topNormalSpec)) topNormalCard

/-- THE TIED CARD OF 'lontartop.TopDetect'. -/
def topDetectCard : Claim7 := { stood := { row := topDetectRow, standIns := [], harness := (true, "5176ff18c741b70a962a63e9a7062ee143e2b5aa0bc05314b7e4d56cf6ff6a5d"), looks := false }, kinds := [], alts := [], laidByText := true, laidKinds := [.data, .pinned, .pinned], laidTests := true, laidLooks := .later }
def TopDetectCardSaid : Prop := Claim7.holds Tryz.pinned (.plain (OpenSpec.ofChange topDetectSpec)) topDetectCard

/-- THE TIED CARD OF 'lontartop.TopRewrite'. -/
def topRewriteCard : Claim7 := { stood := { row := topRewriteRow, standIns := [], harness := (true, "5176ff18c741b70a962a63e9a7062ee143e2b5aa0bc05314b7e4d56cf6ff6a5d"), looks := false }, kinds := [], alts := [], laidByText := true, laidKinds := [.data, .pinned, .pinned], laidTests := true, laidLooks := .later }
def TopRewriteCardSaid : Prop := Claim7.holds Tryz.pinned (.plain (OpenSpec.ofChange topRewriteSpec)) topRewriteCard

/-- THE SECOND FORM's CARD OF 'lontartop.TopFirst'. -/
def topFirstUptoCard : Claim7 := { stood := { row := topFirstUptoRow, standIns := [], harness := (true, "5176ff18c741b70a962a63e9a7062ee143e2b5aa0bc05314b7e4d56cf6ff6a5d"), looks := false }, kinds := [], alts := [], laidByText := true, laidKinds := [.data, .pinned, .pinned], laidTests := true, laidLooks := .later }
def TopFirstUptoCardSaid : Prop := Claim7.holds Tryz.pinned (.plain (OpenSpec.upto topFirstSpec)) topFirstUptoCard

/-- THE SECOND FORM's CARD OF 'lontartop.TopNormal'. -/
def topNormalUptoCard : Claim7 := { stood := { row := topNormalUptoRow, standIns := [], harness := (true, "5176ff18c741b70a962a63e9a7062ee143e2b5aa0bc05314b7e4d56cf6ff6a5d"), looks := false }, kinds := [], alts := [], laidByText := true, laidKinds := [.data, .pinned, .pinned], laidTests := true, laidLooks := .later }
def TopNormalUptoCardSaid : Prop := Claim7.holds Tryz.pinned (.plain (OpenSpec.upto topNormalSpec)) topNormalUptoCard

/-- THE SECOND FORM's CARD OF 'lontartop.TopDetect'. -/
def topDetectUptoCard : Claim7 := { stood := { row := topDetectUptoRow, standIns := [], harness := (true, "5176ff18c741b70a962a63e9a7062ee143e2b5aa0bc05314b7e4d56cf6ff6a5d"), looks := false }, kinds := [], alts := [], laidByText := true, laidKinds := [.data, .pinned, .pinned], laidTests := true, laidLooks := .later }
def TopDetectUptoCardSaid : Prop := Claim7.holds Tryz.pinned (.plain (OpenSpec.upto topDetectSpec)) topDetectUptoCard

/-- THE SECOND FORM's CARD OF 'lontartop.TopRewrite'. -/
def topRewriteUptoCard : Claim7 := { stood := { row := topRewriteUptoRow, standIns := [], harness := (true, "5176ff18c741b70a962a63e9a7062ee143e2b5aa0bc05314b7e4d56cf6ff6a5d"), looks := false }, kinds := [], alts := [], laidByText := true, laidKinds := [.data, .pinned, .pinned], laidTests := true, laidLooks := .later }
def TopRewriteUptoCardSaid : Prop := Claim7.holds Tryz.pinned (.plain (OpenSpec.upto topRewriteSpec)) topRewriteUptoCard
end Rows
end Go.Proofs.YtleiinhaljdcoaaGreatDoor
