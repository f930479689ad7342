/-
  DERIVED. GIVEN WITH THE SEED: THE CARDS: each row of YtocplhpfndgagaaGreatDoorRows.lean that lists a variable, with what it lists TIED to the program's text (the seventh form; the later family's looks); each row that meets fmt, with fmt's text TOLD by the authors' own Lean function (tested against real Go, not proved from fmt's source: count such statements apart). THE CARD IS WHAT COUNTS. Prove the row's statement (the work); the ties are given (YtocplhpfndgagaaGreatDoorTie.lean); close each card by the builder's one call (the guide's Derived/Test/ToyasCard.lean, 'card_holds'). Laid BY PROGRAM, IN A SANDBOX (cutbox-door.mjs). By AI agents, Wed Nov 11 2026. No macro, syntax, notation, axiom, sorry.
-/
import Derived.Test.YtocplhpfndgagaaGreatDoorRows
import GoSem.ClaimSeven
namespace Go.Proofs.YtocplhpfndgagaaGreatDoor
namespace Rows

/-- THE TIED CARD OF 'bailmentlaw19.MonitorMakes'. -/
def monitorMakesCard : Claim7 := { stood := { row := monitorMakesRow, standIns := [], harness := (true, "e12c8441c99c56651945fb3faae7bd9b5e4c5e3f3886a64b2b89ba5dca96b39f"), looks := true }, kinds := [], alts := [], laidByText := true, laidKinds := [.data, .data, .data, .widerDeep], laidTests := true, laidLooks := .later }
def MonitorMakesCardSaid : Prop := Claim7.holds Tryz.pinned (.plain (OpenSpec.ofChange monitorMakesSpec)) monitorMakesCard

/-- THE TIED CARD OF 'bailmentlaw19.MonitorWatches'. -/
def monitorWatchesCard : Claim7 := { stood := { row := monitorWatchesRow, standIns := [], harness := (true, "e12c8441c99c56651945fb3faae7bd9b5e4c5e3f3886a64b2b89ba5dca96b39f"), looks := true }, kinds := [], alts := [], laidByText := true, laidKinds := [.data, .data, .data, .widerDeep], laidTests := true, laidLooks := .later }
def MonitorWatchesCardSaid : Prop := Claim7.holds Tryz.pinned (.plain (OpenSpec.ofChange monitorWatchesSpec)) monitorWatchesCard

/-- THE TIED CARD OF 'bailmentlaw19.MonitorOnce'. -/
def monitorOnceCard : Claim7 := { stood := { row := monitorOnceRow, standIns := [], harness := (true, "e12c8441c99c56651945fb3faae7bd9b5e4c5e3f3886a64b2b89ba5dca96b39f"), looks := true }, kinds := [], alts := [], laidByText := true, laidKinds := [.data, .data, .data, .widerDeep], laidTests := true, laidLooks := .later }
def MonitorOnceCardSaid : Prop := Claim7.holds Tryz.pinned (.plain (OpenSpec.ofChange monitorOnceSpec)) monitorOnceCard

/-- THE TIED CARD OF 'bailmentlaw19.MonitorPlaces'. -/
def monitorPlacesCard : Claim7 := { stood := { row := monitorPlacesRow, standIns := [], harness := (true, "e12c8441c99c56651945fb3faae7bd9b5e4c5e3f3886a64b2b89ba5dca96b39f"), looks := true }, kinds := [], alts := [], laidByText := true, laidKinds := [.data, .data, .data, .widerDeep], laidTests := true, laidLooks := .later }
def MonitorPlacesCardSaid : Prop := Claim7.holds Tryz.pinned (.plain (OpenSpec.ofChange monitorPlacesSpec)) monitorPlacesCard

/-- THE SECOND FORM's CARD OF 'bailmentlaw19.MonitorMakes'. -/
def monitorMakesUptoCard : Claim7 := { stood := { row := monitorMakesUptoRow, standIns := [], harness := (true, "e12c8441c99c56651945fb3faae7bd9b5e4c5e3f3886a64b2b89ba5dca96b39f"), looks := true }, kinds := [], alts := [], laidByText := true, laidKinds := [.data, .data, .data, .widerDeep], laidTests := true, laidLooks := .later }
def MonitorMakesUptoCardSaid : Prop := Claim7.holds Tryz.pinned (.plain (OpenSpec.upto monitorMakesSpec)) monitorMakesUptoCard

/-- THE SECOND FORM's CARD OF 'bailmentlaw19.MonitorWatches'. -/
def monitorWatchesUptoCard : Claim7 := { stood := { row := monitorWatchesUptoRow, standIns := [], harness := (true, "e12c8441c99c56651945fb3faae7bd9b5e4c5e3f3886a64b2b89ba5dca96b39f"), looks := true }, kinds := [], alts := [], laidByText := true, laidKinds := [.data, .data, .data, .widerDeep], laidTests := true, laidLooks := .later }
def MonitorWatchesUptoCardSaid : Prop := Claim7.holds Tryz.pinned (.plain (OpenSpec.upto monitorWatchesSpec)) monitorWatchesUptoCard

/-- THE SECOND FORM's CARD OF 'bailmentlaw19.MonitorOnce'. -/
def monitorOnceUptoCard : Claim7 := { stood := { row := monitorOnceUptoRow, standIns := [], harness := (true, "e12c8441c99c56651945fb3faae7bd9b5e4c5e3f3886a64b2b89ba5dca96b39f"), looks := true }, kinds := [], alts := [], laidByText := true, laidKinds := [.data, .data, .data, .widerDeep], laidTests := true, laidLooks := .later }
def MonitorOnceUptoCardSaid : Prop := Claim7.holds Tryz.pinned (.plain (OpenSpec.upto monitorOnceSpec)) monitorOnceUptoCard

/-- THE SECOND FORM's CARD OF 'bailmentlaw19.MonitorPlaces'. -/
def monitorPlacesUptoCard : Claim7 := { stood := { row := monitorPlacesUptoRow, standIns := [], harness := (true, "e12c8441c99c56651945fb3faae7bd9b5e4c5e3f3886a64b2b89ba5dca96b39f"), looks := true }, kinds := [], alts := [], laidByText := true, laidKinds := [.data, .data, .data, .widerDeep], laidTests := true, laidLooks := .later }
def MonitorPlacesUptoCardSaid : Prop := Claim7.holds Tryz.pinned (.plain (OpenSpec.upto monitorPlacesSpec)) monitorPlacesUptoCard
end Rows
end Go.Proofs.YtocplhpfndgagaaGreatDoor
