/-
  DERIVED. GIVEN WITH THE SEED: THE CARDS: each row of YtefdnmeopbkflaaGreatDoorRows.lean that lists a variable, with what it lists TIED to the program's text (the seventh form; the later family's looks); each row that meets fmt, with fmt's text TOLD by the authors' own Lean function (tested against real Go, not proved from fmt's source: count such statements apart). THE CARD IS WHAT COUNTS. Prove the row's statement (the work); the ties are given (YtefdnmeopbkflaaGreatDoorTie.lean); close each card by the builder's one call (the guide's Derived/Test/ToyasCard.lean, 'card_holds'). Laid BY PROGRAM, IN A SANDBOX (cutbox-door.mjs). By AI agents, Wed Nov 11 2026. No macro, syntax, notation, axiom, sorry.
-/
import Derived.Test.YtefdnmeopbkflaaGreatDoorRows
import GoSem.ClaimSeven
namespace Go.Proofs.YtefdnmeopbkflaaGreatDoor
namespace Rows

/-- THE TIED CARD OF 'chittytop.WholeMinted'. -/
def wholeMintedCard : Claim7 := { stood := { row := wholeMintedRow, standIns := [], harness := (true, "e5be8f80a15ebffc474770ab3004d096ae0d6b0b54f9672a96d0405b9a24dfa4"), looks := true }, kinds := [], alts := [], laidByText := true, laidKinds := [.data, .data, .data, .data, .data, .sentinel, .sentinel, .pinned], laidTests := true, laidLooks := .later }
def WholeMintedCardSaid : Prop := Claim7.holds Tryz.pinned (.plain (OpenSpec.ofChange wholeMintedSpec)) wholeMintedCard

/-- THE TIED CARD OF 'chittytop.WholeBuilt'. -/
def wholeBuiltCard : Claim7 := { stood := { row := wholeBuiltRow, standIns := [], harness := (true, "e5be8f80a15ebffc474770ab3004d096ae0d6b0b54f9672a96d0405b9a24dfa4"), looks := true }, kinds := [], alts := [], laidByText := true, laidKinds := [.data, .data, .data, .data, .data, .sentinel, .sentinel, .pinned], laidTests := true, laidLooks := .later }
def WholeBuiltCardSaid : Prop := Claim7.holds Tryz.pinned (.plain (OpenSpec.ofChange wholeBuiltSpec)) wholeBuiltCard

/-- THE TIED CARD OF 'chittytop.WholeOneWay'. -/
def wholeOneWayCard : Claim7 := { stood := { row := wholeOneWayRow, standIns := [], harness := (true, "e5be8f80a15ebffc474770ab3004d096ae0d6b0b54f9672a96d0405b9a24dfa4"), looks := true }, kinds := [], alts := [], laidByText := true, laidKinds := [.data, .data, .data, .data, .data, .sentinel, .sentinel, .pinned], laidTests := true, laidLooks := .later }
def WholeOneWayCardSaid : Prop := Claim7.holds Tryz.pinned (.plain (OpenSpec.ofChange wholeOneWaySpec)) wholeOneWayCard

/-- THE TIED CARD OF 'chittytop.WholeCloses'. -/
def wholeClosesCard : Claim7 := { stood := { row := wholeClosesRow, standIns := [], harness := (true, "e5be8f80a15ebffc474770ab3004d096ae0d6b0b54f9672a96d0405b9a24dfa4"), looks := true }, kinds := [], alts := [], laidByText := true, laidKinds := [.data, .data, .data, .data, .data, .sentinel, .sentinel, .pinned], laidTests := true, laidLooks := .later }
def WholeClosesCardSaid : Prop := Claim7.holds Tryz.pinned (.plain (OpenSpec.ofChange wholeClosesSpec)) wholeClosesCard

/-- THE TIED CARD OF 'chittytop.WholeNarrow'. -/
def wholeNarrowCard : Claim7 := { stood := { row := wholeNarrowRow, standIns := [], harness := (true, "e5be8f80a15ebffc474770ab3004d096ae0d6b0b54f9672a96d0405b9a24dfa4"), looks := true }, kinds := [], alts := [], laidByText := true, laidKinds := [.data, .data, .data, .data, .data, .sentinel, .sentinel, .pinned], laidTests := true, laidLooks := .later }
def WholeNarrowCardSaid : Prop := Claim7.holds Tryz.pinned (.plain (OpenSpec.ofChange wholeNarrowSpec)) wholeNarrowCard

/-- THE SECOND FORM's CARD OF 'chittytop.WholeMinted'. -/
def wholeMintedUptoCard : Claim7 := { stood := { row := wholeMintedUptoRow, standIns := [], harness := (true, "e5be8f80a15ebffc474770ab3004d096ae0d6b0b54f9672a96d0405b9a24dfa4"), looks := true }, kinds := [], alts := [], laidByText := true, laidKinds := [.data, .data, .data, .data, .data, .sentinel, .sentinel, .pinned], laidTests := true, laidLooks := .later }
def WholeMintedUptoCardSaid : Prop := Claim7.holds Tryz.pinned (.plain (OpenSpec.upto wholeMintedSpec)) wholeMintedUptoCard

/-- THE SECOND FORM's CARD OF 'chittytop.WholeBuilt'. -/
def wholeBuiltUptoCard : Claim7 := { stood := { row := wholeBuiltUptoRow, standIns := [], harness := (true, "e5be8f80a15ebffc474770ab3004d096ae0d6b0b54f9672a96d0405b9a24dfa4"), looks := true }, kinds := [], alts := [], laidByText := true, laidKinds := [.data, .data, .data, .data, .data, .sentinel, .sentinel, .pinned], laidTests := true, laidLooks := .later }
def WholeBuiltUptoCardSaid : Prop := Claim7.holds Tryz.pinned (.plain (OpenSpec.upto wholeBuiltSpec)) wholeBuiltUptoCard

/-- THE SECOND FORM's CARD OF 'chittytop.WholeOneWay'. -/
def wholeOneWayUptoCard : Claim7 := { stood := { row := wholeOneWayUptoRow, standIns := [], harness := (true, "e5be8f80a15ebffc474770ab3004d096ae0d6b0b54f9672a96d0405b9a24dfa4"), looks := true }, kinds := [], alts := [], laidByText := true, laidKinds := [.data, .data, .data, .data, .data, .sentinel, .sentinel, .pinned], laidTests := true, laidLooks := .later }
def WholeOneWayUptoCardSaid : Prop := Claim7.holds Tryz.pinned (.plain (OpenSpec.upto wholeOneWaySpec)) wholeOneWayUptoCard

/-- THE SECOND FORM's CARD OF 'chittytop.WholeCloses'. -/
def wholeClosesUptoCard : Claim7 := { stood := { row := wholeClosesUptoRow, standIns := [], harness := (true, "e5be8f80a15ebffc474770ab3004d096ae0d6b0b54f9672a96d0405b9a24dfa4"), looks := true }, kinds := [], alts := [], laidByText := true, laidKinds := [.data, .data, .data, .data, .data, .sentinel, .sentinel, .pinned], laidTests := true, laidLooks := .later }
def WholeClosesUptoCardSaid : Prop := Claim7.holds Tryz.pinned (.plain (OpenSpec.upto wholeClosesSpec)) wholeClosesUptoCard

/-- THE SECOND FORM's CARD OF 'chittytop.WholeNarrow'. -/
def wholeNarrowUptoCard : Claim7 := { stood := { row := wholeNarrowUptoRow, standIns := [], harness := (true, "e5be8f80a15ebffc474770ab3004d096ae0d6b0b54f9672a96d0405b9a24dfa4"), looks := true }, kinds := [], alts := [], laidByText := true, laidKinds := [.data, .data, .data, .data, .data, .sentinel, .sentinel, .pinned], laidTests := true, laidLooks := .later }
def WholeNarrowUptoCardSaid : Prop := Claim7.holds Tryz.pinned (.plain (OpenSpec.upto wholeNarrowSpec)) wholeNarrowUptoCard
end Rows
end Go.Proofs.YtefdnmeopbkflaaGreatDoor
