/-
  DERIVED. GIVEN WITH THE SEED: THE CARDS: each row of YtjdlgbkpdfaloaaDoorRows.lean that lists a variable, with what it lists TIED to the program's text (the seventh form; the later family's looks); each row that meets fmt, with fmt's text TOLD by the authors' own Lean function (tested against real Go, not proved from fmt's source: count such statements apart). THE CARD IS WHAT COUNTS. Prove the row's statement (the work); the ties are given (YtjdlgbkpdfaloaaDoorTie.lean); close each card by the builder's one call (the guide's Derived/Test/ToyasCard.lean, 'card_holds'). Laid BY PROGRAM, IN A SANDBOX (cutbox-door.mjs). By AI agents, Wed Nov 11 2026. No macro, syntax, notation, axiom, sorry.
-/
import Derived.Test.YtjdlgbkpdfaloaaDoorRows
import GoSem.ClaimSeven
namespace Go.Proofs.YtjdlgbkpdfaloaaDoor
namespace Rows

/-- THE TIED CARD OF 'chittylaw01.WordRoots'. -/
def wordRootsCard : Claim7 := { stood := { row := wordRootsRow, standIns := [], harness := (true, "e77d6bccac788a5c5a13d1e92834d0b49e5810d82e02975a4a1eda71bc6e9b60"), looks := false }, kinds := [], alts := [], laidByText := true, laidKinds := [.data], laidTests := true, laidLooks := .later }
def WordRootsCardSaid : Prop := Claim7.holds Tryd.pinned (.plain (OpenSpec.ofChange wordRootsSpec)) wordRootsCard

/-- THE TIED CARD OF 'chittylaw01.WordBytes'. -/
def wordBytesCard : Claim7 := { stood := { row := wordBytesRow, standIns := [], harness := (true, "e77d6bccac788a5c5a13d1e92834d0b49e5810d82e02975a4a1eda71bc6e9b60"), looks := false }, kinds := [], alts := [], laidByText := true, laidKinds := [.data], laidTests := true, laidLooks := .later }
def WordBytesCardSaid : Prop := Claim7.holds Tryd.pinned (.plain (OpenSpec.ofChange wordBytesSpec)) wordBytesCard

/-- THE TIED CARD OF 'chittylaw01.WordBits'. -/
def wordBitsCard : Claim7 := { stood := { row := wordBitsRow, standIns := [], harness := (true, "e77d6bccac788a5c5a13d1e92834d0b49e5810d82e02975a4a1eda71bc6e9b60"), looks := false }, kinds := [], alts := [], laidByText := true, laidKinds := [.data], laidTests := true, laidLooks := .later }
def WordBitsCardSaid : Prop := Claim7.holds Tryd.pinned (.plain (OpenSpec.ofChange wordBitsSpec)) wordBitsCard

/-- THE TIED CARD OF 'chittylaw02.BlockWords'. -/
def blockWordsCard : Claim7 := { stood := { row := blockWordsRow, standIns := [], harness := (true, "e77d6bccac788a5c5a13d1e92834d0b49e5810d82e02975a4a1eda71bc6e9b60"), looks := false }, kinds := [], alts := [], laidByText := true, laidKinds := [.data], laidTests := true, laidLooks := .later }
def BlockWordsCardSaid : Prop := Claim7.holds Tryd.pinned (.plain (OpenSpec.ofChange blockWordsSpec)) blockWordsCard

/-- THE TIED CARD OF 'chittylaw03.DigestSums'. -/
def digestSumsCard : Claim7 := { stood := { row := digestSumsRow, standIns := [], harness := (true, "e77d6bccac788a5c5a13d1e92834d0b49e5810d82e02975a4a1eda71bc6e9b60"), looks := false }, kinds := [], alts := [], laidByText := true, laidKinds := [.data], laidTests := true, laidLooks := .later }
def DigestSumsCardSaid : Prop := Claim7.holds Tryd.pinned (.plain (OpenSpec.ofChange digestSumsSpec)) digestSumsCard

/-- THE TIED CARD OF 'chittylaw03.DigestParts'. -/
def digestPartsCard : Claim7 := { stood := { row := digestPartsRow, standIns := [], harness := (true, "e77d6bccac788a5c5a13d1e92834d0b49e5810d82e02975a4a1eda71bc6e9b60"), looks := false }, kinds := [], alts := [], laidByText := true, laidKinds := [.data], laidTests := true, laidLooks := .later }
def DigestPartsCardSaid : Prop := Claim7.holds Tryd.pinned (.plain (OpenSpec.ofChange digestPartsSpec)) digestPartsCard

/-- THE TIED CARD OF 'chittylaw03.DigestWrites'. -/
def digestWritesCard : Claim7 := { stood := { row := digestWritesRow, standIns := [], harness := (true, "e77d6bccac788a5c5a13d1e92834d0b49e5810d82e02975a4a1eda71bc6e9b60"), looks := false }, kinds := [], alts := [], laidByText := true, laidKinds := [.data], laidTests := true, laidLooks := .later }
def DigestWritesCardSaid : Prop := Claim7.holds Tryd.pinned (.plain (OpenSpec.ofChange digestWritesSpec)) digestWritesCard

/-- THE SECOND FORM's CARD OF 'chittylaw01.WordRoots'. -/
def wordRootsUptoCard : Claim7 := { stood := { row := wordRootsUptoRow, standIns := [], harness := (true, "e77d6bccac788a5c5a13d1e92834d0b49e5810d82e02975a4a1eda71bc6e9b60"), looks := false }, kinds := [], alts := [], laidByText := true, laidKinds := [.data], laidTests := true, laidLooks := .later }
def WordRootsUptoCardSaid : Prop := Claim7.holds Tryd.pinned (.plain (OpenSpec.upto wordRootsSpec)) wordRootsUptoCard

/-- THE SECOND FORM's CARD OF 'chittylaw01.WordBytes'. -/
def wordBytesUptoCard : Claim7 := { stood := { row := wordBytesUptoRow, standIns := [], harness := (true, "e77d6bccac788a5c5a13d1e92834d0b49e5810d82e02975a4a1eda71bc6e9b60"), looks := false }, kinds := [], alts := [], laidByText := true, laidKinds := [.data], laidTests := true, laidLooks := .later }
def WordBytesUptoCardSaid : Prop := Claim7.holds Tryd.pinned (.plain (OpenSpec.upto wordBytesSpec)) wordBytesUptoCard

/-- THE SECOND FORM's CARD OF 'chittylaw01.WordBits'. -/
def wordBitsUptoCard : Claim7 := { stood := { row := wordBitsUptoRow, standIns := [], harness := (true, "e77d6bccac788a5c5a13d1e92834d0b49e5810d82e02975a4a1eda71bc6e9b60"), looks := false }, kinds := [], alts := [], laidByText := true, laidKinds := [.data], laidTests := true, laidLooks := .later }
def WordBitsUptoCardSaid : Prop := Claim7.holds Tryd.pinned (.plain (OpenSpec.upto wordBitsSpec)) wordBitsUptoCard

/-- THE SECOND FORM's CARD OF 'chittylaw02.BlockWords'. -/
def blockWordsUptoCard : Claim7 := { stood := { row := blockWordsUptoRow, standIns := [], harness := (true, "e77d6bccac788a5c5a13d1e92834d0b49e5810d82e02975a4a1eda71bc6e9b60"), looks := false }, kinds := [], alts := [], laidByText := true, laidKinds := [.data], laidTests := true, laidLooks := .later }
def BlockWordsUptoCardSaid : Prop := Claim7.holds Tryd.pinned (.plain (OpenSpec.upto blockWordsSpec)) blockWordsUptoCard

/-- THE SECOND FORM's CARD OF 'chittylaw03.DigestSums'. -/
def digestSumsUptoCard : Claim7 := { stood := { row := digestSumsUptoRow, standIns := [], harness := (true, "e77d6bccac788a5c5a13d1e92834d0b49e5810d82e02975a4a1eda71bc6e9b60"), looks := false }, kinds := [], alts := [], laidByText := true, laidKinds := [.data], laidTests := true, laidLooks := .later }
def DigestSumsUptoCardSaid : Prop := Claim7.holds Tryd.pinned (.plain (OpenSpec.upto digestSumsSpec)) digestSumsUptoCard

/-- THE SECOND FORM's CARD OF 'chittylaw03.DigestParts'. -/
def digestPartsUptoCard : Claim7 := { stood := { row := digestPartsUptoRow, standIns := [], harness := (true, "e77d6bccac788a5c5a13d1e92834d0b49e5810d82e02975a4a1eda71bc6e9b60"), looks := false }, kinds := [], alts := [], laidByText := true, laidKinds := [.data], laidTests := true, laidLooks := .later }
def DigestPartsUptoCardSaid : Prop := Claim7.holds Tryd.pinned (.plain (OpenSpec.upto digestPartsSpec)) digestPartsUptoCard

/-- THE SECOND FORM's CARD OF 'chittylaw03.DigestWrites'. -/
def digestWritesUptoCard : Claim7 := { stood := { row := digestWritesUptoRow, standIns := [], harness := (true, "e77d6bccac788a5c5a13d1e92834d0b49e5810d82e02975a4a1eda71bc6e9b60"), looks := false }, kinds := [], alts := [], laidByText := true, laidKinds := [.data], laidTests := true, laidLooks := .later }
def DigestWritesUptoCardSaid : Prop := Claim7.holds Tryd.pinned (.plain (OpenSpec.upto digestWritesSpec)) digestWritesUptoCard
end Rows
end Go.Proofs.YtjdlgbkpdfaloaaDoor
