/-
  NARROWER THAN 'FOR EVERY INPUT', by the rows' own cells (each row's printed sentence says how): WordRoots: laid · WordBytes: laid · WordBits: laid · BlockWords: laid · DigestSums: laid · DigestParts: laid · DigestWrites: laid.
  DERIVED. THE GIVEN ROWS OF THIS SEAT. 7 by the template 'for every input the law returns true; each argument reads behind the call as it read before'; 0 by the template 'total and deterministic' (their statements: YtjdlgbkpdfaloaaDoorTotals.lean).
  GIVEN WITH THE SEED: the statements are not yours to turn. If you find one false, say at which input.
  Laid BY PROGRAM, IN A SANDBOX (cutbox-rows.mjs): the forced cells as the released guide's own fill.sh prints them over the translation 7ad5ab51192da90e… (all of the seat's roots in one cut). By AI agents, Wed Nov 11 2026. No macro, syntax, notation, axiom, sorry.
-/
import Derived.Test.YtjdlgbkpdfaloaaDoorChecked
import GoSem.Claim
import GoSem.ClaimJoined
import GoSem.ClaimMapViews
import Derived.JoinedTies
import Derived.KernelRfl
namespace Go.Proofs.YtjdlgbkpdfaloaaDoor
/- THE CELL 'sum', in the pinned program and in every row, IS THE sha256 OF THE DUMP (.gsa) THAT YtjdlgbkpdfaloaaDoorProg.lean LOADS. Nothing in Lean hashes anything: it is a label: what it is worth is what the hold of that sum in a sandbox is worth. -/
noncomputable def Tryd.pinned : Pinned := { name := "ytjdlgbkpdfaloaadoor", sum := "7ad5ab51192da90e6c54fb0968ae760dafd26c48935338194242c4f8ca361e7b", checked := Tryd.checked }
namespace Rows
def none {H : Type} : Left H := { results := [], args := [] }

/- WHAT THE LISTED PACKAGE-LEVEL VARIABLES READ AS WHEN THE CALL BEGINS. Each datum BY PROGRAM (the guide's laid-datum.mjs) off the statement by which the dump's own 'gosem.cut.vars' lays the variable. In a bare row this is a premise. The card (YtjdlgbkpdfaloaaDoorCards.lean) ties it to the program's text. -/
def laid_chitty_word_primes {H : Type} : DataW H := .agg [.lit (.int .u32 1116352408), .lit (.int .u32 1899447441), .lit (.int .u32 3049323471), .lit (.int .u32 3921009573), .lit (.int .u32 961987163), .lit (.int .u32 1508970993), .lit (.int .u32 2453635748), .lit (.int .u32 2870763221), .lit (.int .u32 3624381080), .lit (.int .u32 310598401), .lit (.int .u32 607225278), .lit (.int .u32 1426881987), .lit (.int .u32 1925078388), .lit (.int .u32 2162078206), .lit (.int .u32 2614888103), .lit (.int .u32 3248222580), .lit (.int .u32 3835390401), .lit (.int .u32 4022224774), .lit (.int .u32 264347078), .lit (.int .u32 604807628), .lit (.int .u32 770255983), .lit (.int .u32 1249150122), .lit (.int .u32 1555081692), .lit (.int .u32 1996064986), .lit (.int .u32 2554220882), .lit (.int .u32 2821834349), .lit (.int .u32 2952996808), .lit (.int .u32 3210313671), .lit (.int .u32 3336571891), .lit (.int .u32 3584528711), .lit (.int .u32 113926993), .lit (.int .u32 338241895), .lit (.int .u32 666307205), .lit (.int .u32 773529912), .lit (.int .u32 1294757372), .lit (.int .u32 1396182291), .lit (.int .u32 1695183700), .lit (.int .u32 1986661051), .lit (.int .u32 2177026350), .lit (.int .u32 2456956037), .lit (.int .u32 2730485921), .lit (.int .u32 2820302411), .lit (.int .u32 3259730800), .lit (.int .u32 3345764771), .lit (.int .u32 3516065817), .lit (.int .u32 3600352804), .lit (.int .u32 4094571909), .lit (.int .u32 275423344), .lit (.int .u32 430227734), .lit (.int .u32 506948616), .lit (.int .u32 659060556), .lit (.int .u32 883997877), .lit (.int .u32 958139571), .lit (.int .u32 1322822218), .lit (.int .u32 1537002063), .lit (.int .u32 1747873779), .lit (.int .u32 1955562222), .lit (.int .u32 2024104815), .lit (.int .u32 2227730452), .lit (.int .u32 2361852424), .lit (.int .u32 2428436474), .lit (.int .u32 2756734187), .lit (.int .u32 3204031479), .lit (.int .u32 3329325298)]

/-- 'chittylaw01.WordRoots': WHATEVER THE INPUT: true; the input reads as it did. -/
def wordRootsSpec : ChangeSpec := { name := "wordRoots", fn := fun _ => fun
  | [] => { results := [.lit (.bool true)], args := [] }
  | _ => none }
def wordRootsRow : OpenClaim := { program := "ytjdlgbkpdfaloaadoor", sum := "7ad5ab51192da90e6c54fb0968ae760dafd26c48935338194242c4f8ca361e7b", func := "chitty/chittylaw01.WordRoots", spec := "wordRoots", named := ["chitty/word.primes"], apart := false, laid := [("chitty/word.primes", laid_chitty_word_primes)] }
def WordRootsSaid : Prop := wordRootsRow.holds Tryd.pinned (OpenSpec.ofChange wordRootsSpec)

/-- ITS FALSE NEIGHBOUR: 'it returns false'. Refute it at one input. -/
def wordRootsWrong : ChangeSpec := { name := "wordRoots", fn := fun _ => fun
  | [] => { results := [.lit (.bool false)], args := [] }
  | _ => none }
def WordRootsWrongFalsely : Prop := wordRootsRow.holds Tryd.pinned (OpenSpec.ofChange wordRootsWrong)

/-- 'chittylaw01.WordBytes': WHATEVER THE INPUT: true; the input reads as it did. -/
def wordBytesSpec : ChangeSpec := { name := "wordBytes", fn := fun _ => fun
  | [d1, d2] => { results := [.lit (.bool true)], args := [d1, d2] }
  | _ => none }
def wordBytesRow : OpenClaim := { program := "ytjdlgbkpdfaloaadoor", sum := "7ad5ab51192da90e6c54fb0968ae760dafd26c48935338194242c4f8ca361e7b", func := "chitty/chittylaw01.WordBytes", spec := "wordBytes", named := ["chitty/word.primes"], apart := false, laid := [("chitty/word.primes", laid_chitty_word_primes)] }
def WordBytesSaid : Prop := wordBytesRow.holds Tryd.pinned (OpenSpec.ofChange wordBytesSpec)

/-- ITS FALSE NEIGHBOUR: 'it returns false'. Refute it at one input. -/
def wordBytesWrong : ChangeSpec := { name := "wordBytes", fn := fun _ => fun
  | [d1, d2] => { results := [.lit (.bool false)], args := [d1, d2] }
  | _ => none }
def WordBytesWrongFalsely : Prop := wordBytesRow.holds Tryd.pinned (OpenSpec.ofChange wordBytesWrong)

/-- 'chittylaw01.WordBits': WHATEVER THE INPUT: true; the input reads as it did. -/
def wordBitsSpec : ChangeSpec := { name := "wordBits", fn := fun _ => fun
  | [d1, d2] => { results := [.lit (.bool true)], args := [d1, d2] }
  | _ => none }
def wordBitsRow : OpenClaim := { program := "ytjdlgbkpdfaloaadoor", sum := "7ad5ab51192da90e6c54fb0968ae760dafd26c48935338194242c4f8ca361e7b", func := "chitty/chittylaw01.WordBits", spec := "wordBits", named := ["chitty/word.primes"], apart := false, laid := [("chitty/word.primes", laid_chitty_word_primes)] }
def WordBitsSaid : Prop := wordBitsRow.holds Tryd.pinned (OpenSpec.ofChange wordBitsSpec)

/-- ITS FALSE NEIGHBOUR: 'it returns false'. Refute it at one input. -/
def wordBitsWrong : ChangeSpec := { name := "wordBits", fn := fun _ => fun
  | [d1, d2] => { results := [.lit (.bool false)], args := [d1, d2] }
  | _ => none }
def WordBitsWrongFalsely : Prop := wordBitsRow.holds Tryd.pinned (OpenSpec.ofChange wordBitsWrong)

/-- 'chittylaw02.BlockWords': WHATEVER THE INPUT: true; the input reads as it did. -/
def blockWordsSpec : ChangeSpec := { name := "blockWords", fn := fun _ => fun
  | [d1, d2] => { results := [.lit (.bool true)], args := [d1, d2] }
  | _ => none }
def blockWordsRow : OpenClaim := { program := "ytjdlgbkpdfaloaadoor", sum := "7ad5ab51192da90e6c54fb0968ae760dafd26c48935338194242c4f8ca361e7b", func := "chitty/chittylaw02.BlockWords", spec := "blockWords", named := ["chitty/word.primes"], apart := false, laid := [("chitty/word.primes", laid_chitty_word_primes)] }
def BlockWordsSaid : Prop := blockWordsRow.holds Tryd.pinned (OpenSpec.ofChange blockWordsSpec)

/-- ITS FALSE NEIGHBOUR: 'it returns false'. Refute it at one input. -/
def blockWordsWrong : ChangeSpec := { name := "blockWords", fn := fun _ => fun
  | [d1, d2] => { results := [.lit (.bool false)], args := [d1, d2] }
  | _ => none }
def BlockWordsWrongFalsely : Prop := blockWordsRow.holds Tryd.pinned (OpenSpec.ofChange blockWordsWrong)

/-- 'chittylaw03.DigestSums': WHATEVER THE INPUT: true; the input reads as it did. -/
def digestSumsSpec : ChangeSpec := { name := "digestSums", fn := fun _ => fun
  | [d] => { results := [.lit (.bool true)], args := [d] }
  | _ => none }
def digestSumsRow : OpenClaim := { program := "ytjdlgbkpdfaloaadoor", sum := "7ad5ab51192da90e6c54fb0968ae760dafd26c48935338194242c4f8ca361e7b", func := "chitty/chittylaw03.DigestSums", spec := "digestSums", named := ["chitty/word.primes"], apart := false, laid := [("chitty/word.primes", laid_chitty_word_primes)] }
def DigestSumsSaid : Prop := digestSumsRow.holds Tryd.pinned (OpenSpec.ofChange digestSumsSpec)

/-- ITS FALSE NEIGHBOUR: 'it returns false'. Refute it at one input. -/
def digestSumsWrong : ChangeSpec := { name := "digestSums", fn := fun _ => fun
  | [d] => { results := [.lit (.bool false)], args := [d] }
  | _ => none }
def DigestSumsWrongFalsely : Prop := digestSumsRow.holds Tryd.pinned (OpenSpec.ofChange digestSumsWrong)

/-- 'chittylaw03.DigestParts': WHATEVER THE INPUT: true; the input reads as it did. -/
def digestPartsSpec : ChangeSpec := { name := "digestParts", fn := fun _ => fun
  | [d1, d2] => { results := [.lit (.bool true)], args := [d1, d2] }
  | _ => none }
def digestPartsRow : OpenClaim := { program := "ytjdlgbkpdfaloaadoor", sum := "7ad5ab51192da90e6c54fb0968ae760dafd26c48935338194242c4f8ca361e7b", func := "chitty/chittylaw03.DigestParts", spec := "digestParts", named := ["chitty/word.primes"], apart := false, laid := [("chitty/word.primes", laid_chitty_word_primes)] }
def DigestPartsSaid : Prop := digestPartsRow.holds Tryd.pinned (OpenSpec.ofChange digestPartsSpec)

/-- ITS FALSE NEIGHBOUR: 'it returns false'. Refute it at one input. -/
def digestPartsWrong : ChangeSpec := { name := "digestParts", fn := fun _ => fun
  | [d1, d2] => { results := [.lit (.bool false)], args := [d1, d2] }
  | _ => none }
def DigestPartsWrongFalsely : Prop := digestPartsRow.holds Tryd.pinned (OpenSpec.ofChange digestPartsWrong)

/-- 'chittylaw03.DigestWrites': WHATEVER THE INPUT: true; the input reads as it did. -/
def digestWritesSpec : ChangeSpec := { name := "digestWrites", fn := fun _ => fun
  | [d] => { results := [.lit (.bool true)], args := [d] }
  | _ => none }
def digestWritesRow : OpenClaim := { program := "ytjdlgbkpdfaloaadoor", sum := "7ad5ab51192da90e6c54fb0968ae760dafd26c48935338194242c4f8ca361e7b", func := "chitty/chittylaw03.DigestWrites", spec := "digestWrites", named := ["chitty/word.primes"], apart := false, laid := [("chitty/word.primes", laid_chitty_word_primes)] }
def DigestWritesSaid : Prop := digestWritesRow.holds Tryd.pinned (OpenSpec.ofChange digestWritesSpec)

/-- ITS FALSE NEIGHBOUR: 'it returns false'. Refute it at one input. -/
def digestWritesWrong : ChangeSpec := { name := "digestWrites", fn := fun _ => fun
  | [d] => { results := [.lit (.bool false)], args := [d] }
  | _ => none }
def DigestWritesWrongFalsely : Prop := digestWritesRow.holds Tryd.pinned (OpenSpec.ofChange digestWritesWrong)

/- THE SECOND FORM. 'bulk': how many values and letters a reading holds, each counted each time it is reached (what is shared counts as often as it is met; a slice's spare places count too). A statement '..UptoSaid' is the law's where the arguments, and the package variables that the reading takes, are together of bulk at most 1048576: NARROWER than '..Said'. Prove '..Said' where nothing that the law and all that it calls make is longer than what came in: it says more and counts as full. Else prove '..UptoSaid'. A law counts once. -/
mutual
def uptoBulk {H : Type} : DataW H → Nat
  | .lit (.string bytes) => bytes.length + 1
  | .lit _ => 1
  | .nil => 1
  | .ptr d => uptoBulk d + 1
  | .slice elems spare => uptoBulkAll elems + uptoBulkAll spare + 1
  | .agg parts => uptoBulkAll parts + 1
  | .iface _ d => uptoBulk d + 1
  | .map entries => uptoBulkEntries entries + 1
  | .held _ => 1
def uptoBulkAll {H : Type} : List (DataW H) → Nat
  | [] => 0
  | d :: r => uptoBulk d + uptoBulkAll r
def uptoBulkEntries {H : Type} : List (Lit × DataW H) → Nat
  | [] => 0
  | x :: r => uptoBulkEntry x + uptoBulkEntries r
def uptoBulkEntry {H : Type} : Lit × DataW H → Nat
  | (.string bytes, d) => bytes.length + uptoBulk d + 1
  | (_, d) => uptoBulk d + 1
 end
def uptoSmall : (H : Type) → List (DataW H) → Bool := fun _ ds => decide (uptoBulkAll ds ≤ 1048576)
def OpenSpec.upto (s : _root_.Go.ChangeSpec) : _root_.Go.OpenSpec := { _root_.Go.OpenSpec.ofChange s with cond := some uptoSmall }

/-- 'chittylaw01.WordRoots', WHERE WHAT IT READS IS OF BULK AT MOST 1048576: true; the input reads as it did. -/
def wordRootsUptoRow : OpenClaim := { program := "ytjdlgbkpdfaloaadoor", sum := "7ad5ab51192da90e6c54fb0968ae760dafd26c48935338194242c4f8ca361e7b", func := "chitty/chittylaw01.WordRoots", spec := "wordRoots", named := ["chitty/word.primes"], apart := false, laid := [("chitty/word.primes", laid_chitty_word_primes)], narrowed := true }
def WordRootsUptoSaid : Prop := wordRootsUptoRow.holds Tryd.pinned (OpenSpec.upto wordRootsSpec)

/-- 'chittylaw01.WordBytes', WHERE WHAT IT READS IS OF BULK AT MOST 1048576: true; the input reads as it did. -/
def wordBytesUptoRow : OpenClaim := { program := "ytjdlgbkpdfaloaadoor", sum := "7ad5ab51192da90e6c54fb0968ae760dafd26c48935338194242c4f8ca361e7b", func := "chitty/chittylaw01.WordBytes", spec := "wordBytes", named := ["chitty/word.primes"], apart := false, laid := [("chitty/word.primes", laid_chitty_word_primes)], narrowed := true }
def WordBytesUptoSaid : Prop := wordBytesUptoRow.holds Tryd.pinned (OpenSpec.upto wordBytesSpec)

/-- 'chittylaw01.WordBits', WHERE WHAT IT READS IS OF BULK AT MOST 1048576: true; the input reads as it did. -/
def wordBitsUptoRow : OpenClaim := { program := "ytjdlgbkpdfaloaadoor", sum := "7ad5ab51192da90e6c54fb0968ae760dafd26c48935338194242c4f8ca361e7b", func := "chitty/chittylaw01.WordBits", spec := "wordBits", named := ["chitty/word.primes"], apart := false, laid := [("chitty/word.primes", laid_chitty_word_primes)], narrowed := true }
def WordBitsUptoSaid : Prop := wordBitsUptoRow.holds Tryd.pinned (OpenSpec.upto wordBitsSpec)

/-- 'chittylaw02.BlockWords', WHERE WHAT IT READS IS OF BULK AT MOST 1048576: true; the input reads as it did. -/
def blockWordsUptoRow : OpenClaim := { program := "ytjdlgbkpdfaloaadoor", sum := "7ad5ab51192da90e6c54fb0968ae760dafd26c48935338194242c4f8ca361e7b", func := "chitty/chittylaw02.BlockWords", spec := "blockWords", named := ["chitty/word.primes"], apart := false, laid := [("chitty/word.primes", laid_chitty_word_primes)], narrowed := true }
def BlockWordsUptoSaid : Prop := blockWordsUptoRow.holds Tryd.pinned (OpenSpec.upto blockWordsSpec)

/-- 'chittylaw03.DigestSums', WHERE WHAT IT READS IS OF BULK AT MOST 1048576: true; the input reads as it did. -/
def digestSumsUptoRow : OpenClaim := { program := "ytjdlgbkpdfaloaadoor", sum := "7ad5ab51192da90e6c54fb0968ae760dafd26c48935338194242c4f8ca361e7b", func := "chitty/chittylaw03.DigestSums", spec := "digestSums", named := ["chitty/word.primes"], apart := false, laid := [("chitty/word.primes", laid_chitty_word_primes)], narrowed := true }
def DigestSumsUptoSaid : Prop := digestSumsUptoRow.holds Tryd.pinned (OpenSpec.upto digestSumsSpec)

/-- 'chittylaw03.DigestParts', WHERE WHAT IT READS IS OF BULK AT MOST 1048576: true; the input reads as it did. -/
def digestPartsUptoRow : OpenClaim := { program := "ytjdlgbkpdfaloaadoor", sum := "7ad5ab51192da90e6c54fb0968ae760dafd26c48935338194242c4f8ca361e7b", func := "chitty/chittylaw03.DigestParts", spec := "digestParts", named := ["chitty/word.primes"], apart := false, laid := [("chitty/word.primes", laid_chitty_word_primes)], narrowed := true }
def DigestPartsUptoSaid : Prop := digestPartsUptoRow.holds Tryd.pinned (OpenSpec.upto digestPartsSpec)

/-- 'chittylaw03.DigestWrites', WHERE WHAT IT READS IS OF BULK AT MOST 1048576: true; the input reads as it did. -/
def digestWritesUptoRow : OpenClaim := { program := "ytjdlgbkpdfaloaadoor", sum := "7ad5ab51192da90e6c54fb0968ae760dafd26c48935338194242c4f8ca361e7b", func := "chitty/chittylaw03.DigestWrites", spec := "digestWrites", named := ["chitty/word.primes"], apart := false, laid := [("chitty/word.primes", laid_chitty_word_primes)], narrowed := true }
def DigestWritesUptoSaid : Prop := digestWritesUptoRow.holds Tryd.pinned (OpenSpec.upto digestWritesSpec)

end Rows
end Go.Proofs.YtjdlgbkpdfaloaaDoor
