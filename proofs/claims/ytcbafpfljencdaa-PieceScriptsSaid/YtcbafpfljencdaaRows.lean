/-
  No cell of these rows narrows 'for every input' (looked for: loops, veiled, ifaces, maps, wideKeys, modest, calm, conditions, laid).
  DERIVED. THE GIVEN ROWS OF THIS SEAT. 5 by the template 'for every input the law returns true; each argument reads behind the call as it read before'; 0 by the template 'total and deterministic' (their statements: YtcbafpfljencdaaTotals.lean).
  GIVEN WITH THE SEED: the statements are not yours to turn. If you find one false, say at which input.
  Laid BY PROGRAM, IN A SANDBOX (cutbox-rows.mjs): the forced cells as the released guide's own fill.sh prints them over the translation b7ca3110eeb2e701… (all of the seat's roots in one cut). By AI agents, Wed Nov 11 2026. No macro, syntax, notation, axiom, sorry.
-/
import Derived.Test.YtcbafpfljencdaaChecked
import GoSem.Claim
import GoSem.ClaimJoined
import GoSem.ClaimMapViews
import Derived.JoinedTies
import Derived.KernelRfl
namespace Go.Proofs.Ytcbafpfljencdaa
/- THE CELL 'sum', in the pinned program and in every row, IS THE sha256 OF THE DUMP (.gsa) THAT YtcbafpfljencdaaProg.lean LOADS. Nothing in Lean hashes anything: it is a label: what it is worth is what the hold of that sum in a sandbox is worth. -/
noncomputable def Try.pinned : Pinned := { name := "ytcbafpfljencdaa", sum := "b7ca3110eeb2e7017b51cb6f517ac69096100b5120c91e6a13af493f01863e02", checked := Try.checked }
namespace Rows
def none {H : Type} : Left H := { results := [], args := [] }

/-- 'skerrylaw20.PieceCuts': WHATEVER THE INPUT: true; the input reads as it did. -/
def pieceCutsSpec : ChangeSpec := { name := "pieceCuts", fn := fun _ => fun
  | [d1, d2, d3] => { results := [.lit (.bool true)], args := [d1, d2, d3] }
  | _ => none }
def pieceCutsRow : OpenClaim := { program := "ytcbafpfljencdaa", sum := "b7ca3110eeb2e7017b51cb6f517ac69096100b5120c91e6a13af493f01863e02", func := "skerry/skerrylaw20.PieceCuts", spec := "pieceCuts", inPlace := ["internal/abi.NoEscape"], apart := false }
def PieceCutsSaid : Prop := pieceCutsRow.holds Try.pinned (OpenSpec.ofChange pieceCutsSpec)

/-- ITS FALSE NEIGHBOUR: 'it returns false'. Refute it at one input. -/
def pieceCutsWrong : ChangeSpec := { name := "pieceCuts", fn := fun _ => fun
  | [d1, d2, d3] => { results := [.lit (.bool false)], args := [d1, d2, d3] }
  | _ => none }
def PieceCutsWrongFalsely : Prop := pieceCutsRow.holds Try.pinned (OpenSpec.ofChange pieceCutsWrong)

/-- 'skerrylaw20.PieceApart': WHATEVER THE INPUT: true; the input reads as it did. -/
def pieceApartSpec : ChangeSpec := { name := "pieceApart", fn := fun _ => fun
  | [d1, d2] => { results := [.lit (.bool true)], args := [d1, d2] }
  | _ => none }
def pieceApartRow : OpenClaim := { program := "ytcbafpfljencdaa", sum := "b7ca3110eeb2e7017b51cb6f517ac69096100b5120c91e6a13af493f01863e02", func := "skerry/skerrylaw20.PieceApart", spec := "pieceApart", inPlace := ["internal/abi.NoEscape"], apart := false }
def PieceApartSaid : Prop := pieceApartRow.holds Try.pinned (OpenSpec.ofChange pieceApartSpec)

/-- ITS FALSE NEIGHBOUR: 'it returns false'. Refute it at one input. -/
def pieceApartWrong : ChangeSpec := { name := "pieceApart", fn := fun _ => fun
  | [d1, d2] => { results := [.lit (.bool false)], args := [d1, d2] }
  | _ => none }
def PieceApartWrongFalsely : Prop := pieceApartRow.holds Try.pinned (OpenSpec.ofChange pieceApartWrong)

/-- 'skerrylaw20.PieceBack': WHATEVER THE INPUT: true; the input reads as it did. -/
def pieceBackSpec : ChangeSpec := { name := "pieceBack", fn := fun _ => fun
  | [d1, d2] => { results := [.lit (.bool true)], args := [d1, d2] }
  | _ => none }
def pieceBackRow : OpenClaim := { program := "ytcbafpfljencdaa", sum := "b7ca3110eeb2e7017b51cb6f517ac69096100b5120c91e6a13af493f01863e02", func := "skerry/skerrylaw20.PieceBack", spec := "pieceBack", inPlace := ["internal/abi.NoEscape"], apart := false }
def PieceBackSaid : Prop := pieceBackRow.holds Try.pinned (OpenSpec.ofChange pieceBackSpec)

/-- ITS FALSE NEIGHBOUR: 'it returns false'. Refute it at one input. -/
def pieceBackWrong : ChangeSpec := { name := "pieceBack", fn := fun _ => fun
  | [d1, d2] => { results := [.lit (.bool false)], args := [d1, d2] }
  | _ => none }
def PieceBackWrongFalsely : Prop := pieceBackRow.holds Try.pinned (OpenSpec.ofChange pieceBackWrong)

/-- 'skerrylaw20.PieceScripts': WHATEVER THE INPUT: true; the input reads as it did. -/
def pieceScriptsSpec : ChangeSpec := { name := "pieceScripts", fn := fun _ => fun
  | [d1, d2] => { results := [.lit (.bool true)], args := [d1, d2] }
  | _ => none }
def pieceScriptsRow : OpenClaim := { program := "ytcbafpfljencdaa", sum := "b7ca3110eeb2e7017b51cb6f517ac69096100b5120c91e6a13af493f01863e02", func := "skerry/skerrylaw20.PieceScripts", spec := "pieceScripts", inPlace := ["internal/abi.NoEscape"], apart := false }
def PieceScriptsSaid : Prop := pieceScriptsRow.holds Try.pinned (OpenSpec.ofChange pieceScriptsSpec)

/-- ITS FALSE NEIGHBOUR: 'it returns false'. Refute it at one input. -/
def pieceScriptsWrong : ChangeSpec := { name := "pieceScripts", fn := fun _ => fun
  | [d1, d2] => { results := [.lit (.bool false)], args := [d1, d2] }
  | _ => none }
def PieceScriptsWrongFalsely : Prop := pieceScriptsRow.holds Try.pinned (OpenSpec.ofChange pieceScriptsWrong)

/-- 'skerrylaw20.PieceNil': WHATEVER THE INPUT: true; the input reads as it did. -/
def pieceNilSpec : ChangeSpec := { name := "pieceNil", fn := fun _ => fun
  | [] => { results := [.lit (.bool true)], args := [] }
  | _ => none }
def pieceNilRow : OpenClaim := { program := "ytcbafpfljencdaa", sum := "b7ca3110eeb2e7017b51cb6f517ac69096100b5120c91e6a13af493f01863e02", func := "skerry/skerrylaw20.PieceNil", spec := "pieceNil", inPlace := ["internal/abi.NoEscape"], apart := false }
def PieceNilSaid : Prop := pieceNilRow.holds Try.pinned (OpenSpec.ofChange pieceNilSpec)

/-- ITS FALSE NEIGHBOUR: 'it returns false'. Refute it at one input. -/
def pieceNilWrong : ChangeSpec := { name := "pieceNil", fn := fun _ => fun
  | [] => { results := [.lit (.bool false)], args := [] }
  | _ => none }
def PieceNilWrongFalsely : Prop := pieceNilRow.holds Try.pinned (OpenSpec.ofChange pieceNilWrong)

/- THE SECOND FORM. 'bulk': how many values and letters a reading holds, each counted each time it is reached (what is shared counts as often as it is met; a slice's spare places count too). A statement '..UptoSaid' is the law's where the arguments, and the package variables that the reading takes, are together of bulk at most 1048576: NARROWER than '..Said'. Prove '..Said' where nothing that the law and all that it calls make is longer than what came in: it says more and counts as full. Else prove '..UptoSaid'. A law counts once. -/
mutual
def uptoBulk {H : Type} : DataW H → Nat
  | .lit (.string bytes) => bytes.length + 1
  | .lit _ => 1
  | .nil => 1
  | .ptr d => uptoBulk d + 1
  | .slice elems spare => uptoBulkAll elems + uptoBulkAll spare + 1
  | .agg parts => uptoBulkAll parts + 1
  | .iface _ d => uptoBulk d + 1
  | .map entries => uptoBulkEntries entries + 1
  | .held _ => 1
def uptoBulkAll {H : Type} : List (DataW H) → Nat
  | [] => 0
  | d :: r => uptoBulk d + uptoBulkAll r
def uptoBulkEntries {H : Type} : List (Lit × DataW H) → Nat
  | [] => 0
  | x :: r => uptoBulkEntry x + uptoBulkEntries r
def uptoBulkEntry {H : Type} : Lit × DataW H → Nat
  | (.string bytes, d) => bytes.length + uptoBulk d + 1
  | (_, d) => uptoBulk d + 1
 end
def uptoSmall : (H : Type) → List (DataW H) → Bool := fun _ ds => decide (uptoBulkAll ds ≤ 1048576)
def OpenSpec.upto (s : _root_.Go.ChangeSpec) : _root_.Go.OpenSpec := { _root_.Go.OpenSpec.ofChange s with cond := some uptoSmall }

/-- 'skerrylaw20.PieceCuts', WHERE WHAT IT READS IS OF BULK AT MOST 1048576: true; the input reads as it did. -/
def pieceCutsUptoRow : OpenClaim := { program := "ytcbafpfljencdaa", sum := "b7ca3110eeb2e7017b51cb6f517ac69096100b5120c91e6a13af493f01863e02", func := "skerry/skerrylaw20.PieceCuts", spec := "pieceCuts", inPlace := ["internal/abi.NoEscape"], apart := false, narrowed := true }
def PieceCutsUptoSaid : Prop := pieceCutsUptoRow.holds Try.pinned (OpenSpec.upto pieceCutsSpec)

/-- 'skerrylaw20.PieceApart', WHERE WHAT IT READS IS OF BULK AT MOST 1048576: true; the input reads as it did. -/
def pieceApartUptoRow : OpenClaim := { program := "ytcbafpfljencdaa", sum := "b7ca3110eeb2e7017b51cb6f517ac69096100b5120c91e6a13af493f01863e02", func := "skerry/skerrylaw20.PieceApart", spec := "pieceApart", inPlace := ["internal/abi.NoEscape"], apart := false, narrowed := true }
def PieceApartUptoSaid : Prop := pieceApartUptoRow.holds Try.pinned (OpenSpec.upto pieceApartSpec)

/-- 'skerrylaw20.PieceBack', WHERE WHAT IT READS IS OF BULK AT MOST 1048576: true; the input reads as it did. -/
def pieceBackUptoRow : OpenClaim := { program := "ytcbafpfljencdaa", sum := "b7ca3110eeb2e7017b51cb6f517ac69096100b5120c91e6a13af493f01863e02", func := "skerry/skerrylaw20.PieceBack", spec := "pieceBack", inPlace := ["internal/abi.NoEscape"], apart := false, narrowed := true }
def PieceBackUptoSaid : Prop := pieceBackUptoRow.holds Try.pinned (OpenSpec.upto pieceBackSpec)

/-- 'skerrylaw20.PieceScripts', WHERE WHAT IT READS IS OF BULK AT MOST 1048576: true; the input reads as it did. -/
def pieceScriptsUptoRow : OpenClaim := { program := "ytcbafpfljencdaa", sum := "b7ca3110eeb2e7017b51cb6f517ac69096100b5120c91e6a13af493f01863e02", func := "skerry/skerrylaw20.PieceScripts", spec := "pieceScripts", inPlace := ["internal/abi.NoEscape"], apart := false, narrowed := true }
def PieceScriptsUptoSaid : Prop := pieceScriptsUptoRow.holds Try.pinned (OpenSpec.upto pieceScriptsSpec)

/-- 'skerrylaw20.PieceNil', WHERE WHAT IT READS IS OF BULK AT MOST 1048576: true; the input reads as it did. -/
def pieceNilUptoRow : OpenClaim := { program := "ytcbafpfljencdaa", sum := "b7ca3110eeb2e7017b51cb6f517ac69096100b5120c91e6a13af493f01863e02", func := "skerry/skerrylaw20.PieceNil", spec := "pieceNil", inPlace := ["internal/abi.NoEscape"], apart := false, narrowed := true }
def PieceNilUptoSaid : Prop := pieceNilUptoRow.holds Try.pinned (OpenSpec.upto pieceNilSpec)

end Rows
end Go.Proofs.Ytcbafpfljencdaa
