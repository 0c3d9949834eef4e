/-
  No cell of these rows narrows 'for every input' (looked for: loops, veiled, ifaces, maps, wideKeys, modest, calm, conditions, laid).
  DERIVED. THE GIVEN ROWS OF THIS SEAT. 4 by the template 'for every input the law returns true; each argument reads behind the call as it read before'; 0 by the template 'total and deterministic' (their statements: YthbfinjddaembaaGreatTotals.lean).
  GIVEN WITH THE SEED: the statements are not yours to turn. If you find one false, say at which input.
  Laid BY PROGRAM, IN A SANDBOX (cutbox-rows.mjs): the forced cells as the released guide's own fill.sh prints them over the translation a10a5d1e4e44693b… (all of the seat's roots in one cut). By AI agents, Wed Nov 11 2026. No macro, syntax, notation, axiom, sorry.
-/
import Derived.Test.YthbfinjddaembaaGreatChecked
import GoSem.Claim
import GoSem.ClaimJoined
import GoSem.ClaimMapViews
import Derived.JoinedTies
import Derived.KernelRfl
namespace Go.Proofs.YthbfinjddaembaaGreat
/- THE CELL 'sum', in the pinned program and in every row, IS THE sha256 OF THE DUMP (.gsa) THAT YthbfinjddaembaaGreatProg.lean LOADS. Nothing in Lean hashes anything: it is a label: what it is worth is what the hold of that sum in a sandbox is worth. -/
noncomputable def Tryz.pinned : Pinned := { name := "ythbfinjddaembaagreat", sum := "a10a5d1e4e44693bf5adf7dc9af377fcec3c8820aa51d1d59b9044e3c68cfaa2", checked := Tryz.checked }
namespace Rows
def none {H : Type} : Left H := { results := [], args := [] }

/-- 'skerrylaw09.WalTwice': WHATEVER THE INPUT: true; the input reads as it did. -/
def walTwiceSpec : ChangeSpec := { name := "walTwice", fn := fun _ => fun
  | [d1, d2] => { results := [.lit (.bool true)], args := [d1, d2] }
  | _ => none }
def walTwiceRow : OpenClaim := { program := "ythbfinjddaembaagreat", sum := "a10a5d1e4e44693bf5adf7dc9af377fcec3c8820aa51d1d59b9044e3c68cfaa2", func := "skerry/skerrylaw09.WalTwice", spec := "walTwice", unfollowed := true, recurses := true, apart := false }
def WalTwiceSaid : Prop := walTwiceRow.holds Tryz.pinned (OpenSpec.ofChange walTwiceSpec)

/-- ITS FALSE NEIGHBOUR: 'it returns false'. Refute it at one input. -/
def walTwiceWrong : ChangeSpec := { name := "walTwice", fn := fun _ => fun
  | [d1, d2] => { results := [.lit (.bool false)], args := [d1, d2] }
  | _ => none }
def WalTwiceWrongFalsely : Prop := walTwiceRow.holds Tryz.pinned (OpenSpec.ofChange walTwiceWrong)

/-- 'skerrylaw09.WalOpens': WHATEVER THE INPUT: true; the input reads as it did. -/
def walOpensSpec : ChangeSpec := { name := "walOpens", fn := fun _ => fun
  | [d1, d2, d3] => { results := [.lit (.bool true)], args := [d1, d2, d3] }
  | _ => none }
def walOpensRow : OpenClaim := { program := "ythbfinjddaembaagreat", sum := "a10a5d1e4e44693bf5adf7dc9af377fcec3c8820aa51d1d59b9044e3c68cfaa2", func := "skerry/skerrylaw09.WalOpens", spec := "walOpens", unfollowed := true, recurses := true, apart := false }
def WalOpensSaid : Prop := walOpensRow.holds Tryz.pinned (OpenSpec.ofChange walOpensSpec)

/-- ITS FALSE NEIGHBOUR: 'it returns false'. Refute it at one input. -/
def walOpensWrong : ChangeSpec := { name := "walOpens", fn := fun _ => fun
  | [d1, d2, d3] => { results := [.lit (.bool false)], args := [d1, d2, d3] }
  | _ => none }
def WalOpensWrongFalsely : Prop := walOpensRow.holds Tryz.pinned (OpenSpec.ofChange walOpensWrong)

/-- 'skerrylaw09.WalCrashes': WHATEVER THE INPUT: true; the input reads as it did. -/
def walCrashesSpec : ChangeSpec := { name := "walCrashes", fn := fun _ => fun
  | [d1, d2, d3, d4] => { results := [.lit (.bool true)], args := [d1, d2, d3, d4] }
  | _ => none }
def walCrashesRow : OpenClaim := { program := "ythbfinjddaembaagreat", sum := "a10a5d1e4e44693bf5adf7dc9af377fcec3c8820aa51d1d59b9044e3c68cfaa2", func := "skerry/skerrylaw09.WalCrashes", spec := "walCrashes", unfollowed := true, recurses := true, apart := false }
def WalCrashesSaid : Prop := walCrashesRow.holds Tryz.pinned (OpenSpec.ofChange walCrashesSpec)

/-- ITS FALSE NEIGHBOUR: 'it returns false'. Refute it at one input. -/
def walCrashesWrong : ChangeSpec := { name := "walCrashes", fn := fun _ => fun
  | [d1, d2, d3, d4] => { results := [.lit (.bool false)], args := [d1, d2, d3, d4] }
  | _ => none }
def WalCrashesWrongFalsely : Prop := walCrashesRow.holds Tryz.pinned (OpenSpec.ofChange walCrashesWrong)

/-- 'skerrylaw09.WalScripts': WHATEVER THE INPUT: true; the input reads as it did. -/
def walScriptsSpec : ChangeSpec := { name := "walScripts", fn := fun _ => fun
  | [d] => { results := [.lit (.bool true)], args := [d] }
  | _ => none }
def walScriptsRow : OpenClaim := { program := "ythbfinjddaembaagreat", sum := "a10a5d1e4e44693bf5adf7dc9af377fcec3c8820aa51d1d59b9044e3c68cfaa2", func := "skerry/skerrylaw09.WalScripts", spec := "walScripts", unfollowed := true, recurses := true, apart := false }
def WalScriptsSaid : Prop := walScriptsRow.holds Tryz.pinned (OpenSpec.ofChange walScriptsSpec)

/-- ITS FALSE NEIGHBOUR: 'it returns false'. Refute it at one input. -/
def walScriptsWrong : ChangeSpec := { name := "walScripts", fn := fun _ => fun
  | [d] => { results := [.lit (.bool false)], args := [d] }
  | _ => none }
def WalScriptsWrongFalsely : Prop := walScriptsRow.holds Tryz.pinned (OpenSpec.ofChange walScriptsWrong)

/- THE SECOND FORM. 'bulk': how many values and letters a reading holds, each counted each time it is reached (what is shared counts as often as it is met; a slice's spare places count too). A statement '..UptoSaid' is the law's where the arguments, and the package variables that the reading takes, are together of bulk at most 1048576: NARROWER than '..Said'. Prove '..Said' where nothing that the law and all that it calls make is longer than what came in: it says more and counts as full. Else prove '..UptoSaid'. A law counts once. -/
mutual
def uptoBulk {H : Type} : DataW H → Nat
  | .lit (.string bytes) => bytes.length + 1
  | .lit _ => 1
  | .nil => 1
  | .ptr d => uptoBulk d + 1
  | .slice elems spare => uptoBulkAll elems + uptoBulkAll spare + 1
  | .agg parts => uptoBulkAll parts + 1
  | .iface _ d => uptoBulk d + 1
  | .map entries => uptoBulkEntries entries + 1
  | .held _ => 1
def uptoBulkAll {H : Type} : List (DataW H) → Nat
  | [] => 0
  | d :: r => uptoBulk d + uptoBulkAll r
def uptoBulkEntries {H : Type} : List (Lit × DataW H) → Nat
  | [] => 0
  | x :: r => uptoBulkEntry x + uptoBulkEntries r
def uptoBulkEntry {H : Type} : Lit × DataW H → Nat
  | (.string bytes, d) => bytes.length + uptoBulk d + 1
  | (_, d) => uptoBulk d + 1
 end
def uptoSmall : (H : Type) → List (DataW H) → Bool := fun _ ds => decide (uptoBulkAll ds ≤ 1048576)
def OpenSpec.upto (s : _root_.Go.ChangeSpec) : _root_.Go.OpenSpec := { _root_.Go.OpenSpec.ofChange s with cond := some uptoSmall }

/-- 'skerrylaw09.WalTwice', WHERE WHAT IT READS IS OF BULK AT MOST 1048576: true; the input reads as it did. -/
def walTwiceUptoRow : OpenClaim := { program := "ythbfinjddaembaagreat", sum := "a10a5d1e4e44693bf5adf7dc9af377fcec3c8820aa51d1d59b9044e3c68cfaa2", func := "skerry/skerrylaw09.WalTwice", spec := "walTwice", unfollowed := true, recurses := true, apart := false, narrowed := true }
def WalTwiceUptoSaid : Prop := walTwiceUptoRow.holds Tryz.pinned (OpenSpec.upto walTwiceSpec)

/-- 'skerrylaw09.WalOpens', WHERE WHAT IT READS IS OF BULK AT MOST 1048576: true; the input reads as it did. -/
def walOpensUptoRow : OpenClaim := { program := "ythbfinjddaembaagreat", sum := "a10a5d1e4e44693bf5adf7dc9af377fcec3c8820aa51d1d59b9044e3c68cfaa2", func := "skerry/skerrylaw09.WalOpens", spec := "walOpens", unfollowed := true, recurses := true, apart := false, narrowed := true }
def WalOpensUptoSaid : Prop := walOpensUptoRow.holds Tryz.pinned (OpenSpec.upto walOpensSpec)

/-- 'skerrylaw09.WalCrashes', WHERE WHAT IT READS IS OF BULK AT MOST 1048576: true; the input reads as it did. -/
def walCrashesUptoRow : OpenClaim := { program := "ythbfinjddaembaagreat", sum := "a10a5d1e4e44693bf5adf7dc9af377fcec3c8820aa51d1d59b9044e3c68cfaa2", func := "skerry/skerrylaw09.WalCrashes", spec := "walCrashes", unfollowed := true, recurses := true, apart := false, narrowed := true }
def WalCrashesUptoSaid : Prop := walCrashesUptoRow.holds Tryz.pinned (OpenSpec.upto walCrashesSpec)

/-- 'skerrylaw09.WalScripts', WHERE WHAT IT READS IS OF BULK AT MOST 1048576: true; the input reads as it did. -/
def walScriptsUptoRow : OpenClaim := { program := "ythbfinjddaembaagreat", sum := "a10a5d1e4e44693bf5adf7dc9af377fcec3c8820aa51d1d59b9044e3c68cfaa2", func := "skerry/skerrylaw09.WalScripts", spec := "walScripts", unfollowed := true, recurses := true, apart := false, narrowed := true }
def WalScriptsUptoSaid : Prop := walScriptsUptoRow.holds Tryz.pinned (OpenSpec.upto walScriptsSpec)

end Rows
end Go.Proofs.YthbfinjddaembaaGreat
