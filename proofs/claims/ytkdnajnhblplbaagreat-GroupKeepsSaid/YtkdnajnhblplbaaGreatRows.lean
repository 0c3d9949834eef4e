/-
  No cell of these rows narrows 'for every input' (looked for: loops, veiled, ifaces, maps, wideKeys, modest, calm, conditions, laid).
  DERIVED. THE GIVEN ROWS OF THIS SEAT. 6 by the template 'for every input the law returns true; each argument reads behind the call as it read before'; 0 by the template 'total and deterministic' (their statements: YtkdnajnhblplbaaGreatTotals.lean).
  GIVEN WITH THE SEED: the statements are not yours to turn. If you find one false, say at which input.
  Laid BY PROGRAM, IN A SANDBOX (cutbox-rows.mjs): the forced cells as the released guide's own fill.sh prints them over the translation a584b971d854808e… (all of the seat's roots in one cut). By AI agents, Wed Nov 11 2026. No macro, syntax, notation, axiom, sorry.
-/
import Derived.Test.YtkdnajnhblplbaaGreatChecked
import GoSem.Claim
import GoSem.ClaimJoined
import GoSem.ClaimMapViews
import Derived.JoinedTies
import Derived.KernelRfl
namespace Go.Proofs.YtkdnajnhblplbaaGreat
/- THE CELL 'sum', in the pinned program and in every row, IS THE sha256 OF THE DUMP (.gsa) THAT YtkdnajnhblplbaaGreatProg.lean LOADS. Nothing in Lean hashes anything: it is a label: what it is worth is what the hold of that sum in a sandbox is worth. -/
noncomputable def Tryz.pinned : Pinned := { name := "ytkdnajnhblplbaagreat", sum := "a584b971d854808e8e292d0cb311ec4007b2824412088e13f62c8a92975ecfff", checked := Tryz.checked }
namespace Rows
def none {H : Type} : Left H := { results := [], args := [] }

/-- 'skerrylaw09.WalKeeps': WHATEVER THE INPUT: true; the input reads as it did. -/
def walKeepsSpec : ChangeSpec := { name := "walKeeps", fn := fun _ => fun
  | [d1, d2] => { results := [.lit (.bool true)], args := [d1, d2] }
  | _ => none }
def walKeepsRow : OpenClaim := { program := "ytkdnajnhblplbaagreat", sum := "a584b971d854808e8e292d0cb311ec4007b2824412088e13f62c8a92975ecfff", func := "skerry/skerrylaw09.WalKeeps", spec := "walKeeps", unfollowed := true, recurses := true, apart := false }
def WalKeepsSaid : Prop := walKeepsRow.holds Tryz.pinned (OpenSpec.ofChange walKeepsSpec)

/-- ITS FALSE NEIGHBOUR: 'it returns false'. Refute it at one input. -/
def walKeepsWrong : ChangeSpec := { name := "walKeeps", fn := fun _ => fun
  | [d1, d2] => { results := [.lit (.bool false)], args := [d1, d2] }
  | _ => none }
def WalKeepsWrongFalsely : Prop := walKeepsRow.holds Tryz.pinned (OpenSpec.ofChange walKeepsWrong)

/-- 'skerrylaw11.GroupKeeps': WHATEVER THE INPUT: true; the input reads as it did. -/
def groupKeepsSpec : ChangeSpec := { name := "groupKeeps", fn := fun _ => fun
  | [d1, d2] => { results := [.lit (.bool true)], args := [d1, d2] }
  | _ => none }
def groupKeepsRow : OpenClaim := { program := "ytkdnajnhblplbaagreat", sum := "a584b971d854808e8e292d0cb311ec4007b2824412088e13f62c8a92975ecfff", func := "skerry/skerrylaw11.GroupKeeps", spec := "groupKeeps", inPlace := ["maps.clone"], unfollowed := true, recurses := true, apart := false }
def GroupKeepsSaid : Prop := groupKeepsRow.holds Tryz.pinned (OpenSpec.ofChange groupKeepsSpec)

/-- ITS FALSE NEIGHBOUR: 'it returns false'. Refute it at one input. -/
def groupKeepsWrong : ChangeSpec := { name := "groupKeeps", fn := fun _ => fun
  | [d1, d2] => { results := [.lit (.bool false)], args := [d1, d2] }
  | _ => none }
def GroupKeepsWrongFalsely : Prop := groupKeepsRow.holds Tryz.pinned (OpenSpec.ofChange groupKeepsWrong)

/-- 'skerrylaw11.GroupNil': WHATEVER THE INPUT: true; the input reads as it did. -/
def groupNilSpec : ChangeSpec := { name := "groupNil", fn := fun _ => fun
  | [] => { results := [.lit (.bool true)], args := [] }
  | _ => none }
def groupNilRow : OpenClaim := { program := "ytkdnajnhblplbaagreat", sum := "a584b971d854808e8e292d0cb311ec4007b2824412088e13f62c8a92975ecfff", func := "skerry/skerrylaw11.GroupNil", spec := "groupNil", inPlace := ["maps.clone"], unfollowed := true, recurses := true, apart := false }
def GroupNilSaid : Prop := groupNilRow.holds Tryz.pinned (OpenSpec.ofChange groupNilSpec)

/-- ITS FALSE NEIGHBOUR: 'it returns false'. Refute it at one input. -/
def groupNilWrong : ChangeSpec := { name := "groupNil", fn := fun _ => fun
  | [] => { results := [.lit (.bool false)], args := [] }
  | _ => none }
def GroupNilWrongFalsely : Prop := groupNilRow.holds Tryz.pinned (OpenSpec.ofChange groupNilWrong)

/-- 'skerrylaw12.AllocTakes': WHATEVER THE INPUT: true; the input reads as it did. -/
def allocTakesSpec : ChangeSpec := { name := "allocTakes", fn := fun _ => fun
  | [d] => { results := [.lit (.bool true)], args := [d] }
  | _ => none }
def allocTakesRow : OpenClaim := { program := "ytkdnajnhblplbaagreat", sum := "a584b971d854808e8e292d0cb311ec4007b2824412088e13f62c8a92975ecfff", func := "skerry/skerrylaw12.AllocTakes", spec := "allocTakes", inPlace := ["maps.clone", "math.archTrunc", "math.Float64bits", "math.Float64frombits"], unfollowed := true, recurses := true, apart := false }
def AllocTakesSaid : Prop := allocTakesRow.holds Tryz.pinned (OpenSpec.ofChange allocTakesSpec)

/-- ITS FALSE NEIGHBOUR: 'it returns false'. Refute it at one input. -/
def allocTakesWrong : ChangeSpec := { name := "allocTakes", fn := fun _ => fun
  | [d] => { results := [.lit (.bool false)], args := [d] }
  | _ => none }
def AllocTakesWrongFalsely : Prop := allocTakesRow.holds Tryz.pinned (OpenSpec.ofChange allocTakesWrong)

/-- 'skerrylaw13.InodeNil': WHATEVER THE INPUT: true; the input reads as it did. -/
def inodeNilSpec : ChangeSpec := { name := "inodeNil", fn := fun _ => fun
  | [] => { results := [.lit (.bool true)], args := [] }
  | _ => none }
def inodeNilRow : OpenClaim := { program := "ytkdnajnhblplbaagreat", sum := "a584b971d854808e8e292d0cb311ec4007b2824412088e13f62c8a92975ecfff", func := "skerry/skerrylaw13.InodeNil", spec := "inodeNil", inPlace := ["maps.clone"], unfollowed := true, recurses := true, apart := false }
def InodeNilSaid : Prop := inodeNilRow.holds Tryz.pinned (OpenSpec.ofChange inodeNilSpec)

/-- ITS FALSE NEIGHBOUR: 'it returns false'. Refute it at one input. -/
def inodeNilWrong : ChangeSpec := { name := "inodeNil", fn := fun _ => fun
  | [] => { results := [.lit (.bool false)], args := [] }
  | _ => none }
def InodeNilWrongFalsely : Prop := inodeNilRow.holds Tryz.pinned (OpenSpec.ofChange inodeNilWrong)

/-- 'skerrylaw14.FileNone': WHATEVER THE INPUT: true; the input reads as it did. -/
def fileNoneSpec : ChangeSpec := { name := "fileNone", fn := fun _ => fun
  | [] => { results := [.lit (.bool true)], args := [] }
  | _ => none }
def fileNoneRow : OpenClaim := { program := "ytkdnajnhblplbaagreat", sum := "a584b971d854808e8e292d0cb311ec4007b2824412088e13f62c8a92975ecfff", func := "skerry/skerrylaw14.FileNone", spec := "fileNone", inPlace := ["maps.clone"], unfollowed := true, recurses := true, apart := false }
def FileNoneSaid : Prop := fileNoneRow.holds Tryz.pinned (OpenSpec.ofChange fileNoneSpec)

/-- ITS FALSE NEIGHBOUR: 'it returns false'. Refute it at one input. -/
def fileNoneWrong : ChangeSpec := { name := "fileNone", fn := fun _ => fun
  | [] => { results := [.lit (.bool false)], args := [] }
  | _ => none }
def FileNoneWrongFalsely : Prop := fileNoneRow.holds Tryz.pinned (OpenSpec.ofChange fileNoneWrong)

/- THE SECOND FORM. 'bulk': how many values and letters a reading holds, each counted each time it is reached (what is shared counts as often as it is met; a slice's spare places count too). A statement '..UptoSaid' is the law's where the arguments, and the package variables that the reading takes, are together of bulk at most 1048576: NARROWER than '..Said'. Prove '..Said' where nothing that the law and all that it calls make is longer than what came in: it says more and counts as full. Else prove '..UptoSaid'. A law counts once. -/
mutual
def uptoBulk {H : Type} : DataW H → Nat
  | .lit (.string bytes) => bytes.length + 1
  | .lit _ => 1
  | .nil => 1
  | .ptr d => uptoBulk d + 1
  | .slice elems spare => uptoBulkAll elems + uptoBulkAll spare + 1
  | .agg parts => uptoBulkAll parts + 1
  | .iface _ d => uptoBulk d + 1
  | .map entries => uptoBulkEntries entries + 1
  | .held _ => 1
def uptoBulkAll {H : Type} : List (DataW H) → Nat
  | [] => 0
  | d :: r => uptoBulk d + uptoBulkAll r
def uptoBulkEntries {H : Type} : List (Lit × DataW H) → Nat
  | [] => 0
  | x :: r => uptoBulkEntry x + uptoBulkEntries r
def uptoBulkEntry {H : Type} : Lit × DataW H → Nat
  | (.string bytes, d) => bytes.length + uptoBulk d + 1
  | (_, d) => uptoBulk d + 1
 end
def uptoSmall : (H : Type) → List (DataW H) → Bool := fun _ ds => decide (uptoBulkAll ds ≤ 1048576)
def OpenSpec.upto (s : _root_.Go.ChangeSpec) : _root_.Go.OpenSpec := { _root_.Go.OpenSpec.ofChange s with cond := some uptoSmall }

/-- 'skerrylaw09.WalKeeps', WHERE WHAT IT READS IS OF BULK AT MOST 1048576: true; the input reads as it did. -/
def walKeepsUptoRow : OpenClaim := { program := "ytkdnajnhblplbaagreat", sum := "a584b971d854808e8e292d0cb311ec4007b2824412088e13f62c8a92975ecfff", func := "skerry/skerrylaw09.WalKeeps", spec := "walKeeps", unfollowed := true, recurses := true, apart := false, narrowed := true }
def WalKeepsUptoSaid : Prop := walKeepsUptoRow.holds Tryz.pinned (OpenSpec.upto walKeepsSpec)

/-- 'skerrylaw11.GroupKeeps', WHERE WHAT IT READS IS OF BULK AT MOST 1048576: true; the input reads as it did. -/
def groupKeepsUptoRow : OpenClaim := { program := "ytkdnajnhblplbaagreat", sum := "a584b971d854808e8e292d0cb311ec4007b2824412088e13f62c8a92975ecfff", func := "skerry/skerrylaw11.GroupKeeps", spec := "groupKeeps", inPlace := ["maps.clone"], unfollowed := true, recurses := true, apart := false, narrowed := true }
def GroupKeepsUptoSaid : Prop := groupKeepsUptoRow.holds Tryz.pinned (OpenSpec.upto groupKeepsSpec)

/-- 'skerrylaw11.GroupNil', WHERE WHAT IT READS IS OF BULK AT MOST 1048576: true; the input reads as it did. -/
def groupNilUptoRow : OpenClaim := { program := "ytkdnajnhblplbaagreat", sum := "a584b971d854808e8e292d0cb311ec4007b2824412088e13f62c8a92975ecfff", func := "skerry/skerrylaw11.GroupNil", spec := "groupNil", inPlace := ["maps.clone"], unfollowed := true, recurses := true, apart := false, narrowed := true }
def GroupNilUptoSaid : Prop := groupNilUptoRow.holds Tryz.pinned (OpenSpec.upto groupNilSpec)

/-- 'skerrylaw12.AllocTakes', WHERE WHAT IT READS IS OF BULK AT MOST 1048576: true; the input reads as it did. -/
def allocTakesUptoRow : OpenClaim := { program := "ytkdnajnhblplbaagreat", sum := "a584b971d854808e8e292d0cb311ec4007b2824412088e13f62c8a92975ecfff", func := "skerry/skerrylaw12.AllocTakes", spec := "allocTakes", inPlace := ["maps.clone", "math.archTrunc", "math.Float64bits", "math.Float64frombits"], unfollowed := true, recurses := true, apart := false, narrowed := true }
def AllocTakesUptoSaid : Prop := allocTakesUptoRow.holds Tryz.pinned (OpenSpec.upto allocTakesSpec)

/-- 'skerrylaw13.InodeNil', WHERE WHAT IT READS IS OF BULK AT MOST 1048576: true; the input reads as it did. -/
def inodeNilUptoRow : OpenClaim := { program := "ytkdnajnhblplbaagreat", sum := "a584b971d854808e8e292d0cb311ec4007b2824412088e13f62c8a92975ecfff", func := "skerry/skerrylaw13.InodeNil", spec := "inodeNil", inPlace := ["maps.clone"], unfollowed := true, recurses := true, apart := false, narrowed := true }
def InodeNilUptoSaid : Prop := inodeNilUptoRow.holds Tryz.pinned (OpenSpec.upto inodeNilSpec)

/-- 'skerrylaw14.FileNone', WHERE WHAT IT READS IS OF BULK AT MOST 1048576: true; the input reads as it did. -/
def fileNoneUptoRow : OpenClaim := { program := "ytkdnajnhblplbaagreat", sum := "a584b971d854808e8e292d0cb311ec4007b2824412088e13f62c8a92975ecfff", func := "skerry/skerrylaw14.FileNone", spec := "fileNone", inPlace := ["maps.clone"], unfollowed := true, recurses := true, apart := false, narrowed := true }
def FileNoneUptoSaid : Prop := fileNoneUptoRow.holds Tryz.pinned (OpenSpec.upto fileNoneSpec)

end Rows
end Go.Proofs.YtkdnajnhblplbaaGreat
