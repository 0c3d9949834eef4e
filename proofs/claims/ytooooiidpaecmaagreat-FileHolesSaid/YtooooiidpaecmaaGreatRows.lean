/-
  No cell of these rows narrows 'for every input' (looked for: loops, veiled, ifaces, maps, wideKeys, modest, calm, conditions, laid).
  DERIVED. THE GIVEN ROWS OF THIS SEAT. 5 by the template 'for every input the law returns true; each argument reads behind the call as it read before'; 0 by the template 'total and deterministic' (their statements: YtooooiidpaecmaaGreatTotals.lean).
  GIVEN WITH THE SEED: the statements are not yours to turn. If you find one false, say at which input.
  Laid BY PROGRAM, IN A SANDBOX (cutbox-rows.mjs): the forced cells as the released guide's own fill.sh prints them over the translation 3dffb73bb0d6b3cf… (all of the seat's roots in one cut). By AI agents, Wed Nov 11 2026. No macro, syntax, notation, axiom, sorry.
-/
import Derived.Test.YtooooiidpaecmaaGreatChecked
import GoSem.Claim
import GoSem.ClaimJoined
import GoSem.ClaimMapViews
import Derived.JoinedTies
import Derived.KernelRfl
namespace Go.Proofs.YtooooiidpaecmaaGreat
/- THE CELL 'sum', in the pinned program and in every row, IS THE sha256 OF THE DUMP (.gsa) THAT YtooooiidpaecmaaGreatProg.lean LOADS. Nothing in Lean hashes anything: it is a label: what it is worth is what the hold of that sum in a sandbox is worth. -/
noncomputable def Tryz.pinned : Pinned := { name := "ytooooiidpaecmaagreat", sum := "3dffb73bb0d6b3cf8183656891cc87f509f5097597ea0b7825cdef22cd053730", checked := Tryz.checked }
namespace Rows
def none {H : Type} : Left H := { results := [], args := [] }

/-- 'skerrylaw13.InodeKeeps': WHATEVER THE INPUT: true; the input reads as it did. -/
def inodeKeepsSpec : ChangeSpec := { name := "inodeKeeps", fn := fun _ => fun
  | [d] => { results := [.lit (.bool true)], args := [d] }
  | _ => none }
def inodeKeepsRow : OpenClaim := { program := "ytooooiidpaecmaagreat", sum := "3dffb73bb0d6b3cf8183656891cc87f509f5097597ea0b7825cdef22cd053730", func := "skerry/skerrylaw13.InodeKeeps", spec := "inodeKeeps", inPlace := ["maps.clone"], unfollowed := true, recurses := true, apart := false }
def InodeKeepsSaid : Prop := inodeKeepsRow.holds Tryz.pinned (OpenSpec.ofChange inodeKeepsSpec)

/-- ITS FALSE NEIGHBOUR: 'it returns false'. Refute it at one input. -/
def inodeKeepsWrong : ChangeSpec := { name := "inodeKeeps", fn := fun _ => fun
  | [d] => { results := [.lit (.bool false)], args := [d] }
  | _ => none }
def InodeKeepsWrongFalsely : Prop := inodeKeepsRow.holds Tryz.pinned (OpenSpec.ofChange inodeKeepsWrong)

/-- 'skerrylaw13.InodeApart': WHATEVER THE INPUT: true; the input reads as it did. -/
def inodeApartSpec : ChangeSpec := { name := "inodeApart", fn := fun _ => fun
  | [d1, d2] => { results := [.lit (.bool true)], args := [d1, d2] }
  | _ => none }
def inodeApartRow : OpenClaim := { program := "ytooooiidpaecmaagreat", sum := "3dffb73bb0d6b3cf8183656891cc87f509f5097597ea0b7825cdef22cd053730", func := "skerry/skerrylaw13.InodeApart", spec := "inodeApart", inPlace := ["maps.clone"], unfollowed := true, recurses := true, apart := false }
def InodeApartSaid : Prop := inodeApartRow.holds Tryz.pinned (OpenSpec.ofChange inodeApartSpec)

/-- ITS FALSE NEIGHBOUR: 'it returns false'. Refute it at one input. -/
def inodeApartWrong : ChangeSpec := { name := "inodeApart", fn := fun _ => fun
  | [d1, d2] => { results := [.lit (.bool false)], args := [d1, d2] }
  | _ => none }
def InodeApartWrongFalsely : Prop := inodeApartRow.holds Tryz.pinned (OpenSpec.ofChange inodeApartWrong)

/-- 'skerrylaw13.InodeFrees': WHATEVER THE INPUT: true; the input reads as it did. -/
def inodeFreesSpec : ChangeSpec := { name := "inodeFrees", fn := fun _ => fun
  | [d1, d2] => { results := [.lit (.bool true)], args := [d1, d2] }
  | _ => none }
def inodeFreesRow : OpenClaim := { program := "ytooooiidpaecmaagreat", sum := "3dffb73bb0d6b3cf8183656891cc87f509f5097597ea0b7825cdef22cd053730", func := "skerry/skerrylaw13.InodeFrees", spec := "inodeFrees", inPlace := ["maps.clone", "math.archTrunc", "math.Float64bits", "math.Float64frombits"], unfollowed := true, recurses := true, apart := false }
def InodeFreesSaid : Prop := inodeFreesRow.holds Tryz.pinned (OpenSpec.ofChange inodeFreesSpec)

/-- ITS FALSE NEIGHBOUR: 'it returns false'. Refute it at one input. -/
def inodeFreesWrong : ChangeSpec := { name := "inodeFrees", fn := fun _ => fun
  | [d1, d2] => { results := [.lit (.bool false)], args := [d1, d2] }
  | _ => none }
def InodeFreesWrongFalsely : Prop := inodeFreesRow.holds Tryz.pinned (OpenSpec.ofChange inodeFreesWrong)

/-- 'skerrylaw14.FileKeeps': WHATEVER THE INPUT: true; the input reads as it did. -/
def fileKeepsSpec : ChangeSpec := { name := "fileKeeps", fn := fun _ => fun
  | [d1, d2, d3] => { results := [.lit (.bool true)], args := [d1, d2, d3] }
  | _ => none }
def fileKeepsRow : OpenClaim := { program := "ytooooiidpaecmaagreat", sum := "3dffb73bb0d6b3cf8183656891cc87f509f5097597ea0b7825cdef22cd053730", func := "skerry/skerrylaw14.FileKeeps", spec := "fileKeeps", inPlace := ["maps.clone"], unfollowed := true, recurses := true, apart := false }
def FileKeepsSaid : Prop := fileKeepsRow.holds Tryz.pinned (OpenSpec.ofChange fileKeepsSpec)

/-- ITS FALSE NEIGHBOUR: 'it returns false'. Refute it at one input. -/
def fileKeepsWrong : ChangeSpec := { name := "fileKeeps", fn := fun _ => fun
  | [d1, d2, d3] => { results := [.lit (.bool false)], args := [d1, d2, d3] }
  | _ => none }
def FileKeepsWrongFalsely : Prop := fileKeepsRow.holds Tryz.pinned (OpenSpec.ofChange fileKeepsWrong)

/-- 'skerrylaw14.FileHoles': WHATEVER THE INPUT: true; the input reads as it did. -/
def fileHolesSpec : ChangeSpec := { name := "fileHoles", fn := fun _ => fun
  | [d1, d2, d3] => { results := [.lit (.bool true)], args := [d1, d2, d3] }
  | _ => none }
def fileHolesRow : OpenClaim := { program := "ytooooiidpaecmaagreat", sum := "3dffb73bb0d6b3cf8183656891cc87f509f5097597ea0b7825cdef22cd053730", func := "skerry/skerrylaw14.FileHoles", spec := "fileHoles", inPlace := ["maps.clone"], unfollowed := true, recurses := true, apart := false }
def FileHolesSaid : Prop := fileHolesRow.holds Tryz.pinned (OpenSpec.ofChange fileHolesSpec)

/-- ITS FALSE NEIGHBOUR: 'it returns false'. Refute it at one input. -/
def fileHolesWrong : ChangeSpec := { name := "fileHoles", fn := fun _ => fun
  | [d1, d2, d3] => { results := [.lit (.bool false)], args := [d1, d2, d3] }
  | _ => none }
def FileHolesWrongFalsely : Prop := fileHolesRow.holds Tryz.pinned (OpenSpec.ofChange fileHolesWrong)

/- THE SECOND FORM. 'bulk': how many values and letters a reading holds, each counted each time it is reached (what is shared counts as often as it is met; a slice's spare places count too). A statement '..UptoSaid' is the law's where the arguments, and the package variables that the reading takes, are together of bulk at most 1048576: NARROWER than '..Said'. Prove '..Said' where nothing that the law and all that it calls make is longer than what came in: it says more and counts as full. Else prove '..UptoSaid'. A law counts once. -/
mutual
def uptoBulk {H : Type} : DataW H → Nat
  | .lit (.string bytes) => bytes.length + 1
  | .lit _ => 1
  | .nil => 1
  | .ptr d => uptoBulk d + 1
  | .slice elems spare => uptoBulkAll elems + uptoBulkAll spare + 1
  | .agg parts => uptoBulkAll parts + 1
  | .iface _ d => uptoBulk d + 1
  | .map entries => uptoBulkEntries entries + 1
  | .held _ => 1
def uptoBulkAll {H : Type} : List (DataW H) → Nat
  | [] => 0
  | d :: r => uptoBulk d + uptoBulkAll r
def uptoBulkEntries {H : Type} : List (Lit × DataW H) → Nat
  | [] => 0
  | x :: r => uptoBulkEntry x + uptoBulkEntries r
def uptoBulkEntry {H : Type} : Lit × DataW H → Nat
  | (.string bytes, d) => bytes.length + uptoBulk d + 1
  | (_, d) => uptoBulk d + 1
 end
def uptoSmall : (H : Type) → List (DataW H) → Bool := fun _ ds => decide (uptoBulkAll ds ≤ 1048576)
def OpenSpec.upto (s : _root_.Go.ChangeSpec) : _root_.Go.OpenSpec := { _root_.Go.OpenSpec.ofChange s with cond := some uptoSmall }

/-- 'skerrylaw13.InodeKeeps', WHERE WHAT IT READS IS OF BULK AT MOST 1048576: true; the input reads as it did. -/
def inodeKeepsUptoRow : OpenClaim := { program := "ytooooiidpaecmaagreat", sum := "3dffb73bb0d6b3cf8183656891cc87f509f5097597ea0b7825cdef22cd053730", func := "skerry/skerrylaw13.InodeKeeps", spec := "inodeKeeps", inPlace := ["maps.clone"], unfollowed := true, recurses := true, apart := false, narrowed := true }
def InodeKeepsUptoSaid : Prop := inodeKeepsUptoRow.holds Tryz.pinned (OpenSpec.upto inodeKeepsSpec)

/-- 'skerrylaw13.InodeApart', WHERE WHAT IT READS IS OF BULK AT MOST 1048576: true; the input reads as it did. -/
def inodeApartUptoRow : OpenClaim := { program := "ytooooiidpaecmaagreat", sum := "3dffb73bb0d6b3cf8183656891cc87f509f5097597ea0b7825cdef22cd053730", func := "skerry/skerrylaw13.InodeApart", spec := "inodeApart", inPlace := ["maps.clone"], unfollowed := true, recurses := true, apart := false, narrowed := true }
def InodeApartUptoSaid : Prop := inodeApartUptoRow.holds Tryz.pinned (OpenSpec.upto inodeApartSpec)

/-- 'skerrylaw13.InodeFrees', WHERE WHAT IT READS IS OF BULK AT MOST 1048576: true; the input reads as it did. -/
def inodeFreesUptoRow : OpenClaim := { program := "ytooooiidpaecmaagreat", sum := "3dffb73bb0d6b3cf8183656891cc87f509f5097597ea0b7825cdef22cd053730", func := "skerry/skerrylaw13.InodeFrees", spec := "inodeFrees", inPlace := ["maps.clone", "math.archTrunc", "math.Float64bits", "math.Float64frombits"], unfollowed := true, recurses := true, apart := false, narrowed := true }
def InodeFreesUptoSaid : Prop := inodeFreesUptoRow.holds Tryz.pinned (OpenSpec.upto inodeFreesSpec)

/-- 'skerrylaw14.FileKeeps', WHERE WHAT IT READS IS OF BULK AT MOST 1048576: true; the input reads as it did. -/
def fileKeepsUptoRow : OpenClaim := { program := "ytooooiidpaecmaagreat", sum := "3dffb73bb0d6b3cf8183656891cc87f509f5097597ea0b7825cdef22cd053730", func := "skerry/skerrylaw14.FileKeeps", spec := "fileKeeps", inPlace := ["maps.clone"], unfollowed := true, recurses := true, apart := false, narrowed := true }
def FileKeepsUptoSaid : Prop := fileKeepsUptoRow.holds Tryz.pinned (OpenSpec.upto fileKeepsSpec)

/-- 'skerrylaw14.FileHoles', WHERE WHAT IT READS IS OF BULK AT MOST 1048576: true; the input reads as it did. -/
def fileHolesUptoRow : OpenClaim := { program := "ytooooiidpaecmaagreat", sum := "3dffb73bb0d6b3cf8183656891cc87f509f5097597ea0b7825cdef22cd053730", func := "skerry/skerrylaw14.FileHoles", spec := "fileHoles", inPlace := ["maps.clone"], unfollowed := true, recurses := true, apart := false, narrowed := true }
def FileHolesUptoSaid : Prop := fileHolesUptoRow.holds Tryz.pinned (OpenSpec.upto fileHolesSpec)

end Rows
end Go.Proofs.YtooooiidpaecmaaGreat
