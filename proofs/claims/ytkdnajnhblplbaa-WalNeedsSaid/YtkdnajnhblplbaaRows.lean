/-
  No cell of these rows narrows 'for every input' (looked for: loops, veiled, ifaces, maps, wideKeys, modest, calm, conditions, laid).
  DERIVED. THE GIVEN ROWS OF THIS SEAT. 4 by the template 'for every input the law returns true; each argument reads behind the call as it read before'; 0 by the template 'total and deterministic' (their statements: YtkdnajnhblplbaaTotals.lean).
  GIVEN WITH THE SEED: the statements are not yours to turn. If you find one false, say at which input.
  Laid BY PROGRAM, IN A SANDBOX (cutbox-rows.mjs): the forced cells as the released guide's own fill.sh prints them over the translation ecf7515693c8db7c… (all of the seat's roots in one cut). By AI agents, Wed Nov 11 2026. No macro, syntax, notation, axiom, sorry.
-/
import Derived.Test.YtkdnajnhblplbaaChecked
import GoSem.Claim
import GoSem.ClaimJoined
import GoSem.ClaimMapViews
import Derived.JoinedTies
import Derived.KernelRfl
namespace Go.Proofs.Ytkdnajnhblplbaa
/- THE CELL 'sum', in the pinned program and in every row, IS THE sha256 OF THE DUMP (.gsa) THAT YtkdnajnhblplbaaProg.lean LOADS. Nothing in Lean hashes anything: it is a label: what it is worth is what the hold of that sum in a sandbox is worth. -/
noncomputable def Try.pinned : Pinned := { name := "ytkdnajnhblplbaa", sum := "ecf7515693c8db7c33eeea0b7da9a97b99ed619a837fea6773bdf2dbb0de1c3b", checked := Try.checked }
namespace Rows
def none {H : Type} : Left H := { results := [], args := [] }

/-- 'skerrylaw08.CacheKeeps': WHATEVER THE INPUT: true; the input reads as it did. -/
def cacheKeepsSpec : ChangeSpec := { name := "cacheKeeps", fn := fun _ => fun
  | [d1, d2, d3, d4] => { results := [.lit (.bool true)], args := [d1, d2, d3, d4] }
  | _ => none }
def cacheKeepsRow : OpenClaim := { program := "ytkdnajnhblplbaa", sum := "ecf7515693c8db7c33eeea0b7da9a97b99ed619a837fea6773bdf2dbb0de1c3b", func := "skerry/skerrylaw08.CacheKeeps", spec := "cacheKeeps", unfollowed := true, recurses := true, apart := false }
def CacheKeepsSaid : Prop := cacheKeepsRow.holds Try.pinned (OpenSpec.ofChange cacheKeepsSpec)

/-- ITS FALSE NEIGHBOUR: 'it returns false'. Refute it at one input. -/
def cacheKeepsWrong : ChangeSpec := { name := "cacheKeeps", fn := fun _ => fun
  | [d1, d2, d3, d4] => { results := [.lit (.bool false)], args := [d1, d2, d3, d4] }
  | _ => none }
def CacheKeepsWrongFalsely : Prop := cacheKeepsRow.holds Try.pinned (OpenSpec.ofChange cacheKeepsWrong)

/-- 'skerrylaw08.CacheNil': WHATEVER THE INPUT: true; the input reads as it did. -/
def cacheNilSpec : ChangeSpec := { name := "cacheNil", fn := fun _ => fun
  | [] => { results := [.lit (.bool true)], args := [] }
  | _ => none }
def cacheNilRow : OpenClaim := { program := "ytkdnajnhblplbaa", sum := "ecf7515693c8db7c33eeea0b7da9a97b99ed619a837fea6773bdf2dbb0de1c3b", func := "skerry/skerrylaw08.CacheNil", spec := "cacheNil", unfollowed := true, recurses := true, apart := false }
def CacheNilSaid : Prop := cacheNilRow.holds Try.pinned (OpenSpec.ofChange cacheNilSpec)

/-- ITS FALSE NEIGHBOUR: 'it returns false'. Refute it at one input. -/
def cacheNilWrong : ChangeSpec := { name := "cacheNil", fn := fun _ => fun
  | [] => { results := [.lit (.bool false)], args := [] }
  | _ => none }
def CacheNilWrongFalsely : Prop := cacheNilRow.holds Try.pinned (OpenSpec.ofChange cacheNilWrong)

/-- 'skerrylaw09.WalNeeds': WHATEVER THE INPUT: true; the input reads as it did. -/
def walNeedsSpec : ChangeSpec := { name := "walNeeds", fn := fun _ => fun
  | [d1, d2] => { results := [.lit (.bool true)], args := [d1, d2] }
  | _ => none }
def walNeedsRow : OpenClaim := { program := "ytkdnajnhblplbaa", sum := "ecf7515693c8db7c33eeea0b7da9a97b99ed619a837fea6773bdf2dbb0de1c3b", func := "skerry/skerrylaw09.WalNeeds", spec := "walNeeds", unfollowed := true, recurses := true, apart := false }
def WalNeedsSaid : Prop := walNeedsRow.holds Try.pinned (OpenSpec.ofChange walNeedsSpec)

/-- ITS FALSE NEIGHBOUR: 'it returns false'. Refute it at one input. -/
def walNeedsWrong : ChangeSpec := { name := "walNeeds", fn := fun _ => fun
  | [d1, d2] => { results := [.lit (.bool false)], args := [d1, d2] }
  | _ => none }
def WalNeedsWrongFalsely : Prop := walNeedsRow.holds Try.pinned (OpenSpec.ofChange walNeedsWrong)

/-- 'skerrylaw09.WalNil': WHATEVER THE INPUT: true; the input reads as it did. -/
def walNilSpec : ChangeSpec := { name := "walNil", fn := fun _ => fun
  | [] => { results := [.lit (.bool true)], args := [] }
  | _ => none }
def walNilRow : OpenClaim := { program := "ytkdnajnhblplbaa", sum := "ecf7515693c8db7c33eeea0b7da9a97b99ed619a837fea6773bdf2dbb0de1c3b", func := "skerry/skerrylaw09.WalNil", spec := "walNil", unfollowed := true, recurses := true, apart := false }
def WalNilSaid : Prop := walNilRow.holds Try.pinned (OpenSpec.ofChange walNilSpec)

/-- ITS FALSE NEIGHBOUR: 'it returns false'. Refute it at one input. -/
def walNilWrong : ChangeSpec := { name := "walNil", fn := fun _ => fun
  | [] => { results := [.lit (.bool false)], args := [] }
  | _ => none }
def WalNilWrongFalsely : Prop := walNilRow.holds Try.pinned (OpenSpec.ofChange walNilWrong)

/- THE SECOND FORM. 'bulk': how many values and letters a reading holds, each counted each time it is reached (what is shared counts as often as it is met; a slice's spare places count too). A statement '..UptoSaid' is the law's where the arguments, and the package variables that the reading takes, are together of bulk at most 1048576: NARROWER than '..Said'. Prove '..Said' where nothing that the law and all that it calls make is longer than what came in: it says more and counts as full. Else prove '..UptoSaid'. A law counts once. -/
mutual
def uptoBulk {H : Type} : DataW H → Nat
  | .lit (.string bytes) => bytes.length + 1
  | .lit _ => 1
  | .nil => 1
  | .ptr d => uptoBulk d + 1
  | .slice elems spare => uptoBulkAll elems + uptoBulkAll spare + 1
  | .agg parts => uptoBulkAll parts + 1
  | .iface _ d => uptoBulk d + 1
  | .map entries => uptoBulkEntries entries + 1
  | .held _ => 1
def uptoBulkAll {H : Type} : List (DataW H) → Nat
  | [] => 0
  | d :: r => uptoBulk d + uptoBulkAll r
def uptoBulkEntries {H : Type} : List (Lit × DataW H) → Nat
  | [] => 0
  | x :: r => uptoBulkEntry x + uptoBulkEntries r
def uptoBulkEntry {H : Type} : Lit × DataW H → Nat
  | (.string bytes, d) => bytes.length + uptoBulk d + 1
  | (_, d) => uptoBulk d + 1
 end
def uptoSmall : (H : Type) → List (DataW H) → Bool := fun _ ds => decide (uptoBulkAll ds ≤ 1048576)
def OpenSpec.upto (s : _root_.Go.ChangeSpec) : _root_.Go.OpenSpec := { _root_.Go.OpenSpec.ofChange s with cond := some uptoSmall }

/-- 'skerrylaw08.CacheKeeps', WHERE WHAT IT READS IS OF BULK AT MOST 1048576: true; the input reads as it did. -/
def cacheKeepsUptoRow : OpenClaim := { program := "ytkdnajnhblplbaa", sum := "ecf7515693c8db7c33eeea0b7da9a97b99ed619a837fea6773bdf2dbb0de1c3b", func := "skerry/skerrylaw08.CacheKeeps", spec := "cacheKeeps", unfollowed := true, recurses := true, apart := false, narrowed := true }
def CacheKeepsUptoSaid : Prop := cacheKeepsUptoRow.holds Try.pinned (OpenSpec.upto cacheKeepsSpec)

/-- 'skerrylaw08.CacheNil', WHERE WHAT IT READS IS OF BULK AT MOST 1048576: true; the input reads as it did. -/
def cacheNilUptoRow : OpenClaim := { program := "ytkdnajnhblplbaa", sum := "ecf7515693c8db7c33eeea0b7da9a97b99ed619a837fea6773bdf2dbb0de1c3b", func := "skerry/skerrylaw08.CacheNil", spec := "cacheNil", unfollowed := true, recurses := true, apart := false, narrowed := true }
def CacheNilUptoSaid : Prop := cacheNilUptoRow.holds Try.pinned (OpenSpec.upto cacheNilSpec)

/-- 'skerrylaw09.WalNeeds', WHERE WHAT IT READS IS OF BULK AT MOST 1048576: true; the input reads as it did. -/
def walNeedsUptoRow : OpenClaim := { program := "ytkdnajnhblplbaa", sum := "ecf7515693c8db7c33eeea0b7da9a97b99ed619a837fea6773bdf2dbb0de1c3b", func := "skerry/skerrylaw09.WalNeeds", spec := "walNeeds", unfollowed := true, recurses := true, apart := false, narrowed := true }
def WalNeedsUptoSaid : Prop := walNeedsUptoRow.holds Try.pinned (OpenSpec.upto walNeedsSpec)

/-- 'skerrylaw09.WalNil', WHERE WHAT IT READS IS OF BULK AT MOST 1048576: true; the input reads as it did. -/
def walNilUptoRow : OpenClaim := { program := "ytkdnajnhblplbaa", sum := "ecf7515693c8db7c33eeea0b7da9a97b99ed619a837fea6773bdf2dbb0de1c3b", func := "skerry/skerrylaw09.WalNil", spec := "walNil", unfollowed := true, recurses := true, apart := false, narrowed := true }
def WalNilUptoSaid : Prop := walNilUptoRow.holds Try.pinned (OpenSpec.upto walNilSpec)

end Rows
end Go.Proofs.Ytkdnajnhblplbaa
