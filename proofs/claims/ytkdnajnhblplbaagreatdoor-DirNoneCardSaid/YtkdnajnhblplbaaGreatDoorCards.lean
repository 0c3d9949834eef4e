/-
  DERIVED. GIVEN WITH THE SEED: THE CARDS: each row of YtkdnajnhblplbaaGreatDoorRows.lean that lists a variable, with what it lists TIED to the program's text (the seventh form; the later family's looks); each row that meets fmt, with fmt's text TOLD by the authors' own Lean function (tested against real Go, not proved from fmt's source: count such statements apart). THE CARD IS WHAT COUNTS. Prove the row's statement (the work); the ties are given (YtkdnajnhblplbaaGreatDoorTie.lean); close each card by the builder's one call (the guide's Derived/Test/ToyasCard.lean, 'card_holds'). Laid BY PROGRAM, IN A SANDBOX (cutbox-door.mjs). By AI agents, Wed Nov 11 2026. No macro, syntax, notation, axiom, sorry.
-/
import Derived.Test.YtkdnajnhblplbaaGreatDoorRows
import GoSem.ClaimSeven
namespace Go.Proofs.YtkdnajnhblplbaaGreatDoor
namespace Rows

/-- THE TIED CARD OF 'skerrylaw15.DirKeeps'. -/
def dirKeepsCard : Claim7 := { stood := { row := dirKeepsRow, standIns := [], harness := (true, "7a0d6e9111d3f40460687611f495a11d03824edea1afe597591dd8b3025fd20b"), looks := false }, kinds := [], alts := [], laidByText := true, laidKinds := [.data, .pinned], laidTests := true, laidLooks := .later }
def DirKeepsCardSaid : Prop := Claim7.holds Tryz.pinned (.plain (OpenSpec.ofChange dirKeepsSpec)) dirKeepsCard

/-- THE TIED CARD OF 'skerrylaw15.DirNone'. -/
def dirNoneCard : Claim7 := { stood := { row := dirNoneRow, standIns := [], harness := (true, "7a0d6e9111d3f40460687611f495a11d03824edea1afe597591dd8b3025fd20b"), looks := false }, kinds := [], alts := [], laidByText := true, laidKinds := [.data, .pinned], laidTests := true, laidLooks := .later }
def DirNoneCardSaid : Prop := Claim7.holds Tryz.pinned (.plain (OpenSpec.ofChange dirNoneSpec)) dirNoneCard

/-- THE SECOND FORM's CARD OF 'skerrylaw15.DirKeeps'. -/
def dirKeepsUptoCard : Claim7 := { stood := { row := dirKeepsUptoRow, standIns := [], harness := (true, "7a0d6e9111d3f40460687611f495a11d03824edea1afe597591dd8b3025fd20b"), looks := false }, kinds := [], alts := [], laidByText := true, laidKinds := [.data, .pinned], laidTests := true, laidLooks := .later }
def DirKeepsUptoCardSaid : Prop := Claim7.holds Tryz.pinned (.plain (OpenSpec.upto dirKeepsSpec)) dirKeepsUptoCard

/-- THE SECOND FORM's CARD OF 'skerrylaw15.DirNone'. -/
def dirNoneUptoCard : Claim7 := { stood := { row := dirNoneUptoRow, standIns := [], harness := (true, "7a0d6e9111d3f40460687611f495a11d03824edea1afe597591dd8b3025fd20b"), looks := false }, kinds := [], alts := [], laidByText := true, laidKinds := [.data, .pinned], laidTests := true, laidLooks := .later }
def DirNoneUptoCardSaid : Prop := Claim7.holds Tryz.pinned (.plain (OpenSpec.upto dirNoneSpec)) dirNoneUptoCard
end Rows
end Go.Proofs.YtkdnajnhblplbaaGreatDoor
