/-
  DERIVED. GIVEN WITH THE SEED: THE CARDS: each row of YtooooiidpaecmaaGreatDoorRows.lean that lists a variable, with what it lists TIED to the program's text (the seventh form; the later family's looks); each row that meets fmt, with fmt's text TOLD by the authors' own Lean function (tested against real Go, not proved from fmt's source: count such statements apart). THE CARD IS WHAT COUNTS. Prove the row's statement (the work); the ties are given (YtooooiidpaecmaaGreatDoorTie.lean); close each card by the builder's one call (the guide's Derived/Test/ToyasCard.lean, 'card_holds'). Laid BY PROGRAM, IN A SANDBOX (cutbox-door.mjs). By AI agents, Wed Nov 11 2026. No macro, syntax, notation, axiom, sorry.
-/
import Derived.Test.YtooooiidpaecmaaGreatDoorRows
import GoSem.ClaimSeven
namespace Go.Proofs.YtooooiidpaecmaaGreatDoor
namespace Rows

/-- THE TIED CARD OF 'skerrylaw15.DirKeeps'. -/
def dirKeepsCard : Claim7 := { stood := { row := dirKeepsRow, standIns := [], harness := (true, "ddef3db846584d53f138c810d6efd84787f5f89495365acd8514a08512c391dd"), looks := false }, kinds := [], alts := [], laidByText := true, laidKinds := [.data, .pinned], laidTests := true, laidLooks := .later }
def DirKeepsCardSaid : Prop := Claim7.holds Tryz.pinned (.plain (OpenSpec.ofChange dirKeepsSpec)) dirKeepsCard

/-- THE TIED CARD OF 'skerrylaw15.DirGives'. -/
def dirGivesCard : Claim7 := { stood := { row := dirGivesRow, standIns := [], harness := (true, "ddef3db846584d53f138c810d6efd84787f5f89495365acd8514a08512c391dd"), looks := false }, kinds := [], alts := [], laidByText := true, laidKinds := [.data, .pinned], laidTests := true, laidLooks := .later }
def DirGivesCardSaid : Prop := Claim7.holds Tryz.pinned (.plain (OpenSpec.ofChange dirGivesSpec)) dirGivesCard

/-- THE TIED CARD OF 'skerrylaw15.DirNames'. -/
def dirNamesCard : Claim7 := { stood := { row := dirNamesRow, standIns := [], harness := (true, "ddef3db846584d53f138c810d6efd84787f5f89495365acd8514a08512c391dd"), looks := false }, kinds := [], alts := [], laidByText := true, laidKinds := [.data, .pinned], laidTests := true, laidLooks := .later }
def DirNamesCardSaid : Prop := Claim7.holds Tryz.pinned (.plain (OpenSpec.ofChange dirNamesSpec)) dirNamesCard

/-- THE SECOND FORM's CARD OF 'skerrylaw15.DirKeeps'. -/
def dirKeepsUptoCard : Claim7 := { stood := { row := dirKeepsUptoRow, standIns := [], harness := (true, "ddef3db846584d53f138c810d6efd84787f5f89495365acd8514a08512c391dd"), looks := false }, kinds := [], alts := [], laidByText := true, laidKinds := [.data, .pinned], laidTests := true, laidLooks := .later }
def DirKeepsUptoCardSaid : Prop := Claim7.holds Tryz.pinned (.plain (OpenSpec.upto dirKeepsSpec)) dirKeepsUptoCard

/-- THE SECOND FORM's CARD OF 'skerrylaw15.DirGives'. -/
def dirGivesUptoCard : Claim7 := { stood := { row := dirGivesUptoRow, standIns := [], harness := (true, "ddef3db846584d53f138c810d6efd84787f5f89495365acd8514a08512c391dd"), looks := false }, kinds := [], alts := [], laidByText := true, laidKinds := [.data, .pinned], laidTests := true, laidLooks := .later }
def DirGivesUptoCardSaid : Prop := Claim7.holds Tryz.pinned (.plain (OpenSpec.upto dirGivesSpec)) dirGivesUptoCard

/-- THE SECOND FORM's CARD OF 'skerrylaw15.DirNames'. -/
def dirNamesUptoCard : Claim7 := { stood := { row := dirNamesUptoRow, standIns := [], harness := (true, "ddef3db846584d53f138c810d6efd84787f5f89495365acd8514a08512c391dd"), looks := false }, kinds := [], alts := [], laidByText := true, laidKinds := [.data, .pinned], laidTests := true, laidLooks := .later }
def DirNamesUptoCardSaid : Prop := Claim7.holds Tryz.pinned (.plain (OpenSpec.upto dirNamesSpec)) dirNamesUptoCard
end Rows
end Go.Proofs.YtooooiidpaecmaaGreatDoor
