/-
  DERIVED. GIVEN WITH THE SEED: THE CARDS: each row of YtlkglgdlnciicaaGreatDoorRows.lean that lists a variable, with what it lists TIED to the program's text (the seventh form; the later family's looks); each row that meets fmt, with fmt's text TOLD by the authors' own Lean function (tested against real Go, not proved from fmt's source: count such statements apart). THE CARD IS WHAT COUNTS. Prove the row's statement (the work); the ties are given (YtlkglgdlnciicaaGreatDoorTie.lean); close each card by the builder's one call (the guide's Derived/Test/ToyasCard.lean, 'card_holds'). Laid BY PROGRAM, IN A SANDBOX (cutbox-door.mjs). By AI agents, Wed Nov 11 2026. No macro, syntax, notation, axiom, sorry.
-/
import Derived.Test.YtlkglgdlnciicaaGreatDoorRows
import GoSem.ClaimSeven
namespace Go.Proofs.YtlkglgdlnciicaaGreatDoor
namespace Rows

/-- THE TIED CARD OF 'retrofitlaw31.ReloadAsks'. -/
def reloadAsksCard : Claim7 := { stood := { row := reloadAsksRow, standIns := [], harness := (true, "fe3c0af9f41b36bf2a2958175fbe17cd88b24f96b46dad54b74c8bc22d3d386f"), looks := true }, kinds := [], alts := [], laidByText := true, laidKinds := [.data, .data, .data], laidTests := true, laidLooks := .later }
def ReloadAsksCardSaid : Prop := Claim7.holds Tryz.pinned (.plain (OpenSpec.ofChange reloadAsksSpec)) reloadAsksCard

/-- THE TIED CARD OF 'retrofitlaw32.ScriptWithout'. -/
def scriptWithoutCard : Claim7 := { stood := { row := scriptWithoutRow, standIns := [], harness := (true, "fe3c0af9f41b36bf2a2958175fbe17cd88b24f96b46dad54b74c8bc22d3d386f"), looks := true }, kinds := [], alts := [], laidByText := true, laidKinds := [.data, .data, .data], laidTests := true, laidLooks := .later }
def ScriptWithoutCardSaid : Prop := Claim7.holds Tryz.pinned (.plain (OpenSpec.ofChange scriptWithoutSpec)) scriptWithoutCard

/-- THE SECOND FORM's CARD OF 'retrofitlaw31.ReloadAsks'. -/
def reloadAsksUptoCard : Claim7 := { stood := { row := reloadAsksUptoRow, standIns := [], harness := (true, "fe3c0af9f41b36bf2a2958175fbe17cd88b24f96b46dad54b74c8bc22d3d386f"), looks := true }, kinds := [], alts := [], laidByText := true, laidKinds := [.data, .data, .data], laidTests := true, laidLooks := .later }
def ReloadAsksUptoCardSaid : Prop := Claim7.holds Tryz.pinned (.plain (OpenSpec.upto reloadAsksSpec)) reloadAsksUptoCard

/-- THE SECOND FORM's CARD OF 'retrofitlaw32.ScriptWithout'. -/
def scriptWithoutUptoCard : Claim7 := { stood := { row := scriptWithoutUptoRow, standIns := [], harness := (true, "fe3c0af9f41b36bf2a2958175fbe17cd88b24f96b46dad54b74c8bc22d3d386f"), looks := true }, kinds := [], alts := [], laidByText := true, laidKinds := [.data, .data, .data], laidTests := true, laidLooks := .later }
def ScriptWithoutUptoCardSaid : Prop := Claim7.holds Tryz.pinned (.plain (OpenSpec.upto scriptWithoutSpec)) scriptWithoutUptoCard
end Rows
end Go.Proofs.YtlkglgdlnciicaaGreatDoor
