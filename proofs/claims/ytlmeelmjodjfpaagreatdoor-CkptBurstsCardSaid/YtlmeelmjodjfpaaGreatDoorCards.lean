/-
  DERIVED. GIVEN WITH THE SEED: THE CARDS: each row of YtlmeelmjodjfpaaGreatDoorRows.lean that lists a variable, with what it lists TIED to the program's text (the seventh form; the later family's looks); each row that meets fmt, with fmt's text TOLD by the authors' own Lean function (tested against real Go, not proved from fmt's source: count such statements apart). THE CARD IS WHAT COUNTS. Prove the row's statement (the work); the ties are given (YtlmeelmjodjfpaaGreatDoorTie.lean); close each card by the builder's one call (the guide's Derived/Test/ToyasCard.lean, 'card_holds'). Laid BY PROGRAM, IN A SANDBOX (cutbox-door.mjs). By AI agents, Wed Nov 11 2026. No macro, syntax, notation, axiom, sorry.
-/
import Derived.Test.YtlmeelmjodjfpaaGreatDoorRows
import GoSem.ClaimSeven
namespace Go.Proofs.YtlmeelmjodjfpaaGreatDoor
namespace Rows

/-- THE TIED CARD OF 'bosunlaw21.CkptLoads'. -/
def ckptLoadsCard : Claim7 := { stood := { row := ckptLoadsRow, standIns := [], harness := (true, "85668117a6f5fd45d23774a6aa2161cf285572ffb42ebf47041adc843bda4bb3"), looks := false }, kinds := [], alts := [], laidByText := true, laidKinds := [.data, .pinned], laidTests := true, laidLooks := .later }
def CkptLoadsCardSaid : Prop := Claim7.holds Tryz.pinned (.plain (OpenSpec.ofChange ckptLoadsSpec)) ckptLoadsCard

/-- THE TIED CARD OF 'bosunlaw21.CkptBursts'. -/
def ckptBurstsCard : Claim7 := { stood := { row := ckptBurstsRow, standIns := [], harness := (true, "85668117a6f5fd45d23774a6aa2161cf285572ffb42ebf47041adc843bda4bb3"), looks := false }, kinds := [], alts := [], laidByText := true, laidKinds := [.data, .pinned], laidTests := true, laidLooks := .later }
def CkptBurstsCardSaid : Prop := Claim7.holds Tryz.pinned (.plain (OpenSpec.ofChange ckptBurstsSpec)) ckptBurstsCard

/-- THE SECOND FORM's CARD OF 'bosunlaw21.CkptLoads'. -/
def ckptLoadsUptoCard : Claim7 := { stood := { row := ckptLoadsUptoRow, standIns := [], harness := (true, "85668117a6f5fd45d23774a6aa2161cf285572ffb42ebf47041adc843bda4bb3"), looks := false }, kinds := [], alts := [], laidByText := true, laidKinds := [.data, .pinned], laidTests := true, laidLooks := .later }
def CkptLoadsUptoCardSaid : Prop := Claim7.holds Tryz.pinned (.plain (OpenSpec.upto ckptLoadsSpec)) ckptLoadsUptoCard

/-- THE SECOND FORM's CARD OF 'bosunlaw21.CkptBursts'. -/
def ckptBurstsUptoCard : Claim7 := { stood := { row := ckptBurstsUptoRow, standIns := [], harness := (true, "85668117a6f5fd45d23774a6aa2161cf285572ffb42ebf47041adc843bda4bb3"), looks := false }, kinds := [], alts := [], laidByText := true, laidKinds := [.data, .pinned], laidTests := true, laidLooks := .later }
def CkptBurstsUptoCardSaid : Prop := Claim7.holds Tryz.pinned (.plain (OpenSpec.upto ckptBurstsSpec)) ckptBurstsUptoCard
end Rows
end Go.Proofs.YtlmeelmjodjfpaaGreatDoor
