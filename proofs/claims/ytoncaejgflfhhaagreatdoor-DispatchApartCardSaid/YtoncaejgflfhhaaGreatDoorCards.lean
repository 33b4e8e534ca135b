/-
  DERIVED. GIVEN WITH THE SEED: THE CARDS: each row of YtoncaejgflfhhaaGreatDoorRows.lean that lists a variable, with what it lists TIED to the program's text (the seventh form; the later family's looks); each row that meets fmt, with fmt's text TOLD by the authors' own Lean function (tested against real Go, not proved from fmt's source: count such statements apart). THE CARD IS WHAT COUNTS. Prove the row's statement (the work); the ties are given (YtoncaejgflfhhaaGreatDoorTie.lean); close each card by the builder's one call (the guide's Derived/Test/ToyasCard.lean, 'card_holds'). Laid BY PROGRAM, IN A SANDBOX (cutbox-door.mjs). By AI agents, Wed Nov 11 2026. No macro, syntax, notation, axiom, sorry.
-/
import Derived.Test.YtoncaejgflfhhaaGreatDoorRows
import GoSem.ClaimSeven
namespace Go.Proofs.YtoncaejgflfhhaaGreatDoor
namespace Rows

/-- THE TIED CARD OF 'commonformlaw28.DispatchApart'. -/
def dispatchApartCard : Claim7 := { stood := { row := dispatchApartRow, standIns := [], harness := (true, "a6f49629f53721b564c825b7ccffe8ab3a3b9f1f4f052968e129b533bcfe113a"), looks := true }, kinds := [], alts := [], laidByText := true, laidKinds := [.data, .data, .data], laidTests := true, laidLooks := .later }
def DispatchApartCardSaid : Prop := Claim7.holds Tryz.pinned (.plain (OpenSpec.ofChange dispatchApartSpec)) dispatchApartCard

/-- THE TIED CARD OF 'commonformlaw28.DispatchHides'. -/
def dispatchHidesCard : Claim7 := { stood := { row := dispatchHidesRow, standIns := [], harness := (true, "a6f49629f53721b564c825b7ccffe8ab3a3b9f1f4f052968e129b533bcfe113a"), looks := true }, kinds := [], alts := [], laidByText := true, laidKinds := [.data, .data, .data], laidTests := true, laidLooks := .later }
def DispatchHidesCardSaid : Prop := Claim7.holds Tryz.pinned (.plain (OpenSpec.ofChange dispatchHidesSpec)) dispatchHidesCard

/-- THE TIED CARD OF 'commonformlaw28.DispatchRuns'. -/
def dispatchRunsCard : Claim7 := { stood := { row := dispatchRunsRow, standIns := [], harness := (true, "a6f49629f53721b564c825b7ccffe8ab3a3b9f1f4f052968e129b533bcfe113a"), looks := true }, kinds := [], alts := [], laidByText := true, laidKinds := [.data, .data, .data], laidTests := true, laidLooks := .later }
def DispatchRunsCardSaid : Prop := Claim7.holds Tryz.pinned (.plain (OpenSpec.ofChange dispatchRunsSpec)) dispatchRunsCard

/-- THE TIED CARD OF 'commonformlaw28.DispatchRemoves'. -/
def dispatchRemovesCard : Claim7 := { stood := { row := dispatchRemovesRow, standIns := [], harness := (true, "a6f49629f53721b564c825b7ccffe8ab3a3b9f1f4f052968e129b533bcfe113a"), looks := true }, kinds := [], alts := [], laidByText := true, laidKinds := [.data, .data, .data], laidTests := true, laidLooks := .later }
def DispatchRemovesCardSaid : Prop := Claim7.holds Tryz.pinned (.plain (OpenSpec.ofChange dispatchRemovesSpec)) dispatchRemovesCard

/-- THE SECOND FORM's CARD OF 'commonformlaw28.DispatchApart'. -/
def dispatchApartUptoCard : Claim7 := { stood := { row := dispatchApartUptoRow, standIns := [], harness := (true, "a6f49629f53721b564c825b7ccffe8ab3a3b9f1f4f052968e129b533bcfe113a"), looks := true }, kinds := [], alts := [], laidByText := true, laidKinds := [.data, .data, .data], laidTests := true, laidLooks := .later }
def DispatchApartUptoCardSaid : Prop := Claim7.holds Tryz.pinned (.plain (OpenSpec.upto dispatchApartSpec)) dispatchApartUptoCard

/-- THE SECOND FORM's CARD OF 'commonformlaw28.DispatchHides'. -/
def dispatchHidesUptoCard : Claim7 := { stood := { row := dispatchHidesUptoRow, standIns := [], harness := (true, "a6f49629f53721b564c825b7ccffe8ab3a3b9f1f4f052968e129b533bcfe113a"), looks := true }, kinds := [], alts := [], laidByText := true, laidKinds := [.data, .data, .data], laidTests := true, laidLooks := .later }
def DispatchHidesUptoCardSaid : Prop := Claim7.holds Tryz.pinned (.plain (OpenSpec.upto dispatchHidesSpec)) dispatchHidesUptoCard

/-- THE SECOND FORM's CARD OF 'commonformlaw28.DispatchRuns'. -/
def dispatchRunsUptoCard : Claim7 := { stood := { row := dispatchRunsUptoRow, standIns := [], harness := (true, "a6f49629f53721b564c825b7ccffe8ab3a3b9f1f4f052968e129b533bcfe113a"), looks := true }, kinds := [], alts := [], laidByText := true, laidKinds := [.data, .data, .data], laidTests := true, laidLooks := .later }
def DispatchRunsUptoCardSaid : Prop := Claim7.holds Tryz.pinned (.plain (OpenSpec.upto dispatchRunsSpec)) dispatchRunsUptoCard

/-- THE SECOND FORM's CARD OF 'commonformlaw28.DispatchRemoves'. -/
def dispatchRemovesUptoCard : Claim7 := { stood := { row := dispatchRemovesUptoRow, standIns := [], harness := (true, "a6f49629f53721b564c825b7ccffe8ab3a3b9f1f4f052968e129b533bcfe113a"), looks := true }, kinds := [], alts := [], laidByText := true, laidKinds := [.data, .data, .data], laidTests := true, laidLooks := .later }
def DispatchRemovesUptoCardSaid : Prop := Claim7.holds Tryz.pinned (.plain (OpenSpec.upto dispatchRemovesSpec)) dispatchRemovesUptoCard
end Rows
end Go.Proofs.YtoncaejgflfhhaaGreatDoor
