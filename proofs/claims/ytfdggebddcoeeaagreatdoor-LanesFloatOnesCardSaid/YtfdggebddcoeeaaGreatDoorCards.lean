/-
  DERIVED. GIVEN WITH THE SEED: THE CARDS: each row of YtfdggebddcoeeaaGreatDoorRows.lean that lists a variable, with what it lists TIED to the program's text (the seventh form; the later family's looks); each row that meets fmt, with fmt's text TOLD by the authors' own Lean function (tested against real Go, not proved from fmt's source: count such statements apart). THE CARD IS WHAT COUNTS. Prove the row's statement (the work); the ties are given (YtfdggebddcoeeaaGreatDoorTie.lean); close each card by the builder's one call (the guide's Derived/Test/ToyasCard.lean, 'card_holds'). Laid BY PROGRAM, IN A SANDBOX (cutbox-door.mjs). By AI agents, Wed Nov 11 2026. No macro, syntax, notation, axiom, sorry.
-/
import Derived.Test.YtfdggebddcoeeaaGreatDoorRows
import GoSem.ClaimSeven
namespace Go.Proofs.YtfdggebddcoeeaaGreatDoor
namespace Rows

/-- THE TIED CARD OF 'bodkinlaw06.LanesReplaces'. -/
def lanesReplacesCard : Claim7 := { stood := { row := lanesReplacesRow, standIns := [], harness := (true, "641e8e1e7a23bacccd49a5a15820cb3250e8656668c7ad00f2a59b1c4164e87e"), looks := false }, kinds := [], alts := [], laidByText := true, laidKinds := [.data, .data, .listed, .data, .data, .pinned], laidTests := true, laidLooks := .later }
def LanesReplacesCardSaid : Prop := Claim7.holds Tryz.pinned (.plain (OpenSpec.ofChange lanesReplacesSpec)) lanesReplacesCard

/-- THE TIED CARD OF 'bodkinlaw06.LanesDo'. -/
def lanesDoCard : Claim7 := { stood := { row := lanesDoRow, standIns := [], harness := (true, "641e8e1e7a23bacccd49a5a15820cb3250e8656668c7ad00f2a59b1c4164e87e"), looks := false }, kinds := [], alts := [], laidByText := true, laidKinds := [.data, .data, .listed, .data, .data, .pinned], laidTests := true, laidLooks := .later }
def LanesDoCardSaid : Prop := Claim7.holds Tryz.pinned (.plain (OpenSpec.ofChange lanesDoSpec)) lanesDoCard

/-- THE TIED CARD OF 'bodkinlaw06.LanesAll'. -/
def lanesAllCard : Claim7 := { stood := { row := lanesAllRow, standIns := [], harness := (true, "641e8e1e7a23bacccd49a5a15820cb3250e8656668c7ad00f2a59b1c4164e87e"), looks := false }, kinds := [], alts := [], laidByText := true, laidKinds := [.data, .data, .listed, .data, .data, .pinned], laidTests := true, laidLooks := .later }
def LanesAllCardSaid : Prop := Claim7.holds Tryz.pinned (.plain (OpenSpec.ofChange lanesAllSpec)) lanesAllCard

/-- THE TIED CARD OF 'bodkinlaw06.LanesMoves'. -/
def lanesMovesCard : Claim7 := { stood := { row := lanesMovesRow, standIns := [], harness := (true, "641e8e1e7a23bacccd49a5a15820cb3250e8656668c7ad00f2a59b1c4164e87e"), looks := false }, kinds := [], alts := [], laidByText := true, laidKinds := [.data, .data, .listed, .data, .data, .pinned], laidTests := true, laidLooks := .later }
def LanesMovesCardSaid : Prop := Claim7.holds Tryz.pinned (.plain (OpenSpec.ofChange lanesMovesSpec)) lanesMovesCard

/-- THE TIED CARD OF 'bodkinlaw06.LanesStand'. -/
def lanesStandCard : Claim7 := { stood := { row := lanesStandRow, standIns := [], harness := (true, "641e8e1e7a23bacccd49a5a15820cb3250e8656668c7ad00f2a59b1c4164e87e"), looks := false }, kinds := [], alts := [], laidByText := true, laidKinds := [.data, .data, .listed, .data, .data, .pinned], laidTests := true, laidLooks := .later }
def LanesStandCardSaid : Prop := Claim7.holds Tryz.pinned (.plain (OpenSpec.ofChange lanesStandSpec)) lanesStandCard

/-- THE TIED CARD OF 'bodkinlaw06.LanesFloatsStand'. -/
def lanesFloatsStandCard : Claim7 := { stood := { row := lanesFloatsStandRow, standIns := [], harness := (true, "641e8e1e7a23bacccd49a5a15820cb3250e8656668c7ad00f2a59b1c4164e87e"), looks := false }, kinds := [], alts := [], laidByText := true, laidKinds := [.data, .data, .listed, .data, .data, .pinned], laidTests := true, laidLooks := .later }
def LanesFloatsStandCardSaid : Prop := Claim7.holds Tryz.pinned (.plain (OpenSpec.ofChange lanesFloatsStandSpec)) lanesFloatsStandCard

/-- THE TIED CARD OF 'bodkinlaw06.LanesSums'. -/
def lanesSumsCard : Claim7 := { stood := { row := lanesSumsRow, standIns := [], harness := (true, "641e8e1e7a23bacccd49a5a15820cb3250e8656668c7ad00f2a59b1c4164e87e"), looks := false }, kinds := [], alts := [], laidByText := true, laidKinds := [.data, .data, .listed, .data, .data, .pinned], laidTests := true, laidLooks := .later }
def LanesSumsCardSaid : Prop := Claim7.holds Tryz.pinned (.plain (OpenSpec.ofChange lanesSumsSpec)) lanesSumsCard

/-- THE TIED CARD OF 'bodkinlaw06.LanesEnds'. -/
def lanesEndsCard : Claim7 := { stood := { row := lanesEndsRow, standIns := [], harness := (true, "641e8e1e7a23bacccd49a5a15820cb3250e8656668c7ad00f2a59b1c4164e87e"), looks := false }, kinds := [], alts := [], laidByText := true, laidKinds := [.data, .data, .listed, .data, .data, .pinned], laidTests := true, laidLooks := .later }
def LanesEndsCardSaid : Prop := Claim7.holds Tryz.pinned (.plain (OpenSpec.ofChange lanesEndsSpec)) lanesEndsCard

/-- THE TIED CARD OF 'bodkinlaw06.LanesOnes'. -/
def lanesOnesCard : Claim7 := { stood := { row := lanesOnesRow, standIns := [], harness := (true, "641e8e1e7a23bacccd49a5a15820cb3250e8656668c7ad00f2a59b1c4164e87e"), looks := false }, kinds := [], alts := [], laidByText := true, laidKinds := [.data, .data, .listed, .data, .data, .pinned], laidTests := true, laidLooks := .later }
def LanesOnesCardSaid : Prop := Claim7.holds Tryz.pinned (.plain (OpenSpec.ofChange lanesOnesSpec)) lanesOnesCard

/-- THE TIED CARD OF 'bodkinlaw06.LanesFloats'. -/
def lanesFloatsCard : Claim7 := { stood := { row := lanesFloatsRow, standIns := [], harness := (true, "641e8e1e7a23bacccd49a5a15820cb3250e8656668c7ad00f2a59b1c4164e87e"), looks := false }, kinds := [], alts := [], laidByText := true, laidKinds := [.data, .data, .listed, .data, .data, .pinned], laidTests := true, laidLooks := .later }
def LanesFloatsCardSaid : Prop := Claim7.holds Tryz.pinned (.plain (OpenSpec.ofChange lanesFloatsSpec)) lanesFloatsCard

/-- THE TIED CARD OF 'bodkinlaw06.LanesFloatOnes'. -/
def lanesFloatOnesCard : Claim7 := { stood := { row := lanesFloatOnesRow, standIns := [], harness := (true, "641e8e1e7a23bacccd49a5a15820cb3250e8656668c7ad00f2a59b1c4164e87e"), looks := false }, kinds := [], alts := [], laidByText := true, laidKinds := [.data, .data, .listed, .data, .data, .pinned], laidTests := true, laidLooks := .later }
def LanesFloatOnesCardSaid : Prop := Claim7.holds Tryz.pinned (.plain (OpenSpec.ofChange lanesFloatOnesSpec)) lanesFloatOnesCard

/-- THE TIED CARD OF 'bodkinlaw06.LanesNarrows'. -/
def lanesNarrowsCard : Claim7 := { stood := { row := lanesNarrowsRow, standIns := [], harness := (true, "641e8e1e7a23bacccd49a5a15820cb3250e8656668c7ad00f2a59b1c4164e87e"), looks := false }, kinds := [], alts := [], laidByText := true, laidKinds := [.data, .data, .listed, .data, .data, .pinned], laidTests := true, laidLooks := .later }
def LanesNarrowsCardSaid : Prop := Claim7.holds Tryz.pinned (.plain (OpenSpec.ofChange lanesNarrowsSpec)) lanesNarrowsCard

/-- THE TIED CARD OF 'bodkinlaw06.LanesWidens'. -/
def lanesWidensCard : Claim7 := { stood := { row := lanesWidensRow, standIns := [], harness := (true, "641e8e1e7a23bacccd49a5a15820cb3250e8656668c7ad00f2a59b1c4164e87e"), looks := false }, kinds := [], alts := [], laidByText := true, laidKinds := [.data, .data, .listed, .data, .data, .pinned], laidTests := true, laidLooks := .later }
def LanesWidensCardSaid : Prop := Claim7.holds Tryz.pinned (.plain (OpenSpec.ofChange lanesWidensSpec)) lanesWidensCard

/-- THE TIED CARD OF 'bodkinlaw06.LanesProducts'. -/
def lanesProductsCard : Claim7 := { stood := { row := lanesProductsRow, standIns := [], harness := (true, "641e8e1e7a23bacccd49a5a15820cb3250e8656668c7ad00f2a59b1c4164e87e"), looks := false }, kinds := [], alts := [], laidByText := true, laidKinds := [.data, .data, .listed, .data, .data, .pinned], laidTests := true, laidLooks := .later }
def LanesProductsCardSaid : Prop := Claim7.holds Tryz.pinned (.plain (OpenSpec.ofChange lanesProductsSpec)) lanesProductsCard

/-- THE TIED CARD OF 'bodkinlaw06.LanesTurns'. -/
def lanesTurnsCard : Claim7 := { stood := { row := lanesTurnsRow, standIns := [], harness := (true, "641e8e1e7a23bacccd49a5a15820cb3250e8656668c7ad00f2a59b1c4164e87e"), looks := false }, kinds := [], alts := [], laidByText := true, laidKinds := [.data, .data, .listed, .data, .data, .pinned], laidTests := true, laidLooks := .later }
def LanesTurnsCardSaid : Prop := Claim7.holds Tryz.pinned (.plain (OpenSpec.ofChange lanesTurnsSpec)) lanesTurnsCard

/-- THE TIED CARD OF 'bodkinlaw06.LanesChooses'. -/
def lanesChoosesCard : Claim7 := { stood := { row := lanesChoosesRow, standIns := [], harness := (true, "641e8e1e7a23bacccd49a5a15820cb3250e8656668c7ad00f2a59b1c4164e87e"), looks := false }, kinds := [], alts := [], laidByText := true, laidKinds := [.data, .data, .listed, .data, .data, .pinned], laidTests := true, laidLooks := .later }
def LanesChoosesCardSaid : Prop := Claim7.holds Tryz.pinned (.plain (OpenSpec.ofChange lanesChoosesSpec)) lanesChoosesCard

/-- THE TIED CARD OF 'bodkinlaw06.LanesBits'. -/
def lanesBitsCard : Claim7 := { stood := { row := lanesBitsRow, standIns := [], harness := (true, "641e8e1e7a23bacccd49a5a15820cb3250e8656668c7ad00f2a59b1c4164e87e"), looks := false }, kinds := [], alts := [], laidByText := true, laidKinds := [.data, .data, .listed, .data, .data, .pinned], laidTests := true, laidLooks := .later }
def LanesBitsCardSaid : Prop := Claim7.holds Tryz.pinned (.plain (OpenSpec.ofChange lanesBitsSpec)) lanesBitsCard

/-- THE SECOND FORM's CARD OF 'bodkinlaw06.LanesReplaces'. -/
def lanesReplacesUptoCard : Claim7 := { stood := { row := lanesReplacesUptoRow, standIns := [], harness := (true, "641e8e1e7a23bacccd49a5a15820cb3250e8656668c7ad00f2a59b1c4164e87e"), looks := false }, kinds := [], alts := [], laidByText := true, laidKinds := [.data, .data, .listed, .data, .data, .pinned], laidTests := true, laidLooks := .later }
def LanesReplacesUptoCardSaid : Prop := Claim7.holds Tryz.pinned (.plain (OpenSpec.upto lanesReplacesSpec)) lanesReplacesUptoCard

/-- THE SECOND FORM's CARD OF 'bodkinlaw06.LanesDo'. -/
def lanesDoUptoCard : Claim7 := { stood := { row := lanesDoUptoRow, standIns := [], harness := (true, "641e8e1e7a23bacccd49a5a15820cb3250e8656668c7ad00f2a59b1c4164e87e"), looks := false }, kinds := [], alts := [], laidByText := true, laidKinds := [.data, .data, .listed, .data, .data, .pinned], laidTests := true, laidLooks := .later }
def LanesDoUptoCardSaid : Prop := Claim7.holds Tryz.pinned (.plain (OpenSpec.upto lanesDoSpec)) lanesDoUptoCard

/-- THE SECOND FORM's CARD OF 'bodkinlaw06.LanesAll'. -/
def lanesAllUptoCard : Claim7 := { stood := { row := lanesAllUptoRow, standIns := [], harness := (true, "641e8e1e7a23bacccd49a5a15820cb3250e8656668c7ad00f2a59b1c4164e87e"), looks := false }, kinds := [], alts := [], laidByText := true, laidKinds := [.data, .data, .listed, .data, .data, .pinned], laidTests := true, laidLooks := .later }
def LanesAllUptoCardSaid : Prop := Claim7.holds Tryz.pinned (.plain (OpenSpec.upto lanesAllSpec)) lanesAllUptoCard

/-- THE SECOND FORM's CARD OF 'bodkinlaw06.LanesMoves'. -/
def lanesMovesUptoCard : Claim7 := { stood := { row := lanesMovesUptoRow, standIns := [], harness := (true, "641e8e1e7a23bacccd49a5a15820cb3250e8656668c7ad00f2a59b1c4164e87e"), looks := false }, kinds := [], alts := [], laidByText := true, laidKinds := [.data, .data, .listed, .data, .data, .pinned], laidTests := true, laidLooks := .later }
def LanesMovesUptoCardSaid : Prop := Claim7.holds Tryz.pinned (.plain (OpenSpec.upto lanesMovesSpec)) lanesMovesUptoCard

/-- THE SECOND FORM's CARD OF 'bodkinlaw06.LanesStand'. -/
def lanesStandUptoCard : Claim7 := { stood := { row := lanesStandUptoRow, standIns := [], harness := (true, "641e8e1e7a23bacccd49a5a15820cb3250e8656668c7ad00f2a59b1c4164e87e"), looks := false }, kinds := [], alts := [], laidByText := true, laidKinds := [.data, .data, .listed, .data, .data, .pinned], laidTests := true, laidLooks := .later }
def LanesStandUptoCardSaid : Prop := Claim7.holds Tryz.pinned (.plain (OpenSpec.upto lanesStandSpec)) lanesStandUptoCard

/-- THE SECOND FORM's CARD OF 'bodkinlaw06.LanesFloatsStand'. -/
def lanesFloatsStandUptoCard : Claim7 := { stood := { row := lanesFloatsStandUptoRow, standIns := [], harness := (true, "641e8e1e7a23bacccd49a5a15820cb3250e8656668c7ad00f2a59b1c4164e87e"), looks := false }, kinds := [], alts := [], laidByText := true, laidKinds := [.data, .data, .listed, .data, .data, .pinned], laidTests := true, laidLooks := .later }
def LanesFloatsStandUptoCardSaid : Prop := Claim7.holds Tryz.pinned (.plain (OpenSpec.upto lanesFloatsStandSpec)) lanesFloatsStandUptoCard

/-- THE SECOND FORM's CARD OF 'bodkinlaw06.LanesSums'. -/
def lanesSumsUptoCard : Claim7 := { stood := { row := lanesSumsUptoRow, standIns := [], harness := (true, "641e8e1e7a23bacccd49a5a15820cb3250e8656668c7ad00f2a59b1c4164e87e"), looks := false }, kinds := [], alts := [], laidByText := true, laidKinds := [.data, .data, .listed, .data, .data, .pinned], laidTests := true, laidLooks := .later }
def LanesSumsUptoCardSaid : Prop := Claim7.holds Tryz.pinned (.plain (OpenSpec.upto lanesSumsSpec)) lanesSumsUptoCard

/-- THE SECOND FORM's CARD OF 'bodkinlaw06.LanesEnds'. -/
def lanesEndsUptoCard : Claim7 := { stood := { row := lanesEndsUptoRow, standIns := [], harness := (true, "641e8e1e7a23bacccd49a5a15820cb3250e8656668c7ad00f2a59b1c4164e87e"), looks := false }, kinds := [], alts := [], laidByText := true, laidKinds := [.data, .data, .listed, .data, .data, .pinned], laidTests := true, laidLooks := .later }
def LanesEndsUptoCardSaid : Prop := Claim7.holds Tryz.pinned (.plain (OpenSpec.upto lanesEndsSpec)) lanesEndsUptoCard

/-- THE SECOND FORM's CARD OF 'bodkinlaw06.LanesOnes'. -/
def lanesOnesUptoCard : Claim7 := { stood := { row := lanesOnesUptoRow, standIns := [], harness := (true, "641e8e1e7a23bacccd49a5a15820cb3250e8656668c7ad00f2a59b1c4164e87e"), looks := false }, kinds := [], alts := [], laidByText := true, laidKinds := [.data, .data, .listed, .data, .data, .pinned], laidTests := true, laidLooks := .later }
def LanesOnesUptoCardSaid : Prop := Claim7.holds Tryz.pinned (.plain (OpenSpec.upto lanesOnesSpec)) lanesOnesUptoCard

/-- THE SECOND FORM's CARD OF 'bodkinlaw06.LanesFloats'. -/
def lanesFloatsUptoCard : Claim7 := { stood := { row := lanesFloatsUptoRow, standIns := [], harness := (true, "641e8e1e7a23bacccd49a5a15820cb3250e8656668c7ad00f2a59b1c4164e87e"), looks := false }, kinds := [], alts := [], laidByText := true, laidKinds := [.data, .data, .listed, .data, .data, .pinned], laidTests := true, laidLooks := .later }
def LanesFloatsUptoCardSaid : Prop := Claim7.holds Tryz.pinned (.plain (OpenSpec.upto lanesFloatsSpec)) lanesFloatsUptoCard

/-- THE SECOND FORM's CARD OF 'bodkinlaw06.LanesFloatOnes'. -/
def lanesFloatOnesUptoCard : Claim7 := { stood := { row := lanesFloatOnesUptoRow, standIns := [], harness := (true, "641e8e1e7a23bacccd49a5a15820cb3250e8656668c7ad00f2a59b1c4164e87e"), looks := false }, kinds := [], alts := [], laidByText := true, laidKinds := [.data, .data, .listed, .data, .data, .pinned], laidTests := true, laidLooks := .later }
def LanesFloatOnesUptoCardSaid : Prop := Claim7.holds Tryz.pinned (.plain (OpenSpec.upto lanesFloatOnesSpec)) lanesFloatOnesUptoCard

/-- THE SECOND FORM's CARD OF 'bodkinlaw06.LanesNarrows'. -/
def lanesNarrowsUptoCard : Claim7 := { stood := { row := lanesNarrowsUptoRow, standIns := [], harness := (true, "641e8e1e7a23bacccd49a5a15820cb3250e8656668c7ad00f2a59b1c4164e87e"), looks := false }, kinds := [], alts := [], laidByText := true, laidKinds := [.data, .data, .listed, .data, .data, .pinned], laidTests := true, laidLooks := .later }
def LanesNarrowsUptoCardSaid : Prop := Claim7.holds Tryz.pinned (.plain (OpenSpec.upto lanesNarrowsSpec)) lanesNarrowsUptoCard

/-- THE SECOND FORM's CARD OF 'bodkinlaw06.LanesWidens'. -/
def lanesWidensUptoCard : Claim7 := { stood := { row := lanesWidensUptoRow, standIns := [], harness := (true, "641e8e1e7a23bacccd49a5a15820cb3250e8656668c7ad00f2a59b1c4164e87e"), looks := false }, kinds := [], alts := [], laidByText := true, laidKinds := [.data, .data, .listed, .data, .data, .pinned], laidTests := true, laidLooks := .later }
def LanesWidensUptoCardSaid : Prop := Claim7.holds Tryz.pinned (.plain (OpenSpec.upto lanesWidensSpec)) lanesWidensUptoCard

/-- THE SECOND FORM's CARD OF 'bodkinlaw06.LanesProducts'. -/
def lanesProductsUptoCard : Claim7 := { stood := { row := lanesProductsUptoRow, standIns := [], harness := (true, "641e8e1e7a23bacccd49a5a15820cb3250e8656668c7ad00f2a59b1c4164e87e"), looks := false }, kinds := [], alts := [], laidByText := true, laidKinds := [.data, .data, .listed, .data, .data, .pinned], laidTests := true, laidLooks := .later }
def LanesProductsUptoCardSaid : Prop := Claim7.holds Tryz.pinned (.plain (OpenSpec.upto lanesProductsSpec)) lanesProductsUptoCard

/-- THE SECOND FORM's CARD OF 'bodkinlaw06.LanesTurns'. -/
def lanesTurnsUptoCard : Claim7 := { stood := { row := lanesTurnsUptoRow, standIns := [], harness := (true, "641e8e1e7a23bacccd49a5a15820cb3250e8656668c7ad00f2a59b1c4164e87e"), looks := false }, kinds := [], alts := [], laidByText := true, laidKinds := [.data, .data, .listed, .data, .data, .pinned], laidTests := true, laidLooks := .later }
def LanesTurnsUptoCardSaid : Prop := Claim7.holds Tryz.pinned (.plain (OpenSpec.upto lanesTurnsSpec)) lanesTurnsUptoCard

/-- THE SECOND FORM's CARD OF 'bodkinlaw06.LanesChooses'. -/
def lanesChoosesUptoCard : Claim7 := { stood := { row := lanesChoosesUptoRow, standIns := [], harness := (true, "641e8e1e7a23bacccd49a5a15820cb3250e8656668c7ad00f2a59b1c4164e87e"), looks := false }, kinds := [], alts := [], laidByText := true, laidKinds := [.data, .data, .listed, .data, .data, .pinned], laidTests := true, laidLooks := .later }
def LanesChoosesUptoCardSaid : Prop := Claim7.holds Tryz.pinned (.plain (OpenSpec.upto lanesChoosesSpec)) lanesChoosesUptoCard

/-- THE SECOND FORM's CARD OF 'bodkinlaw06.LanesBits'. -/
def lanesBitsUptoCard : Claim7 := { stood := { row := lanesBitsUptoRow, standIns := [], harness := (true, "641e8e1e7a23bacccd49a5a15820cb3250e8656668c7ad00f2a59b1c4164e87e"), looks := false }, kinds := [], alts := [], laidByText := true, laidKinds := [.data, .data, .listed, .data, .data, .pinned], laidTests := true, laidLooks := .later }
def LanesBitsUptoCardSaid : Prop := Claim7.holds Tryz.pinned (.plain (OpenSpec.upto lanesBitsSpec)) lanesBitsUptoCard
end Rows
end Go.Proofs.YtfdggebddcoeeaaGreatDoor
