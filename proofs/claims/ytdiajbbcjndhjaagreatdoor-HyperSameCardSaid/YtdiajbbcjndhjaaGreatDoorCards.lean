/-
  DERIVED. GIVEN WITH THE SEED: THE CARDS: each row of YtdiajbbcjndhjaaGreatDoorRows.lean that lists a variable, with what it lists TIED to the program's text (the seventh form; the later family's looks); each row that meets fmt, with fmt's text TOLD by the authors' own Lean function (tested against real Go, not proved from fmt's source: count such statements apart). THE CARD IS WHAT COUNTS. Prove the row's statement (the work); the ties are given (YtdiajbbcjndhjaaGreatDoorTie.lean); close each card by the builder's one call (the guide's Derived/Test/ToyasCard.lean, 'card_holds'). Laid BY PROGRAM, IN A SANDBOX (cutbox-door.mjs). By AI agents, Wed Nov 11 2026. No macro, syntax, notation, axiom, sorry.
-/
import Derived.Test.YtdiajbbcjndhjaaGreatDoorRows
import GoSem.ClaimSeven
namespace Go.Proofs.YtdiajbbcjndhjaaGreatDoor
namespace Rows

/-- THE TIED CARD OF 'transomlaw13.KernSame'. -/
def kernSameCard : Claim7 := { stood := { row := kernSameRow, standIns := [], harness := (true, "a4711b27ecad585d0dc8fab319ab04d748f67a522ee8773aafac77a9883844d1"), looks := false }, kinds := [], alts := [], laidByText := true, laidKinds := [.data], laidTests := true, laidLooks := .later }
def KernSameCardSaid : Prop := Claim7.holds Tryz.pinned (.plain (OpenSpec.ofChange kernSameSpec)) kernSameCard

/-- THE TIED CARD OF 'transomtop.TopMachine'. -/
def topMachineCard : Claim7 := { stood := { row := topMachineRow, standIns := [], harness := (true, "a4711b27ecad585d0dc8fab319ab04d748f67a522ee8773aafac77a9883844d1"), looks := false }, kinds := [], alts := [], laidByText := true, laidKinds := [.data], laidTests := true, laidLooks := .later }
def TopMachineCardSaid : Prop := Claim7.holds Tryz.pinned (.plain (OpenSpec.ofChange topMachineSpec)) topMachineCard

/-- THE TIED CARD OF 'transomlaw14.SeatSame'. -/
def seatSameCard : Claim7 := { stood := { row := seatSameRow, standIns := [], harness := (true, "a4711b27ecad585d0dc8fab319ab04d748f67a522ee8773aafac77a9883844d1"), looks := false }, kinds := [], alts := [], laidByText := true, laidKinds := [.data], laidTests := true, laidLooks := .later }
def SeatSameCardSaid : Prop := Claim7.holds Tryz.pinned (.plain (OpenSpec.ofChange seatSameSpec)) seatSameCard

/-- THE TIED CARD OF 'transomlaw16.HyperSame'. -/
def hyperSameCard : Claim7 := { stood := { row := hyperSameRow, standIns := [], harness := (true, "a4711b27ecad585d0dc8fab319ab04d748f67a522ee8773aafac77a9883844d1"), looks := false }, kinds := [], alts := [], laidByText := true, laidKinds := [.data], laidTests := true, laidLooks := .later }
def HyperSameCardSaid : Prop := Claim7.holds Tryz.pinned (.plain (OpenSpec.ofChange hyperSameSpec)) hyperSameCard

/-- THE SECOND FORM's CARD OF 'transomlaw13.KernSame'. -/
def kernSameUptoCard : Claim7 := { stood := { row := kernSameUptoRow, standIns := [], harness := (true, "a4711b27ecad585d0dc8fab319ab04d748f67a522ee8773aafac77a9883844d1"), looks := false }, kinds := [], alts := [], laidByText := true, laidKinds := [.data], laidTests := true, laidLooks := .later }
def KernSameUptoCardSaid : Prop := Claim7.holds Tryz.pinned (.plain (OpenSpec.upto kernSameSpec)) kernSameUptoCard

/-- THE SECOND FORM's CARD OF 'transomtop.TopMachine'. -/
def topMachineUptoCard : Claim7 := { stood := { row := topMachineUptoRow, standIns := [], harness := (true, "a4711b27ecad585d0dc8fab319ab04d748f67a522ee8773aafac77a9883844d1"), looks := false }, kinds := [], alts := [], laidByText := true, laidKinds := [.data], laidTests := true, laidLooks := .later }
def TopMachineUptoCardSaid : Prop := Claim7.holds Tryz.pinned (.plain (OpenSpec.upto topMachineSpec)) topMachineUptoCard

/-- THE SECOND FORM's CARD OF 'transomlaw14.SeatSame'. -/
def seatSameUptoCard : Claim7 := { stood := { row := seatSameUptoRow, standIns := [], harness := (true, "a4711b27ecad585d0dc8fab319ab04d748f67a522ee8773aafac77a9883844d1"), looks := false }, kinds := [], alts := [], laidByText := true, laidKinds := [.data], laidTests := true, laidLooks := .later }
def SeatSameUptoCardSaid : Prop := Claim7.holds Tryz.pinned (.plain (OpenSpec.upto seatSameSpec)) seatSameUptoCard

/-- THE SECOND FORM's CARD OF 'transomlaw16.HyperSame'. -/
def hyperSameUptoCard : Claim7 := { stood := { row := hyperSameUptoRow, standIns := [], harness := (true, "a4711b27ecad585d0dc8fab319ab04d748f67a522ee8773aafac77a9883844d1"), looks := false }, kinds := [], alts := [], laidByText := true, laidKinds := [.data], laidTests := true, laidLooks := .later }
def HyperSameUptoCardSaid : Prop := Claim7.holds Tryz.pinned (.plain (OpenSpec.upto hyperSameSpec)) hyperSameUptoCard
end Rows
end Go.Proofs.YtdiajbbcjndhjaaGreatDoor
