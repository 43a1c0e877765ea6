/-
  NARROWER THAN 'FOR EVERY INPUT', by the rows' own cells (each row's printed sentence says how): KernSame: laid · TopMachine: laid · SeatSame: laid · HyperSame: laid.
  DERIVED. THE GIVEN ROWS OF THIS SEAT. 4 by the template 'for every input the law returns true; each argument reads behind the call as it read before'; 0 by the template 'total and deterministic' (their statements: YtdiajbbcjndhjaaGreatDoorTotals.lean).
  GIVEN WITH THE SEED: the statements are not yours to turn. If you find one false, say at which input.
  Laid BY PROGRAM, IN A SANDBOX (cutbox-rows.mjs): the forced cells as the released guide's own fill.sh prints them over the translation 10ff2a6b0670669e… (all of the seat's roots in one cut). By AI agents, Wed Nov 11 2026. No macro, syntax, notation, axiom, sorry.
-/
import Derived.Test.YtdiajbbcjndhjaaGreatDoorChecked
import GoSem.Claim
import GoSem.ClaimJoined
import GoSem.ClaimMapViews
import Derived.JoinedTies
import Derived.KernelRfl
namespace Go.Proofs.YtdiajbbcjndhjaaGreatDoor
/- THE CELL 'sum', in the pinned program and in every row, IS THE sha256 OF THE DUMP (.gsa) THAT YtdiajbbcjndhjaaGreatDoorProg.lean LOADS. Nothing in Lean hashes anything: it is a label: what it is worth is what the hold of that sum in a sandbox is worth. -/
noncomputable def Tryz.pinned : Pinned := { name := "ytdiajbbcjndhjaagreatdoor", sum := "10ff2a6b0670669ebdef1dacca19df8aa195308fd410a42b2a3fb5e8de444f02", checked := Tryz.checked }
namespace Rows
def none {H : Type} : Left H := { results := [], args := [] }

/- WHAT THE LISTED PACKAGE-LEVEL VARIABLES READ AS WHEN THE CALL BEGINS. Each datum BY PROGRAM (the guide's laid-datum.mjs) off the statement by which the dump's own 'gosem.cut.vars' lays the variable. In a bare row this is a premise. The card (YtdiajbbcjndhjaaGreatDoorCards.lean) ties it to the program's text. -/
def laid_transom_isa_uses {H : Type} : DataW H := .agg [.lit (.int .i64 0), .lit (.int .i64 5), .lit (.int .i64 5), .lit (.int .i64 3), .lit (.int .i64 3), .lit (.int .i64 3), .lit (.int .i64 3), .lit (.int .i64 3), .lit (.int .i64 3), .lit (.int .i64 3), .lit (.int .i64 3), .lit (.int .i64 3), .lit (.int .i64 3), .lit (.int .i64 5), .lit (.int .i64 7), .lit (.int .i64 7), .lit (.int .i64 7), .lit (.int .i64 7), .lit (.int .i64 4), .lit (.int .i64 5), .lit (.int .i64 1), .lit (.int .i64 7), .lit (.int .i64 7), .lit (.int .i64 7), .lit (.int .i64 0)]

/-- 'transomlaw13.KernSame': WHATEVER THE INPUT: true; the input reads as it did. -/
def kernSameSpec : ChangeSpec := { name := "kernSame", fn := fun _ => fun
  | [d1, d2] => { results := [.lit (.bool true)], args := [d1, d2] }
  | _ => none }
def kernSameRow : OpenClaim := { program := "ytdiajbbcjndhjaagreatdoor", sum := "10ff2a6b0670669ebdef1dacca19df8aa195308fd410a42b2a3fb5e8de444f02", func := "transom/transomlaw13.KernSame", spec := "kernSame", inPlace := ["internal/abi.NoEscape", "internal/bytealg.MakeNoZero", "slices.overlaps[transom/api.Span]", "slices.overlaps[transom/api.Proc]", "slices.overlaps[transom/api.Alarm]"], unfollowed := true, recurses := true, named := ["transom/isa.uses"], apart := false, laid := [("transom/isa.uses", laid_transom_isa_uses)] }
def KernSameSaid : Prop := kernSameRow.holds Tryz.pinned (OpenSpec.ofChange kernSameSpec)

/-- ITS FALSE NEIGHBOUR: 'it returns false'. Refute it at one input. -/
def kernSameWrong : ChangeSpec := { name := "kernSame", fn := fun _ => fun
  | [d1, d2] => { results := [.lit (.bool false)], args := [d1, d2] }
  | _ => none }
def KernSameWrongFalsely : Prop := kernSameRow.holds Tryz.pinned (OpenSpec.ofChange kernSameWrong)

/-- 'transomtop.TopMachine': WHATEVER THE INPUT: true; the input reads as it did. -/
def topMachineSpec : ChangeSpec := { name := "topMachine", fn := fun _ => fun
  | [d] => { results := [.lit (.bool true)], args := [d] }
  | _ => none }
def topMachineRow : OpenClaim := { program := "ytdiajbbcjndhjaagreatdoor", sum := "10ff2a6b0670669ebdef1dacca19df8aa195308fd410a42b2a3fb5e8de444f02", func := "transom/transomtop.TopMachine", spec := "topMachine", inPlace := ["internal/abi.NoEscape", "internal/bytealg.MakeNoZero", "slices.overlaps[transom/api.Span]", "slices.overlaps[transom/api.Proc]", "slices.overlaps[transom/api.Alarm]"], unfollowed := true, recurses := true, named := ["transom/isa.uses"], apart := false, laid := [("transom/isa.uses", laid_transom_isa_uses)] }
def TopMachineSaid : Prop := topMachineRow.holds Tryz.pinned (OpenSpec.ofChange topMachineSpec)

/-- ITS FALSE NEIGHBOUR: 'it returns false'. Refute it at one input. -/
def topMachineWrong : ChangeSpec := { name := "topMachine", fn := fun _ => fun
  | [d] => { results := [.lit (.bool false)], args := [d] }
  | _ => none }
def TopMachineWrongFalsely : Prop := topMachineRow.holds Tryz.pinned (OpenSpec.ofChange topMachineWrong)

/-- 'transomlaw14.SeatSame': WHATEVER THE INPUT: true; the input reads as it did. -/
def seatSameSpec : ChangeSpec := { name := "seatSame", fn := fun _ => fun
  | [d1, d2] => { results := [.lit (.bool true)], args := [d1, d2] }
  | _ => none }
def seatSameRow : OpenClaim := { program := "ytdiajbbcjndhjaagreatdoor", sum := "10ff2a6b0670669ebdef1dacca19df8aa195308fd410a42b2a3fb5e8de444f02", func := "transom/transomlaw14.SeatSame", spec := "seatSame", inPlace := ["internal/abi.NoEscape", "internal/bytealg.MakeNoZero", "slices.overlaps[transom/api.Span]", "slices.overlaps[transom/api.Proc]", "slices.overlaps[transom/api.Alarm]"], unfollowed := true, recurses := true, named := ["transom/isa.uses"], apart := false, laid := [("transom/isa.uses", laid_transom_isa_uses)] }
def SeatSameSaid : Prop := seatSameRow.holds Tryz.pinned (OpenSpec.ofChange seatSameSpec)

/-- ITS FALSE NEIGHBOUR: 'it returns false'. Refute it at one input. -/
def seatSameWrong : ChangeSpec := { name := "seatSame", fn := fun _ => fun
  | [d1, d2] => { results := [.lit (.bool false)], args := [d1, d2] }
  | _ => none }
def SeatSameWrongFalsely : Prop := seatSameRow.holds Tryz.pinned (OpenSpec.ofChange seatSameWrong)

/-- 'transomlaw16.HyperSame': WHATEVER THE INPUT: true; the input reads as it did. -/
def hyperSameSpec : ChangeSpec := { name := "hyperSame", fn := fun _ => fun
  | [d1, d2] => { results := [.lit (.bool true)], args := [d1, d2] }
  | _ => none }
def hyperSameRow : OpenClaim := { program := "ytdiajbbcjndhjaagreatdoor", sum := "10ff2a6b0670669ebdef1dacca19df8aa195308fd410a42b2a3fb5e8de444f02", func := "transom/transomlaw16.HyperSame", spec := "hyperSame", inPlace := ["internal/abi.NoEscape", "internal/bytealg.MakeNoZero", "slices.overlaps[transom/api.Span]", "slices.overlaps[transom/api.Proc]", "slices.overlaps[transom/api.Alarm]"], unfollowed := true, recurses := true, named := ["transom/isa.uses"], apart := false, laid := [("transom/isa.uses", laid_transom_isa_uses)] }
def HyperSameSaid : Prop := hyperSameRow.holds Tryz.pinned (OpenSpec.ofChange hyperSameSpec)

/-- ITS FALSE NEIGHBOUR: 'it returns false'. Refute it at one input. -/
def hyperSameWrong : ChangeSpec := { name := "hyperSame", fn := fun _ => fun
  | [d1, d2] => { results := [.lit (.bool false)], args := [d1, d2] }
  | _ => none }
def HyperSameWrongFalsely : Prop := hyperSameRow.holds Tryz.pinned (OpenSpec.ofChange hyperSameWrong)

/- THE SECOND FORM. 'bulk': how many values and letters a reading holds, each counted each time it is reached (what is shared counts as often as it is met; a slice's spare places count too). A statement '..UptoSaid' is the law's where the arguments, and the package variables that the reading takes, are together of bulk at most 1048576: NARROWER than '..Said'. Prove '..Said' where nothing that the law and all that it calls make is longer than what came in: it says more and counts as full. Else prove '..UptoSaid'. A law counts once. -/
mutual
def uptoBulk {H : Type} : DataW H → Nat
  | .lit (.string bytes) => bytes.length + 1
  | .lit _ => 1
  | .nil => 1
  | .ptr d => uptoBulk d + 1
  | .slice elems spare => uptoBulkAll elems + uptoBulkAll spare + 1
  | .agg parts => uptoBulkAll parts + 1
  | .iface _ d => uptoBulk d + 1
  | .map entries => uptoBulkEntries entries + 1
  | .held _ => 1
def uptoBulkAll {H : Type} : List (DataW H) → Nat
  | [] => 0
  | d :: r => uptoBulk d + uptoBulkAll r
def uptoBulkEntries {H : Type} : List (Lit × DataW H) → Nat
  | [] => 0
  | x :: r => uptoBulkEntry x + uptoBulkEntries r
def uptoBulkEntry {H : Type} : Lit × DataW H → Nat
  | (.string bytes, d) => bytes.length + uptoBulk d + 1
  | (_, d) => uptoBulk d + 1
 end
def uptoSmall : (H : Type) → List (DataW H) → Bool := fun _ ds => decide (uptoBulkAll ds ≤ 1048576)
def OpenSpec.upto (s : _root_.Go.ChangeSpec) : _root_.Go.OpenSpec := { _root_.Go.OpenSpec.ofChange s with cond := some uptoSmall }

/-- 'transomlaw13.KernSame', WHERE WHAT IT READS IS OF BULK AT MOST 1048576: true; the input reads as it did. -/
def kernSameUptoRow : OpenClaim := { program := "ytdiajbbcjndhjaagreatdoor", sum := "10ff2a6b0670669ebdef1dacca19df8aa195308fd410a42b2a3fb5e8de444f02", func := "transom/transomlaw13.KernSame", spec := "kernSame", inPlace := ["internal/abi.NoEscape", "internal/bytealg.MakeNoZero", "slices.overlaps[transom/api.Span]", "slices.overlaps[transom/api.Proc]", "slices.overlaps[transom/api.Alarm]"], unfollowed := true, recurses := true, named := ["transom/isa.uses"], apart := false, laid := [("transom/isa.uses", laid_transom_isa_uses)], narrowed := true }
def KernSameUptoSaid : Prop := kernSameUptoRow.holds Tryz.pinned (OpenSpec.upto kernSameSpec)

/-- 'transomtop.TopMachine', WHERE WHAT IT READS IS OF BULK AT MOST 1048576: true; the input reads as it did. -/
def topMachineUptoRow : OpenClaim := { program := "ytdiajbbcjndhjaagreatdoor", sum := "10ff2a6b0670669ebdef1dacca19df8aa195308fd410a42b2a3fb5e8de444f02", func := "transom/transomtop.TopMachine", spec := "topMachine", inPlace := ["internal/abi.NoEscape", "internal/bytealg.MakeNoZero", "slices.overlaps[transom/api.Span]", "slices.overlaps[transom/api.Proc]", "slices.overlaps[transom/api.Alarm]"], unfollowed := true, recurses := true, named := ["transom/isa.uses"], apart := false, laid := [("transom/isa.uses", laid_transom_isa_uses)], narrowed := true }
def TopMachineUptoSaid : Prop := topMachineUptoRow.holds Tryz.pinned (OpenSpec.upto topMachineSpec)

/-- 'transomlaw14.SeatSame', WHERE WHAT IT READS IS OF BULK AT MOST 1048576: true; the input reads as it did. -/
def seatSameUptoRow : OpenClaim := { program := "ytdiajbbcjndhjaagreatdoor", sum := "10ff2a6b0670669ebdef1dacca19df8aa195308fd410a42b2a3fb5e8de444f02", func := "transom/transomlaw14.SeatSame", spec := "seatSame", inPlace := ["internal/abi.NoEscape", "internal/bytealg.MakeNoZero", "slices.overlaps[transom/api.Span]", "slices.overlaps[transom/api.Proc]", "slices.overlaps[transom/api.Alarm]"], unfollowed := true, recurses := true, named := ["transom/isa.uses"], apart := false, laid := [("transom/isa.uses", laid_transom_isa_uses)], narrowed := true }
def SeatSameUptoSaid : Prop := seatSameUptoRow.holds Tryz.pinned (OpenSpec.upto seatSameSpec)

/-- 'transomlaw16.HyperSame', WHERE WHAT IT READS IS OF BULK AT MOST 1048576: true; the input reads as it did. -/
def hyperSameUptoRow : OpenClaim := { program := "ytdiajbbcjndhjaagreatdoor", sum := "10ff2a6b0670669ebdef1dacca19df8aa195308fd410a42b2a3fb5e8de444f02", func := "transom/transomlaw16.HyperSame", spec := "hyperSame", inPlace := ["internal/abi.NoEscape", "internal/bytealg.MakeNoZero", "slices.overlaps[transom/api.Span]", "slices.overlaps[transom/api.Proc]", "slices.overlaps[transom/api.Alarm]"], unfollowed := true, recurses := true, named := ["transom/isa.uses"], apart := false, laid := [("transom/isa.uses", laid_transom_isa_uses)], narrowed := true }
def HyperSameUptoSaid : Prop := hyperSameUptoRow.holds Tryz.pinned (OpenSpec.upto hyperSameSpec)

end Rows
end Go.Proofs.YtdiajbbcjndhjaaGreatDoor
