/-
  The closed facts of the row of TellLines, one by one. CONDITIONS: none.
-/
import Derived.Test.YtcaaedohfmdikaaGreatDoorRows
import Derived.Test.YtcaaedohfmdikaaGreatDoorCards
import Derived.JoinedOf
import Derived.SevenTiedAt
import Derived.Lay
namespace Go.Proofs.YtcaaedohfmdikaaGreatDoor
set_option maxRecDepth 100000
theorem j1 : Rows.tellLinesRow.wf (OpenSpec.ofChange Rows.tellLinesSpec) = true := by kernel_rfl
theorem j2 : laidOutB Tryz.prog = true := by kernel_rfl
theorem j3 : mapsRowed Tryz.prog = true := by kernel_rfl
theorem j4 : Tryz.f5.params.all (Tryz.prog.readableRec ·) = true := by kernel_rfl
theorem j5 : namedTie Tryz.prog Rows.tellLinesRow.named Rows.tellLinesSpec.vars = true := by kernel_rfl
theorem j6 : (Rows.tellLinesRow.stops == []) = true := by kernel_rfl
theorem j7 : (Tryz.prog.stops == []) = true := by kernel_rfl
theorem j8 : (Rows.tellLinesRow.knobs == []) = true := by kernel_rfl
theorem j9 : (Tryz.prog.stopKnobs == []) = true := by kernel_rfl
theorem j10 : (Rows.tellLinesRow.inPlace == Tryz.prog.inPlace 5) = true := by kernel_rfl
theorem j11 : (Rows.tellLinesRow.unfollowed == Tryz.prog.unfollowed 5) = true := by kernel_rfl
end Go.Proofs.YtcaaedohfmdikaaGreatDoor
