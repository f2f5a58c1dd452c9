/-
  The closed facts of the row of TellLines, one by one. CONDITIONS: none.
-/
import Derived.Test.YtcaaedohfmdikaaGreatDoorTellLinesF
import Derived.Test.YtcaaedohfmdikaaGreatDoorRows
import Derived.Test.YtcaaedohfmdikaaGreatDoorCards
import Derived.JoinedOf
import Derived.SevenTiedAt
import Derived.Lay
namespace Go.Proofs.YtcaaedohfmdikaaGreatDoor
set_option maxRecDepth 100000
theorem j12 : (Rows.tellLinesRow.recurses == Tryz.prog.recurses 5) = true := by kernel_rfl
theorem j13 : (Rows.tellLinesRow.named == Tryz.prog.varsNamed 5) = true := by kernel_rfl
theorem j14 : (Rows.tellLinesRow.maps == (Tryz.f5.params.toList ++ Rows.tellLinesSpec.plain.varTypes Tryz.prog).any (Tryz.prog.mapsRec ·)) = true := by kernel_rfl
theorem j15 : (Rows.tellLinesRow.ifaces == (Tryz.f5.params.toList ++ Rows.tellLinesSpec.plain.varTypes Tryz.prog).any (Tryz.prog.ifacesRec ·)) = true := by kernel_rfl
theorem j16 : (Rows.tellLinesRow.mapsOut == Tryz.prog.mapsAmong Tryz.f5.resultTypes.toList) = true := by kernel_rfl
theorem j17 : (Rows.tellLinesRow.loops == (Tryz.f5.params.toList ++ Rows.tellLinesSpec.plain.varTypes Tryz.prog).any (Tryz.prog.loopsFrom ·)) = true := by kernel_rfl
theorem j17b : (Rows.tellLinesRow.wideKeys == (Tryz.f5.params.toList ++ Rows.tellLinesSpec.plain.varTypes Tryz.prog ++ Tryz.f5.resultTypes.toList).any (Tryz.prog.wideKeysFrom ·)) = true := by kernel_rfl
theorem j18 : Rows.tellLinesSpec.vars.all (Tryz.prog.varReadable ·) = true := by kernel_rfl
theorem j19 : Tryz.f5.resultTypes.all (fun t => Tryz.prog.readableRec t && decide (t < Tryz.prog.types.size)) = true := by kernel_rfl
theorem j20 : (Rows.tellLinesRow.ifacesOut == Tryz.f5.resultTypes.toList.any (Tryz.prog.ifacesRec ·)) = true := by kernel_rfl
theorem j21 : (Rows.tellLinesRow.loopsOut == Tryz.f5.resultTypes.toList.any (Tryz.prog.loopsFrom ·)) = true := by kernel_rfl
theorem j22 : (Rows.tellLinesRow.plainKeys == Tryz.prog.plainKeys) = true := by kernel_rfl
theorem j23 : Rows.tellLinesRow.shortTexts.isNone = true := by kernel_rfl
theorem j23b : Tryz.prog.stopsHeard = true := by kernel_rfl
end Go.Proofs.YtcaaedohfmdikaaGreatDoor
