/-
  The closed facts of the row of TellLines, one by one. CONDITIONS: none.
-/
import Derived.Test.YtcaaedohfmdikaaGreatDoorTellLinesG
import Derived.Test.YtcaaedohfmdikaaGreatDoorRows
import Derived.Test.YtcaaedohfmdikaaGreatDoorCards
import Derived.JoinedOf
import Derived.SevenTiedAt
import Derived.Lay
namespace Go.Proofs.YtcaaedohfmdikaaGreatDoor
set_option maxRecDepth 100000
theorem j24 : Tryz.prog.mayEnter = true := by kernel_rfl
theorem j24b : (Rows.tellLinesRow.lifted == Tryz.prog.liftsFinal) = true := by kernel_rfl
theorem j24c : (Tryz.prog.make == some Rows.tellLinesRow.make) = true := by kernel_rfl
theorem j25 : (Rows.tellLinesRow.kinds == (if Rows.tellLinesRow.domain.isEmpty then [] else Tryz.f5.params.toList.map fun t => match Tryz.prog.underlying t with | some (.int k) => some k | _ => none)) = true := by kernel_rfl
theorem j26 : (Rows.tellLinesRow.pinned == Rows.tellLinesRow.pinnedBy) = true := by kernel_rfl
theorem j27 : (Rows.tellLinesRow.veiled == (Tryz.f5.params.toList ++ Rows.tellLinesSpec.plain.varTypes Tryz.prog ++ Tryz.f5.resultTypes.toList).any (Tryz.prog.veiledRec ·)) = true := by kernel_rfl
theorem j28 : Rows.tellLinesRow.veiledFits Tryz.prog Tryz.f5.params.toList (Tryz.f5.params.toList ++ Rows.tellLinesSpec.plain.varTypes Tryz.prog ++ Tryz.f5.resultTypes.toList) = true := by kernel_rfl
theorem joined : joinedFacts Tryz.prog 5 Tryz.f5 Rows.tellLinesSpec Rows.tellLinesRow = true := by
  simp only [joinedFacts, Bool.and_eq_true]
  exact ⟨⟨⟨⟨⟨⟨⟨⟨⟨⟨⟨⟨⟨⟨⟨⟨⟨⟨⟨⟨⟨⟨⟨⟨⟨⟨⟨⟨⟨⟨⟨j1, j2⟩, j3⟩, j4⟩, j5⟩, j6⟩, j7⟩, j8⟩, j9⟩, j10⟩, j11⟩, j12⟩, j13⟩, j14⟩, j15⟩, j16⟩, j17⟩, j17b⟩, j18⟩, j19⟩, j20⟩, j21⟩, j22⟩, j23⟩, j23b⟩, j24⟩, j24b⟩, j24c⟩, j25⟩, j26⟩, j27⟩, j28⟩
theorem jnamed : Tryz.prog.funcNamed Rows.tellLinesRow.func = some 5 := by kernel_rfl
theorem jinst : Tryz.f5.isInstance Tryz.prog Rows.tellLinesRow.origin Rows.tellLinesRow.targs := of_decide_eq_true (by kernel_rfl)
theorem jwrap : Tryz.f5.isWrapper Tryz.prog Rows.tellLinesRow.wrapper Rows.tellLinesRow.mainSum := by
  unfold Func.isWrapper
  first | (rw [if_pos (by decide +kernel)]; kernel_rfl) | (rw [if_neg (by decide +kernel)]; exact ⟨rfl, rfl⟩)
theorem jown : ownKnob Tryz.prog.godebug = none := by kernel_rfl
theorem jwfText : Rows.tellLinesRow.wfByText (OpenSpec.ofChange Rows.tellLinesSpec) = true := by kernel_rfl
theorem jmain : Tryz.prog.mainIs = some (true, "ba22f6ecb7e1fbff4d02c4a618b671b3c78bbea0d6346c5353a9f02870dbbda4".toList) := by kernel_rfl
theorem jlooks : true = Tryz.prog.looks [] := by kernel_rfl
theorem jgoes : false = Rows.tellLinesRow.goesBy Tryz.prog := by kernel_rfl
theorem jstand : ([68].all fun u => !Tryz.prog.wantsStandIn u) = true := by kernel_rfl
end Go.Proofs.YtcaaedohfmdikaaGreatDoor
