/-
  The closed facts of the row of TellWords, one by one. CONDITIONS: none.
-/
import Derived.Test.YtcaaedohfmdikaaGreatDoorRows
import Derived.Test.YtcaaedohfmdikaaGreatDoorCards
import Derived.JoinedOf
import Derived.SevenTiedAt
import Derived.Lay
namespace Go.Proofs.YtcaaedohfmdikaaGreatDoor
set_option maxRecDepth 100000
theorem j1 : Rows.tellWordsRow.wf (OpenSpec.ofChange Rows.tellWordsSpec) = true := by kernel_rfl
theorem j2 : laidOutB Tryz.prog = true := by kernel_rfl
theorem j3 : mapsRowed Tryz.prog = true := by kernel_rfl
theorem j4 : Tryz.f4.params.all (Tryz.prog.readableRec ·) = true := by kernel_rfl
theorem j5 : namedTie Tryz.prog Rows.tellWordsRow.named Rows.tellWordsSpec.vars = true := by kernel_rfl
theorem j6 : (Rows.tellWordsRow.stops == []) = true := by kernel_rfl
theorem j7 : (Tryz.prog.stops == []) = true := by kernel_rfl
theorem j8 : (Rows.tellWordsRow.knobs == []) = true := by kernel_rfl
theorem j9 : (Tryz.prog.stopKnobs == []) = true := by kernel_rfl
theorem j10 : (Rows.tellWordsRow.inPlace == Tryz.prog.inPlace 4) = true := by kernel_rfl
theorem j11 : (Rows.tellWordsRow.unfollowed == Tryz.prog.unfollowed 4) = true := by kernel_rfl
theorem j12 : (Rows.tellWordsRow.recurses == Tryz.prog.recurses 4) = true := by kernel_rfl
theorem j13 : (Rows.tellWordsRow.named == Tryz.prog.varsNamed 4) = true := by kernel_rfl
theorem j14 : (Rows.tellWordsRow.maps == (Tryz.f4.params.toList ++ Rows.tellWordsSpec.plain.varTypes Tryz.prog).any (Tryz.prog.mapsRec ·)) = true := by kernel_rfl
theorem j15 : (Rows.tellWordsRow.ifaces == (Tryz.f4.params.toList ++ Rows.tellWordsSpec.plain.varTypes Tryz.prog).any (Tryz.prog.ifacesRec ·)) = true := by kernel_rfl
theorem j16 : (Rows.tellWordsRow.mapsOut == Tryz.prog.mapsAmong Tryz.f4.resultTypes.toList) = true := by kernel_rfl
theorem j17 : (Rows.tellWordsRow.loops == (Tryz.f4.params.toList ++ Rows.tellWordsSpec.plain.varTypes Tryz.prog).any (Tryz.prog.loopsFrom ·)) = true := by kernel_rfl
theorem j17b : (Rows.tellWordsRow.wideKeys == (Tryz.f4.params.toList ++ Rows.tellWordsSpec.plain.varTypes Tryz.prog ++ Tryz.f4.resultTypes.toList).any (Tryz.prog.wideKeysFrom ·)) = true := by kernel_rfl
theorem j18 : Rows.tellWordsSpec.vars.all (Tryz.prog.varReadable ·) = true := by kernel_rfl
theorem j19 : Tryz.f4.resultTypes.all (fun t => Tryz.prog.readableRec t && decide (t < Tryz.prog.types.size)) = true := by kernel_rfl
theorem j20 : (Rows.tellWordsRow.ifacesOut == Tryz.f4.resultTypes.toList.any (Tryz.prog.ifacesRec ·)) = true := by kernel_rfl
theorem j21 : (Rows.tellWordsRow.loopsOut == Tryz.f4.resultTypes.toList.any (Tryz.prog.loopsFrom ·)) = true := by kernel_rfl
theorem j22 : (Rows.tellWordsRow.plainKeys == Tryz.prog.plainKeys) = true := by kernel_rfl
theorem j23 : Rows.tellWordsRow.shortTexts.isNone = true := by kernel_rfl
theorem j23b : Tryz.prog.stopsHeard = true := by kernel_rfl
theorem j24 : Tryz.prog.mayEnter = true := by kernel_rfl
theorem j24b : (Rows.tellWordsRow.lifted == Tryz.prog.liftsFinal) = true := by kernel_rfl
theorem j24c : (Tryz.prog.make == some Rows.tellWordsRow.make) = true := by kernel_rfl
theorem j25 : (Rows.tellWordsRow.kinds == (if Rows.tellWordsRow.domain.isEmpty then [] else Tryz.f4.params.toList.map fun t => match Tryz.prog.underlying t with | some (.int k) => some k | _ => none)) = true := by kernel_rfl
theorem j26 : (Rows.tellWordsRow.pinned == Rows.tellWordsRow.pinnedBy) = true := by kernel_rfl
theorem j27 : (Rows.tellWordsRow.veiled == (Tryz.f4.params.toList ++ Rows.tellWordsSpec.plain.varTypes Tryz.prog ++ Tryz.f4.resultTypes.toList).any (Tryz.prog.veiledRec ·)) = true := by kernel_rfl
theorem j28 : Rows.tellWordsRow.veiledFits Tryz.prog Tryz.f4.params.toList (Tryz.f4.params.toList ++ Rows.tellWordsSpec.plain.varTypes Tryz.prog ++ Tryz.f4.resultTypes.toList) = true := by kernel_rfl
theorem joined : joinedFacts Tryz.prog 4 Tryz.f4 Rows.tellWordsSpec Rows.tellWordsRow = true := by
  simp only [joinedFacts, Bool.and_eq_true]
  exact ⟨⟨⟨⟨⟨⟨⟨⟨⟨⟨⟨⟨⟨⟨⟨⟨⟨⟨⟨⟨⟨⟨⟨⟨⟨⟨⟨⟨⟨⟨⟨j1, j2⟩, j3⟩, j4⟩, j5⟩, j6⟩, j7⟩, j8⟩, j9⟩, j10⟩, j11⟩, j12⟩, j13⟩, j14⟩, j15⟩, j16⟩, j17⟩, j17b⟩, j18⟩, j19⟩, j20⟩, j21⟩, j22⟩, j23⟩, j23b⟩, j24⟩, j24b⟩, j24c⟩, j25⟩, j26⟩, j27⟩, j28⟩
theorem jnamed : Tryz.prog.funcNamed Rows.tellWordsRow.func = some 4 := by kernel_rfl
theorem jinst : Tryz.f4.isInstance Tryz.prog Rows.tellWordsRow.origin Rows.tellWordsRow.targs := of_decide_eq_true (by kernel_rfl)
theorem jwrap : Tryz.f4.isWrapper Tryz.prog Rows.tellWordsRow.wrapper Rows.tellWordsRow.mainSum := by
  unfold Func.isWrapper
  first | (rw [if_pos (by decide +kernel)]; kernel_rfl) | (rw [if_neg (by decide +kernel)]; exact ⟨rfl, rfl⟩)
theorem jown : ownKnob Tryz.prog.godebug = none := by kernel_rfl
theorem jwfText : Rows.tellWordsRow.wfByText (OpenSpec.ofChange Rows.tellWordsSpec) = true := by kernel_rfl
theorem jmain : Tryz.prog.mainIs = some (true, "ba22f6ecb7e1fbff4d02c4a618b671b3c78bbea0d6346c5353a9f02870dbbda4".toList) := by kernel_rfl
theorem jlooks : true = Tryz.prog.looks [] := by kernel_rfl
theorem jgoes : false = Rows.tellWordsRow.goesBy Tryz.prog := by kernel_rfl
theorem jstand : ([3, 3, 3, 9, 9].all fun u => !Tryz.prog.wantsStandIn u) = true := by kernel_rfl
end Go.Proofs.YtcaaedohfmdikaaGreatDoor
