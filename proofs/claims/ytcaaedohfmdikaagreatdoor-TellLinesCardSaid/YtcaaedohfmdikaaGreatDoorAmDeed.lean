/- Part of the proof of TellLines: its text AmDeed. Conditions: none. -/
import Derived.Test.YtcaaedohfmdikaaGreatDoorAmWords
set_option linter.unusedVariables false
set_option linter.unusedSimpArgs false
open Go Go.Am Go.Proofs Go.RowKit
namespace Go.Am

/-- What has happened to an upgrade, in words. -/
def deedW (kind phase e : Int) (unit : List UInt8) : List UInt8 :=
  if kind = 0 then [98, 101, 103, 117, 110] else if kind = 1 then [112, 104, 97, 115, 101, 32] ++ Lib.itoa phase else if kind = 2 then [100, 111, 110, 101] else
  if kind = 3 then [117, 110, 100, 111, 110, 101, 32] ++ Lib.itoa e else [108, 111, 115, 116, 32] ++ unit

theorem sz62 : szT Tryz.prog 62 = 4 := by kernel_rfl
theorem fa62 (x xo : Nat) : [fieldAddrA Tryz.prog 62 (.ptr (some (x, xo))) 0, fieldAddrA Tryz.prog 62 (.ptr (some (x, xo))) 1, fieldAddrA Tryz.prog 62 (.ptr (some (x, xo))) 2, fieldAddrA Tryz.prog 62 (.ptr (some (x, xo))) 3] =
    [some (.ptr (some (x, xo))), some (.ptr (some (x, xo + 1))), some (.ptr (some (x, xo + 2))), some (.ptr (some (x, xo + 3)))] := by kernel_rfl
theorem agg42 : aggT Tryz.prog 42 = some false := by kernel_rfl
theorem agg9 : aggT Tryz.prog 9 = some false := by kernel_rfl

set_option maxRecDepth 100000 in
set_option maxHeartbeats 8000000 in
theorem deed_run (I : Intr) (n : Nat) (kind phase e : Int) (unit : List UInt8) (hu : unit.length < 1000) (h : Heap) (hI : I 20 [.agg [.int .i64 kind, .int .i64 phase, .int .i64 e, .str unit]] h = none)
    (hi : ∀ (m : Int) (h : Heap), m = phase ∨ m = e → callA Tryz.prog I n 65 [.int .i64 m] h = .ok (.str (Lib.itoa m), h)) (hl1 : (Lib.itoa phase).length < 1000) (hl2 : (Lib.itoa e).length < 1000) :
    callA Tryz.prog I (n + 1) 20 [.agg [.int .i64 kind, .int .i64 phase, .int .i64 e, .str unit]] h =
      .ok (.str (deedW kind phase e unit), h.new (.cells [[.int .i64 kind, .int .i64 phase, .int .i64 e, .str unit]] 4 62 false 0)) := by
  simp only [callA, hI, Tryz.func20, bodyA]
  generalize callA Tryz.prog I n = call at hi
  have hf := fa62 h.next 0
  simp only [List.cons.injEq, and_true] at hf
  obtain ⟨f0, f1, f2, f3⟩ := hf
  have hok : okCells Tryz.prog 62 (.agg [.int .i64 kind, .int .i64 phase, .int .i64 e, .str unit]) = some [.int .i64 kind, .int .i64 phase, .int .i64 e, .str unit] := by simp [okCells, cells_agg, sz62, AV.cellOk]
  have g0 : getC [[AV.int .i64 kind, .int .i64 phase, .int .i64 e, .str unit]] 4 0 1 = some [.int .i64 kind] := by simp [getC]
  have g1 : getC [[AV.int .i64 kind, .int .i64 phase, .int .i64 e, .str unit]] 4 1 1 = some [.int .i64 phase] := by simp [getC]
  have g2 : getC [[AV.int .i64 kind, .int .i64 phase, .int .i64 e, .str unit]] 4 2 1 = some [.int .i64 e] := by simp [getC]
  have g3 : getC [[AV.int .i64 kind, .int .i64 phase, .int .i64 e, .str unit]] 4 3 1 = some [.str unit] := by simp [getC]
  have q1 := fun h => hi phase h (.inl rfl)
  have q2 := fun h => hi e h (.inr rfl)
  have l1 : (Lib.itoa phase).length + 6 < 4611686018427387904 := by omega
  have l2 : (Lib.itoa e).length + 7 < 4611686018427387904 := by omega
  have l3 : unit.length + 5 < 4611686018427387904 := by omega
  have l4 : 6 + (Lib.itoa phase).length < 4611686018427387904 := by omega
  have l5 : 7 + (Lib.itoa e).length < 4611686018427387904 := by omega
  have l6 : 5 + unit.length < 4611686018427387904 := by omega
  have hb : ∀ k : Int, (kind == k) = decide (kind = k) := fun k => by by_cases e : kind = k <;> simp [e]
  by_cases h0 : kind = 0
  · subst h0
    simp [deedW, f0, f1, f2, f3, hok, g0, g1, g2, g3, q1, q2, l1, l2, l3, l4, l5, l6, agg3, agg9, agg42, newA, loadA, loadCellsA, strA, Tryz.f20, codeA_seq, codeA_region, codeA_block, codeA_cond, codeA_skip, codeA_exit, codeA_ret, regionA_seq, opsA, opA, actA, calleeA, kindA, readA, opd, putO, wantedA, Tr.get_set, List.range, List.range.loop, argsEnv, ofConst, ofScalar, binA, intA, cmpA, resultsA, resList, resA]
  by_cases h1 : kind = 1
  · subst h1
    simp [deedW, f0, f1, f2, f3, hok, g0, g1, g2, g3, q1, q2, l1, l2, l3, l4, l5, l6, agg3, agg9, agg42, newA, loadA, loadCellsA, strA, Tryz.f20, codeA_seq, codeA_region, codeA_block, codeA_cond, codeA_skip, codeA_exit, codeA_ret, regionA_seq, opsA, opA, actA, calleeA, kindA, readA, opd, putO, wantedA, Tr.get_set, List.range, List.range.loop, argsEnv, ofConst, ofScalar, binA, intA, cmpA, resultsA, resList, resA]
  by_cases h2 : kind = 2
  · subst h2
    simp [deedW, f0, f1, f2, f3, hok, g0, g1, g2, g3, q1, q2, l1, l2, l3, l4, l5, l6, agg3, agg9, agg42, newA, loadA, loadCellsA, strA, Tryz.f20, codeA_seq, codeA_region, codeA_block, codeA_cond, codeA_skip, codeA_exit, codeA_ret, regionA_seq, opsA, opA, actA, calleeA, kindA, readA, opd, putO, wantedA, Tr.get_set, List.range, List.range.loop, argsEnv, ofConst, ofScalar, binA, intA, cmpA, resultsA, resList, resA]
  by_cases h3 : kind = 3
  · subst h3
    simp [deedW, f0, f1, f2, f3, hok, g0, g1, g2, g3, q1, q2, l1, l2, l3, l4, l5, l6, agg3, agg9, agg42, newA, loadA, loadCellsA, strA, Tryz.f20, codeA_seq, codeA_region, codeA_block, codeA_cond, codeA_skip, codeA_exit, codeA_ret, regionA_seq, opsA, opA, actA, calleeA, kindA, readA, opd, putO, wantedA, Tr.get_set, List.range, List.range.loop, argsEnv, ofConst, ofScalar, binA, intA, cmpA, resultsA, resList, resA]
  · simp [deedW, h0, h1, h2, h3, hb, f0, f1, f2, f3, hok, g0, g1, g2, g3, q1, q2, l1, l2, l3, l4, l5, l6, agg3, agg9, agg42, newA, loadA, loadCellsA, strA, Tryz.f20, codeA_seq, codeA_region, codeA_block, codeA_cond, codeA_skip, codeA_exit, codeA_ret, regionA_seq, opsA, opA, actA, calleeA, kindA, readA, opd, putO, wantedA, Tr.get_set, List.range, List.range.loop, argsEnv, ofConst, ofScalar, binA, intA, cmpA, resultsA, resList, resA]
end Go.Am
