/- Part of the proof of TellLines: its text AmSay. Conditions: none. -/
import Derived.Test.YtcaaedohfmdikaaGreatDoorAmBuild
set_option linter.unusedVariables false
set_option linter.unusedSimpArgs false
open Go Go.Am Go.Proofs Go.RowKit
namespace Go.Am

/-- Nothing below N is touched. -/
def Same (N : Nat) (h h' : Heap) : Prop := h.next ≤ h'.next ∧ ∀ id, id < N → h'.get id = h.get id
theorem Same.refl (N : Nat) (h : Heap) : Same N h h := ⟨Nat.le_refl _, fun _ _ => rfl⟩
theorem Same.trans {N : Nat} {a b c : Heap} (h1 : Same N a b) (h2 : Same N b c) : Same N a c := ⟨Nat.le_trans h1.1 h2.1, fun id hid => (h2.2 id hid).trans (h1.2 id hid)⟩

/-- What the machine must know for the builders. -/
structure BCall (call : CallF) : Prop where
  cnew : ∀ (l : Nat) (h : Heap) (x : AV), h.get l = some (.cells [[.ptr none, x]] 2 74 false 0) → call 126 [.ptr (some (l, 0))] h = .ok (.tuple [], h.put l (.cells [[.ptr (some (l, 0)), x]] 2 74 false 0))
  cold : ∀ (l : Nat) (h : Heap) (x : AV), h.get l = some (.cells [[.ptr (some (l, 0)), x]] 2 74 false 0) → call 126 [.ptr (some (l, 0))] h = .ok (.tuple [], h)

set_option maxRecDepth 100000 in
set_option maxHeartbeats 8000000 in
theorem write_run (I : Intr) (n : Nat) (l N : Nat) (s t : List UInt8) (h : Heap) (hI : I 67 [.ptr (some (l, 0)), .str t] h = none) (hc : BCall (callA Tryz.prog I n)) (hb : Bld N h l s) (hl : l < h.next) (hN : N ≤ l) (ht : t ≠ []) (h1 : s.length < 1000000) (h2 : t.length < 1000000) :
    ∃ h', callA Tryz.prog I (n + 1) 67 [.ptr (some (l, 0)), .str t] h = .ok (.tuple [.int .i64 t.length, .nilIface], h') ∧ Bld N h' l (s ++ t) ∧ Same N h h' := by
  simp only [callA, hI, Tryz.func67, bodyA]
  generalize callA Tryz.prog I n = call at hc
  have hf := fa72 l 0
  simp only [List.cons.injEq, and_true] at hf
  obtain ⟨f0, f1⟩ := hf
  rcases hb with ⟨rfl, hg⟩ | ⟨hs, b, fz, hbN, hbx, hbl, hfz, hfz1, hg, hgb⟩
  · have q1 := hc.cnew l h _ hg
    have g1 : getC [[AV.ptr (some (l, 0)), .slice none 0 (some 0)]] 2 1 1 = some [.slice none 0 (some 0)] := by simp [getC]
    have ha := app_str0 (h := h.put l (.cells [[.ptr (some (l, 0)), .slice none 0 (some 0)]] 2 74 false 0)) ht h2
    have hne : l ≠ h.next := by omega
    have hg2 : ((h.put l (.cells [[.ptr (some (l, 0)), .slice none 0 (some 0)]] 2 74 false 0)).new (.cells (ones (cellsOfBytes t)) 1 5 false 0)).get l = some (.cells [[.ptr (some (l, 0)), .slice none 0 (some 0)]] 2 74 false 0) := by
      rw [Heap.get_new_ne (by simpa using hne), Heap.get_put_same]
    refine ⟨(((h.put l (.cells [[.ptr (some (l, 0)), .slice none 0 (some 0)]] 2 74 false 0)).new (.cells (ones (cellsOfBytes t)) 1 5 false 0)).put l (.cells [[.ptr (some (l, 0)), .slice (some (h.next, 0)) t.length none]] 2 74 false 0)), ?_, ?_, ?_⟩
    · simp [f0, f1, g1, q1, ha, hg2, Heap.get_put, agg70, ok70, setC2b, storeA, sz70, storeCellsA, actO, loadA, loadCellsA, builtinActA, builtinReadA, Res.ofOpt, und70, und9s, lenOpA, Tryz.f67, codeA_seq, codeA_region, codeA_block, codeA_cond, codeA_skip, codeA_exit, codeA_ret, regionA_seq, opsA, opA, actA, calleeA, kindA, readA, opd, putO, wantedA, Tr.get_set, List.range, List.range.loop, argsEnv, ofConst, ofScalar, binA, resultsA, resList, resA, sliceElem]
    · refine .inr ⟨by simpa using ht, h.next, 0, by omega, by show h.next < h.next + 1; omega, fun e => hne e.symm, by omega, by omega, ?_, ?_⟩
      · simp [Heap.get_put]
      · rw [Heap.get_put_ne (fun e => hne e.symm)]
        have : (h.put l (.cells [[.ptr (some (l, 0)), .slice none 0 (some 0)]] 2 74 false 0)).next = h.next := rfl
        rw [← this, Heap.get_new_same]
        simp
    · refine ⟨by show h.next ≤ h.next + 1; omega, fun id hid => ?_⟩
      rw [Heap.get_put_ne (by omega), Heap.get_new_ne (by show id ≠ h.next; omega), Heap.get_put_ne (by omega)]
  · have q1 := hc.cold l h _ hg
    have g1 : getC [[AV.ptr (some (l, 0)), .slice (some (b, 0)) s.length none]] 2 1 1 = some [.slice (some (b, 0)) s.length none] := by simp [getC]
    have ha := app_str (t := s) (s := t) hgb hfz hs ht h2 h1
    have hne : l ≠ h.next := by omega
    have hg2 : ((h.put b .dead).new (.cells (ones (cellsOfBytes (s ++ t))) 1 5 false fz)).get l = some (.cells [[.ptr (some (l, 0)), .slice (some (b, 0)) s.length none]] 2 74 false 0) := by
      rw [Heap.get_new_ne (by simpa using hne), Heap.get_put_ne (fun e => hbl e.symm), hg]
    refine ⟨(((h.put b .dead).new (.cells (ones (cellsOfBytes (s ++ t))) 1 5 false fz)).put l (.cells [[.ptr (some (l, 0)), .slice (some (h.next, 0)) (s.length + t.length) none]] 2 74 false 0)), ?_, ?_, ?_⟩
    · simp [f0, f1, g1, q1, ha, hg, hg2, Heap.get_put, agg70, ok70, setC2b, storeA, sz70, storeCellsA, actO, loadA, loadCellsA, builtinActA, builtinReadA, Res.ofOpt, und70, und9s, lenOpA, Tryz.f67, codeA_seq, codeA_region, codeA_block, codeA_cond, codeA_skip, codeA_exit, codeA_ret, regionA_seq, opsA, opA, actA, calleeA, kindA, readA, opd, putO, wantedA, Tr.get_set, List.range, List.range.loop, argsEnv, ofConst, ofScalar, binA, resultsA, resList, resA, sliceElem]
    · refine .inr ⟨by simp [hs], h.next, fz, by omega, by show h.next < h.next + 1; omega, fun e => hne e.symm, by simp; omega, hfz1, ?_, ?_⟩
      · simp [Heap.get_put]
      · rw [Heap.get_put_ne (fun e => hne e.symm)]
        have : (h.put b .dead).next = h.next := rfl
        rw [← this, Heap.get_new_same]
    · refine ⟨by show h.next ≤ h.next + 1; omega, fun id hid => ?_⟩
      rw [Heap.get_put_ne (by omega), Heap.get_new_ne (by show id ≠ h.next; omega), Heap.get_put_ne (by omega)]
end Go.Am
