/- Part of the proof of TellLines: its text AmFault. Conditions: none. -/
import Derived.Test.YtcaaedohfmdikaaGreatDoorAmEvent
set_option linter.unusedVariables false
set_option linter.unusedSimpArgs false
open Go Go.Am Go.Proofs Go.RowKit
namespace Go.Am

/-- What is wrong, word by word. -/
def faultWs (e : Int) (name what : List UInt8) : List (List UInt8) :=
  [[101, 114, 114, 111, 114], Lib.itoa e] ++ (if name = [] then [] else [name]) ++ (if what = [] then [] else [what])

theorem sz44 : szT Tryz.prog 44 = 3 := by kernel_rfl
theorem fa44 (x xo : Nat) : [fieldAddrA Tryz.prog 44 (.ptr (some (x, xo))) 0, fieldAddrA Tryz.prog 44 (.ptr (some (x, xo))) 1, fieldAddrA Tryz.prog 44 (.ptr (some (x, xo))) 2] = [some (.ptr (some (x, xo))), some (.ptr (some (x, xo + 1))), some (.ptr (some (x, xo + 2)))] := by kernel_rfl
theorem el25 : sliceElem Tryz.prog 25 = some 9 := by kernel_rfl
theorem zero9 : zeroT Tryz.prog 9 = some (.str []) := by kernel_rfl
theorem bytes9 : Tryz.prog.bytesOf 9 = 16 := by kernel_rfl
theorem two25 (a b : List UInt8) : buildSliceA Tryz.prog 25 2 [(0, .str a), (1, .str b)] = some (.cells [[.str a], [.str b]] 1 9 false 0, fun id => .slice (some (id, 0)) 2 (some 2)) := by kernel_rfl
theorem one25 (a : List UInt8) : buildSliceA Tryz.prog 25 1 [(0, .str a)] = some (.cells [[.str a]] 1 9 false 0, fun id => .slice (some (id, 0)) 1 (some 1)) := by kernel_rfl

theorem cells_str (a : List UInt8) : (AV.str a).cells = [.str a] := rfl
theorem app2 {h : Heap} {t id : Nat} {x a b : List UInt8} (ht : h.get t = some (.cells [[.str x]] 1 9 false 0)) (hi : h.get id = some (.cells [[.str a], [.str b]] 1 9 false 0)) :
    appendA Tryz.prog h 25 (.slice (some (id, 0)) 2 (some 2)) (.slice (some (t, 0)) 1 (some 1)) = some (.slice (some (h.next, 0)) 3 none, h.new (.cells [[.str a], [.str b], [.str x]] 1 9 false 0)) := by
  have g1 : getC [[AV.str x]] 1 0 1 = some [.str x] := by simp [getC]
  have g2 : getC [[AV.str a], [AV.str b]] 1 0 2 = some [.str a, .str b] := by simp [getC]
  simp [appendA, el25, lenA, firstA, loadCellsA, ht, hi, sz9, zero9, bytes9, g1, g2, cells_str, AV.cellOk, reach, chunk, chunkF]
theorem app3 {h : Heap} {t id : Nat} {x a b c : List UInt8} (ht : h.get t = some (.cells [[.str x]] 1 9 false 0)) (hi : h.get id = some (.cells [[.str a], [.str b], [.str c]] 1 9 false 0)) :
    appendA Tryz.prog h 25 (.slice (some (id, 0)) 3 none) (.slice (some (t, 0)) 1 (some 1)) = some (.slice (some (h.next, 0)) 4 none, (h.put id .dead).new (.cells [[.str a], [.str b], [.str c], [.str x]] 1 9 false 0)) := by
  have g1 : getC [[AV.str x]] 1 0 1 = some [.str x] := by simp [getC]
  have g2 : getC [[AV.str a], [AV.str b], [AV.str c]] 1 0 3 = some [.str a, .str b, .str c] := by simp [getC]
  simp [appendA, el25, lenA, firstA, loadCellsA, ht, hi, sz9, zero9, bytes9, g1, g2, cells_str, AV.cellOk, reach, chunk, chunkF]

theorem eqB_nil (a : List UInt8) : eqB a [] = decide (a = []) := by cases a <;> simp [eqB]

theorem join_le (l : List (List UInt8)) (k : Nat) (hk : ∀ x ∈ l, x.length ≤ k) : (Lib.join l [32]).length ≤ (k + 1) * l.length := by
  rw [show Lib.join l [32] = [32].intercalate l from rfl]
  induction l with
  | nil => simp [List.intercalate]
  | cons a r ih =>
    have h1 := ih (fun x hx => hk x (by simp [hx]))
    have h2 := hk a (by simp)
    have h3 : (k + 1) * (a :: r).length = (k + 1) * r.length + (k + 1) := by rw [List.length_cons, Nat.mul_succ]
    cases r with
    | nil => simp [List.intercalate]; omega
    | cons b r =>
      have : ([32] : List UInt8).intercalate (a :: b :: r) = a ++ [32] ++ ([32] : List UInt8).intercalate (b :: r) := by simp [List.intercalate]
      rw [this, h3]
      simp only [List.length_append, List.length_singleton]
      omega

set_option maxRecDepth 100000 in
set_option maxHeartbeats 16000000 in
theorem fault_run (I : Intr) (n m : Nat) (hm : m = n + 5) (e : Int) (name what : List UInt8) (hn : name.length < 1000) (hw : what.length < 1000) (h : Heap) (hI : I 21 [.agg [.int .i64 e, .str name, .str what]] h = none)
    (hi : ∀ (h : Heap), callA Tryz.prog I m 65 [.int .i64 e] h = .ok (.str (Lib.itoa e), h)) (hl : (Lib.itoa e).length < 1000)
    (hj : ∀ args h r, joinA args h = some r → callA Tryz.prog I m 66 args h = .ok r) :
    (callA Tryz.prog I (m + 1) 21 [.agg [.int .i64 e, .str name, .str what]] h).all fun o => o.1 = .str (Lib.join (faultWs e name what) [32]) ∧ h.next ≤ o.2.next ∧ ∀ id, id < h.next → o.2.get id = h.get id := by
  simp only [callA, hI, Tryz.func21, bodyA]
  generalize callA Tryz.prog I m = call at hi hj
  subst hm
  have hf := fa44 h.next 0
  simp only [List.cons.injEq, and_true] at hf
  obtain ⟨f0, f1, f2⟩ := hf
  have hok : okCells Tryz.prog 44 (.agg [.int .i64 e, .str name, .str what]) = some [.int .i64 e, .str name, .str what] := by simp [okCells, cells_agg, sz44, AV.cellOk]
  have g0 : getC [[AV.int .i64 e, .str name, .str what]] 3 0 1 = some [.int .i64 e] := by simp [getC]
  have g1 : getC [[AV.int .i64 e, .str name, .str what]] 3 1 1 = some [.str name] := by simp [getC]
  have g2 : getC [[AV.int .i64 e, .str name, .str what]] 3 2 1 = some [.str what] := by simp [getC]
  have e0 : getC [[AV.str name], [AV.str what]] 1 0 1 = some [.str name] := by simp [getC]
  have e1 : getC [[AV.str name], [AV.str what]] 1 1 1 = some [.str what] := by simp [getC]
  have w0 : wrapA .i64 1 = 1 := by decide
  have w1 : wrapA .i64 2 = 2 := by decide
  have hws : ∀ x ∈ faultWs e name what, x.length ≤ 1000 := by
    intro x hx
    unfold faultWs at hx
    by_cases a : name = [] <;> by_cases b : what = [] <;> simp [a, b] at hx
    all_goals (rcases hx with rfl | rfl | rfl | rfl) <;> first | (simp; done) | omega
  have hjl : (Lib.join (faultWs e name what) [32]).length ≤ 140737488355328 := by
    have := join_le _ 1000 hws
    have h4 : (faultWs e name what).length ≤ 4 := by unfold faultWs; by_cases a : name = [] <;> by_cases b : what = [] <;> simp [a, b]
    omega
  have hjoin : ∀ (h' : Heap) (id n : Nat) (c : Option Nat) (els : List (List AV)), h'.get id = some (.cells els 1 9 false 0) → n ≠ 0 → n ≤ 1000 → ((getC els 1 0 n).bind strsOf) = some (faultWs e name what) → call 66 [.slice (some (id, 0)) n c, .str [32]] h' = .ok (.str (Lib.join (faultWs e name what) [32]), h') := by
    intro h' id n c els hg h0 h1 hgc
    refine hj _ _ _ ?_
    simp [joinA, loadCellsA, hg, hgc, hjl, h0, h1]
  by_cases a : name = [] <;> by_cases b : what = []
  · have a2 := a; subst a2
    have b2 := b; subst b2
    simp [a, b, hi, f0, f1, f2, hok, g0, g1, g2, e0, e1, w0, w1, two25, one25, el25, zero9, bytes9, agg9, agg42, und25, info9, sz9, newA, loadA, loadCellsA, indexAddrA, intOf?, builtinReadA, builtinActA, Res.ofOpt, lenOpA, strA, eqB, eqB_nil, Tryz.f21, codeA_seq, codeA_region, codeA_block, codeA_loop, iterC, iterA, codeA_cond, codeA_skip, codeA_exit, codeA_ret, regionA_seq, opsA, opA, actA, calleeA, kindA, readA, opd, putO, wantedA, Tr.get_set, Heap.get_new, Heap.get_put, List.range, List.range.loop, argsEnv, ofConst, ofScalar, binA, intA, cmpA, resultsA, resList, resA]
    try rw [hjoin _ _ _ _ _ (by simp [Heap.get_new, Heap.get_put]; rfl) (by omega) (by omega) (by simp [getC, strsOf, faultWs, a, b])]
    try simp
    try (refine ⟨by omega, fun id hid => ?_⟩; simp [Heap.get_new, Heap.get_put]; repeat rw [if_neg (by omega)])
  · have a2 := a; subst a2
    have ap := app2 (h := ((((h.new (.cells [[.int .i64 e, .str [], .str what]] 3 44 false 0)).new (.cells [[.str [101, 114, 114, 111, 114]], [.str (Lib.itoa e)]] 1 9 false 0)).new (.cells [[.str []], [.str what]] 1 9 false 0)).new (.cells [[.str what]] 1 9 false 0))) (t := h.next + 1 + 1 + 1) (id := h.next + 1) (x := what) (a := [101, 114, 114, 111, 114]) (b := Lib.itoa e) (by simp [Heap.get_new]) (by simp [Heap.get_new])
    simp [a, b, ap, hi, f0, f1, f2, hok, g0, g1, g2, e0, e1, w0, w1, two25, one25, el25, zero9, bytes9, agg9, agg42, und25, info9, sz9, newA, loadA, loadCellsA, indexAddrA, intOf?, builtinReadA, builtinActA, Res.ofOpt, lenOpA, strA, eqB, eqB_nil, Tryz.f21, codeA_seq, codeA_region, codeA_block, codeA_loop, iterC, iterA, codeA_cond, codeA_skip, codeA_exit, codeA_ret, regionA_seq, opsA, opA, actA, calleeA, kindA, readA, opd, putO, wantedA, Tr.get_set, Heap.get_new, Heap.get_put, List.range, List.range.loop, argsEnv, ofConst, ofScalar, binA, intA, cmpA, resultsA, resList, resA]
    rw [hjoin _ _ _ _ _ (by simp [Heap.get_new, Heap.get_put]; rfl) (by omega) (by omega) (by simp [getC, strsOf, faultWs, a, b])]
    simp
    refine ⟨by omega, fun id hid => ?_⟩
    simp [Heap.get_new, Heap.get_put]
    repeat rw [if_neg (by omega)]
  · have b2 := b; subst b2
    have ap := app2 (h := ((((h.new (.cells [[.int .i64 e, .str name, .str []]] 3 44 false 0)).new (.cells [[.str [101, 114, 114, 111, 114]], [.str (Lib.itoa e)]] 1 9 false 0)).new (.cells [[.str name], [.str []]] 1 9 false 0)).new (.cells [[.str name]] 1 9 false 0))) (t := h.next + 1 + 1 + 1) (id := h.next + 1) (x := name) (a := [101, 114, 114, 111, 114]) (b := Lib.itoa e) (by simp [Heap.get_new]) (by simp [Heap.get_new])
    simp [a, b, ap, hi, f0, f1, f2, hok, g0, g1, g2, e0, e1, w0, w1, two25, one25, el25, zero9, bytes9, agg9, agg42, und25, info9, sz9, newA, loadA, loadCellsA, indexAddrA, intOf?, builtinReadA, builtinActA, Res.ofOpt, lenOpA, strA, eqB, eqB_nil, Tryz.f21, codeA_seq, codeA_region, codeA_block, codeA_loop, iterC, iterA, codeA_cond, codeA_skip, codeA_exit, codeA_ret, regionA_seq, opsA, opA, actA, calleeA, kindA, readA, opd, putO, wantedA, Tr.get_set, Heap.get_new, Heap.get_put, List.range, List.range.loop, argsEnv, ofConst, ofScalar, binA, intA, cmpA, resultsA, resList, resA]
    rw [hjoin _ _ _ _ _ (by simp [Heap.get_new, Heap.get_put]; rfl) (by omega) (by omega) (by simp [getC, strsOf, faultWs, a, b])]
    simp
    refine ⟨by omega, fun id hid => ?_⟩
    simp [Heap.get_new, Heap.get_put]
    repeat rw [if_neg (by omega)]
  · have ap := app2 (h := ((((h.new (.cells [[.int .i64 e, .str name, .str what]] 3 44 false 0)).new (.cells [[.str [101, 114, 114, 111, 114]], [.str (Lib.itoa e)]] 1 9 false 0)).new (.cells [[.str name], [.str what]] 1 9 false 0)).new (.cells [[.str name]] 1 9 false 0))) (t := h.next + 1 + 1 + 1) (id := h.next + 1) (x := name) (a := [101, 114, 114, 111, 114]) (b := Lib.itoa e) (by simp [Heap.get_new]) (by simp [Heap.get_new])
    have ap3 := app3 (h := ((((((h.new (.cells [[.int .i64 e, .str name, .str what]] 3 44 false 0)).new (.cells [[.str [101, 114, 114, 111, 114]], [.str (Lib.itoa e)]] 1 9 false 0)).new (.cells [[.str name], [.str what]] 1 9 false 0)).new (.cells [[.str name]] 1 9 false 0)).new (.cells [[.str [101, 114, 114, 111, 114]], [.str (Lib.itoa e)], [.str name]] 1 9 false 0)).new (.cells [[.str what]] 1 9 false 0))) (t := h.next + 1 + 1 + 1 + 1 + 1) (id := h.next + 1 + 1 + 1 + 1) (x := what) (a := [101, 114, 114, 111, 114]) (b := Lib.itoa e) (c := name) (by simp [Heap.get_new]) (by simp [Heap.get_new])
    simp [a, b, ap, ap3, hi, f0, f1, f2, hok, g0, g1, g2, e0, e1, w0, w1, two25, one25, el25, zero9, bytes9, agg9, agg42, und25, info9, sz9, newA, loadA, loadCellsA, indexAddrA, intOf?, builtinReadA, builtinActA, Res.ofOpt, lenOpA, strA, eqB, eqB_nil, Tryz.f21, codeA_seq, codeA_region, codeA_block, codeA_loop, iterC, iterA, codeA_cond, codeA_skip, codeA_exit, codeA_ret, regionA_seq, opsA, opA, actA, calleeA, kindA, readA, opd, putO, wantedA, Tr.get_set, Heap.get_new, Heap.get_put, List.range, List.range.loop, argsEnv, ofConst, ofScalar, binA, intA, cmpA, resultsA, resList, resA]
    rw [hjoin _ _ _ _ _ (by simp [Heap.get_new, Heap.get_put]; rfl) (by omega) (by omega) (by simp [getC, strsOf, faultWs, a, b])]
    simp
    refine ⟨by omega, fun id hid => ?_⟩
    simp [Heap.get_new, Heap.get_put]
    repeat rw [if_neg (by omega)]
end Go.Am
