/- Part of the proof of TellLines: its text AmEvent. Conditions: none. -/
import Derived.Test.YtcaaedohfmdikaaGreatDoorAmDeed
set_option linter.unusedVariables false
set_option linter.unusedSimpArgs false
open Go Go.Am Go.Proofs Go.RowKit
namespace Go.Am

def eventW (kind : Nat) : List UInt8 :=
  match kind with
  | 0 => [105, 115, 115, 117, 101, 100]
  | 1 => [115, 116, 97, 114, 116, 101, 100]
  | 2 => [97, 115, 107, 101, 100]
  | 3 => [115, 116, 111, 112, 112, 101, 100]
  | _ => [98, 114, 111, 107, 101]

def evRow : List (List AV) := [[.str [105, 115, 115, 117, 101, 100]], [.str [115, 116, 97, 114, 116, 101, 100]], [.str [97, 115, 107, 101, 100]], [.str [115, 116, 111, 112, 112, 101, 100]], [.str [98, 114, 111, 107, 101]]]

theorem sz66 : szT Tryz.prog 66 = 2 := by kernel_rfl
theorem sz9 : szT Tryz.prog 9 = 1 := by kernel_rfl
theorem fa66 (x xo : Nat) : [fieldAddrA Tryz.prog 66 (.ptr (some (x, xo))) 0, fieldAddrA Tryz.prog 66 (.ptr (some (x, xo))) 1] = [some (.ptr (some (x, xo))), some (.ptr (some (x, xo + 1)))] := by kernel_rfl
theorem und25 : Tryz.prog.underlying 25 = some (.slice 9) := by kernel_rfl
theorem info9 : (Tryz.prog.info? 9).isSome = true := by kernel_rfl
theorem row25 : buildSliceA Tryz.prog 25 5 [(0, ofConst (.string ⟨#[105, 115, 115, 117, 101, 100]⟩)), (1, ofConst (.string ⟨#[115, 116, 97, 114, 116, 101, 100]⟩)), (2, ofConst (.string ⟨#[97, 115, 107, 101, 100]⟩)), (3, ofConst (.string ⟨#[115, 116, 111, 112, 112, 101, 100]⟩)), (4, ofConst (.string ⟨#[98, 114, 111, 107, 101]⟩))] =
    some (.cells evRow 1 9 false 0, fun id => .slice (some (id, 0)) 5 (some 5)) := by kernel_rfl

noncomputable def ev2 : Array Oper := (Tryz.f23.body.bind (regOf 2)).getD #[]
theorem evplan : (planOf Tryz.prog ev2).map (·.ord) = some [0, 1, 2, 3, 4, 5, 6, 7, 8, 9, 10, 11, 12, 13, 14] := by kernel_rfl
theorem evsize : ev2.size = 15 := by kernel_rfl

set_option maxRecDepth 100000 in
set_option maxHeartbeats 8000000 in
theorem ev_reg (call : CallF) (env : Env) (h : Heap) (a b : Nat) (kind : Nat) (hk : kind < 5) (unit : List UInt8) (hu : unit.length < 1000) (Q : Env × Heap → Prop) (h1s : env.get 1 = some (.ptr (some (a, 0)))) (h3s : env.get 3 = some (.slice (some (b, 0)) 5 (some 5)))
    (hga : h.get a = some (.cells [[.int .i64 kind, .str unit]] 2 66 false 0)) (hgb : h.get b = some (.cells evRow 1 9 false 0))
    (hQ : ∀ env' : Env, env'.get 2 = some (.str (unit ++ [32] ++ eventW kind)) → Q (env', { h with next := h.next + 15 })) : (regionA Tryz.prog call 19 ev2 true env h).all Q := by
  refine regionA_draw evplan evsize fun M => ?_
  have hf := fa66 a 0
  simp only [List.cons.injEq, and_true] at hf
  obtain ⟨f0, f1⟩ := hf
  have hg : ∀ n, ({ h with next := n } : Heap).get a = some (.cells [[.int .i64 kind, .str unit]] 2 66 false 0) := fun n => hga
  have hg2 : ∀ n, ({ h with next := n } : Heap).get b = some (.cells evRow 1 9 false 0) := fun n => hgb
  have g0 : getC [[AV.int .i64 kind, .str unit]] 2 0 1 = some [.int .i64 kind] := by simp [getC]
  have g1 : getC [[AV.int .i64 kind, .str unit]] 2 1 1 = some [.str unit] := by simp [getC]
  have he3 := hga
  have he1 := hgb
  have hcases : kind = 0 ∨ kind = 1 ∨ kind = 2 ∨ kind = 3 ∨ kind = 4 := by omega
  have hev : getC evRow 1 kind 1 = some [.str (eventW kind)] := by rcases hcases with rfl | rfl | rfl | rfl | rfl <;> simp [getC, evRow, eventW]
  have l1 : unit.length + 1 < 4611686018427387904 := by omega
  have hlen : (eventW kind).length ≤ 7 := by rcases hcases with rfl | rfl | rfl | rfl | rfl <;> simp [eventW]
  have l2 : unit.length + (eventW kind).length + 1 < 4611686018427387904 := by omega
  have l3 : unit.length + 1 + (eventW kind).length < 4611686018427387904 := by omega
  have wsub : wrapA .i64 4 = 4 := by decide
  have hmx : ¬ ((0 : Int) > (kind : Int)) := by omega
  have hmn : ¬ ((4 : Int) < (kind : Int)) := by omega
  refine draw_rd (op := .fieldAddr 66 (.tmp 1) 1) (d := some 5) (v := .ptr (some (a, 0 + 1))) rfl rfl rfl rfl rfl (by intro p hp; simp only [List.mem_singleton] at hp; subst hp <;> simp [readA, opd, Tr.get_set, loadA, loadCellsA, Heap.get_next_irrel, ofConst, ofScalar, f0, f1, g0, g1, hg, hg2, he3, he1, h3s, h1s, agg3, agg9, binA, intA, strA, l1, l2, wsub, builtinReadA, lenOpA, und25, min2, minMaxA, hmx, hmn, indexAddrA, intOf?, info9, sz9, hev]) (by simp [AV.same, eqB_refl]) rfl ?_
  refine draw_rd (op := .load 9 (.tmp 5)) (d := some 6) (v := .str unit) rfl rfl rfl rfl rfl (by intro p hp; simp only [List.mem_singleton] at hp; subst hp <;> simp [readA, opd, Tr.get_set, loadA, loadCellsA, Heap.get_next_irrel, ofConst, ofScalar, f0, f1, g0, g1, hg, hg2, he3, he1, h3s, h1s, agg3, agg9, binA, intA, strA, l1, l2, wsub, builtinReadA, lenOpA, und25, min2, minMaxA, hmx, hmn, indexAddrA, intOf?, info9, sz9, hev]) (by simp [AV.same, eqB_refl]) rfl ?_
  refine draw_rd (op := .binOp .add 9 (.tmp 6) (.const (.string ⟨#[32]⟩)) 9) (d := some 7) (v := .str (unit ++ [32])) rfl rfl rfl rfl rfl (by intro p hp; simp only [List.mem_singleton] at hp; subst hp <;> simp [readA, opd, Tr.get_set, loadA, loadCellsA, Heap.get_next_irrel, ofConst, ofScalar, f0, f1, g0, g1, hg, hg2, he3, he1, h3s, h1s, agg3, agg9, binA, intA, strA, l1, l2, wsub, builtinReadA, lenOpA, und25, min2, minMaxA, hmx, hmn, indexAddrA, intOf?, info9, sz9, hev]) (by simp [AV.same, eqB_refl]) rfl ?_
  refine draw_rd (op := .move (.tmp 3)) (d := some 8) (v := .slice (some (b, 0)) 5 (some 5)) rfl rfl rfl rfl rfl (by intro p hp; simp only [List.mem_singleton] at hp; subst hp <;> simp [readA, opd, Tr.get_set, loadA, loadCellsA, Heap.get_next_irrel, ofConst, ofScalar, f0, f1, g0, g1, hg, hg2, he3, he1, h3s, h1s, agg3, agg9, binA, intA, strA, l1, l2, wsub, builtinReadA, lenOpA, und25, min2, minMaxA, hmx, hmn, indexAddrA, intOf?, info9, sz9, hev]) (by simp [AV.same, eqB_refl]) rfl ?_
  refine draw_rd (op := .fieldAddr 66 (.tmp 1) 0) (d := some 9) (v := .ptr (some (a, 0))) rfl rfl rfl rfl rfl (by intro p hp; simp only [List.mem_singleton] at hp; subst hp <;> simp [readA, opd, Tr.get_set, loadA, loadCellsA, Heap.get_next_irrel, ofConst, ofScalar, f0, f1, g0, g1, hg, hg2, he3, he1, h3s, h1s, agg3, agg9, binA, intA, strA, l1, l2, wsub, builtinReadA, lenOpA, und25, min2, minMaxA, hmx, hmn, indexAddrA, intOf?, info9, sz9, hev]) (by simp [AV.same, eqB_refl]) rfl ?_
  refine draw_rd (op := .load 3 (.tmp 9)) (d := some 10) (v := .int .i64 kind) rfl rfl rfl rfl rfl (by intro p hp; simp only [List.mem_singleton] at hp; subst hp <;> simp [readA, opd, Tr.get_set, loadA, loadCellsA, Heap.get_next_irrel, ofConst, ofScalar, f0, f1, g0, g1, hg, hg2, he3, he1, h3s, h1s, agg3, agg9, binA, intA, strA, l1, l2, wsub, builtinReadA, lenOpA, und25, min2, minMaxA, hmx, hmn, indexAddrA, intOf?, info9, sz9, hev]) (by simp [AV.same, eqB_refl]) rfl ?_
  refine draw_rd (op := .call { callee := .builtin .max, args := #[.tmp 10, .const (.int .i64 0)], argTypes := #[3, 3] }) (d := some 11) (v := .int .i64 kind) rfl rfl rfl rfl rfl (by intro p hp; simp only [List.mem_singleton] at hp; subst hp <;> simp [readA, opd, Tr.get_set, loadA, loadCellsA, Heap.get_next_irrel, ofConst, ofScalar, f0, f1, g0, g1, hg, hg2, he3, he1, h3s, h1s, agg3, agg9, binA, intA, strA, l1, l2, wsub, builtinReadA, lenOpA, und25, min2, minMaxA, hmx, hmn, indexAddrA, intOf?, info9, sz9, hev]) (by simp [AV.same, eqB_refl]) rfl ?_
  refine draw_rd (op := .move (.tmp 3)) (d := some 12) (v := .slice (some (b, 0)) 5 (some 5)) rfl rfl rfl rfl rfl (by intro p hp; simp only [List.mem_singleton] at hp; subst hp <;> simp [readA, opd, Tr.get_set, loadA, loadCellsA, Heap.get_next_irrel, ofConst, ofScalar, f0, f1, g0, g1, hg, hg2, he3, he1, h3s, h1s, agg3, agg9, binA, intA, strA, l1, l2, wsub, builtinReadA, lenOpA, und25, min2, minMaxA, hmx, hmn, indexAddrA, intOf?, info9, sz9, hev]) (by simp [AV.same, eqB_refl]) rfl ?_
  refine draw_rd (op := .call { callee := .builtin .len, args := #[.tmp 12], argTypes := #[25] }) (d := some 13) (v := .int .i64 5) rfl rfl rfl rfl rfl (by intro p hp; simp only [List.mem_singleton] at hp; subst hp <;> simp [readA, opd, Tr.get_set, loadA, loadCellsA, Heap.get_next_irrel, ofConst, ofScalar, f0, f1, g0, g1, hg, hg2, he3, he1, h3s, h1s, agg3, agg9, binA, intA, strA, l1, l2, wsub, builtinReadA, lenOpA, und25, min2, minMaxA, hmx, hmn, indexAddrA, intOf?, info9, sz9, hev]) (by simp [AV.same, eqB_refl]) rfl ?_
  refine draw_rd (op := .binOp .sub 3 (.tmp 13) (.const (.int .i64 1)) 3) (d := some 14) (v := .int .i64 4) rfl rfl rfl rfl rfl (by intro p hp; simp only [List.mem_singleton] at hp; subst hp <;> simp [readA, opd, Tr.get_set, loadA, loadCellsA, Heap.get_next_irrel, ofConst, ofScalar, f0, f1, g0, g1, hg, hg2, he3, he1, h3s, h1s, agg3, agg9, binA, intA, strA, l1, l2, wsub, builtinReadA, lenOpA, und25, min2, minMaxA, hmx, hmn, indexAddrA, intOf?, info9, sz9, hev]) (by simp [AV.same, eqB_refl]) rfl ?_
  refine draw_rd (op := .call { callee := .builtin .min, args := #[.tmp 11, .tmp 14], argTypes := #[3, 3] }) (d := some 15) (v := .int .i64 kind) rfl rfl rfl rfl rfl (by intro p hp; simp only [List.mem_singleton] at hp; subst hp <;> simp [readA, opd, Tr.get_set, loadA, loadCellsA, Heap.get_next_irrel, ofConst, ofScalar, f0, f1, g0, g1, hg, hg2, he3, he1, h3s, h1s, agg3, agg9, binA, intA, strA, l1, l2, wsub, builtinReadA, lenOpA, und25, min2, minMaxA, hmx, hmn, indexAddrA, intOf?, info9, sz9, hev]) (by simp [AV.same, eqB_refl]) rfl ?_
  refine draw_rd (op := .indexAddr 25 (.tmp 8) (.tmp 15)) (d := some 16) (v := .ptr (some (b, kind))) rfl rfl rfl rfl rfl (by intro p hp; simp only [List.mem_singleton] at hp; subst hp <;> simp [readA, opd, Tr.get_set, loadA, loadCellsA, Heap.get_next_irrel, ofConst, ofScalar, f0, f1, g0, g1, hg, hg2, he3, he1, h3s, h1s, agg3, agg9, binA, intA, strA, l1, l2, wsub, builtinReadA, lenOpA, und25, min2, minMaxA, hmx, hmn, indexAddrA, intOf?, info9, sz9, hev, hk, show ((kind : Int) < 5) from by omega]) (by simp [AV.same, eqB_refl]) rfl ?_
  refine draw_rd (op := .load 9 (.tmp 16)) (d := some 17) (v := .str (eventW kind)) rfl rfl rfl rfl rfl (by intro p hp; simp only [List.mem_singleton] at hp; subst hp <;> simp [readA, opd, Tr.get_set, loadA, loadCellsA, Heap.get_next_irrel, ofConst, ofScalar, f0, f1, g0, g1, hg, hg2, he3, he1, h3s, h1s, agg3, agg9, binA, intA, strA, l1, l2, wsub, builtinReadA, lenOpA, und25, min2, minMaxA, hmx, hmn, indexAddrA, intOf?, info9, sz9, hev]) (by simp [AV.same, eqB_refl]) rfl ?_
  refine draw_rd (op := .binOp .add 9 (.tmp 7) (.tmp 17) 9) (d := some 18) (v := .str (unit ++ [32] ++ eventW kind)) rfl rfl rfl rfl rfl (by intro p hp; simp only [List.mem_singleton] at hp; subst hp <;> simp [readA, opd, Tr.get_set, loadA, loadCellsA, Heap.get_next_irrel, ofConst, ofScalar, f0, f1, g0, g1, hg, hg2, he3, he1, h3s, h1s, agg3, agg9, binA, intA, strA, l1, l2, wsub, builtinReadA, lenOpA, und25, min2, minMaxA, hmx, hmn, indexAddrA, intOf?, info9, sz9, hev, l3, List.append_assoc, show unit.length + 1 + (eventW kind).length < 4611686018427387904 from l3]) (by simp [AV.same, eqB_refl]) rfl ?_
  refine draw_rd (op := .assign (.tmp 18)) (d := some 2) (v := .str (unit ++ [32] ++ eventW kind)) rfl rfl rfl rfl rfl (by intro p hp; simp only [List.mem_singleton] at hp; subst hp <;> simp [readA, opd, Tr.get_set, loadA, loadCellsA, Heap.get_next_irrel, ofConst, ofScalar, f0, f1, g0, g1, hg, hg2, he3, he1, h3s, h1s, agg3, agg9, binA, intA, strA, l1, l2, wsub, builtinReadA, lenOpA, und25, min2, minMaxA, hmx, hmn, indexAddrA, intOf?, info9, sz9, hev]) (by simp [AV.same, eqB_refl]) rfl ?_
  simp only [drawA, Res.all_ok]
  exact hQ _ (by simp [Tr.get_set])

noncomputable def ev0 : Array Oper := (Tryz.f23.body.bind (regOf 0)).getD #[]
noncomputable def ev1 : Array Oper := (Tryz.f23.body.bind (regOf 1)).getD #[]
theorem evsize0 : ev0.size = 2 := by kernel_rfl
theorem evsize1 : ev1.size = 2 := by kernel_rfl
theorem event_body : Tryz.f23.body = some ((Code.region 0 ev0 false).seq ((Code.region 1 ev1 false).seq ((Code.region 2 ev2 true).seq .ret))) := by kernel_rfl
theorem event_nt : Tryz.f23.ntmps = 19 := by kernel_rfl
theorem event_rs : Tryz.f23.results.toList = [.tmp 2] := by kernel_rfl

set_option maxRecDepth 100000 in
set_option maxHeartbeats 4000000 in
theorem event_code (call : CallF) (n : Nat) (kind : Nat) (hk : kind < 5) (unit : List UInt8) (hu : unit.length < 1000) (h : Heap) (env : Env) (h0 : env.get 0 = some (.agg [.int .i64 kind, .str unit])) :
    (codeA Tryz.prog call 19 n ((Code.region 0 ev0 false).seq ((Code.region 1 ev1 false).seq ((Code.region 2 ev2 true).seq .ret))) env h).all
      fun o : AExit × Env × Heap => o.1 = AExit.ret ∧ o.2.1.get 2 = some (.str (unit ++ [32] ++ eventW kind)) ∧ h.next ≤ o.2.2.next ∧ ∀ id, id < h.next → o.2.2.get id = h.get id := by
  have hok : okCells Tryz.prog 66 (.agg [.int .i64 kind, .str unit]) = some [.int .i64 kind, .str unit] := by simp [okCells, cells_agg, sz66, AV.cellOk]
  rw [codeA_seq, Res.all_bind, codeA_region, regionA_seq, evsize0, Res.all_bind]
  show (opsA Tryz.prog call 19 ev0 [0, 1] env h).all _
  refine seq_nw (op := .box 66 (.tmp 0)) (d := some 1) (ob := .cells [[.int .i64 kind, .str unit]] 2 66 false 0) (f := fun id => .ptr (some (id, 0))) rfl rfl rfl rfl rfl (by simp [newA, opd, h0, hok]) rfl ?_
  refine seq_rd (op := .assign (.const (.string ⟨#[]⟩))) (d := some 2) (v := .str []) rfl rfl rfl rfl rfl rfl rfl ?_
  simp only [opsA, Res.all_ok]
  rw [codeA_seq, Res.all_bind, codeA_region, regionA_seq, evsize1, Res.all_bind]
  show (opsA Tryz.prog call 19 ev1 [0, 1] _ _).all _
  refine seq_nw (op := .buildSlice 25 5 #[(0, .const (.string ⟨#[105, 115, 115, 117, 101, 100]⟩)), (1, .const (.string ⟨#[115, 116, 97, 114, 116, 101, 100]⟩)), (2, .const (.string ⟨#[97, 115, 107, 101, 100]⟩)), (3, .const (.string ⟨#[115, 116, 111, 112, 112, 101, 100]⟩)), (4, .const (.string ⟨#[98, 114, 111, 107, 101]⟩))])
    (d := some 4) (ob := .cells evRow 1 9 false 0) (f := fun id => .slice (some (id, 0)) 5 (some 5)) rfl rfl rfl rfl rfl (by simp only [newA, opd, List.map_cons, List.map_nil]; exact row25) rfl ?_
  refine seq_rd (op := .assign (.tmp 4)) (d := some 3) (v := .slice (some (h.next + 1, 0)) 5 (some 5)) rfl rfl rfl rfl rfl (by simp [readA, opd, Tr.get_set]) rfl ?_
  simp only [opsA, Res.all_ok]
  rw [codeA_seq, Res.all_bind, codeA_region, Res.all_bind]
  refine ev_reg call _ _ h.next (h.next + 1) kind hk unit hu _ (by simp [Tr.get_set]) (by simp [Tr.get_set]) (by rw [Heap.get_new_ne (by show h.next ≠ h.next + 1; omega), Heap.get_new_same]) (Heap.get_new_same ..) ?_
  intro env' he
  simp only [Res.all_ok, codeA_ret]
  refine ⟨trivial, he, by show h.next ≤ h.next + 1 + 1 + 15; omega, fun id hid => ?_⟩
  show (((h.new _).new _ : Heap)).get id = _
  rw [Heap.get_new_ne (by show id ≠ h.next + 1; omega), Heap.get_new_ne (by omega)]

set_option maxRecDepth 100000 in
theorem event_run (I : Intr) (n : Nat) (kind : Nat) (hk : kind < 5) (unit : List UInt8) (hu : unit.length < 1000) (h : Heap) (hI : I 23 [.agg [.int .i64 kind, .str unit]] h = none) :
    (callA Tryz.prog I (n + 1) 23 [.agg [.int .i64 kind, .str unit]] h).all fun o => o.1 = .str (unit ++ [32] ++ eventW kind) ∧ h.next ≤ o.2.next ∧ ∀ id, id < h.next → o.2.get id = h.get id := by
  simp only [callA, hI, Tryz.func23, bodyA, event_body, event_nt]
  generalize callA Tryz.prog I n = call
  rw [if_pos (by simp), Res.all_bind]
  obtain ⟨env0, henv0⟩ : ∃ env0, env0 = argsEnv 0 [.agg [.int .i64 kind, .str unit]] .nil := ⟨_, rfl⟩
  rw [← henv0]
  have h00 : env0.get 0 = some (.agg [.int .i64 kind, .str unit]) := by rw [henv0]; simp [argsEnv, Tr.get_set]
  refine Res.all_mono ?_ (event_code call n kind hk unit hu h env0 h00)
  rintro ⟨e, env, h'⟩ ⟨q1, q2, q3, q4⟩
  simp only at q1 q2 q3 q4
  subst q1
  have : resultsA Tryz.prog Tryz.f23 env h' = some (.str (unit ++ [32] ++ eventW kind)) := by simp [resultsA, event_rs, resList, resA, q2]
  simp only [this, Res.all_ok]
  exact ⟨trivial, q3, q4⟩
end Go.Am
