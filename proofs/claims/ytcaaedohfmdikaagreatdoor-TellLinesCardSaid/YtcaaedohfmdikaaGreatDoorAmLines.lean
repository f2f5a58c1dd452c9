/- Part of the proof of TellLines: its text AmLines. Conditions: none. -/
import Derived.Test.YtcaaedohfmdikaaGreatDoorAmSay2
set_option linter.unusedVariables false
set_option linter.unusedSimpArgs false
open Go Go.Am Go.Proofs Go.RowKit
namespace Go.Am

/-! ### TellLines at the machine -/
noncomputable def tl (k : Nat) : Array Oper := (Tryz.f5.body.bind (regOf k)).getD #[]
noncomputable def tlB3 : Code := (Code.region 14 (tl 14) false).seq (((Code.region 15 (tl 15) false).seq (.cond (.tmp 32) ((Code.region 16 (tl 16) false).seq .ret) .skip)).seq (((Code.region 17 (tl 17) false).seq (.cond (.tmp 34) (.region 18 (tl 18) false) .skip)).seq (.region 19 (tl 19) false)))
noncomputable def tlIn : Code := (Code.region 13 (tl 13) false).seq ((Code.cond (.tmp 26) .skip (.exit 2)).seq ((Code.block 3 tlB3).seq (.region 20 (tl 20) false)))
noncomputable def tlB1 : Code := (Code.region 9 (tl 9) false).seq (((Code.region 10 (tl 10) false).seq (.cond (.tmp 22) ((Code.region 11 (tl 11) false).seq .ret) .skip)).seq (((Code.region 12 (tl 12) false).seq (.block 2 (.loop tlIn))).seq ((Code.region 21 (tl 21) false).seq ((Code.region 22 (tl 22) false).seq ((Code.region 23 (tl 23) false).seq (.cond (.tmp 47) ((Code.region 24 (tl 24) false).seq .ret) .skip))))))
noncomputable def tlOut : Code := (Code.region 8 (tl 8) false).seq ((Code.cond (.tmp 17) .skip (.exit 0)).seq ((Code.block 1 tlB1).seq (.region 25 (tl 25) false)))
theorem tl_body : Tryz.f5.body = some ((Code.region 0 (tl 0) false).seq (((Code.region 1 (tl 1) false).seq (.cond (.tmp 10) ((Code.region 2 (tl 2) false).seq .ret) .skip)).seq (((Code.region 3 (tl 3) false).seq (.cond (.tmp 13) ((Code.region 4 (tl 4) false).seq .ret) .skip)).seq ((Code.region 5 (tl 5) false).seq ((Code.region 6 (tl 6) false).seq (((Code.region 7 (tl 7) false).seq (.block 0 (.loop tlOut))).seq ((Code.region 26 (tl 26) false).seq .ret))))))) := by kernel_rfl

theorem und68 : Tryz.prog.underlying 68 = some (.slice 25) := by kernel_rfl
theorem info25 : (Tryz.prog.info? 25).isSome = true := by kernel_rfl
theorem sz25 : szT Tryz.prog 25 = 1 := by kernel_rfl
theorem agg25 : aggT Tryz.prog 25 = some false := by kernel_rfl
theorem new74 (env : Env) : newA Tryz.prog env (.alloc 74) = some (.cells [[.ptr none, .slice none 0 (some 0)]] 2 74 false 0, fun id => .ptr (some (id, 0))) := by kernel_rfl

set_option maxRecDepth 100000 in
set_option maxHeartbeats 4000000 in
theorem tl_0 (call : CallF) (env : Env) (h : Heap)  (Q : Env × Heap → Prop) (hQ : ∀ env' : Env, Keep [0] env env' → Q (env', h)) :
    (opsA Tryz.prog call 52 (tl 0) (List.range (tl 0).size) env h).all Q := by
  rw [show (tl 0).size = 1 from by kernel_rfl]
  show (opsA Tryz.prog call 52 (tl 0) [0] env h).all Q
  refine st_rd (op := .assign (.const (.bool false))) (d := (some 2)) (v := .bool false) rfl rfl rfl (wanted_n rfl) rfl (by simp [readA, opd, Tr.get_set, ofConst, ofScalar, binA, intA, cmpA, strA, unA, builtinReadA, lenOpA, loadA, loadCellsA, Heap.get_next_irrel]) rfl ?_
  rw [opsA_nil, Res.all_ok]
  exact hQ _ (by simp [Keep, Tr.get_set]) 

set_option maxRecDepth 100000 in
set_option maxHeartbeats 4000000 in
theorem tl_1 (call : CallF) (env : Env) (h : Heap) (ha : ∀ h, call 18 [] h = .ok (.bool true, h)) (Q : Env × Heap → Prop) (hQ : ∀ env' : Env, Keep [0] env env' → env'.get 10 = some (.bool false) → Q (env', h)) :
    (opsA Tryz.prog call 52 (tl 1) (List.range (tl 1).size) env h).all Q := by
  rw [show (tl 1).size = 2 from by kernel_rfl]
  show (opsA Tryz.prog call 52 (tl 1) [0, 1] env h).all Q
  refine st_act (op := .call { callee := .value (.func 18), args := #[], argTypes := #[] }) (d := (some 9)) (v := .bool true) rfl rfl rfl (wanted_n rfl) rfl (actA_ok (by simp [opd]) (ha _)) rfl ?_
  refine st_rd (op := .unOp .not 4 (.tmp 9)) (d := (some 10)) (v := .bool false) rfl rfl rfl (wanted_n rfl) rfl (by simp [readA, opd, Tr.get_set, ofConst, ofScalar, binA, intA, cmpA, strA, unA, builtinReadA, lenOpA, loadA, loadCellsA, Heap.get_next_irrel]) rfl ?_
  rw [opsA_nil, Res.all_ok]
  exact hQ _ (by simp [Keep, Tr.get_set]) (by simp [Tr.get_set])

set_option maxRecDepth 100000 in
set_option maxHeartbeats 4000000 in
theorem tl_3t (call : CallF) (env : Env) (h : Heap) (a : Option (Nat × Nat)) (n : Nat) (c : Option Nat) (h0 : env.get 0 = some (.slice a n c)) (hc : (20 : Int) < n) (Q : Env × Heap → Prop) (hQ : ∀ env' : Env, Keep [0] env env' → env'.get 13 = some (.bool true) → Q (env', h)) :
    (opsA Tryz.prog call 52 (tl 3) (List.range (tl 3).size) env h).all Q := by
  rw [show (tl 3).size = 3 from by kernel_rfl]
  show (opsA Tryz.prog call 52 (tl 3) [0, 1, 2] env h).all Q
  refine st_rd (op := .move (.tmp 0)) (d := (some 11)) (v := .slice a n c) rfl rfl rfl (wanted_n rfl) rfl (by simp [readA, opd, Tr.get_set, ofConst, ofScalar, binA, intA, cmpA, strA, unA, builtinReadA, lenOpA, loadA, loadCellsA, Heap.get_next_irrel, h0, hc, und68]) rfl ?_
  refine st_rd (op := .call { callee := .builtin .len, args := #[(.tmp 11)], argTypes := #[68] }) (d := (some 12)) (v := .int .i64 n) rfl rfl rfl (wanted_n rfl) rfl (by simp [readA, opd, Tr.get_set, ofConst, ofScalar, binA, intA, cmpA, strA, unA, builtinReadA, lenOpA, loadA, loadCellsA, Heap.get_next_irrel, h0, hc, und68]) rfl ?_
  refine st_rd (op := .binOp .gtr 3 (.tmp 12) (.const (.int .i64 20)) 3) (d := (some 13)) (v := .bool true) rfl rfl rfl (wanted_n rfl) rfl (by simp [readA, opd, Tr.get_set, ofConst, ofScalar, binA, intA, cmpA, strA, unA, builtinReadA, lenOpA, loadA, loadCellsA, Heap.get_next_irrel, h0, hc, und68]) rfl ?_
  rw [opsA_nil, Res.all_ok]
  exact hQ _ (by simp [Keep, Tr.get_set]) (by simp [Tr.get_set])

set_option maxRecDepth 100000 in
set_option maxHeartbeats 4000000 in
theorem tl_3f (call : CallF) (env : Env) (h : Heap) (a : Option (Nat × Nat)) (n : Nat) (c : Option Nat) (h0 : env.get 0 = some (.slice a n c)) (hc : ¬ (20 : Int) < n) (Q : Env × Heap → Prop) (hQ : ∀ env' : Env, Keep [0] env env' → env'.get 13 = some (.bool false) → Q (env', h)) :
    (opsA Tryz.prog call 52 (tl 3) (List.range (tl 3).size) env h).all Q := by
  rw [show (tl 3).size = 3 from by kernel_rfl]
  show (opsA Tryz.prog call 52 (tl 3) [0, 1, 2] env h).all Q
  refine st_rd (op := .move (.tmp 0)) (d := (some 11)) (v := .slice a n c) rfl rfl rfl (wanted_n rfl) rfl (by simp [readA, opd, Tr.get_set, ofConst, ofScalar, binA, intA, cmpA, strA, unA, builtinReadA, lenOpA, loadA, loadCellsA, Heap.get_next_irrel, h0, hc, und68]) rfl ?_
  refine st_rd (op := .call { callee := .builtin .len, args := #[(.tmp 11)], argTypes := #[68] }) (d := (some 12)) (v := .int .i64 n) rfl rfl rfl (wanted_n rfl) rfl (by simp [readA, opd, Tr.get_set, ofConst, ofScalar, binA, intA, cmpA, strA, unA, builtinReadA, lenOpA, loadA, loadCellsA, Heap.get_next_irrel, h0, hc, und68]) rfl ?_
  refine st_rd (op := .binOp .gtr 3 (.tmp 12) (.const (.int .i64 20)) 3) (d := (some 13)) (v := .bool false) rfl rfl rfl (wanted_n rfl) rfl (by simp [readA, opd, Tr.get_set, ofConst, ofScalar, binA, intA, cmpA, strA, unA, builtinReadA, lenOpA, loadA, loadCellsA, Heap.get_next_irrel, h0, hc, und68]) rfl ?_
  rw [opsA_nil, Res.all_ok]
  exact hQ _ (by simp [Keep, Tr.get_set]) (by simp [Tr.get_set])

set_option maxRecDepth 100000 in
set_option maxHeartbeats 4000000 in
theorem tl_4 (call : CallF) (env : Env) (h : Heap)  (Q : Env × Heap → Prop) (hQ : ∀ env' : Env, env'.get 2 = some (.bool true) → Q (env', h)) :
    (opsA Tryz.prog call 52 (tl 4) (List.range (tl 4).size) env h).all Q := by
  rw [show (tl 4).size = 1 from by kernel_rfl]
  show (opsA Tryz.prog call 52 (tl 4) [0] env h).all Q
  refine st_rd (op := .assign (.const (.bool true))) (d := (some 2)) (v := .bool true) rfl rfl rfl (wanted_n rfl) rfl (by simp [readA, opd, Tr.get_set, ofConst, ofScalar, binA, intA, cmpA, strA, unA, builtinReadA, lenOpA, loadA, loadCellsA, Heap.get_next_irrel]) rfl ?_
  rw [opsA_nil, Res.all_ok]
  exact hQ _  (by simp [Tr.get_set])

set_option maxRecDepth 100000 in
set_option maxHeartbeats 4000000 in
theorem tl_11 (call : CallF) (env : Env) (h : Heap)  (Q : Env × Heap → Prop) (hQ : ∀ env' : Env, env'.get 2 = some (.bool true) → Q (env', h)) :
    (opsA Tryz.prog call 52 (tl 11) (List.range (tl 11).size) env h).all Q := by
  rw [show (tl 11).size = 1 from by kernel_rfl]
  show (opsA Tryz.prog call 52 (tl 11) [0] env h).all Q
  refine st_rd (op := .assign (.const (.bool true))) (d := (some 2)) (v := .bool true) rfl rfl rfl (wanted_n rfl) rfl (by simp [readA, opd, Tr.get_set, ofConst, ofScalar, binA, intA, cmpA, strA, unA, builtinReadA, lenOpA, loadA, loadCellsA, Heap.get_next_irrel]) rfl ?_
  rw [opsA_nil, Res.all_ok]
  exact hQ _  (by simp [Tr.get_set])

set_option maxRecDepth 100000 in
set_option maxHeartbeats 4000000 in
theorem tl_16 (call : CallF) (env : Env) (h : Heap)  (Q : Env × Heap → Prop) (hQ : ∀ env' : Env, env'.get 2 = some (.bool true) → Q (env', h)) :
    (opsA Tryz.prog call 52 (tl 16) (List.range (tl 16).size) env h).all Q := by
  rw [show (tl 16).size = 1 from by kernel_rfl]
  show (opsA Tryz.prog call 52 (tl 16) [0] env h).all Q
  refine st_rd (op := .assign (.const (.bool true))) (d := (some 2)) (v := .bool true) rfl rfl rfl (wanted_n rfl) rfl (by simp [readA, opd, Tr.get_set, ofConst, ofScalar, binA, intA, cmpA, strA, unA, builtinReadA, lenOpA, loadA, loadCellsA, Heap.get_next_irrel]) rfl ?_
  rw [opsA_nil, Res.all_ok]
  exact hQ _  (by simp [Tr.get_set])

set_option maxRecDepth 100000 in
set_option maxHeartbeats 4000000 in
theorem tl_5 (call : CallF) (env : Env) (h : Heap)  (Q : Env × Heap → Prop) (hQ : ∀ env' : Env, Keep [0] env env' → env'.get 3 = some (.ptr (some (h.next, 0))) → Q (env', h.new (.cells [[.ptr none, .slice none 0 (some 0)]] 2 74 false 0))) :
    (opsA Tryz.prog call 52 (tl 5) (List.range (tl 5).size) env h).all Q := by
  rw [show (tl 5).size = 1 from by kernel_rfl]
  show (opsA Tryz.prog call 52 (tl 5) [0] env h).all Q
  refine st_nw (op := .alloc 74) (d := (some 3)) (ob := .cells [[.ptr none, .slice none 0 (some 0)]] 2 74 false 0) (f := fun id => .ptr (some (id, 0))) rfl rfl rfl (wanted_n rfl) rfl (new74 _) rfl ?_
  rw [opsA_nil, Res.all_ok]
  exact hQ _ (by simp [Keep, Tr.get_set]) (by simp [Tr.get_set])

set_option maxRecDepth 100000 in
set_option maxHeartbeats 4000000 in
theorem tl_6 (call : CallF) (env : Env) (h : Heap)  (Q : Env × Heap → Prop) (hQ : ∀ env' : Env, Keep [0, 3] env env' → env'.get 4 = some (.str []) → Q (env', h)) :
    (opsA Tryz.prog call 52 (tl 6) (List.range (tl 6).size) env h).all Q := by
  rw [show (tl 6).size = 1 from by kernel_rfl]
  show (opsA Tryz.prog call 52 (tl 6) [0] env h).all Q
  refine st_rd (op := .assign (.const (.string ⟨#[]⟩))) (d := (some 4)) (v := .str []) rfl rfl rfl (wanted_n rfl) rfl (by simp [readA, opd, Tr.get_set, ofConst, ofScalar, binA, intA, cmpA, strA, unA, builtinReadA, lenOpA, loadA, loadCellsA, Heap.get_next_irrel]) rfl ?_
  rw [opsA_nil, Res.all_ok]
  exact hQ _ (by simp [Keep, Tr.get_set]) (by simp [Tr.get_set])

set_option maxRecDepth 100000 in
set_option maxHeartbeats 4000000 in
theorem tl_7 (call : CallF) (env : Env) (h : Heap) (a : Option (Nat × Nat)) (n : Nat) (c : Option Nat) (h0 : env.get 0 = some (.slice a n c)) (Q : Env × Heap → Prop) (hQ : ∀ env' : Env, Keep [3, 4] env env' → env'.get 14 = some (.slice a n c) → env'.get 15 = some (.int .i64 n) → env'.get 16 = some (.int .i64 0) → Q (env', h)) :
    (opsA Tryz.prog call 52 (tl 7) (List.range (tl 7).size) env h).all Q := by
  rw [show (tl 7).size = 3 from by kernel_rfl]
  show (opsA Tryz.prog call 52 (tl 7) [0, 1, 2] env h).all Q
  refine st_rd (op := .move (.tmp 0)) (d := (some 14)) (v := .slice a n c) rfl rfl rfl (wanted_n rfl) rfl (by simp [readA, opd, Tr.get_set, ofConst, ofScalar, binA, intA, cmpA, strA, unA, builtinReadA, lenOpA, loadA, loadCellsA, Heap.get_next_irrel, h0, und68]) rfl ?_
  refine st_rd (op := .call { callee := .builtin .len, args := #[(.tmp 14)], argTypes := #[68] }) (d := (some 15)) (v := .int .i64 n) rfl rfl rfl (wanted_n rfl) rfl (by simp [readA, opd, Tr.get_set, ofConst, ofScalar, binA, intA, cmpA, strA, unA, builtinReadA, lenOpA, loadA, loadCellsA, Heap.get_next_irrel, h0, und68]) rfl ?_
  refine st_rd (op := .move (.const (.int .i64 0))) (d := (some 16)) (v := .int .i64 0) rfl rfl rfl (wanted_n rfl) rfl (by simp [readA, opd, Tr.get_set, ofConst, ofScalar, binA, intA, cmpA, strA, unA, builtinReadA, lenOpA, loadA, loadCellsA, Heap.get_next_irrel, h0, und68]) rfl ?_
  rw [opsA_nil, Res.all_ok]
  exact hQ _ (by simp [Keep, Tr.get_set]) (by simp [Tr.get_set]) (by simp [Tr.get_set]) (by simp [Tr.get_set])

set_option maxRecDepth 100000 in
set_option maxHeartbeats 4000000 in
theorem tl_8t (call : CallF) (env : Env) (h : Heap) (i n : Nat) (h16 : env.get 16 = some (.int .i64 i)) (h15 : env.get 15 = some (.int .i64 n)) (hc : (i : Int) < n) (Q : Env × Heap → Prop) (hQ : ∀ env' : Env, Keep [3, 4, 14, 15, 16] env env' → env'.get 17 = some (.bool true) → Q (env', h)) :
    (opsA Tryz.prog call 52 (tl 8) (List.range (tl 8).size) env h).all Q := by
  rw [show (tl 8).size = 1 from by kernel_rfl]
  show (opsA Tryz.prog call 52 (tl 8) [0] env h).all Q
  refine st_rd (op := .binOp .lss 3 (.tmp 16) (.tmp 15) 3) (d := (some 17)) (v := .bool true) rfl rfl rfl (wanted_n rfl) rfl (by simp [readA, opd, Tr.get_set, ofConst, ofScalar, binA, intA, cmpA, strA, unA, builtinReadA, lenOpA, loadA, loadCellsA, Heap.get_next_irrel, h16, h15, hc]) rfl ?_
  rw [opsA_nil, Res.all_ok]
  exact hQ _ (by simp [Keep, Tr.get_set]) (by simp [Tr.get_set])

set_option maxRecDepth 100000 in
set_option maxHeartbeats 4000000 in
theorem tl_8f (call : CallF) (env : Env) (h : Heap) (i n : Nat) (h16 : env.get 16 = some (.int .i64 i)) (h15 : env.get 15 = some (.int .i64 n)) (hc : ¬ (i : Int) < n) (Q : Env × Heap → Prop) (hQ : ∀ env' : Env, Keep [3, 4, 14, 15, 16] env env' → env'.get 17 = some (.bool false) → Q (env', h)) :
    (opsA Tryz.prog call 52 (tl 8) (List.range (tl 8).size) env h).all Q := by
  rw [show (tl 8).size = 1 from by kernel_rfl]
  show (opsA Tryz.prog call 52 (tl 8) [0] env h).all Q
  refine st_rd (op := .binOp .lss 3 (.tmp 16) (.tmp 15) 3) (d := (some 17)) (v := .bool false) rfl rfl rfl (wanted_n rfl) rfl (by simp [readA, opd, Tr.get_set, ofConst, ofScalar, binA, intA, cmpA, strA, unA, builtinReadA, lenOpA, loadA, loadCellsA, Heap.get_next_irrel, h16, h15, hc]) rfl ?_
  rw [opsA_nil, Res.all_ok]
  exact hQ _ (by simp [Keep, Tr.get_set]) (by simp [Tr.get_set])

set_option maxRecDepth 100000 in
set_option maxHeartbeats 4000000 in
theorem tl_9 (call : CallF) (env : Env) (h : Heap) (o i n : Nat) (cc : Option Nat) (els : List AV) (el : TypeId) (rw : AV) (h14 : env.get 14 = some (.slice (some (o, 0)) n cc)) (h16 : env.get 16 = some (.int .i64 i)) (hi : i < n) (hg : h.get o = some (.cells (ones els) 1 el true 0)) (hw : els[i]? = some rw) (Q : Env × Heap → Prop) (hQ : ∀ env' : Env, Keep [3, 4, 14, 15, 16] env env' → env'.get 6 = some rw → Q (env', h)) :
    (opsA Tryz.prog call 52 (tl 9) (List.range (tl 9).size) env h).all Q := by
  have hi0 : (0 : Int) ≤ i := by omega
  have hi1 : (i : Int) < n := by omega
  have hc1 := getC_one hw
  rw [show (tl 9).size = 3 from by kernel_rfl]
  show (opsA Tryz.prog call 52 (tl 9) [0, 1, 2] env h).all Q
  refine st_rd (op := .indexAddr 68 (.tmp 14) (.tmp 16)) (d := (some 18)) (v := .ptr (some (o, i))) rfl rfl rfl (wanted_n rfl) rfl (by simp [readA, opd, Tr.get_set, ofConst, ofScalar, binA, intA, cmpA, strA, unA, builtinReadA, lenOpA, loadA, loadCellsA, Heap.get_next_irrel, h14, h16, hi0, hi1, hi, indexAddrA, intOf?, und68, info25, sz25, agg25, hg, hc1]) rfl ?_
  refine st_rd (op := .load 25 (.tmp 18)) (d := (some 19)) (v := rw) rfl rfl rfl (wanted_n rfl) rfl (by simp [readA, opd, Tr.get_set, ofConst, ofScalar, binA, intA, cmpA, strA, unA, builtinReadA, lenOpA, loadA, loadCellsA, Heap.get_next_irrel, h14, h16, hi0, hi1, hi, indexAddrA, intOf?, und68, info25, sz25, agg25, hg, hc1]) rfl ?_
  refine st_rd (op := .assign (.tmp 19)) (d := (some 6)) (v := rw) rfl rfl rfl (wanted_n rfl) rfl (by simp [readA, opd, Tr.get_set, ofConst, ofScalar, binA, intA, cmpA, strA, unA, builtinReadA, lenOpA, loadA, loadCellsA, Heap.get_next_irrel, h14, h16, hi0, hi1, hi, indexAddrA, intOf?, und68, info25, sz25, agg25, hg, hc1]) rfl ?_
  rw [opsA_nil, Res.all_ok]
  exact hQ _ (by simp [Keep, Tr.get_set]) (by simp [Tr.get_set])

set_option maxRecDepth 100000 in
set_option maxHeartbeats 4000000 in
theorem tl_10t (call : CallF) (env : Env) (h : Heap) (a : Option (Nat × Nat)) (L : Nat) (cc : Option Nat) (h6 : env.get 6 = some (.slice a L cc)) (hc : (10 : Int) < L) (Q : Env × Heap → Prop) (hQ : ∀ env' : Env, Keep [3, 4, 14, 15, 16, 6] env env' → env'.get 22 = some (.bool true) → Q (env', h)) :
    (opsA Tryz.prog call 52 (tl 10) (List.range (tl 10).size) env h).all Q := by
  rw [show (tl 10).size = 3 from by kernel_rfl]
  show (opsA Tryz.prog call 52 (tl 10) [0, 1, 2] env h).all Q
  refine st_rd (op := .move (.tmp 6)) (d := (some 20)) (v := .slice a L cc) rfl rfl rfl (wanted_n rfl) rfl (by simp [readA, opd, Tr.get_set, ofConst, ofScalar, binA, intA, cmpA, strA, unA, builtinReadA, lenOpA, loadA, loadCellsA, Heap.get_next_irrel, h6, hc, und25]) rfl ?_
  refine st_rd (op := .call { callee := .builtin .len, args := #[(.tmp 20)], argTypes := #[25] }) (d := (some 21)) (v := .int .i64 L) rfl rfl rfl (wanted_n rfl) rfl (by simp [readA, opd, Tr.get_set, ofConst, ofScalar, binA, intA, cmpA, strA, unA, builtinReadA, lenOpA, loadA, loadCellsA, Heap.get_next_irrel, h6, hc, und25]) rfl ?_
  refine st_rd (op := .binOp .gtr 3 (.tmp 21) (.const (.int .i64 10)) 3) (d := (some 22)) (v := .bool true) rfl rfl rfl (wanted_n rfl) rfl (by simp [readA, opd, Tr.get_set, ofConst, ofScalar, binA, intA, cmpA, strA, unA, builtinReadA, lenOpA, loadA, loadCellsA, Heap.get_next_irrel, h6, hc, und25]) rfl ?_
  rw [opsA_nil, Res.all_ok]
  exact hQ _ (by simp [Keep, Tr.get_set]) (by simp [Tr.get_set])

set_option maxRecDepth 100000 in
set_option maxHeartbeats 4000000 in
theorem tl_10f (call : CallF) (env : Env) (h : Heap) (a : Option (Nat × Nat)) (L : Nat) (cc : Option Nat) (h6 : env.get 6 = some (.slice a L cc)) (hc : ¬ (10 : Int) < L) (Q : Env × Heap → Prop) (hQ : ∀ env' : Env, Keep [3, 4, 14, 15, 16, 6] env env' → env'.get 22 = some (.bool false) → Q (env', h)) :
    (opsA Tryz.prog call 52 (tl 10) (List.range (tl 10).size) env h).all Q := by
  rw [show (tl 10).size = 3 from by kernel_rfl]
  show (opsA Tryz.prog call 52 (tl 10) [0, 1, 2] env h).all Q
  refine st_rd (op := .move (.tmp 6)) (d := (some 20)) (v := .slice a L cc) rfl rfl rfl (wanted_n rfl) rfl (by simp [readA, opd, Tr.get_set, ofConst, ofScalar, binA, intA, cmpA, strA, unA, builtinReadA, lenOpA, loadA, loadCellsA, Heap.get_next_irrel, h6, hc, und25]) rfl ?_
  refine st_rd (op := .call { callee := .builtin .len, args := #[(.tmp 20)], argTypes := #[25] }) (d := (some 21)) (v := .int .i64 L) rfl rfl rfl (wanted_n rfl) rfl (by simp [readA, opd, Tr.get_set, ofConst, ofScalar, binA, intA, cmpA, strA, unA, builtinReadA, lenOpA, loadA, loadCellsA, Heap.get_next_irrel, h6, hc, und25]) rfl ?_
  refine st_rd (op := .binOp .gtr 3 (.tmp 21) (.const (.int .i64 10)) 3) (d := (some 22)) (v := .bool false) rfl rfl rfl (wanted_n rfl) rfl (by simp [readA, opd, Tr.get_set, ofConst, ofScalar, binA, intA, cmpA, strA, unA, builtinReadA, lenOpA, loadA, loadCellsA, Heap.get_next_irrel, h6, hc, und25]) rfl ?_
  rw [opsA_nil, Res.all_ok]
  exact hQ _ (by simp [Keep, Tr.get_set]) (by simp [Tr.get_set])

set_option maxRecDepth 100000 in
set_option maxHeartbeats 4000000 in
theorem tl_12 (call : CallF) (env : Env) (h : Heap) (a : Option (Nat × Nat)) (L : Nat) (cc : Option Nat) (h6 : env.get 6 = some (.slice a L cc)) (Q : Env × Heap → Prop) (hQ : ∀ env' : Env, Keep [3, 4, 14, 15, 16, 6] env env' → env'.get 23 = some (.slice a L cc) → env'.get 24 = some (.int .i64 L) → env'.get 25 = some (.int .i64 0) → Q (env', h)) :
    (opsA Tryz.prog call 52 (tl 12) (List.range (tl 12).size) env h).all Q := by
  rw [show (tl 12).size = 3 from by kernel_rfl]
  show (opsA Tryz.prog call 52 (tl 12) [0, 1, 2] env h).all Q
  refine st_rd (op := .move (.tmp 6)) (d := (some 23)) (v := .slice a L cc) rfl rfl rfl (wanted_n rfl) rfl (by simp [readA, opd, Tr.get_set, ofConst, ofScalar, binA, intA, cmpA, strA, unA, builtinReadA, lenOpA, loadA, loadCellsA, Heap.get_next_irrel, h6, und25]) rfl ?_
  refine st_rd (op := .call { callee := .builtin .len, args := #[(.tmp 23)], argTypes := #[25] }) (d := (some 24)) (v := .int .i64 L) rfl rfl rfl (wanted_n rfl) rfl (by simp [readA, opd, Tr.get_set, ofConst, ofScalar, binA, intA, cmpA, strA, unA, builtinReadA, lenOpA, loadA, loadCellsA, Heap.get_next_irrel, h6, und25]) rfl ?_
  refine st_rd (op := .move (.const (.int .i64 0))) (d := (some 25)) (v := .int .i64 0) rfl rfl rfl (wanted_n rfl) rfl (by simp [readA, opd, Tr.get_set, ofConst, ofScalar, binA, intA, cmpA, strA, unA, builtinReadA, lenOpA, loadA, loadCellsA, Heap.get_next_irrel, h6, und25]) rfl ?_
  rw [opsA_nil, Res.all_ok]
  exact hQ _ (by simp [Keep, Tr.get_set]) (by simp [Tr.get_set]) (by simp [Tr.get_set]) (by simp [Tr.get_set])

set_option maxRecDepth 100000 in
set_option maxHeartbeats 4000000 in
theorem tl_13t (call : CallF) (env : Env) (h : Heap) (k L : Nat) (h25 : env.get 25 = some (.int .i64 k)) (h24 : env.get 24 = some (.int .i64 L)) (hc : (k : Int) < L) (Q : Env × Heap → Prop) (hQ : ∀ env' : Env, Keep [3, 6, 14, 15, 16, 23, 24, 4, 25] env env' → env'.get 26 = some (.bool true) → Q (env', h)) :
    (opsA Tryz.prog call 52 (tl 13) (List.range (tl 13).size) env h).all Q := by
  rw [show (tl 13).size = 1 from by kernel_rfl]
  show (opsA Tryz.prog call 52 (tl 13) [0] env h).all Q
  refine st_rd (op := .binOp .lss 3 (.tmp 25) (.tmp 24) 3) (d := (some 26)) (v := .bool true) rfl rfl rfl (wanted_n rfl) rfl (by simp [readA, opd, Tr.get_set, ofConst, ofScalar, binA, intA, cmpA, strA, unA, builtinReadA, lenOpA, loadA, loadCellsA, Heap.get_next_irrel, h25, h24, hc]) rfl ?_
  rw [opsA_nil, Res.all_ok]
  exact hQ _ (by simp [Keep, Tr.get_set]) (by simp [Tr.get_set])

set_option maxRecDepth 100000 in
set_option maxHeartbeats 4000000 in
theorem tl_13f (call : CallF) (env : Env) (h : Heap) (k L : Nat) (h25 : env.get 25 = some (.int .i64 k)) (h24 : env.get 24 = some (.int .i64 L)) (hc : ¬ (k : Int) < L) (Q : Env × Heap → Prop) (hQ : ∀ env' : Env, Keep [3, 6, 14, 15, 16, 23, 24, 4, 25] env env' → env'.get 26 = some (.bool false) → Q (env', h)) :
    (opsA Tryz.prog call 52 (tl 13) (List.range (tl 13).size) env h).all Q := by
  rw [show (tl 13).size = 1 from by kernel_rfl]
  show (opsA Tryz.prog call 52 (tl 13) [0] env h).all Q
  refine st_rd (op := .binOp .lss 3 (.tmp 25) (.tmp 24) 3) (d := (some 26)) (v := .bool false) rfl rfl rfl (wanted_n rfl) rfl (by simp [readA, opd, Tr.get_set, ofConst, ofScalar, binA, intA, cmpA, strA, unA, builtinReadA, lenOpA, loadA, loadCellsA, Heap.get_next_irrel, h25, h24, hc]) rfl ?_
  rw [opsA_nil, Res.all_ok]
  exact hQ _ (by simp [Keep, Tr.get_set]) (by simp [Tr.get_set])

set_option maxRecDepth 100000 in
set_option maxHeartbeats 4000000 in
theorem tl_14 (call : CallF) (env : Env) (h : Heap) (id k L : Nat) (cc : Option Nat) (els : List AV) (el : TypeId) (w : List UInt8) (h23 : env.get 23 = some (.slice (some (id, 0)) L cc)) (h25 : env.get 25 = some (.int .i64 k)) (hi : k < L) (hg : h.get id = some (.cells (ones els) 1 el true 0)) (hw : els[k]? = some (.str w)) (Q : Env × Heap → Prop) (hQ : ∀ env' : Env, Keep [3, 6, 14, 15, 16, 23, 24, 4, 25] env env' → env'.get 7 = some (.int .i64 k) → env'.get 8 = some (.str w) → Q (env', h)) :
    (opsA Tryz.prog call 52 (tl 14) (List.range (tl 14).size) env h).all Q := by
  have hi0 : (0 : Int) ≤ k := by omega
  have hi1 : (k : Int) < L := by omega
  have hc1 := getC_one hw
  rw [show (tl 14).size = 5 from by kernel_rfl]
  show (opsA Tryz.prog call 52 (tl 14) [0, 1, 2, 3, 4] env h).all Q
  refine st_rd (op := .move (.tmp 25)) (d := (some 27)) (v := .int .i64 k) rfl rfl rfl (wanted_n rfl) rfl (by simp [readA, opd, Tr.get_set, ofConst, ofScalar, binA, intA, cmpA, strA, unA, builtinReadA, lenOpA, loadA, loadCellsA, Heap.get_next_irrel, h23, h25, hi0, hi1, hi, indexAddrA, intOf?, und25, info9, sz9, agg9, hg, hc1]) rfl ?_
  refine st_rd (op := .indexAddr 25 (.tmp 23) (.tmp 25)) (d := (some 28)) (v := .ptr (some (id, k))) rfl rfl rfl (wanted_n rfl) rfl (by simp [readA, opd, Tr.get_set, ofConst, ofScalar, binA, intA, cmpA, strA, unA, builtinReadA, lenOpA, loadA, loadCellsA, Heap.get_next_irrel, h23, h25, hi0, hi1, hi, indexAddrA, intOf?, und25, info9, sz9, agg9, hg, hc1]) rfl ?_
  refine st_rd (op := .load 9 (.tmp 28)) (d := (some 29)) (v := .str w) rfl rfl rfl (wanted_n rfl) rfl (by simp [readA, opd, Tr.get_set, ofConst, ofScalar, binA, intA, cmpA, strA, unA, builtinReadA, lenOpA, loadA, loadCellsA, Heap.get_next_irrel, h23, h25, hi0, hi1, hi, indexAddrA, intOf?, und25, info9, sz9, agg9, hg, hc1]) rfl ?_
  refine st_rd (op := .assign (.tmp 27)) (d := (some 7)) (v := .int .i64 k) rfl rfl rfl (wanted_n rfl) rfl (by simp [readA, opd, Tr.get_set, ofConst, ofScalar, binA, intA, cmpA, strA, unA, builtinReadA, lenOpA, loadA, loadCellsA, Heap.get_next_irrel, h23, h25, hi0, hi1, hi, indexAddrA, intOf?, und25, info9, sz9, agg9, hg, hc1]) rfl ?_
  refine st_rd (op := .assign (.tmp 29)) (d := (some 8)) (v := .str w) rfl rfl rfl (wanted_n rfl) rfl (by simp [readA, opd, Tr.get_set, ofConst, ofScalar, binA, intA, cmpA, strA, unA, builtinReadA, lenOpA, loadA, loadCellsA, Heap.get_next_irrel, h23, h25, hi0, hi1, hi, indexAddrA, intOf?, und25, info9, sz9, agg9, hg, hc1]) rfl ?_
  rw [opsA_nil, Res.all_ok]
  exact hQ _ (by simp [Keep, Tr.get_set]) (by simp [Tr.get_set]) (by simp [Tr.get_set])

set_option maxRecDepth 100000 in
set_option maxHeartbeats 4000000 in
theorem tl_15t (call : CallF) (env : Env) (h : Heap) (w : List UInt8) (h8 : env.get 8 = some (.str w)) (hc : (40 : Int) < w.length) (Q : Env × Heap → Prop) (hQ : ∀ env' : Env, Keep [3, 6, 14, 15, 16, 23, 24, 4, 25, 7, 8] env env' → env'.get 32 = some (.bool true) → Q (env', h)) :
    (opsA Tryz.prog call 52 (tl 15) (List.range (tl 15).size) env h).all Q := by
  rw [show (tl 15).size = 3 from by kernel_rfl]
  show (opsA Tryz.prog call 52 (tl 15) [0, 1, 2] env h).all Q
  refine st_rd (op := .move (.tmp 8)) (d := (some 30)) (v := .str w) rfl rfl rfl (wanted_n rfl) rfl (by simp [readA, opd, Tr.get_set, ofConst, ofScalar, binA, intA, cmpA, strA, unA, builtinReadA, lenOpA, loadA, loadCellsA, Heap.get_next_irrel, h8, hc, und9s]) rfl ?_
  refine st_rd (op := .call { callee := .builtin .len, args := #[(.tmp 30)], argTypes := #[9] }) (d := (some 31)) (v := .int .i64 ((w).length : Nat)) rfl rfl rfl (wanted_n rfl) rfl (by simp [readA, opd, Tr.get_set, ofConst, ofScalar, binA, intA, cmpA, strA, unA, builtinReadA, lenOpA, loadA, loadCellsA, Heap.get_next_irrel, h8, hc, und9s]) rfl ?_
  refine st_rd (op := .binOp .gtr 3 (.tmp 31) (.const (.int .i64 40)) 3) (d := (some 32)) (v := .bool true) rfl rfl rfl (wanted_n rfl) rfl (by simp [readA, opd, Tr.get_set, ofConst, ofScalar, binA, intA, cmpA, strA, unA, builtinReadA, lenOpA, loadA, loadCellsA, Heap.get_next_irrel, h8, hc, und9s]) rfl ?_
  rw [opsA_nil, Res.all_ok]
  exact hQ _ (by simp [Keep, Tr.get_set]) (by simp [Tr.get_set])

set_option maxRecDepth 100000 in
set_option maxHeartbeats 4000000 in
theorem tl_15f (call : CallF) (env : Env) (h : Heap) (w : List UInt8) (h8 : env.get 8 = some (.str w)) (hc : ¬ (40 : Int) < w.length) (Q : Env × Heap → Prop) (hQ : ∀ env' : Env, Keep [3, 6, 14, 15, 16, 23, 24, 4, 25, 7, 8] env env' → env'.get 32 = some (.bool false) → Q (env', h)) :
    (opsA Tryz.prog call 52 (tl 15) (List.range (tl 15).size) env h).all Q := by
  rw [show (tl 15).size = 3 from by kernel_rfl]
  show (opsA Tryz.prog call 52 (tl 15) [0, 1, 2] env h).all Q
  refine st_rd (op := .move (.tmp 8)) (d := (some 30)) (v := .str w) rfl rfl rfl (wanted_n rfl) rfl (by simp [readA, opd, Tr.get_set, ofConst, ofScalar, binA, intA, cmpA, strA, unA, builtinReadA, lenOpA, loadA, loadCellsA, Heap.get_next_irrel, h8, hc, und9s]) rfl ?_
  refine st_rd (op := .call { callee := .builtin .len, args := #[(.tmp 30)], argTypes := #[9] }) (d := (some 31)) (v := .int .i64 ((w).length : Nat)) rfl rfl rfl (wanted_n rfl) rfl (by simp [readA, opd, Tr.get_set, ofConst, ofScalar, binA, intA, cmpA, strA, unA, builtinReadA, lenOpA, loadA, loadCellsA, Heap.get_next_irrel, h8, hc, und9s]) rfl ?_
  refine st_rd (op := .binOp .gtr 3 (.tmp 31) (.const (.int .i64 40)) 3) (d := (some 32)) (v := .bool false) rfl rfl rfl (wanted_n rfl) rfl (by simp [readA, opd, Tr.get_set, ofConst, ofScalar, binA, intA, cmpA, strA, unA, builtinReadA, lenOpA, loadA, loadCellsA, Heap.get_next_irrel, h8, hc, und9s]) rfl ?_
  rw [opsA_nil, Res.all_ok]
  exact hQ _ (by simp [Keep, Tr.get_set]) (by simp [Tr.get_set])

set_option maxRecDepth 100000 in
set_option maxHeartbeats 4000000 in
theorem tl_17t (call : CallF) (env : Env) (h : Heap) (k : Nat) (h7 : env.get 7 = some (.int .i64 k)) (hc : (0 : Int) < k) (Q : Env × Heap → Prop) (hQ : ∀ env' : Env, Keep [3, 6, 14, 15, 16, 23, 24, 4, 25, 7, 8] env env' → env'.get 34 = some (.bool true) → Q (env', h)) :
    (opsA Tryz.prog call 52 (tl 17) (List.range (tl 17).size) env h).all Q := by
  have hk : 0 < k := by omega
  rw [show (tl 17).size = 2 from by kernel_rfl]
  show (opsA Tryz.prog call 52 (tl 17) [0, 1] env h).all Q
  refine st_rd (op := .move (.tmp 7)) (d := (some 33)) (v := .int .i64 k) rfl rfl rfl (wanted_n rfl) rfl (by simp [readA, opd, Tr.get_set, ofConst, ofScalar, binA, intA, cmpA, strA, unA, builtinReadA, lenOpA, loadA, loadCellsA, Heap.get_next_irrel, h7, hc, hk]) rfl ?_
  refine st_rd (op := .binOp .gtr 3 (.tmp 33) (.const (.int .i64 0)) 3) (d := (some 34)) (v := .bool true) rfl rfl rfl (wanted_n rfl) rfl (by simp [readA, opd, Tr.get_set, ofConst, ofScalar, binA, intA, cmpA, strA, unA, builtinReadA, lenOpA, loadA, loadCellsA, Heap.get_next_irrel, h7, hc, hk]) rfl ?_
  rw [opsA_nil, Res.all_ok]
  exact hQ _ (by simp [Keep, Tr.get_set]) (by simp [Tr.get_set])

set_option maxRecDepth 100000 in
set_option maxHeartbeats 4000000 in
theorem tl_17f (call : CallF) (env : Env) (h : Heap) (k : Nat) (h7 : env.get 7 = some (.int .i64 k)) (hc : ¬ (0 : Int) < k) (Q : Env × Heap → Prop) (hQ : ∀ env' : Env, Keep [3, 6, 14, 15, 16, 23, 24, 4, 25, 7, 8] env env' → env'.get 34 = some (.bool false) → Q (env', h)) :
    (opsA Tryz.prog call 52 (tl 17) (List.range (tl 17).size) env h).all Q := by
  have hk : k = 0 := by omega
  rw [show (tl 17).size = 2 from by kernel_rfl]
  show (opsA Tryz.prog call 52 (tl 17) [0, 1] env h).all Q
  refine st_rd (op := .move (.tmp 7)) (d := (some 33)) (v := .int .i64 k) rfl rfl rfl (wanted_n rfl) rfl (by simp [readA, opd, Tr.get_set, ofConst, ofScalar, binA, intA, cmpA, strA, unA, builtinReadA, lenOpA, loadA, loadCellsA, Heap.get_next_irrel, h7, hc, hk]) rfl ?_
  refine st_rd (op := .binOp .gtr 3 (.tmp 33) (.const (.int .i64 0)) 3) (d := (some 34)) (v := .bool false) rfl rfl rfl (wanted_n rfl) rfl (by simp [readA, opd, Tr.get_set, ofConst, ofScalar, binA, intA, cmpA, strA, unA, builtinReadA, lenOpA, loadA, loadCellsA, Heap.get_next_irrel, h7, hc, hk]) rfl ?_
  rw [opsA_nil, Res.all_ok]
  exact hQ _ (by simp [Keep, Tr.get_set]) (by simp [Tr.get_set])

set_option maxRecDepth 100000 in
set_option maxHeartbeats 4000000 in
theorem tl_18 (call : CallF) (env : Env) (h : Heap) (t : List UInt8) (h4 : env.get 4 = some (.str t)) (ht : t.length < 1000000) (Q : Env × Heap → Prop) (hQ : ∀ env' : Env, Keep [3, 6, 14, 15, 16, 23, 24, 25, 7, 8] env env' → env'.get 4 = some (.str (t ++ [32])) → Q (env', h)) :
    (opsA Tryz.prog call 52 (tl 18) (List.range (tl 18).size) env h).all Q := by
  have l1 : t.length + 1 < 4611686018427387904 := by omega
  rw [show (tl 18).size = 3 from by kernel_rfl]
  show (opsA Tryz.prog call 52 (tl 18) [0, 1, 2] env h).all Q
  refine st_rd (op := .move (.tmp 4)) (d := (some 35)) (v := .str t) rfl rfl rfl (wanted_n rfl) rfl (by simp [readA, opd, Tr.get_set, ofConst, ofScalar, binA, intA, cmpA, strA, unA, builtinReadA, lenOpA, loadA, loadCellsA, Heap.get_next_irrel, h4, l1]) rfl ?_
  refine st_rd (op := .binOp .add 9 (.tmp 35) (.const (.string ⟨#[32]⟩)) 9) (d := (some 36)) (v := .str (t ++ [32])) rfl rfl rfl (wanted_n rfl) rfl (by simp [readA, opd, Tr.get_set, ofConst, ofScalar, binA, intA, cmpA, strA, unA, builtinReadA, lenOpA, loadA, loadCellsA, Heap.get_next_irrel, h4, l1]) rfl ?_
  refine st_rd (op := .assign (.tmp 36)) (d := (some 4)) (v := .str (t ++ [32])) rfl rfl rfl (wanted_n rfl) rfl (by simp [readA, opd, Tr.get_set, ofConst, ofScalar, binA, intA, cmpA, strA, unA, builtinReadA, lenOpA, loadA, loadCellsA, Heap.get_next_irrel, h4, l1]) rfl ?_
  rw [opsA_nil, Res.all_ok]
  exact hQ _ (by simp [Keep, Tr.get_set]) (by simp [Tr.get_set])

set_option maxRecDepth 100000 in
set_option maxHeartbeats 4000000 in
theorem tl_19 (call : CallF) (env : Env) (h : Heap) (t w : List UInt8) (h4 : env.get 4 = some (.str t)) (h8 : env.get 8 = some (.str w)) (ht : t.length < 1000000) (hw : w.length < 1000000) (Q : Env × Heap → Prop) (hQ : ∀ env' : Env, Keep [3, 6, 14, 15, 16, 23, 24, 25] env env' → env'.get 4 = some (.str (t ++ w)) → Q (env', h)) :
    (opsA Tryz.prog call 52 (tl 19) (List.range (tl 19).size) env h).all Q := by
  have l1 : t.length + w.length < 4611686018427387904 := by omega
  rw [show (tl 19).size = 4 from by kernel_rfl]
  show (opsA Tryz.prog call 52 (tl 19) [0, 1, 2, 3] env h).all Q
  refine st_rd (op := .move (.tmp 4)) (d := (some 37)) (v := .str t) rfl rfl rfl (wanted_n rfl) rfl (by simp [readA, opd, Tr.get_set, ofConst, ofScalar, binA, intA, cmpA, strA, unA, builtinReadA, lenOpA, loadA, loadCellsA, Heap.get_next_irrel, h4, h8, l1]) rfl ?_
  refine st_rd (op := .move (.tmp 8)) (d := (some 38)) (v := .str w) rfl rfl rfl (wanted_n rfl) rfl (by simp [readA, opd, Tr.get_set, ofConst, ofScalar, binA, intA, cmpA, strA, unA, builtinReadA, lenOpA, loadA, loadCellsA, Heap.get_next_irrel, h4, h8, l1]) rfl ?_
  refine st_rd (op := .binOp .add 9 (.tmp 37) (.tmp 38) 9) (d := (some 39)) (v := .str (t ++ w)) rfl rfl rfl (wanted_n rfl) rfl (by simp [readA, opd, Tr.get_set, ofConst, ofScalar, binA, intA, cmpA, strA, unA, builtinReadA, lenOpA, loadA, loadCellsA, Heap.get_next_irrel, h4, h8, l1]) rfl ?_
  refine st_rd (op := .assign (.tmp 39)) (d := (some 4)) (v := .str (t ++ w)) rfl rfl rfl (wanted_n rfl) rfl (by simp [readA, opd, Tr.get_set, ofConst, ofScalar, binA, intA, cmpA, strA, unA, builtinReadA, lenOpA, loadA, loadCellsA, Heap.get_next_irrel, h4, h8, l1]) rfl ?_
  rw [opsA_nil, Res.all_ok]
  exact hQ _ (by simp [Keep, Tr.get_set]) (by simp [Tr.get_set])

set_option maxRecDepth 100000 in
set_option maxHeartbeats 4000000 in
theorem tl_20 (call : CallF) (env : Env) (h : Heap) (k : Nat) (h25 : env.get 25 = some (.int .i64 k)) (hk : k < 1000) (Q : Env × Heap → Prop) (hQ : ∀ env' : Env, Keep [3, 6, 14, 15, 16, 23, 24, 4] env env' → env'.get 25 = some (.int .i64 ((k : Int) + 1)) → Q (env', h)) :
    (opsA Tryz.prog call 52 (tl 20) (List.range (tl 20).size) env h).all Q := by
  have hw1 : wrapA .i64 ((k : Int) + 1) = (k : Int) + 1 := by rw [wrapA_eq]; simp [IntKind.wrap, IntKind.bits, IntKind.signed]; omega
  rw [show (tl 20).size = 2 from by kernel_rfl]
  show (opsA Tryz.prog call 52 (tl 20) [0, 1] env h).all Q
  refine st_rd (op := .binOp .add 3 (.tmp 25) (.const (.int .i64 1)) 3) (d := (some 40)) (v := .int .i64 ((k : Int) + 1)) rfl rfl rfl (wanted_n rfl) rfl (by simp [readA, opd, Tr.get_set, ofConst, ofScalar, binA, intA, cmpA, strA, unA, builtinReadA, lenOpA, loadA, loadCellsA, Heap.get_next_irrel, h25, hw1]) rfl ?_
  refine st_rd (op := .move (.tmp 40)) (d := (some 25)) (v := .int .i64 ((k : Int) + 1)) rfl rfl rfl (wanted_n rfl) rfl (by simp [readA, opd, Tr.get_set, ofConst, ofScalar, binA, intA, cmpA, strA, unA, builtinReadA, lenOpA, loadA, loadCellsA, Heap.get_next_irrel, h25, hw1]) rfl ?_
  rw [opsA_nil, Res.all_ok]
  exact hQ _ (by simp [Keep, Tr.get_set]) (by simp [Tr.get_set])

set_option maxRecDepth 100000 in
set_option maxHeartbeats 4000000 in
theorem tl_21 (call : CallF) (env : Env) (h : Heap) (t : List UInt8) (h4 : env.get 4 = some (.str t)) (ht : t.length < 1000000) (Q : Env × Heap → Prop) (hQ : ∀ env' : Env, Keep [3, 6, 14, 15, 16] env env' → env'.get 4 = some (.str (t ++ [10])) → Q (env', h)) :
    (opsA Tryz.prog call 52 (tl 21) (List.range (tl 21).size) env h).all Q := by
  have l1 : t.length + 1 < 4611686018427387904 := by omega
  rw [show (tl 21).size = 3 from by kernel_rfl]
  show (opsA Tryz.prog call 52 (tl 21) [0, 1, 2] env h).all Q
  refine st_rd (op := .move (.tmp 4)) (d := (some 41)) (v := .str t) rfl rfl rfl (wanted_n rfl) rfl (by simp [readA, opd, Tr.get_set, ofConst, ofScalar, binA, intA, cmpA, strA, unA, builtinReadA, lenOpA, loadA, loadCellsA, Heap.get_next_irrel, h4, l1]) rfl ?_
  refine st_rd (op := .binOp .add 9 (.tmp 41) (.const (.string ⟨#[10]⟩)) 9) (d := (some 42)) (v := .str (t ++ [10])) rfl rfl rfl (wanted_n rfl) rfl (by simp [readA, opd, Tr.get_set, ofConst, ofScalar, binA, intA, cmpA, strA, unA, builtinReadA, lenOpA, loadA, loadCellsA, Heap.get_next_irrel, h4, l1]) rfl ?_
  refine st_rd (op := .assign (.tmp 42)) (d := (some 4)) (v := .str (t ++ [10])) rfl rfl rfl (wanted_n rfl) rfl (by simp [readA, opd, Tr.get_set, ofConst, ofScalar, binA, intA, cmpA, strA, unA, builtinReadA, lenOpA, loadA, loadCellsA, Heap.get_next_irrel, h4, l1]) rfl ?_
  rw [opsA_nil, Res.all_ok]
  exact hQ _ (by simp [Keep, Tr.get_set]) (by simp [Tr.get_set])

set_option maxRecDepth 100000 in
set_option maxHeartbeats 4000000 in
theorem tl_22 (call : CallF) (env : Env) (h : Heap) (l : Nat) (rw : AV) (h3 : env.get 3 = some (.ptr (some (l, 0)))) (h6 : env.get 6 = some (rw)) (q : AV × Heap → Prop) (hc : (call 24 [.ptr (some (l, 0)), rw] h).all q) (Q : Env × Heap → Prop)
    (hQ : ∀ (env' : Env) (v : AV) (h' : Heap), Keep [3, 4, 14, 15, 16] env env' → q (v, h') → Q (env', h')) : (opsA Tryz.prog call 52 (tl 22) (List.range (tl 22).size) env h).all Q := by
  rw [show (tl 22).size = 2 from by kernel_rfl]
  show (opsA Tryz.prog call 52 (tl 22) [0, 1] env h).all Q
  refine st_rd (op := .move (.tmp 6)) (d := (some 43)) (v := rw) rfl rfl rfl (wanted_n rfl) rfl (by simp [readA, opd, Tr.get_set, ofConst, ofScalar, binA, intA, cmpA, strA, unA, builtinReadA, lenOpA, loadA, loadCellsA, Heap.get_next_irrel, h3, h6]) rfl ?_
  refine st_acts (op := .call { callee := .value (.func 24), args := #[(.tmp 3), (.tmp 43)], argTypes := #[74, 25] }) (d := (some 44)) rfl rfl rfl (wanted_n rfl) rfl (actA_all (args := [.ptr (some (l, 0)), rw]) (by simp [opd, Tr.get_set, h3]) hc) ?_
  intro v h' hq'
  refine ⟨_, rfl, ?_⟩
  rw [opsA_nil, Res.all_ok]
  exact hQ _ v h' (by simp [Keep, Tr.get_set]) hq'

set_option maxRecDepth 100000 in
set_option maxHeartbeats 4000000 in
theorem tl_23 (call : CallF) (env : Env) (h : Heap) (l : Nat) (t : List UInt8) (h3 : env.get 3 = some (.ptr (some (l, 0)))) (h4 : env.get 4 = some (.str t)) (q : AV × Heap → Prop) (hc : (call 25 [.ptr (some (l, 0))] h).all fun o => o.1 = .str t ∧ q o) (Q : Env × Heap → Prop)
    (hQ : ∀ (env' : Env) (h' : Heap), Keep [3, 4, 14, 15, 16] env env' → env'.get 47 = some (.bool false) → q (.str t, h') → Q (env', h')) : (opsA Tryz.prog call 52 (tl 23) (List.range (tl 23).size) env h).all Q := by
  rw [show (tl 23).size = 3 from by kernel_rfl]
  show (opsA Tryz.prog call 52 (tl 23) [0, 1, 2] env h).all Q
  refine st_acts (op := .call { callee := .value (.func 25), args := #[(.tmp 3)], argTypes := #[74] }) (d := (some 45)) rfl rfl rfl (wanted_n rfl) rfl (actA_all (args := [.ptr (some (l, 0))]) (by simp [opd, Tr.get_set, h3]) hc) ?_
  rintro v h' ⟨hv, hq'⟩
  simp only at hv
  subst hv
  refine ⟨_, rfl, ?_⟩
  refine st_rd (op := .move (.tmp 4)) (d := (some 46)) (v := .str t) rfl rfl rfl (wanted_n rfl) rfl (by simp [readA, opd, Tr.get_set, ofConst, ofScalar, binA, intA, cmpA, strA, unA, builtinReadA, lenOpA, loadA, loadCellsA, Heap.get_next_irrel, h3, h4, eqB_refl]) rfl ?_
  refine st_rd (op := .binOp .neq 9 (.tmp 45) (.tmp 46) 9) (d := (some 47)) (v := .bool false) rfl rfl rfl (wanted_n rfl) rfl (by simp [readA, opd, Tr.get_set, ofConst, ofScalar, binA, intA, cmpA, strA, unA, builtinReadA, lenOpA, loadA, loadCellsA, Heap.get_next_irrel, h3, h4, eqB_refl]) rfl ?_
  rw [opsA_nil, Res.all_ok]
  exact hQ _ h' (by simp [Keep, Tr.get_set]) (by simp [Tr.get_set]) hq'

set_option maxRecDepth 100000 in
set_option maxHeartbeats 4000000 in
theorem tl_26 (call : CallF) (env : Env) (h : Heap) (l : Nat) (t : List UInt8) (h3 : env.get 3 = some (.ptr (some (l, 0)))) (h4 : env.get 4 = some (.str t)) (q : AV × Heap → Prop) (hc : (call 25 [.ptr (some (l, 0))] h).all fun o => o.1 = .str t ∧ q o) (Q : Env × Heap → Prop)
    (hQ : ∀ (env' : Env) (h' : Heap), Keep [3, 4, 14, 15, 16] env env' → env'.get 2 = some (.bool true) → q (.str t, h') → Q (env', h')) : (opsA Tryz.prog call 52 (tl 26) (List.range (tl 26).size) env h).all Q := by
  rw [show (tl 26).size = 4 from by kernel_rfl]
  show (opsA Tryz.prog call 52 (tl 26) [0, 1, 2, 3] env h).all Q
  refine st_acts (op := .call { callee := .value (.func 25), args := #[(.tmp 3)], argTypes := #[74] }) (d := (some 49)) rfl rfl rfl (wanted_n rfl) rfl (actA_all (args := [.ptr (some (l, 0))]) (by simp [opd, Tr.get_set, h3]) hc) ?_
  rintro v h' ⟨hv, hq'⟩
  simp only at hv
  subst hv
  refine ⟨_, rfl, ?_⟩
  refine st_rd (op := .move (.tmp 4)) (d := (some 50)) (v := .str t) rfl rfl rfl (wanted_n rfl) rfl (by simp [readA, opd, Tr.get_set, ofConst, ofScalar, binA, intA, cmpA, strA, unA, builtinReadA, lenOpA, loadA, loadCellsA, Heap.get_next_irrel, h3, h4, eqB_refl]) rfl ?_
  refine st_rd (op := .binOp .eql 9 (.tmp 49) (.tmp 50) 9) (d := (some 51)) (v := .bool true) rfl rfl rfl (wanted_n rfl) rfl (by simp [readA, opd, Tr.get_set, ofConst, ofScalar, binA, intA, cmpA, strA, unA, builtinReadA, lenOpA, loadA, loadCellsA, Heap.get_next_irrel, h3, h4, eqB_refl]) rfl ?_
  refine st_rd (op := .assign (.tmp 51)) (d := (some 2)) (v := .bool true) rfl rfl rfl (wanted_n rfl) rfl (by simp [readA, opd, Tr.get_set, ofConst, ofScalar, binA, intA, cmpA, strA, unA, builtinReadA, lenOpA, loadA, loadCellsA, Heap.get_next_irrel, h3, h4, eqB_refl]) rfl ?_
  rw [opsA_nil, Res.all_ok]
  exact hQ _ h' (by simp [Keep, Tr.get_set]) (by simp [Tr.get_set]) hq'

set_option maxRecDepth 100000 in
set_option maxHeartbeats 4000000 in
theorem tl_25 (call : CallF) (env : Env) (h : Heap) (k : Nat) (h16 : env.get 16 = some (.int .i64 k)) (hk : k < 1000) (Q : Env × Heap → Prop) (hQ : ∀ env' : Env, Keep [3, 4, 14, 15] env env' → env'.get 16 = some (.int .i64 ((k : Int) + 1)) → Q (env', h)) :
    (opsA Tryz.prog call 52 (tl 25) (List.range (tl 25).size) env h).all Q := by
  have hw1 : wrapA .i64 ((k : Int) + 1) = (k : Int) + 1 := by rw [wrapA_eq]; simp [IntKind.wrap, IntKind.bits, IntKind.signed]; omega
  rw [show (tl 25).size = 2 from by kernel_rfl]
  show (opsA Tryz.prog call 52 (tl 25) [0, 1] env h).all Q
  refine st_rd (op := .binOp .add 3 (.tmp 16) (.const (.int .i64 1)) 3) (d := (some 48)) (v := .int .i64 ((k : Int) + 1)) rfl rfl rfl (wanted_n rfl) rfl (by simp [readA, opd, Tr.get_set, ofConst, ofScalar, binA, intA, cmpA, strA, unA, builtinReadA, lenOpA, loadA, loadCellsA, Heap.get_next_irrel, h16, hw1]) rfl ?_
  refine st_rd (op := .move (.tmp 48)) (d := (some 16)) (v := .int .i64 ((k : Int) + 1)) rfl rfl rfl (wanted_n rfl) rfl (by simp [readA, opd, Tr.get_set, ofConst, ofScalar, binA, intA, cmpA, strA, unA, builtinReadA, lenOpA, loadA, loadCellsA, Heap.get_next_irrel, h16, hw1]) rfl ?_
  rw [opsA_nil, Res.all_ok]
  exact hQ _ (by simp [Keep, Tr.get_set]) (by simp [Tr.get_set])
end Go.Am
