/- Part of the proof of TellLines: its text AmSay2. Conditions: none. -/
import Derived.Test.YtcaaedohfmdikaaGreatDoorAmSay
set_option linter.unusedVariables false
set_option linter.unusedSimpArgs false
open Go Go.Am Go.Proofs Go.RowKit
namespace Go.Am

noncomputable def bs (k : Nat) : Array Oper := (Tryz.f68.body.bind (regOf k)).getD #[]
theorem bs_body : Tryz.f68.body = some ((Code.region 0 (bs 0) false).seq ((Code.region 1 (bs 1) true).seq .ret)) := by kernel_rfl
theorem bs_plan : (planOf Tryz.prog (bs 1)).map (·.ord) = some [0, 1, 2, 3, 4, 5, 6, 7, 8, 9, 10, 11] := by kernel_rfl
theorem bs_size : (bs 1).size = 12 := by kernel_rfl
theorem bs_nt : Tryz.f68.ntmps = 14 := by kernel_rfl
theorem bs_rs : Tryz.f68.results.toList = [.tmp 2] := by kernel_rfl
theorem und229 : Tryz.prog.underlying 229 = some (.pointer 5) := by kernel_rfl

set_option maxRecDepth 100000 in
set_option maxHeartbeats 8000000 in
theorem bs_reg (call : CallF) (env : Env) (l b N fz : Nat) (s : List UInt8) (h : Heap) (h0 : env.get 0 = some (.ptr (some (l, 0)))) (hs : s ≠ []) (h1 : s.length < 1000000) (hg : h.get l = some (.cells [[.ptr (some (l, 0)), .slice (some (b, 0)) s.length none]] 2 74 false 0)) (hgb : h.get b = some (.cells (ones (cellsOfBytes s)) 1 5 false fz)) (hz : fz ≠ 1) (Q : Env × Heap → Prop)
    (hQ : ∀ env' : Env, env'.get 2 = some (.str s) → Q (env', ({ h with next := h.next + 12 } : Heap).put b (.cells (ones (cellsOfBytes s)) 1 5 false (Nat.max fz (0 + s.length + 1))))) : (regionA Tryz.prog call 14 (bs 1) true env h).all Q := by
  refine regionA_draw bs_plan bs_size fun M => ?_
  have hf := fa72 l 0
  simp only [List.cons.injEq, and_true] at hf
  obtain ⟨f0, f1⟩ := hf
  have g1 : getC [[AV.ptr (some (l, 0)), .slice (some (b, 0)) s.length none]] 2 1 1 = some [.slice (some (b, 0)) s.length none] := by simp [getC]
  have hs0 : s.length ≠ 0 := fun e => hs (List.eq_nil_of_length_eq_zero e)
  have hcells : getC (ones (cellsOfBytes s)) 1 0 s.length = some (cellsOfBytes s) := by
    have := getC_ones (cells_ne hs); rw [cells_len] at this; exact this
  have hp1 : (0 : Int) < s.length := by omega
  have hp2 : (s.length : Int) ≤ 1073741824 := by omega
  have hpn : 0 < s.length := by omega
  have hact : builtinActA Tryz.prog { h with next := h.next + 12 } .unsafeString #[229, 3] [.ptr (some (b, 0)), .int .i64 s.length] = some (.str s, ({ h with next := h.next + 12 } : Heap).put b (.cells (ones (cellsOfBytes s)) 1 5 false (Nat.max fz (0 + s.length + 1)))) := by
    have hgb' : ({ h with next := h.next + 12 } : Heap).get b = some (.cells (ones (cellsOfBytes s)) 1 5 false fz) := hgb
    simp [builtinActA, und229, hs0, hgb', loadCellsA, hcells, bytes_cells, sz5, hp1, hp2, hpn, hs, hz]
  refine dw_rd (op := .move (.tmp 0)) (d := (some 3)) (v := .ptr (some (l, 0))) rfl rfl rfl (wanted_n rfl) rfl (by intro p hp; simp only [List.mem_cons, List.not_mem_nil, or_false] at hp; subst hp <;> simp [readA, opd, Tr.get_set, ofConst, ofScalar, binA, intA, cmpA, strA, unA, builtinReadA, lenOpA, loadA, loadCellsA, Heap.get_next_irrel, h0, f1, hg, g1, agg70, und70, hs0]) (by simp [AV.same, AV.sameL, eqB_refl]) rfl ?_
  refine dw_rd (op := .nilCheck (.tmp 3)) (d := (some 4)) (v := .ptr (some (l, 0))) rfl rfl rfl (wanted_n rfl) rfl (by intro p hp; simp only [List.mem_cons, List.not_mem_nil, or_false] at hp; subst hp <;> simp [readA, opd, Tr.get_set, ofConst, ofScalar, binA, intA, cmpA, strA, unA, builtinReadA, lenOpA, loadA, loadCellsA, Heap.get_next_irrel, h0, f1, hg, g1, agg70, und70, hs0]) (by simp [AV.same, AV.sameL, eqB_refl]) rfl ?_
  refine dw_rd (op := .fieldAddr 72 (.tmp 4) 1) (d := (some 5)) (v := .ptr (some (l, 0 + 1))) rfl rfl rfl (wanted_n rfl) rfl (by intro p hp; simp only [List.mem_cons, List.not_mem_nil, or_false] at hp; subst hp <;> simp [readA, opd, Tr.get_set, ofConst, ofScalar, binA, intA, cmpA, strA, unA, builtinReadA, lenOpA, loadA, loadCellsA, Heap.get_next_irrel, h0, f1, hg, g1, agg70, und70, hs0]) (by simp [AV.same, AV.sameL, eqB_refl]) rfl ?_
  refine dw_rd (op := .load 70 (.tmp 5)) (d := (some 6)) (v := .slice (some (b, 0)) s.length none) rfl rfl rfl (wanted_n rfl) rfl (by intro p hp; simp only [List.mem_cons, List.not_mem_nil, or_false] at hp; subst hp <;> simp [readA, opd, Tr.get_set, ofConst, ofScalar, binA, intA, cmpA, strA, unA, builtinReadA, lenOpA, loadA, loadCellsA, Heap.get_next_irrel, h0, f1, hg, g1, agg70, und70, hs0]) (by simp [AV.same, AV.sameL, eqB_refl]) rfl ?_
  refine dw_rd (op := .call { callee := .builtin .unsafeSliceData, args := #[(.tmp 6)], argTypes := #[70] }) (d := (some 7)) (v := .ptr (some (b, 0))) rfl rfl rfl (wanted_n rfl) rfl (by intro p hp; simp only [List.mem_cons, List.not_mem_nil, or_false] at hp; subst hp <;> simp [readA, opd, Tr.get_set, ofConst, ofScalar, binA, intA, cmpA, strA, unA, builtinReadA, lenOpA, loadA, loadCellsA, Heap.get_next_irrel, h0, f1, hg, g1, agg70, und70, hs0]) (by simp [AV.same, AV.sameL, eqB_refl]) rfl ?_
  refine dw_rd (op := .move (.tmp 0)) (d := (some 8)) (v := .ptr (some (l, 0))) rfl rfl rfl (wanted_n rfl) rfl (by intro p hp; simp only [List.mem_cons, List.not_mem_nil, or_false] at hp; subst hp <;> simp [readA, opd, Tr.get_set, ofConst, ofScalar, binA, intA, cmpA, strA, unA, builtinReadA, lenOpA, loadA, loadCellsA, Heap.get_next_irrel, h0, f1, hg, g1, agg70, und70, hs0]) (by simp [AV.same, AV.sameL, eqB_refl]) rfl ?_
  refine dw_rd (op := .nilCheck (.tmp 8)) (d := (some 9)) (v := .ptr (some (l, 0))) rfl rfl rfl (wanted_n rfl) rfl (by intro p hp; simp only [List.mem_cons, List.not_mem_nil, or_false] at hp; subst hp <;> simp [readA, opd, Tr.get_set, ofConst, ofScalar, binA, intA, cmpA, strA, unA, builtinReadA, lenOpA, loadA, loadCellsA, Heap.get_next_irrel, h0, f1, hg, g1, agg70, und70, hs0]) (by simp [AV.same, AV.sameL, eqB_refl]) rfl ?_
  refine dw_rd (op := .fieldAddr 72 (.tmp 9) 1) (d := (some 10)) (v := .ptr (some (l, 0 + 1))) rfl rfl rfl (wanted_n rfl) rfl (by intro p hp; simp only [List.mem_cons, List.not_mem_nil, or_false] at hp; subst hp <;> simp [readA, opd, Tr.get_set, ofConst, ofScalar, binA, intA, cmpA, strA, unA, builtinReadA, lenOpA, loadA, loadCellsA, Heap.get_next_irrel, h0, f1, hg, g1, agg70, und70, hs0]) (by simp [AV.same, AV.sameL, eqB_refl]) rfl ?_
  refine dw_rd (op := .load 70 (.tmp 10)) (d := (some 11)) (v := .slice (some (b, 0)) s.length none) rfl rfl rfl (wanted_n rfl) rfl (by intro p hp; simp only [List.mem_cons, List.not_mem_nil, or_false] at hp; subst hp <;> simp [readA, opd, Tr.get_set, ofConst, ofScalar, binA, intA, cmpA, strA, unA, builtinReadA, lenOpA, loadA, loadCellsA, Heap.get_next_irrel, h0, f1, hg, g1, agg70, und70, hs0]) (by simp [AV.same, AV.sameL, eqB_refl]) rfl ?_
  refine dw_rd (op := .call { callee := .builtin .len, args := #[(.tmp 11)], argTypes := #[70] }) (d := (some 12)) (v := .int .i64 s.length) rfl rfl rfl (wanted_n rfl) rfl (by intro p hp; simp only [List.mem_cons, List.not_mem_nil, or_false] at hp; subst hp <;> simp [readA, opd, Tr.get_set, ofConst, ofScalar, binA, intA, cmpA, strA, unA, builtinReadA, lenOpA, loadA, loadCellsA, Heap.get_next_irrel, h0, f1, hg, g1, agg70, und70, hs0]) (by simp [AV.same, AV.sameL, eqB_refl]) rfl ?_
  refine dw_act (op := .call { callee := .builtin .unsafeString, args := #[(.tmp 7), (.tmp 12)], argTypes := #[229, 3] }) (d := (some 13)) (v := .str s) (h' := ({ h with next := h.next + 12 } : Heap).put b (.cells (ones (cellsOfBytes s)) 1 5 false (Nat.max fz (0 + s.length + 1)))) rfl rfl rfl (wanted_n rfl) rfl (by simp only [actA, List.map_cons, List.map_nil, opd]; simp only [Tr.get_set, Option.getD_some]; simp only [show (7 : Nat) = 12 ↔ False from by decide, if_false, if_true]; simp [Tr.get_set, hact, Res.ofOpt]) rfl ?_
  refine dw_rd (op := .assign (.tmp 13)) (d := (some 2)) (v := .str s) rfl rfl rfl (wanted_n rfl) rfl (by intro p hp; simp only [List.mem_cons, List.not_mem_nil, or_false] at hp; rcases hp with rfl | rfl <;> simp [readA, opd, Tr.get_set, ofConst, ofScalar, binA, intA, cmpA, strA, unA, builtinReadA, lenOpA, loadA, loadCellsA, Heap.get_next_irrel, h0, f1, hg, g1, agg70, und70, hs0]) (by simp [AV.same, AV.sameL, eqB_refl]) rfl ?_
  rw [dw_nil, Res.all_ok]
  exact hQ _ (by simp [Tr.get_set])

set_option maxRecDepth 100000 in
/-- A builder's text. -/
theorem bstr_run (I : Intr) (n : Nat) (l N : Nat) (s : List UInt8) (h : Heap) (hI : I 68 [.ptr (some (l, 0))] h = none) (hb : Bld N h l s) (hl : l < h.next) (hN : N ≤ l) (hs : s ≠ []) (h1 : s.length < 1000000) :
    (callA Tryz.prog I (n + 1) 68 [.ptr (some (l, 0))] h).all fun o => o.1 = .str s ∧ Bld N o.2 l s ∧ Same N h o.2 := by
  refine call_code hI Tryz.func68 bs_body (by rw [bs_nt]; simp) ?_
  rw [bs_nt]
  generalize callA Tryz.prog I n = call
  rcases hb with ⟨rfl, _⟩ | ⟨_, b, fz, hbN, hbx, hbl, hfz, hfz1, hg, hgb⟩
  · exact absurd rfl hs
  obtain ⟨env0, henv0⟩ : ∃ env0, env0 = argsEnv 0 [.ptr (some (l, 0))] .nil := ⟨_, rfl⟩
  rw [← henv0]
  have h00 : env0.get 0 = some (.ptr (some (l, 0))) := by rw [henv0]; simp [argsEnv, Tr.get_set]
  refine go_reg ?_
  rw [show (bs 0).size = 1 from by kernel_rfl]
  show (opsA Tryz.prog call 14 (bs 0) [0] env0 h).all _
  refine st_rd (op := .assign (.const (.string ⟨#[]⟩))) (d := (some 2)) (v := .str []) rfl rfl rfl (wanted_n rfl) rfl (by simp [readA, opd, Tr.get_set, ofConst, ofScalar, binA, intA, cmpA, strA, unA, builtinReadA, lenOpA, loadA, loadCellsA, Heap.get_next_irrel]) rfl ?_
  rw [opsA_nil, Res.all_ok]
  refine go_draw (bs_reg call _ l b N fz s h (by simp [Tr.get_set, h00]) hs h1 hg hgb hfz1 _ fun env' h2 => go_ret1 ?_)
  refine ⟨fun _ => (by simp), _, by simp only [resultsA, bs_rs, resList, resA, h2, Option.getD_some], rfl, ?_, ?_⟩
  · have hm1 : fz ≤ Nat.max fz (0 + s.length + 1) := Nat.le_max_left ..
    have hm2 : 0 + s.length + 1 ≤ Nat.max fz (0 + s.length + 1) := Nat.le_max_right ..
    have hm3 : Nat.max fz (0 + s.length + 1) ≤ s.length + 1 := Nat.max_le.2 ⟨hfz, by omega⟩
    have hs0 : s.length ≠ 0 := fun e => hs (List.eq_nil_of_length_eq_zero e)
    refine .inr ⟨hs, b, _, hbN, by show b < h.next + 12; omega, hbl, hm3, by omega, ?_, Heap.get_put_same ..⟩
    rw [Heap.get_put_ne (fun e => hbl e.symm)]
    exact hg
  · refine ⟨by show h.next ≤ h.next + 12; omega, fun id hid => ?_⟩
    rw [Heap.get_put_ne (by omega)]; rfl

set_option maxRecDepth 100000 in
set_option maxHeartbeats 8000000 in
theorem bs_reg0 (call : CallF) (env : Env) (l : Nat) (h : Heap) (h0 : env.get 0 = some (.ptr (some (l, 0)))) (hg : h.get l = some (.cells [[.ptr none, .slice none 0 (some 0)]] 2 74 false 0)) (Q : Env × Heap → Prop)
    (hQ : ∀ env' : Env, env'.get 2 = some (.str []) → Q (env', ({ h with next := h.next + 12 } : Heap))) : (regionA Tryz.prog call 14 (bs 1) true env h).all Q := by
  refine regionA_draw bs_plan bs_size fun M => ?_
  have hf := fa72 l 0
  simp only [List.cons.injEq, and_true] at hf
  obtain ⟨f0, f1⟩ := hf
  have g1 : getC [[AV.ptr none, .slice none 0 (some 0)]] 2 1 1 = some [.slice none 0 (some 0)] := by simp [getC]
  refine dw_rd (op := .move (.tmp 0)) (d := (some 3)) (v := .ptr (some (l, 0))) rfl rfl rfl (wanted_n rfl) rfl (by intro p hp; simp only [List.mem_cons, List.not_mem_nil, or_false] at hp; subst hp <;> simp [readA, opd, Tr.get_set, ofConst, ofScalar, binA, intA, cmpA, strA, unA, builtinReadA, lenOpA, loadA, loadCellsA, Heap.get_next_irrel, h0, f1, hg, g1, agg70, und70]) (by simp [AV.same, AV.sameL, eqB_refl]) rfl ?_
  refine dw_rd (op := .nilCheck (.tmp 3)) (d := (some 4)) (v := .ptr (some (l, 0))) rfl rfl rfl (wanted_n rfl) rfl (by intro p hp; simp only [List.mem_cons, List.not_mem_nil, or_false] at hp; subst hp <;> simp [readA, opd, Tr.get_set, ofConst, ofScalar, binA, intA, cmpA, strA, unA, builtinReadA, lenOpA, loadA, loadCellsA, Heap.get_next_irrel, h0, f1, hg, g1, agg70, und70]) (by simp [AV.same, AV.sameL, eqB_refl]) rfl ?_
  refine dw_rd (op := .fieldAddr 72 (.tmp 4) 1) (d := (some 5)) (v := .ptr (some (l, 0 + 1))) rfl rfl rfl (wanted_n rfl) rfl (by intro p hp; simp only [List.mem_cons, List.not_mem_nil, or_false] at hp; subst hp <;> simp [readA, opd, Tr.get_set, ofConst, ofScalar, binA, intA, cmpA, strA, unA, builtinReadA, lenOpA, loadA, loadCellsA, Heap.get_next_irrel, h0, f1, hg, g1, agg70, und70]) (by simp [AV.same, AV.sameL, eqB_refl]) rfl ?_
  refine dw_rd (op := .load 70 (.tmp 5)) (d := (some 6)) (v := .slice none 0 (some 0)) rfl rfl rfl (wanted_n rfl) rfl (by intro p hp; simp only [List.mem_cons, List.not_mem_nil, or_false] at hp; subst hp <;> simp [readA, opd, Tr.get_set, ofConst, ofScalar, binA, intA, cmpA, strA, unA, builtinReadA, lenOpA, loadA, loadCellsA, Heap.get_next_irrel, h0, f1, hg, g1, agg70, und70]) (by simp [AV.same, AV.sameL, eqB_refl]) rfl ?_
  refine dw_rd (op := .call { callee := .builtin .unsafeSliceData, args := #[(.tmp 6)], argTypes := #[70] }) (d := (some 7)) (v := .ptr none) rfl rfl rfl (wanted_n rfl) rfl (by intro p hp; simp only [List.mem_cons, List.not_mem_nil, or_false] at hp; subst hp <;> simp [readA, opd, Tr.get_set, ofConst, ofScalar, binA, intA, cmpA, strA, unA, builtinReadA, lenOpA, loadA, loadCellsA, Heap.get_next_irrel, h0, f1, hg, g1, agg70, und70]) (by simp [AV.same, AV.sameL, eqB_refl]) rfl ?_
  refine dw_rd (op := .move (.tmp 0)) (d := (some 8)) (v := .ptr (some (l, 0))) rfl rfl rfl (wanted_n rfl) rfl (by intro p hp; simp only [List.mem_cons, List.not_mem_nil, or_false] at hp; subst hp <;> simp [readA, opd, Tr.get_set, ofConst, ofScalar, binA, intA, cmpA, strA, unA, builtinReadA, lenOpA, loadA, loadCellsA, Heap.get_next_irrel, h0, f1, hg, g1, agg70, und70]) (by simp [AV.same, AV.sameL, eqB_refl]) rfl ?_
  refine dw_rd (op := .nilCheck (.tmp 8)) (d := (some 9)) (v := .ptr (some (l, 0))) rfl rfl rfl (wanted_n rfl) rfl (by intro p hp; simp only [List.mem_cons, List.not_mem_nil, or_false] at hp; subst hp <;> simp [readA, opd, Tr.get_set, ofConst, ofScalar, binA, intA, cmpA, strA, unA, builtinReadA, lenOpA, loadA, loadCellsA, Heap.get_next_irrel, h0, f1, hg, g1, agg70, und70]) (by simp [AV.same, AV.sameL, eqB_refl]) rfl ?_
  refine dw_rd (op := .fieldAddr 72 (.tmp 9) 1) (d := (some 10)) (v := .ptr (some (l, 0 + 1))) rfl rfl rfl (wanted_n rfl) rfl (by intro p hp; simp only [List.mem_cons, List.not_mem_nil, or_false] at hp; subst hp <;> simp [readA, opd, Tr.get_set, ofConst, ofScalar, binA, intA, cmpA, strA, unA, builtinReadA, lenOpA, loadA, loadCellsA, Heap.get_next_irrel, h0, f1, hg, g1, agg70, und70]) (by simp [AV.same, AV.sameL, eqB_refl]) rfl ?_
  refine dw_rd (op := .load 70 (.tmp 10)) (d := (some 11)) (v := .slice none 0 (some 0)) rfl rfl rfl (wanted_n rfl) rfl (by intro p hp; simp only [List.mem_cons, List.not_mem_nil, or_false] at hp; subst hp <;> simp [readA, opd, Tr.get_set, ofConst, ofScalar, binA, intA, cmpA, strA, unA, builtinReadA, lenOpA, loadA, loadCellsA, Heap.get_next_irrel, h0, f1, hg, g1, agg70, und70]) (by simp [AV.same, AV.sameL, eqB_refl]) rfl ?_
  refine dw_rd (op := .call { callee := .builtin .len, args := #[(.tmp 11)], argTypes := #[70] }) (d := (some 12)) (v := .int .i64 0) rfl rfl rfl (wanted_n rfl) rfl (by intro p hp; simp only [List.mem_cons, List.not_mem_nil, or_false] at hp; subst hp <;> simp [readA, opd, Tr.get_set, ofConst, ofScalar, binA, intA, cmpA, strA, unA, builtinReadA, lenOpA, loadA, loadCellsA, Heap.get_next_irrel, h0, f1, hg, g1, agg70, und70]) (by simp [AV.same, AV.sameL, eqB_refl]) rfl ?_
  refine dw_act (op := .call { callee := .builtin .unsafeString, args := #[(.tmp 7), (.tmp 12)], argTypes := #[229, 3] }) (d := (some 13)) (v := .str []) (h' := { h with next := h.next + 12 }) rfl rfl rfl (wanted_n rfl) rfl (by simp [actA, opd, Tr.get_set, builtinActA, und229, Res.ofOpt]) rfl ?_
  refine dw_rd (op := .assign (.tmp 13)) (d := (some 2)) (v := .str []) rfl rfl rfl (wanted_n rfl) rfl (by intro p hp; simp only [List.mem_cons, List.not_mem_nil, or_false] at hp; rcases hp with rfl | rfl <;> simp [readA, opd, Tr.get_set, ofConst, ofScalar, binA, intA, cmpA, strA, unA, builtinReadA, lenOpA, loadA, loadCellsA, Heap.get_next_irrel, h0, f1, hg, g1, agg70, und70]) (by simp [AV.same, AV.sameL, eqB_refl]) rfl ?_
  rw [dw_nil, Res.all_ok]
  exact hQ _ (by simp [Tr.get_set])

set_option maxRecDepth 100000 in
theorem bstr_run0 (I : Intr) (n : Nat) (l N : Nat) (h : Heap) (hI : I 68 [.ptr (some (l, 0))] h = none) (hb : Bld N h l []) (hl : l < h.next) (hN : N ≤ l) :
    (callA Tryz.prog I (n + 1) 68 [.ptr (some (l, 0))] h).all fun o => o.1 = .str [] ∧ Bld N o.2 l [] ∧ Same N h o.2 := by
  refine call_code hI Tryz.func68 bs_body (by rw [bs_nt]; simp) ?_
  rw [bs_nt]
  generalize callA Tryz.prog I n = call
  rcases hb with ⟨_, hg⟩ | ⟨hs, _⟩
  rotate_left
  · exact absurd rfl hs
  obtain ⟨env0, henv0⟩ : ∃ env0, env0 = argsEnv 0 [.ptr (some (l, 0))] .nil := ⟨_, rfl⟩
  rw [← henv0]
  have h00 : env0.get 0 = some (.ptr (some (l, 0))) := by rw [henv0]; simp [argsEnv, Tr.get_set]
  refine go_reg ?_
  rw [show (bs 0).size = 1 from by kernel_rfl]
  show (opsA Tryz.prog call 14 (bs 0) [0] env0 h).all _
  refine st_rd (op := .assign (.const (.string ⟨#[]⟩))) (d := (some 2)) (v := .str []) rfl rfl rfl (wanted_n rfl) rfl (by simp [readA, opd, Tr.get_set, ofConst, ofScalar, binA, intA, cmpA, strA, unA, builtinReadA, lenOpA, loadA, loadCellsA, Heap.get_next_irrel]) rfl ?_
  rw [opsA_nil, Res.all_ok]
  refine go_draw (bs_reg0 call _ l h (by simp [Tr.get_set, h00]) hg _ fun env' h2 => go_ret1 ?_)
  refine ⟨fun _ => (by simp), _, by simp only [resultsA, bs_rs, resList, resA, h2, Option.getD_some], rfl, .inl ⟨rfl, hg⟩, by show h.next ≤ h.next + 12; omega, fun _ _ => rfl⟩

noncomputable def ls (k : Nat) : Array Oper := (Tryz.f25.body.bind (regOf k)).getD #[]
theorem ls_body : Tryz.f25.body = some ((Code.region 0 (ls 0) false).seq ((Code.region 1 (ls 1) false).seq .ret)) := by kernel_rfl
theorem ls_nt : Tryz.f25.ntmps = 7 := by kernel_rfl
theorem ls_rs : Tryz.f25.results.toList = [.tmp 2] := by kernel_rfl

set_option maxRecDepth 100000 in
set_option maxHeartbeats 8000000 in
/-- All that was said. -/
theorem lstr_run (I : Intr) (n : Nat) (l : Nat) (h : Heap) (q : AV × Heap → Prop) (s : List UInt8) (hI : I 25 [.ptr (some (l, 0))] h = none) (hq : (callA Tryz.prog I n 68 [.ptr (some (l, 0))] h).all fun o => o.1 = .str s ∧ q o) :
    (callA Tryz.prog I (n + 1) 25 [.ptr (some (l, 0))] h).all q := by
  refine call_code hI Tryz.func25 ls_body (by rw [ls_nt]; simp) ?_
  rw [ls_nt]
  generalize callA Tryz.prog I n = call at hq
  obtain ⟨env0, henv0⟩ : ∃ env0, env0 = argsEnv 0 [.ptr (some (l, 0))] .nil := ⟨_, rfl⟩
  rw [← henv0]
  have h0 : env0.get 0 = some (.ptr (some (l, 0))) := by rw [henv0]; simp [argsEnv, Tr.get_set]
  have hf := fa74 l 0
  simp only [List.cons.injEq, and_true] at hf
  refine go_reg ?_
  rw [show (ls 0).size = 1 from by kernel_rfl]
  show (opsA Tryz.prog call 7 (ls 0) [0] env0 h).all _
  refine st_rd (op := .assign (.const (.string ⟨#[]⟩))) (d := (some 2)) (v := .str []) rfl rfl rfl (wanted_n rfl) rfl (by simp [readA, opd, Tr.get_set, ofConst, ofScalar, binA, intA, cmpA, strA, unA, builtinReadA, lenOpA, loadA, loadCellsA, Heap.get_next_irrel, h0, hf]) rfl ?_
  rw [opsA_nil, Res.all_ok]
  refine go_reg ?_
  rw [show (ls 1).size = 5 from by kernel_rfl]
  show (opsA Tryz.prog call 7 (ls 1) [0, 1, 2, 3, 4] _ h).all _
  refine st_rd (op := .move (.tmp 0)) (d := (some 3)) (v := .ptr (some (l, 0))) rfl rfl rfl (wanted_n rfl) rfl (by simp [readA, opd, Tr.get_set, ofConst, ofScalar, binA, intA, cmpA, strA, unA, builtinReadA, lenOpA, loadA, loadCellsA, Heap.get_next_irrel, h0, hf]) rfl ?_
  refine st_rd (op := .nilCheck (.tmp 3)) (d := (some 4)) (v := .ptr (some (l, 0))) rfl rfl rfl (wanted_n rfl) rfl (by simp [readA, opd, Tr.get_set, ofConst, ofScalar, binA, intA, cmpA, strA, unA, builtinReadA, lenOpA, loadA, loadCellsA, Heap.get_next_irrel, h0, hf]) rfl ?_
  refine st_rd (op := .fieldAddr 74 (.tmp 4) 0) (d := (some 5)) (v := .ptr (some (l, 0))) rfl rfl rfl (wanted_n rfl) rfl (by simp [readA, opd, Tr.get_set, ofConst, ofScalar, binA, intA, cmpA, strA, unA, builtinReadA, lenOpA, loadA, loadCellsA, Heap.get_next_irrel, h0, hf]) rfl ?_
  refine st_acts (op := .call { callee := .value (.func 68), args := #[(.tmp 5)], argTypes := #[72] }) (d := (some 6)) rfl rfl rfl (wanted_n rfl) rfl (actA_all (args := [.ptr (some (l, 0))]) (by simp [opd, Tr.get_set]) hq) ?_
  rintro v h' ⟨hv, hq'⟩
  simp only at hv
  subst hv
  refine ⟨_, rfl, ?_⟩
  refine st_rd (op := .assign (.tmp 6)) (d := (some 2)) (v := .str s) rfl rfl rfl (wanted_n rfl) rfl (by simp [readA, opd, Tr.get_set, ofConst, ofScalar, binA, intA, cmpA, strA, unA, builtinReadA, lenOpA, loadA, loadCellsA, Heap.get_next_irrel, h0, hf]) rfl ?_
  rw [opsA_nil, Res.all_ok]
  refine go_ret1 ⟨fun _ => (by simp), _, by simp [resultsA, ls_rs, resList, resA, Tr.get_set], hq'⟩

noncomputable def sy (k : Nat) : Array Oper := (Tryz.f24.body.bind (regOf k)).getD #[]
theorem sy_body : Tryz.f24.body = some (.region 0 (sy 0) true) := by kernel_rfl
theorem sy_nt : Tryz.f24.ntmps = 11 := by kernel_rfl
theorem sy_rs : Tryz.f24.results.toList = [] := by kernel_rfl
theorem sy_plan : (planOf Tryz.prog (sy 0)).map (·.ord) = some [3, 4, 0, 1, 2, 5, 6] := by kernel_rfl
theorem sy_size : (sy 0).size = 7 := by kernel_rfl

set_option maxRecDepth 100000 in
set_option maxHeartbeats 8000000 in
/-- A line is said. -/
theorem say_run (I : Intr) (n : Nat) (l : Nat) (h : Heap) (q : Heap → Prop) (ws : AV) (t : List UInt8) (ht : t.length < 100000) (hI : I 24 [.ptr (some (l, 0)), ws] h = none) (hss : AV.same ws ws = true)
    (hjn : ∀ m, callA Tryz.prog I n 66 [ws, .str [32]] { h with next := m } = .ok (.str t, { h with next := m }))
    (hq : ∀ m, h.next ≤ m → ∃ v h', callA Tryz.prog I n 67 [.ptr (some (l, 0)), .str (t ++ [10])] { h with next := m } = .ok (v, h') ∧ q h') :
    (callA Tryz.prog I (n + 1) 24 [.ptr (some (l, 0)), ws] h).all fun o => q o.2 := by
  refine call_code hI Tryz.func24 sy_body (by rw [sy_nt]; simp) ?_
  rw [sy_nt]
  generalize callA Tryz.prog I n = call at hq hjn
  obtain ⟨env0, henv0⟩ : ∃ env0, env0 = argsEnv 0 [.ptr (some (l, 0)), ws] .nil := ⟨_, rfl⟩
  rw [← henv0]
  have h0 : env0.get 0 = some (.ptr (some (l, 0))) := by rw [henv0]; simp [argsEnv, Tr.get_set]
  have h1 : env0.get 1 = some ws := by rw [henv0]; simp [argsEnv, Tr.get_set]
  have hf := fa74 l 0
  simp only [List.cons.injEq, and_true] at hf
  have l1 : t.length + 1 < 4611686018427387904 := by omega
  obtain ⟨v6, h6, e6, q6⟩ := hq (h.next + 7) (by omega)
  rw [codeA_region, Res.all_bind]
  refine regionA_draw sy_plan sy_size fun M => ?_
  refine dw_rd (op := .move (.tmp 1)) (d := (some 7)) (v := ws) rfl rfl rfl (wanted_n rfl) rfl (by intro p hp; simp only [List.mem_cons, List.not_mem_nil, or_false] at hp; subst hp <;> simp [readA, opd, Tr.get_set, ofConst, ofScalar, binA, intA, cmpA, strA, unA, builtinReadA, lenOpA, loadA, loadCellsA, Heap.get_next_irrel, h0, h1, hf, l1, hss]) hss rfl ?_
  refine dw_act (op := .call { callee := .value (.func 66), args := #[(.tmp 7), (.const (.string ⟨#[32]⟩))], argTypes := #[25, 9] }) (d := (some 8)) (v := .str t) (h' := { h with next := h.next + 7 }) rfl rfl rfl (wanted_n rfl) rfl (actA_ok (args := [ws, .str [32]]) (by simp [opd, Tr.get_set, ofConst, ofScalar]) (hjn _)) rfl ?_
  refine dw_rd (op := .move (.tmp 0)) (d := (some 4)) (v := .ptr (some (l, 0))) rfl rfl rfl (wanted_n rfl) rfl (by intro p hp; simp only [List.mem_cons, List.not_mem_nil, or_false] at hp; rcases hp with rfl | rfl <;> simp [readA, opd, Tr.get_set, ofConst, ofScalar, binA, intA, cmpA, strA, unA, builtinReadA, lenOpA, loadA, loadCellsA, Heap.get_next_irrel, h0, h1, hf, l1, hss]) (by simp [AV.same, AV.sameL, eqB_refl]) rfl ?_
  refine dw_rd (op := .nilCheck (.tmp 4)) (d := (some 5)) (v := .ptr (some (l, 0))) rfl rfl rfl (wanted_n rfl) rfl (by intro p hp; simp only [List.mem_cons, List.not_mem_nil, or_false] at hp; rcases hp with rfl | rfl <;> simp [readA, opd, Tr.get_set, ofConst, ofScalar, binA, intA, cmpA, strA, unA, builtinReadA, lenOpA, loadA, loadCellsA, Heap.get_next_irrel, h0, h1, hf, l1, hss]) (by simp [AV.same, AV.sameL, eqB_refl]) rfl ?_
  refine dw_rd (op := .fieldAddr 74 (.tmp 5) 0) (d := (some 6)) (v := .ptr (some (l, 0))) rfl rfl rfl (wanted_n rfl) rfl (by intro p hp; simp only [List.mem_cons, List.not_mem_nil, or_false] at hp; rcases hp with rfl | rfl <;> simp [readA, opd, Tr.get_set, ofConst, ofScalar, binA, intA, cmpA, strA, unA, builtinReadA, lenOpA, loadA, loadCellsA, Heap.get_next_irrel, h0, h1, hf, l1, hss]) (by simp [AV.same, AV.sameL, eqB_refl]) rfl ?_
  refine dw_rd (op := .binOp .add 9 (.tmp 8) (.const (.string ⟨#[10]⟩)) 9) (d := (some 9)) (v := .str (t ++ [10])) rfl rfl rfl (wanted_n rfl) rfl (by intro p hp; simp only [List.mem_cons, List.not_mem_nil, or_false] at hp; rcases hp with rfl | rfl <;> simp [readA, opd, Tr.get_set, ofConst, ofScalar, binA, intA, cmpA, strA, unA, builtinReadA, lenOpA, loadA, loadCellsA, Heap.get_next_irrel, h0, h1, hf, l1, hss]) (by simp [AV.same, AV.sameL, eqB_refl]) rfl ?_
  refine dw_act (op := .call { callee := .value (.func 67), args := #[(.tmp 6), (.tmp 9)], argTypes := #[72, 9] }) (d := (some 10)) (v := v6) (h' := h6) rfl rfl rfl (wanted_n rfl) rfl (actA_ok (args := [.ptr (some (l, 0)), .str (t ++ [10])]) (by simp [opd, Tr.get_set, ofConst, ofScalar]) e6) rfl ?_
  rw [dw_nil, Res.all_ok]
  exact ⟨fun _ => (by simp), _, by simp [resultsA, sy_rs, resList]; rfl, q6⟩
end Go.Am
