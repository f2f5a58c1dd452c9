/- Part of the proof of TellLines: its text AmTree5. Conditions: none. -/
import Derived.Test.YtcaaedohfmdikaaGreatDoorAmTree4
set_option linter.unusedVariables false
set_option linter.unusedSimpArgs false
open Go Go.Am Go.Proofs
namespace Go.Am

noncomputable def clone0 : Array Oper := (Tryz.f225.body.bind (regOf 0)).getD #[]
noncomputable def clone2 : Array Oper := (Tryz.f225.body.bind (regOf 2)).getD #[]
noncomputable def clone6 : Array Oper := (Tryz.f225.body.bind (regOf 6)).getD #[]
theorem size0 : clone0.size = 1 := by kernel_rfl
theorem size2 : clone2.size = 5 := by kernel_rfl
theorem size6 : clone6.size = 2 := by kernel_rfl
theorem clone_body : Tryz.f225.body = some ((Code.region 0 clone0 false).seq ((Code.region 1 clone1 true).seq (((Code.region 2 clone2 false).seq (.block 0 (.loop cloneLoop))).seq ((Code.region 6 clone6 false).seq .ret)))) := by kernel_rfl
theorem clone_nt : Tryz.f225.ntmps = 52 := by kernel_rfl
theorem clone_rs : Tryz.f225.results.toList = [.tmp 2] := by kernel_rfl

set_option maxRecDepth 100000 in
set_option maxHeartbeats 4000000 in
theorem clone_code (call : CallF) (hC : MClone call) (n t off m : Nat) (h : Heap) (es : List (AV × AV)) (ver : Nat) (nx qt : AV) (els : List (List AV)) (sz : Nat) (el : TypeId) (ro : Bool) (fz : Nat) (env : Env)
    (h0 : env.get 0 = some (.ptr (some (t, off)))) (ht : h.get t = some (.cells els sz el ro fz)) (e0 : getC els sz off 1 = some [.map (some m)]) (e1 : getC els sz (off + 1) 1 = some [nx]) (e2 : getC els sz (off + 2) 1 = some [qt])
    (o1 : nx.cellOk = true) (o2 : qt.cellOk = true) (s1 : AV.same nx nx = true) (s2 : AV.same qt qt = true) (hm : h.get m = some (.map es ver)) (hmem : ∀ id o, h.get id = some o → id < h.next) (hn : es.length < n)
    (hobs : ∀ p ∈ es, ∃ d l b k ko, nodeA h p = some (d, l, b, k) ∧ kidsA h k = some ko) (hkey : ∀ p ∈ es, keyFits Tryz.prog 3 p.1 = true ∧ AV.same p.1 p.1 = true) (hpw : es.Pairwise fun p q => keyEq p.1 q.1 = some false) :
    (codeA Tryz.prog call 52 n ((Code.region 0 clone0 false).seq ((Code.region 1 clone1 true).seq (((Code.region 2 clone2 false).seq (.block 0 (.loop cloneLoop))).seq ((Code.region 6 clone6 false).seq .ret)))) env h).all
      fun o : AExit × Env × Heap => o.1 = AExit.ret ∧ ∃ u M D, o.2.1.get 2 = some (AV.ptr (some (u, 0))) ∧ CloneEnd 197 193 h es nx qt (.ptr (some (u, 0))) o.2.2 D u M := by
  have htl := hmem _ _ ht
  have hml := hmem _ _ hm
  rw [codeA_seq, Res.all_bind, codeA_region, regionA_seq, size0, Res.all_bind]
  show (opsA Tryz.prog call 52 clone0 [0] env h).all _
  refine seq_rd (op := .assign (.const (.pointer none))) (d := some 2) (v := .ptr none) rfl rfl rfl rfl rfl rfl rfl ?_
  simp only [opsA, Res.all_ok]
  rw [codeA_seq, Res.all_bind, codeA_region, Res.all_bind]
  refine reg1 call _ h t off nx qt els sz el ro fz _ (by simp [Tr.get_set, h0]) ht e1 e2 o1 o2 s1 s2 ?_
  intro env1 k0 k3
  obtain ⟨h1, hh1⟩ : ∃ h1, h1 = (({ h with next := h.next + 12 } : Heap).put h.next (.map [] 0)).put (h.next + 10) (.cells [[.map (some h.next), nx, qt]] 3 197 false 0) := ⟨_, rfl⟩
  rw [← hh1]
  have hn1 : h1.next = h.next + 12 := by rw [hh1]; rfl
  have hg1 : ∀ id, id < h.next → h1.get id = h.get id := fun id hid => by rw [hh1, Heap.get_put_ne (by omega), Heap.get_put_ne (by omega)]; rfl
  have ht1 : h1.get t = some (.cells els sz el ro fz) := by rw [hg1 t htl]; exact ht
  have hm1 : h1.get m = some (.map es ver) := by rw [hg1 m hml]; exact hm
  simp only [Res.all_ok]
  rw [codeA_seq, Res.all_bind, codeA_seq, Res.all_bind, codeA_region, regionA_seq, size2, Res.all_bind]
  show (opsA Tryz.prog call 52 clone2 [0, 1, 2, 3, 4] env1 h1).all _
  refine seq_rd (op := .move (.tmp 0)) (d := some 17) (v := .ptr (some (t, off))) rfl rfl rfl rfl rfl (by simp [readA, opd, k0]) rfl ?_
  refine seq_rd (op := .nilCheck (.tmp 17)) (d := some 18) (v := .ptr (some (t, off))) rfl rfl rfl rfl rfl (by simp [readA, opd, Tr.get_set]) rfl ?_
  refine seq_rd (op := .fieldAddr 197 (.tmp 18) 0) (d := some 19) (v := .ptr (some (t, off))) rfl rfl rfl rfl rfl (by simp [readA, opd, Tr.get_set, fa_nodes]) rfl ?_
  refine seq_rd (op := .load 195 (.tmp 19)) (d := some 20) (v := .map (some m)) rfl rfl rfl rfl rfl (by simp [readA, opd, Tr.get_set, loadA, loadCellsA, agg195, ht1, e0]) rfl ?_
  refine seq_act (op := .range 195 (.tmp 20)) (d := some 21) rfl rfl rfl rfl rfl ?_
  obtain ⟨h2, hh2⟩ : ∃ h2, h2 = h1.new (.miter (some m) es ver none) := ⟨_, rfl⟩
  have hra : rangeA Tryz.prog h1 195 (.map (some m)) = some (.ptr (some (h1.next, 0)), h2) := by simp [rangeA, map195, hm1, hh2]
  simp only [actA, opd, Tr.get_set_same, Option.getD_some, hra, Res.ofOpt, Res.all_ok]
  refine ⟨_, rfl, ?_⟩
  simp only [opsA, Res.all_ok]
  have hn2 : h2.next = h.next + 13 := by rw [hh2]; show h1.next + 1 = _; omega
  have hg2 : ∀ id, id ≠ h1.next → h2.get id = h1.get id := fun id hid => by rw [hh2]; exact Heap.get_new_ne hid
  rw [codeA_block, Res.all_bind, codeA_loop]
  have hst : CloneSt h es nx qt h1.next (h.next + 10) h.next [] es h2 := by
    refine ⟨fun id hid => by rw [hg2 id (by omega), hg1 id hid], ?_, ⟨0, ?_⟩, by simp, by simp, by simp [idsOf], ?_, by omega, by omega⟩
    · rw [hg2 _ (by omega), hh1, Heap.get_put_same]
    · rw [hg2 _ (by omega), hh1, Heap.get_put_ne (by omega), Heap.get_put_same]; rfl
    · intro id hid
      simp only [idsOf, List.flatMap_nil, List.mem_cons, List.not_mem_nil, or_false] at hid
      rcases hid with rfl | rfl <;> refine ⟨?_, ?_, ?_⟩ <;> omega
  refine Res.all_mono ?_ (clone_iter call hC n h es nx qt h1.next (h.next + 10) h.next m ver hm hml hmem hobs hkey hpw n es [] _ h2 none hn (by simp [Tr.get_set]) (by simp [Tr.get_set, k3]) (by rw [hh2]; exact Heap.get_new_same ..) hst)
  rintro ⟨e, env2, h3⟩ ⟨q1, q2, D, q3⟩
  simp only at q1 q2 q3
  subst q1
  simp only [if_true, Res.all_ok]
  rw [codeA_seq, Res.all_bind, codeA_region, regionA_seq, size6, Res.all_bind]
  show (opsA Tryz.prog call 52 clone6 [0, 1] env2 h3).all _
  refine seq_rd (op := .move (.tmp 3)) (d := some 51) (v := .ptr (some (h.next + 10, 0))) rfl rfl rfl rfl rfl (by simp [readA, opd, q2]) rfl ?_
  refine seq_rd (op := .assign (.tmp 51)) (d := some 2) (v := .ptr (some (h.next + 10, 0))) rfl rfl rfl rfl rfl (by simp [readA, opd, Tr.get_set]) rfl ?_
  simp only [opsA, Res.all_ok, codeA_ret]
  exact ⟨trivial, h.next + 10, h.next, D, by simp [Tr.get_set], q3⟩

set_option maxRecDepth 100000 in
theorem clone_fn (I : Intr) (n t off m : Nat) (hC : MClone (callA Tryz.prog I n)) (h : Heap) (es : List (AV × AV)) (ver : Nat) (nx qt : AV) (els : List (List AV)) (sz : Nat) (el : TypeId) (ro : Bool) (fz : Nat) (hI : I 225 [.ptr (some (t, off))] h = none)
    (ht : h.get t = some (.cells els sz el ro fz)) (e0 : getC els sz off 1 = some [.map (some m)]) (e1 : getC els sz (off + 1) 1 = some [nx]) (e2 : getC els sz (off + 2) 1 = some [qt])
    (o1 : nx.cellOk = true) (o2 : qt.cellOk = true) (s1 : AV.same nx nx = true) (s2 : AV.same qt qt = true) (hm : h.get m = some (.map es ver)) (hmem : ∀ id o, h.get id = some o → id < h.next) (hn : es.length < n)
    (hobs : ∀ p ∈ es, ∃ d l b k ko, nodeA h p = some (d, l, b, k) ∧ kidsA h k = some ko) (hkey : ∀ p ∈ es, keyFits Tryz.prog 3 p.1 = true ∧ AV.same p.1 p.1 = true) (hpw : es.Pairwise fun p q => keyEq p.1 q.1 = some false) :
    (callA Tryz.prog I (n + 1) 225 [.ptr (some (t, off))] h).all fun o => ∃ u M D, CloneEnd 197 193 h es nx qt o.1 o.2 D u M := by
  simp only [callA, hI, Tryz.func225, bodyA, clone_body, clone_nt]
  generalize callA Tryz.prog I n = call at hC
  rw [if_pos (by simp), Res.all_bind]
  obtain ⟨env0, henv0⟩ : ∃ env0, env0 = argsEnv 0 [.ptr (some (t, off))] .nil := ⟨_, rfl⟩
  rw [← henv0]
  have h00 : env0.get 0 = some (.ptr (some (t, off))) := by rw [henv0]; simp [argsEnv, Tr.get_set]
  have key := clone_code call hC n t off m h es ver nx qt els sz el ro fz env0 h00 ht e0 e1 e2 o1 o2 s1 s2 hm hmem hn hobs hkey hpw
  refine Res.all_mono ?_ key
  rintro ⟨e, env, h'⟩ ⟨q1, u, M, D, q2, q3⟩
  simp only at q1 q2 q3
  subst q1
  have : resultsA Tryz.prog Tryz.f225 env h' = some (.ptr (some (u, 0))) := by simp [resultsA, clone_rs, resList, resA, q2]
  simp only [this, Res.all_ok]
  exact ⟨u, M, D, q3⟩
end Go.Am
