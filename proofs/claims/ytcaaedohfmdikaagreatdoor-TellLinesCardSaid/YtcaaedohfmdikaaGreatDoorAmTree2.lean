/- Part of the proof of TellLines: its text AmTree2. Conditions: none. -/
import Derived.Test.YtcaaedohfmdikaaGreatDoorAmTree
set_option linter.unusedVariables false
set_option linter.unusedSimpArgs false
open Go Go.Am Go.Proofs
namespace Go.Am

noncomputable def looseLoop : Code := ((Tryz.f224.body.bind loopOf)).getD .skip
theorem fa_links (x xo : Nat) : fieldAddrA Tryz.prog 193 (.ptr (some (x, xo))) 1 = some (.ptr (some (x, xo + 1))) := by kernel_rfl
theorem agg3 : aggT Tryz.prog 3 = some false := by kernel_rfl

/-- A node that stands somewhere. -/
def Linked (h : Heap) (p : AV × AV) : Prop := ∃ x xo els sz el ro fz k, p.2 = .ptr (some (x, xo)) ∧ h.get x = some (.cells els sz el ro fz) ∧ getC els sz (xo + 1) 1 = some [.int .i64 k] ∧ k ≠ 0

theorem Linked.put {h : Heap} {r : Nat} {o : AObj} {p : AV × AV} (hd : Linked h p) (hr : ∀ els sz el ro fz, h.get r ≠ some (.cells els sz el ro fz)) : Linked (h.put r o) p := by
  obtain ⟨x, xo, els, sz, el, ro, fz, k, h1, h2, h3⟩ := hd
  exact ⟨x, xo, els, sz, el, ro, fz, k, h1, by rw [Heap.get_put_ne (by rintro rfl; exact hr _ _ _ _ _ h2)]; exact h2, h3⟩
theorem Linked.new {h : Heap} {o : AObj} {p : AV × AV} (hd : Linked h p) (hr : h.get h.next = none) : Linked (h.new o) p := by
  obtain ⟨x, xo, els, sz, el, ro, fz, k, h1, h2, h3⟩ := hd
  exact ⟨x, xo, els, sz, el, ro, fz, k, h1, by rw [Heap.get_new_ne (by rintro rfl; rw [hr] at h2; cases h2)]; exact h2, h3⟩

set_option maxHeartbeats 4000000 in
theorem loose_end (call : CallF) (n : Nat) (env : Env) (h : Heap) (r m : Nat) (es : List (AV × AV)) (ver : Nat) (last : Option (AV × AV))
    (h10 : env.get 10 = some (.ptr (some (r, 0)))) (hr : h.get r = some (.miter (some m) [] ver last)) (hm : h.get m = some (.map es ver)) :
    codeA Tryz.prog call 28 n looseLoop env h = .ok (.exit 0, (env.set 11 (.tuple [.bool false])).set 12 (.bool false), h.put r .dead) := by
  simp [looseLoop, Tryz.f224, loopOf, codeA, regionA, opsA, opA, kindA, readA, actA, nextA, opd, putO, wantedA, Tr.get_set, h10, hr, hm, List.range, List.range.loop]

set_option maxHeartbeats 4000000 in
theorem loose_one (call : CallF) (n : Nat) (env : Env) (h : Heap) (r m : Nat) (es : List (AV × AV)) (ver : Nat) (last : Option (AV × AV)) (left : List (AV × AV)) (Q : AExit × Env × Heap → Prop) (hne : left ≠ [])
    (h10 : env.get 10 = some (.ptr (some (r, 0)))) (h3 : env.get 3 = some (.slice none 0 (some 0))) (hr : h.get r = some (.miter (some m) left ver last)) (hm : h.get m = some (.map es ver)) (hmr : m ≠ r)
    (hd : ∀ p ∈ left, Linked h p)
    (hQ : ∀ i p env', left[i]? = some p → env'.get 10 = some (.ptr (some (r, 0))) → env'.get 3 = some (.slice none 0 (some 0)) → Q (.norm, env', h.put r (.miter (some m) (left.eraseIdx i) ver (some p)))) :
    (codeA Tryz.prog call 28 n looseLoop env h).all Q := by
  simp [looseLoop, Tryz.f224, loopOf, codeA, regionA, opsA, opA, kindA, readA, actA, opd, putO, wantedA, Tr.get_set, h10, List.range, List.range.loop, Res.bind_assoc]
  rw [Res.all_bind]
  refine next_all hne hr hm ?_
  intro i p hi
  obtain ⟨x, xo, els, sz, el, ro, fz, k, hp2, hx, hg, hk⟩ := hd p (List.mem_of_getElem? hi)
  have hxr : x ≠ r := by rintro rfl; rw [hr] at hx; cases hx
  have hx' : (h.put r (.miter (some m) (left.eraseIdx i) ver (some p))).get x = some (.cells els sz el ro fz) := by rw [Heap.get_put_ne hxr]; exact hx
  have hm' : (h.put r (.miter (some m) (left.eraseIdx i) ver (some p))).get m = some (.map es ver) := by rw [Heap.get_put_ne hmr]; exact hm
  obtain ⟨p1, p2⟩ := p
  simp only at hp2
  subst hp2
  have hkb : (k == 0) = false := by simpa using hk
  simp [entryA, Tr.get_set, fa_links, loadA, agg3, loadCellsA, hx', hm', hg, h3, binA, intA, cmpA, h10, ofConst, ofScalar, hkb]
  exact hQ i _ _ hi (by simp [Tr.get_set, h10]) (by simp [Tr.get_set, h3])

theorem loose_iter (call : CallF) (n : Nat) (r m : Nat) (es : List (AV × AV)) (ver : Nat) (hmr : m ≠ r) : ∀ (k : Nat) (left : List (AV × AV)) (env : Env) (h : Heap) (last : Option (AV × AV)), left.length < k →
    env.get 10 = some (.ptr (some (r, 0))) → env.get 3 = some (.slice none 0 (some 0)) → h.get r = some (.miter (some m) left ver last) → h.get m = some (.map es ver) → (∀ p ∈ left, Linked h p) →
    (iterA (fun env h => codeA Tryz.prog call 28 n looseLoop env h) k env h).all fun o => o.1 = .exit 0 ∧ o.2.1.get 3 = some (.slice none 0 (some 0)) ∧ o.2.2 = h.put r .dead
  | 0, left, env, h, last, hk, _, _, _, _, _ => by omega
  | k + 1, left, env, h, last, hk, h10, h3, hr, hm, hd => by
    simp only [iterA]
    rw [Res.all_bind]
    by_cases hne : left = []
    · subst hne
      rw [loose_end call n env h r m es ver last h10 hr hm]
      simp only [Res.all_ok]
      exact ⟨trivial, by simp [Tr.get_set, h3], trivial⟩
    · refine loose_one call n env h r m es ver last left _ hne h10 h3 hr hm hmr hd ?_
      intro i p env' hi e10 e3
      have hil : i < left.length := (List.getElem?_eq_some_iff.1 hi).1
      have hlen : (left.eraseIdx i).length < k := by rw [List.length_eraseIdx]; simp [hil]; omega
      have ih := loose_iter call n r m es ver hmr k (left.eraseIdx i) env' (h.put r (.miter (some m) (left.eraseIdx i) ver (some p))) (some p) hlen e10 e3 (Heap.get_put_same ..)
        (by rw [Heap.get_put_ne hmr]; exact hm) (fun q hq => (hd q ((List.eraseIdx_sublist left i).subset hq)).put (by intro _ _ _ _ _ e; rw [hr] at e; cases e))
      refine Res.all_mono ?_ ih
      rintro ⟨e, env2, h2⟩ ⟨q1, q2, q3⟩
      exact ⟨q1, q2, by rw [q3, Heap.put_put]⟩

set_option maxRecDepth 1000000 in
theorem sort_nil (h : Heap) : callA Tryz.prog (fun _ _ _ => none) 50 305 [.slice none 0 (some 0)] h = .ok (.tuple [], h) := by kernel_rfl

set_option maxHeartbeats 4000000 in
theorem loose_fn (I : Intr) (n t off m : Nat) (h : Heap) (es : List (AV × AV)) (ver : Nat) (Q : AV × Heap → Prop) (hI : I 224 [.ptr (some (t, off))] h = none) (hn : es.length < n) (hsort : ∀ h, callA Tryz.prog I n 305 [.slice none 0 (some 0)] h = .ok (.tuple [], h))
    (hl : loadA Tryz.prog 195 (.ptr (some (t, off))) h = some (.map (some m))) (hm : h.get m = some (.map es ver)) (hmn : m ≠ h.next) (hnone : h.get h.next = none) (hd : ∀ p ∈ es, Linked h p)
    (hq : Q (.slice none 0 (some 0), h.new .dead)) : (callA Tryz.prog I (n + 1) 224 [.ptr (some (t, off))] h).all Q := by
  obtain ⟨a, b, hu⟩ := und195
  simp only [callA, hI, Tryz.func224, bodyA]
  have hnew : ∀ o, h.new o = ({ h with next := h.next + 1 } : Heap).put h.next o := fun _ => rfl
  generalize callA Tryz.prog I n = call at hsort
  simp [Tryz.f224, codeA_seq, codeA_region, codeA_block, codeA_loop, codeA_ret, regionA, opsA, opA, kindA, readA, actA, opd, putO, wantedA, Tr.get_set, List.range, List.range.loop, argsEnv, fa_nodes, hl, rangeA, hu, hm, Res.ofOpt, ofConst, ofScalar]
  simp only [Res.bind_assoc]
  rw [Res.all_bind]
  refine Res.all_mono ?_ (loose_iter call n h.next m es ver hmn n es _ (h.new (.miter (some m) es ver none)) none hn (by simp [Tr.get_set]) (by simp [Tr.get_set]) (Heap.get_new_same ..)
    (by rw [Heap.get_new_ne hmn]; exact hm) (fun p hp => (hd p hp).new hnone))
  rintro ⟨e, env2, h2⟩ ⟨q1, q2, q3⟩
  simp only at q1 q2 q3
  subst q1; subst q3
  have e1 : (h.new (.miter (some m) es ver none)).put h.next .dead = h.new .dead := by rw [hnew, hnew, Heap.put_put]
  simp [q2, resultsA, resList, resA, Tr.get_set, e1, calleeA, opd, hsort]
  simpa using hq
end Go.Am
