/- Part of the proof of TellLines: its text AmTree. Conditions: none. -/
import Derived.Test.YtcaaedohfmdikaaGreatDoorAmExt
import Derived.Test.YtcaaedohfmdikaaGreatDoorChecked
set_option linter.unusedVariables false
set_option linter.unusedSimpArgs false
open Go Go.Am Go.Proofs
namespace Go.Am

theorem Heap.put_put (h : Heap) (r : Nat) (a b : AObj) : (h.put r a).put r b = h.put r b := by
  simp only [Heap.put, Tr.set, Tr.setP_setP]

def loopOf : Code → Option Code
  | .loop c => some c
  | .seq a b => (loopOf a).or (loopOf b)
  | .block _ c => loopOf c
  | .cond _ a b => (loopOf a).or (loopOf b)
  | _ => none

noncomputable def usedLoop : Code := ((Tryz.f304.body.bind loopOf)).getD .skip

theorem fa_data (x xo : Nat) : fieldAddrA Tryz.prog 193 (.ptr (some (x, xo))) 2 = some (.ptr (some (x, xo + 2))) := by kernel_rfl
theorem agg70 : aggT Tryz.prog 70 = some false := by kernel_rfl
theorem len70 (h : Heap) (a : Option (Nat × Nat)) (n : Nat) (c : Option Nat) : lenOpA Tryz.prog h 70 (.slice a n c) = some (.int .i64 n) := by kernel_rfl

/-- An entry of a tree's nodes has so many bytes. -/
def DataLen (h : Heap) (p : AV × AV) (n : Nat) : Prop := ∃ x xo els sz el ro fz a c, p.2 = .ptr (some (x, xo)) ∧ h.get x = some (.cells els sz el ro fz) ∧ getC els sz (xo + 2) 1 = some [.slice a n c]

set_option maxHeartbeats 4000000 in
theorem used_end (call : CallF) (n : Nat) (env : Env) (h : Heap) (r m : Nat) (es : List (AV × AV)) (ver : Nat) (last : Option (AV × AV))
    (h10 : env.get 10 = some (.ptr (some (r, 0)))) (hr : h.get r = some (.miter (some m) [] ver last)) (hm : h.get m = some (.map es ver)) :
    codeA Tryz.prog call 23 n usedLoop env h = .ok (.exit 0, (env.set 11 (.tuple [.bool false])).set 12 (.bool false), h.put r .dead) := by
  simp [usedLoop, Tryz.f304, loopOf, codeA, regionA, opsA, opA, kindA, readA, actA, nextA, opd, putO, wantedA, Tr.get_set, h10, hr, hm, List.range, List.range.loop]

theorem Res.bind_assoc {α β γ : Type} (x : Res α) (f : α → Res β) (g : β → Res γ) : (x.bind f).bind g = x.bind fun a => (f a).bind g := by
  induction x with
  | ok a => rfl
  | fail => rfl
  | choose n k ih => simp only [Res.bind_choose]; congr 1; funext i; exact ih i

theorem next_all {h : Heap} {r m : Nat} {left es : List (AV × AV)} {ver : Nat} {last : Option (AV × AV)} {Q : AV × Heap → Prop} (hne : left ≠ []) (hr : h.get r = some (.miter (some m) left ver last)) (hm : h.get m = some (.map es ver))
    (hq : ∀ i p, left[i]? = some p → Q (.tuple [.bool true, p.1, p.2], h.put r (.miter (some m) (left.eraseIdx i) ver (some p)))) : (nextA h (.ptr (some (r, 0))) false).all Q := by
  simp only [nextA, hr, hm, if_true]
  match left, hne, hq with
  | [(k, v)], _, hq => exact hq 0 (k, v) rfl
  | (k, v) :: q :: l, _, hq =>
    refine ⟨by simp, fun i hi => ?_⟩
    simp only
    cases hp : ((k, v) :: q :: l)[i]? with
    | none => rw [List.getElem?_eq_none_iff] at hp; omega
    | some p => exact hq i p hp

set_option maxHeartbeats 4000000 in
theorem used_one (call : CallF) (n : Nat) (env : Env) (h : Heap) (r m : Nat) (es : List (AV × AV)) (ver : Nat) (last : Option (AV × AV)) (left : List (AV × AV)) (acc : Int) (Q : AExit × Env × Heap → Prop) (hne : left ≠ [])
    (h10 : env.get 10 = some (.ptr (some (r, 0)))) (h3 : env.get 3 = some (.int .i64 acc)) (hr : h.get r = some (.miter (some m) left ver last)) (hm : h.get m = some (.map es ver)) (hmr : m ≠ r)
    (hd : ∀ p ∈ left, ∃ k, DataLen h p k)
    (hQ : ∀ i p k env', left[i]? = some p → DataLen h p k → env'.get 10 = some (.ptr (some (r, 0))) → env'.get 3 = some (.int .i64 (wrapA .i64 (acc + k))) → Q (.norm, env', h.put r (.miter (some m) (left.eraseIdx i) ver (some p)))) :
    (codeA Tryz.prog call 23 n usedLoop env h).all Q := by
  simp [usedLoop, Tryz.f304, loopOf, codeA, regionA, opsA, opA, kindA, readA, actA, opd, putO, wantedA, Tr.get_set, h10, List.range, List.range.loop, Res.bind_assoc]
  rw [Res.all_bind]
  refine next_all hne hr hm ?_
  intro i p hi
  obtain ⟨k, x, xo, els, sz, el, ro, fz, a, c, hp2, hx, hg⟩ := hd p (List.mem_of_getElem? hi)
  have hxr : x ≠ r := by rintro rfl; rw [hr] at hx; cases hx
  have hx' : (h.put r (.miter (some m) (left.eraseIdx i) ver (some p))).get x = some (.cells els sz el ro fz) := by rw [Heap.get_put_ne hxr]; exact hx
  have hm' : (h.put r (.miter (some m) (left.eraseIdx i) ver (some p))).get m = some (.map es ver) := by rw [Heap.get_put_ne hmr]; exact hm
  obtain ⟨p1, p2⟩ := p
  simp only at hp2
  subst hp2
  simp [entryA, Tr.get_set, fa_data, loadA, agg70, loadCellsA, hx', hm', hg, builtinReadA, len70, h3, binA, intA, h10]
  exact hQ i _ k _ hi ⟨x, xo, els, sz, el, ro, fz, a, c, rfl, hx, hg⟩ (by simp [Tr.get_set, h10]) (by simp [Tr.get_set])

/-! ### Code, step by step -/
noncomputable def iterC (P : Program) (call : CallF) (nt n : Nat) (c : Code) (env : Env) (h : Heap) : Out := iterA (fun env h => codeA P call nt n c env h) n env h
section
variable {P : Program} {call : CallF} {nt n : Nat} {env : Env} {h : Heap}
theorem codeA_skip : codeA P call nt n .skip env h = .ok (.norm, env, h) := rfl
theorem codeA_region {id : Nat} {ops : Array Oper} {d : Bool} : codeA P call nt n (.region id ops d) env h = (regionA P call nt ops d env h).bind fun r => .ok (.norm, r.1, r.2) := rfl
theorem codeA_seq {a b : Code} : codeA P call nt n (.seq a b) env h = (codeA P call nt n a env h).bind fun r => match r.1 with
    | .norm => codeA P call nt n b r.2.1 r.2.2
    | _ => .ok r := rfl
theorem codeA_block {id : Nat} {c : Code} : codeA P call nt n (.block id c) env h = (codeA P call nt n c env h).bind fun r => match r.1 with
    | .exit id' => .ok (if id' = id then .norm else .exit id', r.2)
    | _ => .ok r := rfl
theorem codeA_loop {c : Code} : codeA P call nt n (.loop c) env h = iterC P call nt n c env h := rfl
theorem codeA_exit {id : Nat} : codeA P call nt n (.exit id) env h = .ok (.exit id, env, h) := rfl
theorem codeA_ret : codeA P call nt n .ret env h = .ok (.ret, env, h) := rfl
theorem codeA_cond {c : Operand} {a b : Code} : codeA P call nt n (.cond c a b) env h = match opd env c with
    | .bool true => codeA P call nt n a env h
    | .bool false => codeA P call nt n b env h
    | _ => .fail := rfl
end

theorem DataLen.put {h : Heap} {r : Nat} {o : AObj} {p : AV × AV} {k : Nat} (hd : DataLen h p k) (hr : ∀ els sz el ro fz, h.get r ≠ some (.cells els sz el ro fz)) : DataLen (h.put r o) p k := by
  obtain ⟨x, xo, els, sz, el, ro, fz, a, c, h1, h2, h3⟩ := hd
  exact ⟨x, xo, els, sz, el, ro, fz, a, c, h1, by rw [Heap.get_put_ne (by rintro rfl; exact hr _ _ _ _ _ h2)]; exact h2, h3⟩

theorem DataLen.new {h : Heap} {o : AObj} {p : AV × AV} {k : Nat} (hd : DataLen h p k) (hr : h.get h.next = none) : DataLen (h.new o) p k := by
  obtain ⟨x, xo, els, sz, el, ro, fz, a, c, h1, h2, h3⟩ := hd
  exact ⟨x, xo, els, sz, el, ro, fz, a, c, h1, by rw [Heap.get_new_ne (by rintro rfl; rw [hr] at h2; cases h2)]; exact h2, h3⟩

theorem DataLen.unique {h : Heap} {p : AV × AV} {k k' : Nat} (a : DataLen h p k) (b : DataLen h p k') : k = k' := by
  obtain ⟨x, xo, els, sz, el, ro, fz, a, c, h1, h2, h3⟩ := a
  obtain ⟨x', xo', els', sz', el', ro', fz', a', c', g1, g2, g3⟩ := b
  rw [h1] at g1
  simp only [AV.ptr.injEq, Option.some.injEq, Prod.mk.injEq] at g1
  obtain ⟨rfl, rfl⟩ := g1
  rw [h2] at g2
  simp only [Option.some.injEq, AObj.cells.injEq] at g2
  obtain ⟨rfl, rfl, _⟩ := g2
  rw [h3] at g3
  simp only [Option.some.injEq, List.cons.injEq, AV.slice.injEq] at g3
  exact g3.1.2.1

theorem sum_erase {α : Type} (L : α → Nat) : ∀ (l : List α) (i : Nat) (p : α), l[i]? = some p → ((l.eraseIdx i).map L).sum + L p = (l.map L).sum
  | [], i, p, h => by simp at h
  | x :: l, 0, p, h => by simp at h; subst h; simp; omega
  | x :: l, i + 1, p, h => by
    have := sum_erase L l i p (by simpa using h)
    simp; omega

theorem wrap_small {a : Int} (h0 : 0 ≤ a) (h1 : a < 2 ^ 62) : wrapA .i64 a = a := by
  rw [wrapA_eq]
  simp [IntKind.wrap, IntKind.bits, IntKind.signed]
  omega

theorem used_iter (call : CallF) (n : Nat) (L : AV × AV → Nat) (r m : Nat) (es : List (AV × AV)) (ver : Nat) (hmr : m ≠ r) : ∀ (k : Nat) (left : List (AV × AV)) (acc : Int) (env : Env) (h : Heap) (last : Option (AV × AV)), left.length < k →
    env.get 10 = some (.ptr (some (r, 0))) → env.get 3 = some (.int .i64 acc) → h.get r = some (.miter (some m) left ver last) → h.get m = some (.map es ver) → (∀ p ∈ left, DataLen h p (L p)) → 0 ≤ acc → acc + ((left.map L).sum : Nat) < 2 ^ 62 →
    (iterA (fun env h => codeA Tryz.prog call 23 n usedLoop env h) k env h).all fun o => o.1 = .exit 0 ∧ o.2.1.get 3 = some (.int .i64 (acc + ((left.map L).sum : Nat))) ∧ o.2.2 = h.put r .dead
  | 0, left, acc, env, h, last, hk, _, _, _, _, _, _, _ => by omega
  | k + 1, left, acc, env, h, last, hk, h10, h3, hr, hm, hd, h0, hs => by
    simp only [iterA]
    rw [Res.all_bind]
    by_cases hne : left = []
    · subst hne
      rw [used_end call n env h r m es ver last h10 hr hm]
      simp only [Res.all_ok]
      exact ⟨trivial, by simp [Tr.get_set, h3], trivial⟩
    · refine used_one call n env h r m es ver last left acc _ hne h10 h3 hr hm hmr (fun p hp => ⟨_, hd p hp⟩) ?_
      intro i p kk env' hi hdk e10 e3
      have hkk : kk = L p := hdk.unique (hd p (List.mem_of_getElem? hi))
      subst hkk
      have hsum := sum_erase L left i p hi
      have hil : i < left.length := (List.getElem?_eq_some_iff.1 hi).1
      have hlen : (left.eraseIdx i).length < k := by rw [List.length_eraseIdx]; simp [hil]; omega
      rw [wrap_small (by omega) (by omega)] at e3
      have ih := used_iter call n L r m es ver hmr k (left.eraseIdx i) (acc + L p) env' (h.put r (.miter (some m) (left.eraseIdx i) ver (some p))) (some p) hlen e10 e3 (Heap.get_put_same ..)
        (by rw [Heap.get_put_ne hmr]; exact hm) (fun q hq => (hd q ((List.eraseIdx_sublist left i).subset hq)).put (by intro _ _ _ _ _ e; rw [hr] at e; cases e)) (by omega) (by omega)
      refine Res.all_mono ?_ ih
      rintro ⟨e, env2, h2⟩ ⟨q1, q2, q3⟩
      refine ⟨q1, ?_, by rw [q3, Heap.put_put]⟩
      rw [q2]
      congr 2
      omega

theorem fa_nodes (x xo : Nat) : fieldAddrA Tryz.prog 197 (.ptr (some (x, xo))) 0 = some (.ptr (some (x, xo))) := by kernel_rfl
theorem und195 : ∃ a b, Tryz.prog.underlying 195 = some (.map a b) := by
  cases h : Tryz.prog.underlying 195 with
  | none => exact absurd (show (Tryz.prog.underlying 195).isSome = true by kernel_rfl) (by rw [h]; simp)
  | some d =>
    cases d with
    | map a b => exact ⟨a, b, rfl⟩
    | _ => exact absurd (show ((Tryz.prog.underlying 195).any fun | .map _ _ => true | _ => false) = true by kernel_rfl) (by rw [h]; simp)

set_option maxHeartbeats 4000000 in
theorem used_fn (I : Intr) (n t off m : Nat) (h : Heap) (es : List (AV × AV)) (ver : Nat) (L : AV × AV → Nat) (Q : AV × Heap → Prop) (hI : I 304 [.ptr (some (t, off))] h = none) (hn : es.length < n)
    (hl : loadA Tryz.prog 195 (.ptr (some (t, off))) h = some (.map (some m))) (hm : h.get m = some (.map es ver)) (hmn : m ≠ h.next) (hnone : h.get h.next = none) (hd : ∀ p ∈ es, DataLen h p (L p)) (hs : ((es.map L).sum : Int) < 2 ^ 62)
    (hq : Q (.int .i64 ((es.map L).sum : Nat), h.new .dead)) : (callA Tryz.prog I (n + 1) 304 [.ptr (some (t, off))] h).all Q := by
  obtain ⟨a, b, hu⟩ := und195
  simp only [callA, hI, Tryz.func304, bodyA]
  have hnew : ∀ o, h.new o = ({ h with next := h.next + 1 } : Heap).put h.next o := fun _ => rfl
  simp [Tryz.f304, codeA_seq, codeA_region, codeA_block, codeA_loop, codeA_ret, regionA, opsA, opA, kindA, readA, actA, opd, putO, wantedA, Tr.get_set, List.range, List.range.loop, argsEnv, fa_nodes, hl, rangeA, hu, hm, Res.ofOpt, ofConst, ofScalar]
  simp only [Res.bind_assoc]
  rw [Res.all_bind]
  refine Res.all_mono ?_ (used_iter (callA Tryz.prog I n) n L h.next m es ver hmn n es 0 _ (h.new (.miter (some m) es ver none)) none hn (by simp [Tr.get_set]) (by simp [Tr.get_set]) (Heap.get_new_same ..)
    (by rw [Heap.get_new_ne hmn]; exact hm) (fun p hp => (hd p hp).new hnone) (by omega) (by omega))
  rintro ⟨e, env2, h2⟩ ⟨q1, q2, q3⟩
  simp only at q1 q2 q3
  subst q1; subst q3
  have e1 : (h.new (.miter (some m) es ver none)).put h.next .dead = h.new .dead := by rw [hnew, hnew, Heap.put_put]
  simp [q2, resultsA, resList, resA, Tr.get_set, e1]
  simpa using hq
end Go.Am
