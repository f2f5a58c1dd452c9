/- Part of the proof of TellLines: its text AmTree3. Conditions: none. -/
import Derived.Test.YtcaaedohfmdikaaGreatDoorAmTree2
import Derived.Test.YtcaaedohfmdikaaGreatDoorAmClone
set_option linter.unusedVariables false
set_option linter.unusedSimpArgs false
open Go Go.Am Go.Proofs
namespace Go.Am

/-! ### Drawn regions, step by step -/
theorem checkSnaps_all {m : Nat} {f : Heap → Bool} : ∀ {l : List (Nat × Heap)}, (∀ p ∈ l, f p.2 = true) → checkSnaps m f l = true
  | [], _ => rfl
  | (a, s) :: r, hf => by
    simp only [checkSnaps, hf (a, s) (by simp), Bool.true_and, checkSnaps_all (l := r) (fun p hp => hf p (by simp [hp])), Bool.or_true]
theorem olderOk_all {m : Nat} {f : Heap → Bool} : ∀ {l : List (Nat × Heap)}, (∀ p ∈ l, f p.2 = true) → olderOk m f l = true
  | [], _ => rfl
  | (a, s) :: r, hf => by
    simp only [olderOk, checkSnaps_all (l := r) (fun p hp => hf p (by simp [hp])), Bool.or_true]

section
variable {P : Program} {call : CallF} {nt base : Nat} {ops : Array Oper} {M : List Nat} {i : Nat} {rest : List Nat} {env env' : Env} {h : Heap} {sn : Nat × Heap} {older : List (Nat × Heap)} {o : Oper} {v : AV} {Q : Env × Heap → Prop}

theorem draw_rd {op : Op} {d : Option Tmp} (ho : ops[i]? = some o) (hop : o.op = op) (hd : o.dst = d) (hk : kindA P op = .rd) (hg : o.guard = none) (hv : ∀ p ∈ sn :: older, readA P env p.2 op = some v) (hs : AV.same v v = true) (hp : putO nt env d v = some env')
    (hQ : (drawA P call nt ops M base rest env' h (sn :: older)).all Q) : (drawA P call nt ops M base (i :: rest) env h (sn :: older)).all Q := by
  subst hop; subst hd
  obtain ⟨a, s⟩ := sn
  have hw : wantedA ops env o = some true := by simp only [wantedA, hg]
  have he : ∀ p ∈ (a, s) :: older, evalA P ops base env p.2 i o = some (v, none) := fun p hp => by simp only [evalA, hw, hk, hv p hp]
  simp only [drawA, ho, hk, he (a, s) (by simp)]
  rw [olderOk_all (fun p hp => by simp only [he p hp, sameV]; exact hs), Bool.or_true, if_pos rfl, hp]
  exact hQ

theorem draw_nw {op : Op} {d : Option Tmp} {ob : AObj} {f : Nat → AV} (ho : ops[i]? = some o) (hop : o.op = op) (hd : o.dst = d) (hk : kindA P op = .nw) (hg : o.guard = none) (hv : newA P env op = some (ob, f)) (hp : putO nt env d (f (base + i)) = some env')
    (hQ : (drawA P call nt ops M base rest env' (h.put (base + i) ob) (sn :: older)).all Q) : (drawA P call nt ops M base (i :: rest) env h (sn :: older)).all Q := by
  subst hop; subst hd
  obtain ⟨a, s⟩ := sn
  have hw : wantedA ops env o = some true := by simp only [wantedA, hg]
  have he : evalA P ops base env s i o = some (f (base + i), some ob) := by simp only [evalA, hw, hk, hv]
  simp only [drawA, ho, hk, he]
  rw [show ((Kind.nw == Kind.nw) || _) = true from by simp, if_pos rfl, hp]
  exact hQ

theorem draw_act {op : Op} {d : Option Tmp} {h' : Heap} (ho : ops[i]? = some o) (hop : o.op = op) (hd : o.dst = d) (hk : kindA P op = .act) (hg : o.guard = none) (hv : actA P call env h op = .ok (v, h')) (hp : putO nt env d v = some env')
    (hQ : (drawA P call nt ops M base rest env' h' ((i + 1, h') :: sn :: older)).all Q) : (drawA P call nt ops M base (i :: rest) env h (sn :: older)).all Q := by
  subst hop; subst hd
  have hw : wantedA ops env o = some true := by simp only [wantedA, hg]
  simp only [drawA, ho, hk, hw, hv, Res.bind_ok, hp]
  exact hQ
end

/-! ### maps.Clone -/
theorem und191 : ∃ a b, Tryz.prog.underlying 191 = some (.map a b) := by
  cases h : Tryz.prog.underlying 191 with
  | none => exact absurd (show (Tryz.prog.underlying 191).isSome = true by kernel_rfl) (by rw [h]; simp)
  | some d =>
    cases d with
    | map a b => exact ⟨a, b, rfl⟩
    | _ => exact absurd (show ((Tryz.prog.underlying 191).any fun | .map _ _ => true | _ => false) = true by kernel_rfl) (by rw [h]; simp)

theorem eq191n (h : Heap) : eqA Tryz.prog h 8 191 (.map none) (.map none) = some true := by kernel_rfl
theorem eq191s (h : Heap) (r : Nat) : eqA Tryz.prog h 8 191 (.map (some r)) (.map none) = some false := by kernel_rfl
set_option maxHeartbeats 4000000 in
theorem mclone_none (I : Intr) (n : Nat) (h : Heap) (hI : I 306 [.map none] h = none) : callA Tryz.prog I (n + 1) 306 [.map none] h = .ok (.map none, h) := by
  obtain ⟨a, b, hu⟩ := und191
  simp only [callA, hI, Tryz.func306, bodyA]
  generalize callA Tryz.prog I n = call
  simp [Tryz.f306, codeA_seq, codeA_region, codeA_block, codeA_cond, codeA_skip, codeA_ret, regionA, opsA, opA, kindA, readA, actA, opd, putO, wantedA, Tr.get_set, List.range, List.range.loop, argsEnv, ofConst, ofScalar, binA, eq191n, eq191s, guardOk, hu, resultsA, resList, resA]

set_option maxHeartbeats 4000000 in
theorem mclone_some (I : Intr) (n : Nat) (h : Heap) (r : Nat) (es : List (AV × AV)) (hI : I 306 [.map (some r)] h = none)
    (hJ : I 349 [.iface 191 (.map (some r))] h = some (.ok (.iface 191 (.map (some h.next)), h.new (.map es 0)))) : callA Tryz.prog I (n + 2) 306 [.map (some r)] h = .ok (.map (some h.next), h.new (.map es 0)) := by
  obtain ⟨a, b, hu⟩ := und191
  have hc : callA Tryz.prog I (n + 1) 349 [.iface 191 (.map (some r))] h = .ok (.iface 191 (.map (some h.next)), h.new (.map es 0)) := by simp only [callA, hJ]
  rw [callA]
  simp only [hI, Tryz.func306, bodyA]
  generalize callA Tryz.prog I (n + 1) = call at hc
  simp [Tryz.f306, codeA_seq, codeA_region, codeA_block, codeA_cond, codeA_skip, codeA_ret, regionA, opsA, opA, kindA, readA, actA, opd, putO, wantedA, Tr.get_set, List.range, List.range.loop, argsEnv, ofConst, ofScalar, binA, eq191n, eq191s, guardOk, hu, resultsA, resList, resA, calleeA, hc]

/-! ### Facts of the types -/
noncomputable def fs193 : Array Field := match Tryz.prog.underlying 193 with | some (.struct fs) => fs | _ => #[]
noncomputable def fs197 : Array Field := match Tryz.prog.underlying 197 with | some (.struct fs) => fs | _ => #[]
theorem und193 : Tryz.prog.underlying 193 = some (.struct fs193) := by kernel_rfl
theorem und197 : Tryz.prog.underlying 197 = some (.struct fs197) := by kernel_rfl
theorem all193 : (fs193.toList.all fun f => (Tryz.prog.info? f.type).isSome) = true := by kernel_rfl
theorem all197 : (fs197.toList.all fun f => (Tryz.prog.info? f.type).isSome) = true := by kernel_rfl
theorem at193 : [(fs193[0]?).map (fun f => (f.offset, szT Tryz.prog f.type)), (fs193[1]?).map (fun f => (f.offset, szT Tryz.prog f.type)), (fs193[2]?).map (fun f => (f.offset, szT Tryz.prog f.type)), (fs193[3]?).map (fun f => (f.offset, szT Tryz.prog f.type))] =
    [some (0, 1), some (1, 1), some (2, 1), some (3, 1)] := by kernel_rfl
theorem at197 : [(fs197[0]?).map (fun f => (f.offset, szT Tryz.prog f.type)), (fs197[1]?).map (fun f => (f.offset, szT Tryz.prog f.type)), (fs197[2]?).map (fun f => (f.offset, szT Tryz.prog f.type))] = [some (0, 1), some (1, 1), some (2, 1)] := by kernel_rfl
noncomputable def aggLen : Option AV → Nat
  | some (.agg l) => l.length
  | _ => 0
theorem zero193 : ∃ a b c d, zeroT Tryz.prog 193 = some (.agg [a, b, c, d]) := by
  have h : aggLen (zeroT Tryz.prog 193) = 4 := by kernel_rfl
  unfold aggLen at h
  split at h
  · rename_i l hl
    match l, h with
    | [a, b, c, d], _ => exact ⟨a, b, c, d, hl⟩
  · cases h
theorem zero197 : ∃ a b c, zeroT Tryz.prog 197 = some (.agg [a, b, c]) := by
  have h : aggLen (zeroT Tryz.prog 197) = 3 := by kernel_rfl
  unfold aggLen at h
  split at h
  · rename_i l hl
    match l, h with
    | [a, b, c], _ => exact ⟨a, b, c, hl⟩
  · cases h
theorem sz193 : szT Tryz.prog 193 = 4 := by kernel_rfl
theorem sz197 : szT Tryz.prog 197 = 3 := by kernel_rfl

theorem cells_of_ok {v : AV} (h : v.cellOk = true) : v.cells = [v] := by cases v <;> first | rfl | cases h

theorem cells_agg (l : List AV) : (AV.agg l).cells = l := rfl

theorem build193 {a b c d : AV} (ha : a.cellOk = true) (hb : b.cellOk = true) (hc : c.cellOk = true) (hd : d.cellOk = true) : buildA Tryz.prog 193 [(0, a), (1, b), (2, c), (3, d)] = some (.agg [a, b, c, d]) := by
  obtain ⟨z0, z1, z2, z3, hz⟩ := zero193
  have h0 := at193
  simp only [List.cons.injEq] at h0
  obtain ⟨h0, h1, h2, h3, _⟩ := h0
  simp only [buildA, hz, und193, all193, if_true]
  simp [fillA, h0, h1, h2, h3, cells_of_ok ha, cells_of_ok hb, cells_of_ok hc, cells_of_ok hd, ha, hb, hc, hd, cells_agg, splice]

theorem build197 {a b c : AV} (ha : a.cellOk = true) (hb : b.cellOk = true) (hc : c.cellOk = true) : buildA Tryz.prog 197 [(0, a), (1, b), (2, c)] = some (.agg [a, b, c]) := by
  obtain ⟨z0, z1, z2, hz⟩ := zero197
  have h0 := at197
  simp only [List.cons.injEq] at h0
  obtain ⟨h0, h1, h2, _⟩ := h0
  simp only [buildA, hz, und197, all197, if_true]
  simp [fillA, h0, h1, h2, cells_of_ok ha, cells_of_ok hb, cells_of_ok hc, ha, hb, hc, cells_agg, splice]

theorem box193 {a b c d : AV} (ha : a.cellOk = true) (hb : b.cellOk = true) (hc : c.cellOk = true) (hd : d.cellOk = true) : okCells Tryz.prog 193 (.agg [a, b, c, d]) = some [a, b, c, d] := by
  simp [okCells, cells_agg, sz193, ha, hb, hc, hd]
theorem box197 {a b c : AV} (ha : a.cellOk = true) (hb : b.cellOk = true) (hc : c.cellOk = true) : okCells Tryz.prog 197 (.agg [a, b, c]) = some [a, b, c] := by
  simp [okCells, cells_agg, sz197, ha, hb, hc]

/-! ### The drawn regions of Clone -/
noncomputable def regOf (k : Nat) : Code → Option (Array Oper)
  | .region id ops _ => if id = k then some ops else none
  | .loop c => regOf k c
  | .seq a b => (regOf k a).or (regOf k b)
  | .block _ c => regOf k c
  | .cond _ a b => (regOf k a).or (regOf k b)
  | _ => none
noncomputable def clone1 : Array Oper := (Tryz.f225.body.bind (regOf 1)).getD #[]
noncomputable def clone5 : Array Oper := (Tryz.f225.body.bind (regOf 5)).getD #[]
theorem plan1 : (planOf Tryz.prog clone1).map (·.ord) = some [0, 1, 2, 3, 4, 5, 6, 7, 8, 9, 10, 11] := by kernel_rfl
theorem plan5 : (planOf Tryz.prog clone5).map (·.ord) = some [17, 18, 19, 20, 21, 0, 1, 2, 3, 4, 5, 6, 7, 8, 9, 10, 11, 12, 13, 14, 15, 16, 22, 23, 24] := by kernel_rfl
theorem size1 : clone1.size = 12 := by kernel_rfl
theorem size5 : clone5.size = 25 := by kernel_rfl

theorem regionA_draw {P : Program} {call : CallF} {nt : Nat} {ops : Array Oper} {env : Env} {h : Heap} {ord : List Nat} {n : Nat} (hp : (planOf P ops).map (·.ord) = some ord) (hn : ops.size = n) {Q : Env × Heap → Prop}
    (hQ : ∀ M, (drawA P call nt ops M h.next ord env { h with next := h.next + n } [(0, { h with next := h.next + n })]).all Q) : (regionA P call nt ops true env h).all Q := by
  cases hpl : planOf P ops with
  | none => rw [hpl] at hp; cases hp
  | some pl =>
    rw [hpl] at hp
    simp only [Option.map_some, Option.some.injEq] at hp
    simp only [regionA, if_true, hpl, hp, hn]
    exact hQ pl.masks

theorem fa_dir (x xo : Nat) : fieldAddrA Tryz.prog 193 (.ptr (some (x, xo))) 0 = some (.ptr (some (x, xo))) := by kernel_rfl
theorem fa_kids (x xo : Nat) : fieldAddrA Tryz.prog 193 (.ptr (some (x, xo))) 3 = some (.ptr (some (x, xo + 3))) := by kernel_rfl
theorem fa_next (x xo : Nat) : fieldAddrA Tryz.prog 197 (.ptr (some (x, xo))) 1 = some (.ptr (some (x, xo + 1))) := by kernel_rfl
theorem fa_quota (x xo : Nat) : fieldAddrA Tryz.prog 197 (.ptr (some (x, xo))) 2 = some (.ptr (some (x, xo + 2))) := by kernel_rfl
theorem agg191 : aggT Tryz.prog 191 = some false := by kernel_rfl
theorem agg195 : aggT Tryz.prog 195 = some false := by kernel_rfl
theorem agg4 : aggT Tryz.prog 4 = some false := by kernel_rfl
theorem map195 : Tryz.prog.underlying 195 = some (.map 3 194) := by kernel_rfl
theorem map191 : Tryz.prog.underlying 191 = some (.map 9 3) := by kernel_rfl

-- REGIONS
set_option maxRecDepth 100000 in
set_option maxHeartbeats 4000000 in
theorem reg1 (call : CallF) (env : Env) (h : Heap) (t off : Nat) (nx qt : AV) (els : List (List AV)) (sz : Nat) (el : TypeId) (ro : Bool) (fz : Nat) (Q : Env × Heap → Prop) (h0 : env.get 0 = some (.ptr (some (t, off)))) (ht : h.get t = some (.cells els sz el ro fz))
    (e1 : getC els sz (off + 1) 1 = some [nx]) (e2 : getC els sz (off + 2) 1 = some [qt]) (o1 : nx.cellOk = true) (o2 : qt.cellOk = true) (s1 : AV.same nx nx = true) (s2 : AV.same qt qt = true)
    (hQ : ∀ env' : Env, env'.get 0 = some (.ptr (some (t, off))) → env'.get 3 = some (.ptr (some (h.next + 10, 0))) → Q (env', (({ h with next := h.next + 12 } : Heap).put h.next (.map [] 0)).put (h.next + 10) (.cells [[.map (some h.next), nx, qt]] 3 197 false 0))) :
    (regionA Tryz.prog call 52 clone1 true env h).all Q := by
  refine regionA_draw plan1 size1 fun M => ?_
  have hs : ∀ n, ({ h with next := n } : Heap).get t = some (.cells els sz el ro fz) := fun n => ht
  have b1 := build197 (a := .map (some h.next)) (b := nx) (c := qt) rfl o1 o2
  have b2 := box197 (a := .map (some h.next)) (b := nx) (c := qt) rfl o1 o2
  refine draw_nw (op := .makeMap 195 none) (d := some 6) (ob := .map [] 0) (f := fun id => .map (some id)) rfl rfl rfl rfl rfl rfl rfl ?_
  refine draw_rd (op := .move (.tmp 0)) (d := some 7) (v := .ptr (some (t, off))) rfl rfl rfl rfl rfl (by intro p hp; simp only [List.mem_singleton] at hp; subst hp <;> simp [readA, opd, Tr.get_set, loadA, loadCellsA, Heap.get_next_irrel, h0, hs, fa_next, fa_quota, agg3, e1, e2, s1, s2, ht]) (by simp [AV.same, AV.sameL, h0, hs, fa_next, fa_quota, agg3, e1, e2, s1, s2, ht]) rfl ?_
  refine draw_rd (op := .nilCheck (.tmp 7)) (d := some 8) (v := .ptr (some (t, off))) rfl rfl rfl rfl rfl (by intro p hp; simp only [List.mem_singleton] at hp; subst hp <;> simp [readA, opd, Tr.get_set, loadA, loadCellsA, Heap.get_next_irrel, h0, hs, fa_next, fa_quota, agg3, e1, e2, s1, s2, ht]) (by simp [AV.same, AV.sameL, h0, hs, fa_next, fa_quota, agg3, e1, e2, s1, s2, ht]) rfl ?_
  refine draw_rd (op := .fieldAddr 197 (.tmp 8) 1) (d := some 9) (v := .ptr (some (t, off + 1))) rfl rfl rfl rfl rfl (by intro p hp; simp only [List.mem_singleton] at hp; subst hp <;> simp [readA, opd, Tr.get_set, loadA, loadCellsA, Heap.get_next_irrel, h0, hs, fa_next, fa_quota, agg3, e1, e2, s1, s2, ht]) (by simp [AV.same, AV.sameL, h0, hs, fa_next, fa_quota, agg3, e1, e2, s1, s2, ht]) rfl ?_
  refine draw_rd (op := .load 3 (.tmp 9)) (d := some 10) (v := nx) rfl rfl rfl rfl rfl (by intro p hp; simp only [List.mem_singleton] at hp; subst hp <;> simp [readA, opd, Tr.get_set, loadA, loadCellsA, Heap.get_next_irrel, h0, hs, fa_next, fa_quota, agg3, e1, e2, s1, s2, ht]) (by simp [AV.same, AV.sameL, h0, hs, fa_next, fa_quota, agg3, e1, e2, s1, s2, ht]) rfl ?_
  refine draw_rd (op := .move (.tmp 0)) (d := some 11) (v := .ptr (some (t, off))) rfl rfl rfl rfl rfl (by intro p hp; simp only [List.mem_singleton] at hp; subst hp <;> simp [readA, opd, Tr.get_set, loadA, loadCellsA, Heap.get_next_irrel, h0, hs, fa_next, fa_quota, agg3, e1, e2, s1, s2, ht]) (by simp [AV.same, AV.sameL, h0, hs, fa_next, fa_quota, agg3, e1, e2, s1, s2, ht]) rfl ?_
  refine draw_rd (op := .nilCheck (.tmp 11)) (d := some 12) (v := .ptr (some (t, off))) rfl rfl rfl rfl rfl (by intro p hp; simp only [List.mem_singleton] at hp; subst hp <;> simp [readA, opd, Tr.get_set, loadA, loadCellsA, Heap.get_next_irrel, h0, hs, fa_next, fa_quota, agg3, e1, e2, s1, s2, ht]) (by simp [AV.same, AV.sameL, h0, hs, fa_next, fa_quota, agg3, e1, e2, s1, s2, ht]) rfl ?_
  refine draw_rd (op := .fieldAddr 197 (.tmp 12) 2) (d := some 13) (v := .ptr (some (t, off + 2))) rfl rfl rfl rfl rfl (by intro p hp; simp only [List.mem_singleton] at hp; subst hp <;> simp [readA, opd, Tr.get_set, loadA, loadCellsA, Heap.get_next_irrel, h0, hs, fa_next, fa_quota, agg3, e1, e2, s1, s2, ht]) (by simp [AV.same, AV.sameL, h0, hs, fa_next, fa_quota, agg3, e1, e2, s1, s2, ht]) rfl ?_
  refine draw_rd (op := .load 3 (.tmp 13)) (d := some 14) (v := qt) rfl rfl rfl rfl rfl (by intro p hp; simp only [List.mem_singleton] at hp; subst hp <;> simp [readA, opd, Tr.get_set, loadA, loadCellsA, Heap.get_next_irrel, h0, hs, fa_next, fa_quota, agg3, e1, e2, s1, s2, ht]) (by simp [AV.same, AV.sameL, h0, hs, fa_next, fa_quota, agg3, e1, e2, s1, s2, ht]) rfl ?_
  refine draw_rd (op := .build 197 #[(0, .tmp 6), (1, .tmp 10), (2, .tmp 14)]) (d := some 15) (v := .agg [.map (some h.next), nx, qt]) rfl rfl rfl rfl rfl (by intro p hp; simp only [List.mem_singleton] at hp; subst hp <;> simp [readA, opd, Tr.get_set, loadA, loadCellsA, Heap.get_next_irrel, h0, hs, fa_next, fa_quota, agg3, e1, e2, s1, s2, ht, b1]) (by simp [AV.same, AV.sameL, h0, hs, fa_next, fa_quota, agg3, e1, e2, s1, s2, ht, b1]) rfl ?_
  refine draw_nw (op := .box 197 (.tmp 15)) (d := some 16) (ob := .cells [[.map (some h.next), nx, qt]] 3 197 false 0) (f := fun id => .ptr (some (id, 0))) rfl rfl rfl rfl rfl (by simp [newA, opd, Tr.get_set, b2]) rfl ?_
  refine draw_rd (op := .assign (.tmp 16)) (d := some 3) (v := .ptr (some (h.next + 10, 0))) rfl rfl rfl rfl rfl (by intro p hp; simp only [List.mem_singleton] at hp; subst hp <;> simp [readA, opd, Tr.get_set, loadA, loadCellsA, Heap.get_next_irrel, h0, hs, fa_next, fa_quota, agg3, e1, e2, s1, s2, ht]) (by simp [AV.same, AV.sameL, h0, hs, fa_next, fa_quota, agg3, e1, e2, s1, s2, ht]) rfl ?_
  simp only [drawA, Res.all_ok]
  exact hQ _ (by simp [Tr.get_set, h0]) (by simp [Tr.get_set])

set_option maxRecDepth 100000 in
set_option maxHeartbeats 8000000 in
theorem reg5 (call : CallF) (env : Env) (h hc : Heap) (u M x xo ver fz : Nat) (k dv lv bv : AV) (kids : Option Nat) (kv : AV) (row : List AV) (es : List (AV × AV)) (els : List (List AV)) (sz : Nat) (el : TypeId) (ro : Bool) (Q : Env × Heap → Prop)
    (h3 : env.get 3 = some (.ptr (some (u, 0)))) (h4 : env.get 4 = some k) (h5 : env.get 5 = some (.ptr (some (x, xo))))
    (hu : h.get u = some (.cells [.map (some M) :: row] 3 197 false 0)) (hx : h.get x = some (.cells els sz el ro fz)) (hM : h.get M = some (.map es ver)) (hMn : M < h.next)
    (hcu : hc.get u = some (.cells [.map (some M) :: row] 3 197 false 0)) (hcx : hc.get x = some (.cells els sz el ro fz)) (hcM : hc.get M = some (.map es ver))
    (e0 : getC els sz xo 1 = some [dv]) (e1 : getC els sz (xo + 1) 1 = some [lv]) (e2 : getC els sz (xo + 2) 1 = some [bv]) (e3 : getC els sz (xo + 3) 1 = some [.map kids])
    (o0 : dv.cellOk = true) (o1 : lv.cellOk = true) (o2 : bv.cellOk = true) (o3 : kv.cellOk = true) (s0 : AV.same dv dv = true) (s1 : AV.same lv lv = true) (s2 : AV.same bv bv = true) (s3 : AV.same kv kv = true) (sk : AV.same k k = true)
    (hcall : call 306 [.map kids] { h with next := h.next + 25 } = .ok (kv, hc)) (hkf : keyFits Tryz.prog 3 k = true) (hfk : (findK k es).isSome = true)
    (hQ : ∀ env' : Env, (∀ j, j < 27 → env'.get j = env.get j) → Q (env', (hc.put (h.next + 23) (.cells [[dv, lv, bv, kv]] 4 193 false 0)).put M (.map (putK k (.ptr (some (h.next + 23, 0))) es) (ver + 1)))) :
    (regionA Tryz.prog call 52 clone5 true env h).all Q := by
  refine regionA_draw plan5 size5 fun Ms => ?_
  have hux : ∀ n, ({ h with next := n } : Heap).get u = some (.cells [.map (some M) :: row] 3 197 false 0) := fun n => hu
  have hxx : ∀ n, ({ h with next := n } : Heap).get x = some (.cells els sz el ro fz) := fun n => hx
  have b1 := build193 (a := dv) (b := lv) (c := bv) (d := kv) o0 o1 o2 o3
  have b2 := box193 (a := dv) (b := lv) (c := bv) (d := kv) o0 o1 o2 o3
  have g0 : getC [.map (some M) :: row] 3 0 1 = some [.map (some M)] := by simp [getC]
  have hMb : M ≠ h.next + 23 := by omega
  refine draw_rd (op := .move (.tmp 5)) (d := some 44) (v := .ptr (some (x, xo))) rfl rfl rfl rfl rfl (by intro p hp; simp only [List.mem_singleton] at hp; subst hp <;> simp [readA, opd, Tr.get_set, loadA, loadCellsA, Heap.get_next_irrel, h3, h4, h5, hux, hxx, hu, hx, hcu, hcx, fa_dir, fa_links, fa_data, fa_kids, fa_nodes, agg3, agg4, agg70, agg191, agg195, e0, e1, e2, e3, g0, s0, s1, s2, s3, sk]) (by simp [AV.same, AV.sameL, h3, h4, h5, hux, hxx, hu, hx, hcu, hcx, fa_dir, fa_links, fa_data, fa_kids, fa_nodes, agg3, agg4, agg70, agg191, agg195, e0, e1, e2, e3, g0, s0, s1, s2, s3, sk]) rfl ?_
  refine draw_rd (op := .nilCheck (.tmp 44)) (d := some 45) (v := .ptr (some (x, xo))) rfl rfl rfl rfl rfl (by intro p hp; simp only [List.mem_singleton] at hp; subst hp <;> simp [readA, opd, Tr.get_set, loadA, loadCellsA, Heap.get_next_irrel, h3, h4, h5, hux, hxx, hu, hx, hcu, hcx, fa_dir, fa_links, fa_data, fa_kids, fa_nodes, agg3, agg4, agg70, agg191, agg195, e0, e1, e2, e3, g0, s0, s1, s2, s3, sk]) (by simp [AV.same, AV.sameL, h3, h4, h5, hux, hxx, hu, hx, hcu, hcx, fa_dir, fa_links, fa_data, fa_kids, fa_nodes, agg3, agg4, agg70, agg191, agg195, e0, e1, e2, e3, g0, s0, s1, s2, s3, sk]) rfl ?_
  refine draw_rd (op := .fieldAddr 193 (.tmp 45) 3) (d := some 46) (v := .ptr (some (x, xo + 3))) rfl rfl rfl rfl rfl (by intro p hp; simp only [List.mem_singleton] at hp; subst hp <;> simp [readA, opd, Tr.get_set, loadA, loadCellsA, Heap.get_next_irrel, h3, h4, h5, hux, hxx, hu, hx, hcu, hcx, fa_dir, fa_links, fa_data, fa_kids, fa_nodes, agg3, agg4, agg70, agg191, agg195, e0, e1, e2, e3, g0, s0, s1, s2, s3, sk]) (by simp [AV.same, AV.sameL, h3, h4, h5, hux, hxx, hu, hx, hcu, hcx, fa_dir, fa_links, fa_data, fa_kids, fa_nodes, agg3, agg4, agg70, agg191, agg195, e0, e1, e2, e3, g0, s0, s1, s2, s3, sk]) rfl ?_
  refine draw_rd (op := .load 191 (.tmp 46)) (d := some 47) (v := .map kids) rfl rfl rfl rfl rfl (by intro p hp; simp only [List.mem_singleton] at hp; subst hp <;> simp [readA, opd, Tr.get_set, loadA, loadCellsA, Heap.get_next_irrel, h3, h4, h5, hux, hxx, hu, hx, hcu, hcx, fa_dir, fa_links, fa_data, fa_kids, fa_nodes, agg3, agg4, agg70, agg191, agg195, e0, e1, e2, e3, g0, s0, s1, s2, s3, sk]) (by simp [AV.same, AV.sameL, h3, h4, h5, hux, hxx, hu, hx, hcu, hcx, fa_dir, fa_links, fa_data, fa_kids, fa_nodes, agg3, agg4, agg70, agg191, agg195, e0, e1, e2, e3, g0, s0, s1, s2, s3, sk]) rfl ?_
  refine draw_act (op := .call { callee := .value (.func 306), args := #[.tmp 47], argTypes := #[191] }) (d := some 48) (v := kv) (h' := hc) rfl rfl rfl rfl rfl (by simp [actA, calleeA, opd, Tr.get_set, hcall]) rfl ?_
  refine draw_rd (op := .move (.tmp 3)) (d := some 27) (v := .ptr (some (u, 0))) rfl rfl rfl rfl rfl (by intro p hp; simp only [List.mem_cons, List.not_mem_nil, or_false] at hp; rcases hp with rfl | rfl <;> simp [readA, opd, Tr.get_set, loadA, loadCellsA, Heap.get_next_irrel, h3, h4, h5, hux, hxx, hu, hx, hcu, hcx, fa_dir, fa_links, fa_data, fa_kids, fa_nodes, agg3, agg4, agg70, agg191, agg195, e0, e1, e2, e3, g0, s0, s1, s2, s3, sk]) (by simp [AV.same, AV.sameL, h3, h4, h5, hux, hxx, hu, hx, hcu, hcx, fa_dir, fa_links, fa_data, fa_kids, fa_nodes, agg3, agg4, agg70, agg191, agg195, e0, e1, e2, e3, g0, s0, s1, s2, s3, sk]) rfl ?_
  refine draw_rd (op := .nilCheck (.tmp 27)) (d := some 28) (v := .ptr (some (u, 0))) rfl rfl rfl rfl rfl (by intro p hp; simp only [List.mem_cons, List.not_mem_nil, or_false] at hp; rcases hp with rfl | rfl <;> simp [readA, opd, Tr.get_set, loadA, loadCellsA, Heap.get_next_irrel, h3, h4, h5, hux, hxx, hu, hx, hcu, hcx, fa_dir, fa_links, fa_data, fa_kids, fa_nodes, agg3, agg4, agg70, agg191, agg195, e0, e1, e2, e3, g0, s0, s1, s2, s3, sk]) (by simp [AV.same, AV.sameL, h3, h4, h5, hux, hxx, hu, hx, hcu, hcx, fa_dir, fa_links, fa_data, fa_kids, fa_nodes, agg3, agg4, agg70, agg191, agg195, e0, e1, e2, e3, g0, s0, s1, s2, s3, sk]) rfl ?_
  refine draw_rd (op := .fieldAddr 197 (.tmp 28) 0) (d := some 29) (v := .ptr (some (u, 0))) rfl rfl rfl rfl rfl (by intro p hp; simp only [List.mem_cons, List.not_mem_nil, or_false] at hp; rcases hp with rfl | rfl <;> simp [readA, opd, Tr.get_set, loadA, loadCellsA, Heap.get_next_irrel, h3, h4, h5, hux, hxx, hu, hx, hcu, hcx, fa_dir, fa_links, fa_data, fa_kids, fa_nodes, agg3, agg4, agg70, agg191, agg195, e0, e1, e2, e3, g0, s0, s1, s2, s3, sk]) (by simp [AV.same, AV.sameL, h3, h4, h5, hux, hxx, hu, hx, hcu, hcx, fa_dir, fa_links, fa_data, fa_kids, fa_nodes, agg3, agg4, agg70, agg191, agg195, e0, e1, e2, e3, g0, s0, s1, s2, s3, sk]) rfl ?_
  refine draw_rd (op := .load 195 (.tmp 29)) (d := some 30) (v := .map (some M)) rfl rfl rfl rfl rfl (by intro p hp; simp only [List.mem_cons, List.not_mem_nil, or_false] at hp; rcases hp with rfl | rfl <;> simp [readA, opd, Tr.get_set, loadA, loadCellsA, Heap.get_next_irrel, h3, h4, h5, hux, hxx, hu, hx, hcu, hcx, fa_dir, fa_links, fa_data, fa_kids, fa_nodes, agg3, agg4, agg70, agg191, agg195, e0, e1, e2, e3, g0, s0, s1, s2, s3, sk]) (by simp [AV.same, AV.sameL, h3, h4, h5, hux, hxx, hu, hx, hcu, hcx, fa_dir, fa_links, fa_data, fa_kids, fa_nodes, agg3, agg4, agg70, agg191, agg195, e0, e1, e2, e3, g0, s0, s1, s2, s3, sk]) rfl ?_
  refine draw_rd (op := .move (.tmp 4)) (d := some 31) (v := k) rfl rfl rfl rfl rfl (by intro p hp; simp only [List.mem_cons, List.not_mem_nil, or_false] at hp; rcases hp with rfl | rfl <;> simp [readA, opd, Tr.get_set, loadA, loadCellsA, Heap.get_next_irrel, h3, h4, h5, hux, hxx, hu, hx, hcu, hcx, fa_dir, fa_links, fa_data, fa_kids, fa_nodes, agg3, agg4, agg70, agg191, agg195, e0, e1, e2, e3, g0, s0, s1, s2, s3, sk]) (by simp [AV.same, AV.sameL, h3, h4, h5, hux, hxx, hu, hx, hcu, hcx, fa_dir, fa_links, fa_data, fa_kids, fa_nodes, agg3, agg4, agg70, agg191, agg195, e0, e1, e2, e3, g0, s0, s1, s2, s3, sk]) rfl ?_
  refine draw_rd (op := .move (.tmp 5)) (d := some 32) (v := .ptr (some (x, xo))) rfl rfl rfl rfl rfl (by intro p hp; simp only [List.mem_cons, List.not_mem_nil, or_false] at hp; rcases hp with rfl | rfl <;> simp [readA, opd, Tr.get_set, loadA, loadCellsA, Heap.get_next_irrel, h3, h4, h5, hux, hxx, hu, hx, hcu, hcx, fa_dir, fa_links, fa_data, fa_kids, fa_nodes, agg3, agg4, agg70, agg191, agg195, e0, e1, e2, e3, g0, s0, s1, s2, s3, sk]) (by simp [AV.same, AV.sameL, h3, h4, h5, hux, hxx, hu, hx, hcu, hcx, fa_dir, fa_links, fa_data, fa_kids, fa_nodes, agg3, agg4, agg70, agg191, agg195, e0, e1, e2, e3, g0, s0, s1, s2, s3, sk]) rfl ?_
  refine draw_rd (op := .nilCheck (.tmp 32)) (d := some 33) (v := .ptr (some (x, xo))) rfl rfl rfl rfl rfl (by intro p hp; simp only [List.mem_cons, List.not_mem_nil, or_false] at hp; rcases hp with rfl | rfl <;> simp [readA, opd, Tr.get_set, loadA, loadCellsA, Heap.get_next_irrel, h3, h4, h5, hux, hxx, hu, hx, hcu, hcx, fa_dir, fa_links, fa_data, fa_kids, fa_nodes, agg3, agg4, agg70, agg191, agg195, e0, e1, e2, e3, g0, s0, s1, s2, s3, sk]) (by simp [AV.same, AV.sameL, h3, h4, h5, hux, hxx, hu, hx, hcu, hcx, fa_dir, fa_links, fa_data, fa_kids, fa_nodes, agg3, agg4, agg70, agg191, agg195, e0, e1, e2, e3, g0, s0, s1, s2, s3, sk]) rfl ?_
  refine draw_rd (op := .fieldAddr 193 (.tmp 33) 0) (d := some 34) (v := .ptr (some (x, xo))) rfl rfl rfl rfl rfl (by intro p hp; simp only [List.mem_cons, List.not_mem_nil, or_false] at hp; rcases hp with rfl | rfl <;> simp [readA, opd, Tr.get_set, loadA, loadCellsA, Heap.get_next_irrel, h3, h4, h5, hux, hxx, hu, hx, hcu, hcx, fa_dir, fa_links, fa_data, fa_kids, fa_nodes, agg3, agg4, agg70, agg191, agg195, e0, e1, e2, e3, g0, s0, s1, s2, s3, sk]) (by simp [AV.same, AV.sameL, h3, h4, h5, hux, hxx, hu, hx, hcu, hcx, fa_dir, fa_links, fa_data, fa_kids, fa_nodes, agg3, agg4, agg70, agg191, agg195, e0, e1, e2, e3, g0, s0, s1, s2, s3, sk]) rfl ?_
  refine draw_rd (op := .load 4 (.tmp 34)) (d := some 35) (v := dv) rfl rfl rfl rfl rfl (by intro p hp; simp only [List.mem_cons, List.not_mem_nil, or_false] at hp; rcases hp with rfl | rfl <;> simp [readA, opd, Tr.get_set, loadA, loadCellsA, Heap.get_next_irrel, h3, h4, h5, hux, hxx, hu, hx, hcu, hcx, fa_dir, fa_links, fa_data, fa_kids, fa_nodes, agg3, agg4, agg70, agg191, agg195, e0, e1, e2, e3, g0, s0, s1, s2, s3, sk]) (by simp [AV.same, AV.sameL, h3, h4, h5, hux, hxx, hu, hx, hcu, hcx, fa_dir, fa_links, fa_data, fa_kids, fa_nodes, agg3, agg4, agg70, agg191, agg195, e0, e1, e2, e3, g0, s0, s1, s2, s3, sk]) rfl ?_
  refine draw_rd (op := .move (.tmp 5)) (d := some 36) (v := .ptr (some (x, xo))) rfl rfl rfl rfl rfl (by intro p hp; simp only [List.mem_cons, List.not_mem_nil, or_false] at hp; rcases hp with rfl | rfl <;> simp [readA, opd, Tr.get_set, loadA, loadCellsA, Heap.get_next_irrel, h3, h4, h5, hux, hxx, hu, hx, hcu, hcx, fa_dir, fa_links, fa_data, fa_kids, fa_nodes, agg3, agg4, agg70, agg191, agg195, e0, e1, e2, e3, g0, s0, s1, s2, s3, sk]) (by simp [AV.same, AV.sameL, h3, h4, h5, hux, hxx, hu, hx, hcu, hcx, fa_dir, fa_links, fa_data, fa_kids, fa_nodes, agg3, agg4, agg70, agg191, agg195, e0, e1, e2, e3, g0, s0, s1, s2, s3, sk]) rfl ?_
  refine draw_rd (op := .nilCheck (.tmp 36)) (d := some 37) (v := .ptr (some (x, xo))) rfl rfl rfl rfl rfl (by intro p hp; simp only [List.mem_cons, List.not_mem_nil, or_false] at hp; rcases hp with rfl | rfl <;> simp [readA, opd, Tr.get_set, loadA, loadCellsA, Heap.get_next_irrel, h3, h4, h5, hux, hxx, hu, hx, hcu, hcx, fa_dir, fa_links, fa_data, fa_kids, fa_nodes, agg3, agg4, agg70, agg191, agg195, e0, e1, e2, e3, g0, s0, s1, s2, s3, sk]) (by simp [AV.same, AV.sameL, h3, h4, h5, hux, hxx, hu, hx, hcu, hcx, fa_dir, fa_links, fa_data, fa_kids, fa_nodes, agg3, agg4, agg70, agg191, agg195, e0, e1, e2, e3, g0, s0, s1, s2, s3, sk]) rfl ?_
  refine draw_rd (op := .fieldAddr 193 (.tmp 37) 1) (d := some 38) (v := .ptr (some (x, xo + 1))) rfl rfl rfl rfl rfl (by intro p hp; simp only [List.mem_cons, List.not_mem_nil, or_false] at hp; rcases hp with rfl | rfl <;> simp [readA, opd, Tr.get_set, loadA, loadCellsA, Heap.get_next_irrel, h3, h4, h5, hux, hxx, hu, hx, hcu, hcx, fa_dir, fa_links, fa_data, fa_kids, fa_nodes, agg3, agg4, agg70, agg191, agg195, e0, e1, e2, e3, g0, s0, s1, s2, s3, sk]) (by simp [AV.same, AV.sameL, h3, h4, h5, hux, hxx, hu, hx, hcu, hcx, fa_dir, fa_links, fa_data, fa_kids, fa_nodes, agg3, agg4, agg70, agg191, agg195, e0, e1, e2, e3, g0, s0, s1, s2, s3, sk]) rfl ?_
  refine draw_rd (op := .load 3 (.tmp 38)) (d := some 39) (v := lv) rfl rfl rfl rfl rfl (by intro p hp; simp only [List.mem_cons, List.not_mem_nil, or_false] at hp; rcases hp with rfl | rfl <;> simp [readA, opd, Tr.get_set, loadA, loadCellsA, Heap.get_next_irrel, h3, h4, h5, hux, hxx, hu, hx, hcu, hcx, fa_dir, fa_links, fa_data, fa_kids, fa_nodes, agg3, agg4, agg70, agg191, agg195, e0, e1, e2, e3, g0, s0, s1, s2, s3, sk]) (by simp [AV.same, AV.sameL, h3, h4, h5, hux, hxx, hu, hx, hcu, hcx, fa_dir, fa_links, fa_data, fa_kids, fa_nodes, agg3, agg4, agg70, agg191, agg195, e0, e1, e2, e3, g0, s0, s1, s2, s3, sk]) rfl ?_
  refine draw_rd (op := .move (.tmp 5)) (d := some 40) (v := .ptr (some (x, xo))) rfl rfl rfl rfl rfl (by intro p hp; simp only [List.mem_cons, List.not_mem_nil, or_false] at hp; rcases hp with rfl | rfl <;> simp [readA, opd, Tr.get_set, loadA, loadCellsA, Heap.get_next_irrel, h3, h4, h5, hux, hxx, hu, hx, hcu, hcx, fa_dir, fa_links, fa_data, fa_kids, fa_nodes, agg3, agg4, agg70, agg191, agg195, e0, e1, e2, e3, g0, s0, s1, s2, s3, sk]) (by simp [AV.same, AV.sameL, h3, h4, h5, hux, hxx, hu, hx, hcu, hcx, fa_dir, fa_links, fa_data, fa_kids, fa_nodes, agg3, agg4, agg70, agg191, agg195, e0, e1, e2, e3, g0, s0, s1, s2, s3, sk]) rfl ?_
  refine draw_rd (op := .nilCheck (.tmp 40)) (d := some 41) (v := .ptr (some (x, xo))) rfl rfl rfl rfl rfl (by intro p hp; simp only [List.mem_cons, List.not_mem_nil, or_false] at hp; rcases hp with rfl | rfl <;> simp [readA, opd, Tr.get_set, loadA, loadCellsA, Heap.get_next_irrel, h3, h4, h5, hux, hxx, hu, hx, hcu, hcx, fa_dir, fa_links, fa_data, fa_kids, fa_nodes, agg3, agg4, agg70, agg191, agg195, e0, e1, e2, e3, g0, s0, s1, s2, s3, sk]) (by simp [AV.same, AV.sameL, h3, h4, h5, hux, hxx, hu, hx, hcu, hcx, fa_dir, fa_links, fa_data, fa_kids, fa_nodes, agg3, agg4, agg70, agg191, agg195, e0, e1, e2, e3, g0, s0, s1, s2, s3, sk]) rfl ?_
  refine draw_rd (op := .fieldAddr 193 (.tmp 41) 2) (d := some 42) (v := .ptr (some (x, xo + 2))) rfl rfl rfl rfl rfl (by intro p hp; simp only [List.mem_cons, List.not_mem_nil, or_false] at hp; rcases hp with rfl | rfl <;> simp [readA, opd, Tr.get_set, loadA, loadCellsA, Heap.get_next_irrel, h3, h4, h5, hux, hxx, hu, hx, hcu, hcx, fa_dir, fa_links, fa_data, fa_kids, fa_nodes, agg3, agg4, agg70, agg191, agg195, e0, e1, e2, e3, g0, s0, s1, s2, s3, sk]) (by simp [AV.same, AV.sameL, h3, h4, h5, hux, hxx, hu, hx, hcu, hcx, fa_dir, fa_links, fa_data, fa_kids, fa_nodes, agg3, agg4, agg70, agg191, agg195, e0, e1, e2, e3, g0, s0, s1, s2, s3, sk]) rfl ?_
  refine draw_rd (op := .load 70 (.tmp 42)) (d := some 43) (v := bv) rfl rfl rfl rfl rfl (by intro p hp; simp only [List.mem_cons, List.not_mem_nil, or_false] at hp; rcases hp with rfl | rfl <;> simp [readA, opd, Tr.get_set, loadA, loadCellsA, Heap.get_next_irrel, h3, h4, h5, hux, hxx, hu, hx, hcu, hcx, fa_dir, fa_links, fa_data, fa_kids, fa_nodes, agg3, agg4, agg70, agg191, agg195, e0, e1, e2, e3, g0, s0, s1, s2, s3, sk]) (by simp [AV.same, AV.sameL, h3, h4, h5, hux, hxx, hu, hx, hcu, hcx, fa_dir, fa_links, fa_data, fa_kids, fa_nodes, agg3, agg4, agg70, agg191, agg195, e0, e1, e2, e3, g0, s0, s1, s2, s3, sk]) rfl ?_
  refine draw_rd (op := .build 193 #[(0, .tmp 35), (1, .tmp 39), (2, .tmp 43), (3, .tmp 48)]) (d := some 49) (v := .agg [dv, lv, bv, kv]) rfl rfl rfl rfl rfl (by intro p hp; simp only [List.mem_cons, List.not_mem_nil, or_false] at hp; rcases hp with rfl | rfl <;> simp [readA, opd, Tr.get_set, loadA, loadCellsA, Heap.get_next_irrel, h3, h4, h5, hux, hxx, hu, hx, hcu, hcx, fa_dir, fa_links, fa_data, fa_kids, fa_nodes, agg3, agg4, agg70, agg191, agg195, e0, e1, e2, e3, g0, s0, s1, s2, s3, sk, b1]) (by simp [AV.same, AV.sameL, h3, h4, h5, hux, hxx, hu, hx, hcu, hcx, fa_dir, fa_links, fa_data, fa_kids, fa_nodes, agg3, agg4, agg70, agg191, agg195, e0, e1, e2, e3, g0, s0, s1, s2, s3, sk, b1]) rfl ?_
  refine draw_nw (op := .box 193 (.tmp 49)) (d := some 50) (ob := .cells [[dv, lv, bv, kv]] 4 193 false 0) (f := fun id => .ptr (some (id, 0))) rfl rfl rfl rfl rfl (by simp [newA, opd, Tr.get_set, b2]) rfl ?_
  refine draw_act (op := .mapUpdate 195 (.tmp 30) (.tmp 31) (.tmp 50)) (d := none) (v := .tuple []) (h' := (hc.put (h.next + 23) (.cells [[dv, lv, bv, kv]] 4 193 false 0)).put M (.map (putK k (.ptr (some (h.next + 23, 0))) es) (ver + 1))) rfl rfl rfl rfl rfl
    (by simp [actA, actO, updateA, opd, Tr.get_set, map195, Heap.get_put_ne hMb, hcM, hkf, hfk]) rfl ?_
  simp only [drawA, Res.all_ok]
  refine hQ _ fun j hj => ?_
  have hne : ∀ m, 27 ≤ m → j ≠ m := fun m hm => by omega
  simp [Tr.get_set, hne]
-- END REGIONS
end Go.Am
