/- Part of the proof of TellLines: its text AmTree4. Conditions: none. -/
import Derived.Test.YtcaaedohfmdikaaGreatDoorAmTree3
set_option linter.unusedVariables false
set_option linter.unusedSimpArgs false
open Go Go.Am Go.Proofs
namespace Go.Am

noncomputable def cloneLoop : Code := ((Tryz.f225.body.bind loopOf)).getD .skip

theorem regionA_seq {P : Program} {call : CallF} {nt : Nat} {ops : Array Oper} {env : Env} {h : Heap} : regionA P call nt ops false env h = opsA P call nt ops (List.range ops.size) env h := rfl

set_option maxHeartbeats 4000000 in
theorem clone_end (call : CallF) (n : Nat) (env : Env) (h : Heap) (r m : Nat) (es : List (AV × AV)) (ver : Nat) (last : Option (AV × AV))
    (h21 : env.get 21 = some (.ptr (some (r, 0)))) (hr : h.get r = some (.miter (some m) [] ver last)) (hm : h.get m = some (.map es ver)) :
    codeA Tryz.prog call 52 n cloneLoop env h = .ok (.exit 0, (env.set 22 (.tuple [.bool false])).set 23 (.bool false), h.put r .dead) := by
  simp [cloneLoop, Tryz.f225, loopOf, codeA_seq, codeA_region, codeA_block, codeA_cond, codeA_skip, codeA_exit, regionA_seq, opsA, opA, kindA, readA, actA, nextA, opd, putO, wantedA, Tr.get_set, h21, hr, hm, List.range, List.range.loop]

section
variable {P : Program} {call : CallF} {nt : Nat} {ops : Array Oper} {i : Nat} {rest : List Nat} {env env' : Env} {h : Heap} {o : Oper} {v : AV} {Q : Env × Heap → Prop} {op : Op} {d : Option Tmp}
theorem seq_rd (ho : ops[i]? = some o) (hop : o.op = op) (hd : o.dst = d) (hk : kindA P op = .rd) (hg : o.guard = none) (hv : readA P env h op = some v) (hp : putO nt env d v = some env')
    (hQ : (opsA P call nt ops rest env' h).all Q) : (opsA P call nt ops (i :: rest) env h).all Q := by
  subst hop; subst hd
  have hw : wantedA ops env o = some true := by simp only [wantedA, hg]
  simp only [opsA, ho, hw, opA, hk, hv, Res.bind_ok, hp]
  exact hQ
theorem seq_act (ho : ops[i]? = some o) (hop : o.op = op) (hd : o.dst = d) (hk : kindA P op = .act) (hg : o.guard = none) (hv : (actA P call env h op).all fun r => ∃ env', putO nt env d r.1 = some env' ∧ (opsA P call nt ops rest env' r.2).all Q) :
    (opsA P call nt ops (i :: rest) env h).all Q := by
  subst hop; subst hd
  have hw : wantedA ops env o = some true := by simp only [wantedA, hg]
  simp only [opsA, ho, hw, opA, hk]
  rw [Res.all_bind]
  refine Res.all_mono ?_ hv
  rintro r ⟨env', h1, h2⟩
  simp only [h1]
  exact h2
end

noncomputable def clone3 : Array Oper := (Tryz.f225.body.bind (regOf 3)).getD #[]
noncomputable def clone4 : Array Oper := (Tryz.f225.body.bind (regOf 4)).getD #[]
theorem cloneLoop_eq : cloneLoop = (Code.region 3 clone3 false).seq ((Code.cond (.tmp 23) .skip (.exit 0)).seq (.block 1 ((Code.region 4 clone4 false).seq (.region 5 clone5 true)))) := by kernel_rfl
theorem size3 : clone3.size = 2 := by kernel_rfl
theorem size4 : clone4.size = 5 := by kernel_rfl

set_option maxRecDepth 100000 in
set_option maxHeartbeats 4000000 in
theorem clone_one (call : CallF) (n : Nat) (env : Env) (h : Heap) (r m : Nat) (es : List (AV × AV)) (ver : Nat) (last : Option (AV × AV)) (left : List (AV × AV)) (Q : AExit × Env × Heap → Prop) (hne : left ≠ [])
    (h21 : env.get 21 = some (.ptr (some (r, 0)))) (hr : h.get r = some (.miter (some m) left ver last)) (hm : h.get m = some (.map es ver)) (hmr : m ≠ r)
    (hQ : ∀ (i : Nat) (p : AV × AV) (env' : Env), left[i]? = some p → (∀ j, j < 22 → j ≠ 4 → j ≠ 5 → env'.get j = env.get j) → env'.get 4 = some p.1 → env'.get 5 = some p.2 →
      (regionA Tryz.prog call 52 clone5 true env' (h.put r (.miter (some m) (left.eraseIdx i) ver (some p)))).all fun e => Q (.norm, e.1, e.2)) :
    (codeA Tryz.prog call 52 n cloneLoop env h).all Q := by
  rw [cloneLoop_eq, codeA_seq, Res.all_bind, codeA_region, regionA_seq, size3, Res.all_bind]
  show (opsA Tryz.prog call 52 clone3 [0, 1] env h).all _
  refine seq_act (op := .next (.tmp 21) false) (d := some 22) rfl rfl rfl rfl rfl ?_
  simp only [actA, opd, h21, Option.getD_some]
  refine next_all hne hr hm ?_
  intro i p hi
  refine ⟨_, rfl, ?_⟩
  have hm' : (h.put r (.miter (some m) (left.eraseIdx i) ver (some p))).get m = some (.map es ver) := by rw [Heap.get_put_ne hmr]; exact hm
  refine seq_rd (op := .extract (.tmp 22) 0) (d := some 23) (v := .bool true) rfl rfl rfl rfl rfl (by simp [readA, opd, Tr.get_set]) rfl ?_
  simp only [opsA, Res.all_ok, codeA_seq, codeA_cond, opd, Tr.get_set_same, Option.getD_some, codeA_skip, Res.bind_ok, codeA_block, codeA_region, regionA_seq, size4]
  rw [Res.all_bind, Res.all_bind, Res.all_bind]
  show (opsA Tryz.prog call 52 clone4 [0, 1, 2, 3, 4] _ _).all _
  refine seq_rd (op := .entry (.tmp 21)) (d := some 24) (v := .tuple [p.1, p.2]) rfl rfl rfl rfl rfl (by simp [readA, opd, Tr.get_set, h21, entryA, hm']) rfl ?_
  refine seq_rd (op := .extract (.tmp 24) 0) (d := some 25) (v := p.1) rfl rfl rfl rfl rfl (by simp [readA, opd, Tr.get_set]) rfl ?_
  refine seq_rd (op := .extract (.tmp 24) 1) (d := some 26) (v := p.2) rfl rfl rfl rfl rfl (by simp [readA, opd, Tr.get_set]) rfl ?_
  refine seq_rd (op := .assign (.tmp 25)) (d := some 4) (v := p.1) rfl rfl rfl rfl rfl (by simp [readA, opd, Tr.get_set]) rfl ?_
  refine seq_rd (op := .assign (.tmp 26)) (d := some 5) (v := p.2) rfl rfl rfl rfl rfl (by simp [readA, opd, Tr.get_set]) rfl ?_
  simp only [opsA, Res.all_ok]
  rw [Res.all_bind]
  refine Res.all_mono ?_ (hQ i p _ hi ?_ ?_ ?_)
  · intro a ha
    exact ha
  · intro j hj h4 h5
    have hne : ∀ k, 22 ≤ k → j ≠ k := fun k hk => by omega
    simp [Tr.get_set, h4, h5, hne]
  · simp [Tr.get_set]
  · simp [Tr.get_set]

theorem put_end {k v : AV} : ∀ {l : List (AV × AV)}, (∀ q ∈ l, keyEq k q.1 = some false) → putK k v l = l ++ [(k, v)] ∧ findK k l = some none
  | [], _ => ⟨rfl, rfl⟩
  | (a, b) :: r, hl => by
    have h1 := hl (a, b) (by simp)
    obtain ⟨h2, h3⟩ := put_end (k := k) (v := v) (l := r) (fun q hq => hl q (by simp [hq]))
    simp only at h1
    exact ⟨by simp [putK, h1, h2], by simp [findK, h1, h3]⟩

theorem obs_each {N : TypeId} {h : Heap} : ∀ {es : List (AV × AV)} {i : Nat} {t : List (Option AObj)}, cloneObs N h i es = some t → ∀ p ∈ es, ∃ d l b k ko, nodeA h p = some (d, l, b, k) ∧ kidsA h k = some ko
  | [], i, t, ht, p, hp => by simp at hp
  | q :: r, i, t, ht, p, hp => by
    simp only [cloneObs] at ht
    split at ht
    · rename_i d l b k hn
      split at ht
      · rename_i ko hk
        split at ht
        · rename_i t' ht'
          rcases List.mem_cons.1 hp with rfl | hp
          · exact ⟨d, l, b, k, ko, hn, hk⟩
          · exact obs_each ht' p hp
        · cases ht
      · cases ht
    · cases ht

/-- What is so ahead of each round. -/
structure CloneSt (h0 : Heap) (es : List (AV × AV)) (nx qt : AV) (r u M : Nat) (D : List ((AV × AV) × Nat × Nat)) (left : List (AV × AV)) (h : Heap) : Prop where
  old : ∀ id, id < h0.next → h.get id = h0.get id
  obj : h.get u = some (.cells [[.map (some M), nx, qt]] 3 197 false 0)
  map : ∃ ver, h.get M = some (.map (D.map fun d => (d.1.1, .ptr (some (d.2.1, 0)))) ver)
  perm : (D.map (·.1) ++ left).Perm es
  node : ∀ d ∈ D, NodeEnd 193 h0 h d
  nodup : (idsOf u M D).Nodup
  ge : ∀ id ∈ idsOf u M D, h0.next ≤ id ∧ id < h.next ∧ id ≠ r
  rge : h0.next ≤ r
  rlt : r < h.next

theorem NodeEnd.same {h0 h h' : Heap} {d : (AV × AV) × Nat × Nat} (hn : NodeEnd 193 h0 h d) (h1 : h'.get d.2.1 = h.get d.2.1) (h2 : h'.get d.2.2 = h.get d.2.2) : NodeEnd 193 h0 h' d := by
  obtain ⟨a, b, c, k, e1, e2, e3⟩ := hn
  exact ⟨a, b, c, k, e1, h1.trans e2, fun r hr => let ⟨es, v, v', f1, f2⟩ := e3 r hr; ⟨es, v, v', f1, h2.trans f2⟩⟩

theorem mem_ids {u M : Nat} {D : List ((AV × AV) × Nat × Nat)} {d : (AV × AV) × Nat × Nat} (hd : d ∈ D) : d.2.1 ∈ idsOf u M D ∧ d.2.2 ∈ idsOf u M D := by
  simp only [idsOf, List.mem_cons, List.mem_flatMap]
  exact ⟨.inr (.inr ⟨d, hd, by simp⟩), .inr (.inr ⟨d, hd, by simp⟩)⟩

theorem ids_snoc (u M : Nat) (D : List ((AV × AV) × Nat × Nat)) (p : AV × AV) (x c : Nat) : idsOf u M (D ++ [(p, x, c)]) = idsOf u M D ++ [x, c] := by
  simp [idsOf, List.flatMap_append]

/-- The state behind a round, in whatever heap looks like that. -/
theorem CloneSt.step {h0 : Heap} {es : List (AV × AV)} {nx qt : AV} {r u M : Nat} {D : List ((AV × AV) × Nat × Nat)} {left : List (AV × AV)} {h h' : Heap} (hs : CloneSt h0 es nx qt r u M D left h) {i : Nat} {p : AV × AV} (hi : left[i]? = some p)
    {x c : Nat} {ver : Nat} (hx : h.next ≤ x) (hc : h.next ≤ c) (hxc : x ≠ c) (hx' : x < h'.next) (hc' : c < h'.next) (hn : h.next ≤ h'.next) (hM : h'.get M = some (.map ((D ++ [(p, x, c)]).map fun d => (d.1.1, .ptr (some (d.2.1, 0)))) ver))
    (hsame : ∀ id, id < h.next → id ≠ M → id ≠ r → h'.get id = h.get id) (hnode : NodeEnd 193 h0 h' (p, x, c)) : CloneSt h0 es nx qt r u M (D ++ [(p, x, c)]) (left.eraseIdx i) h' := by
  have hM0 := hs.ge M (by simp [idsOf])
  have hu0 := hs.ge u (by simp [idsOf])
  have hnd := hs.nodup
  have huM : u ≠ M := by
    simp only [idsOf, List.nodup_cons, List.mem_cons] at hnd
    exact fun e => hnd.1 (.inl e)
  have hMD : ∀ d ∈ D, d.2.1 ≠ M ∧ d.2.2 ≠ M := by
    intro d hd
    simp only [idsOf, List.nodup_cons, List.mem_flatMap] at hnd
    exact ⟨fun e => hnd.2.1 ⟨d, hd, by simp [e]⟩, fun e => hnd.2.1 ⟨d, hd, by simp [e]⟩⟩
  refine ⟨fun id hid => ?_, ?_, ⟨ver, hM⟩, ?_, ?_, ?_, ?_, hs.rge, by have := hs.rlt; omega⟩
  · rw [hsame id (by omega) (by omega) (by have := hs.rge; omega)]
    exact hs.old id hid
  · rw [hsame u hu0.2.1 huM hu0.2.2]
    exact hs.obj
  · have hl : left = left.take i ++ p :: left.drop (i + 1) := by
      obtain ⟨h1, h2⟩ := List.getElem?_eq_some_iff.1 hi
      rw [← h2, List.getElem_cons_drop, List.take_append_drop]
    refine List.Perm.trans ?_ hs.perm
    rw [List.map_append, List.append_assoc]
    refine List.Perm.append_left _ ?_
    rw [List.eraseIdx_eq_take_drop_succ]
    conv => rhs; rw [hl]
    show (p :: (left.take i ++ left.drop (i + 1))).Perm _
    exact List.perm_middle.symm
  · intro d hd
    rcases List.mem_append.1 hd with hd | hd
    · have h1 := mem_ids (u := u) (M := M) hd
      have g1 := hs.ge _ h1.1
      have g2 := hs.ge _ h1.2
      exact (hs.node d hd).same (hsame _ g1.2.1 (hMD d hd).1 g1.2.2) (hsame _ g2.2.1 (hMD d hd).2 g2.2.2)
    · rw [List.mem_singleton] at hd
      subst hd
      exact hnode
  · rw [ids_snoc]
    refine List.nodup_append.2 ⟨hnd, by simp [hxc], ?_⟩
    intro a ha b hb e
    have := (hs.ge a ha).2.1
    simp only [List.mem_cons, List.not_mem_nil, or_false] at hb
    omega
  · intro id hid
    rw [ids_snoc] at hid
    have hr := hs.rlt
    have hge := hM0.1
    rcases List.mem_append.1 hid with hid | hid
    · have := hs.ge id hid
      exact ⟨this.1, by omega, this.2.2⟩
    · simp only [List.mem_cons, List.not_mem_nil, or_false] at hid
      omega

/-- What maps.Clone does. -/
structure MClone (call : CallF) : Prop where
  none : ∀ h, call 306 [.map none] h = .ok (.map none, h)
  some : ∀ (h : Heap) (r : Nat) (es : List (AV × AV)) (ver : Nat), h.get r = some (.map es ver) → call 306 [.map (some r)] h = .ok (.map (some h.next), h.new (.map es 0))

theorem clone_iter (call : CallF) (hC : MClone call) (n : Nat) (h0 : Heap) (es : List (AV × AV)) (nx qt : AV) (r u M m ver : Nat) (hm0 : h0.get m = some (.map es ver)) (hml : m < h0.next) (hmem : ∀ id o, h0.get id = some o → id < h0.next)
    (hobs : ∀ p ∈ es, ∃ d l b k ko, nodeA h0 p = some (d, l, b, k) ∧ kidsA h0 k = some ko) (hkey : ∀ p ∈ es, keyFits Tryz.prog 3 p.1 = true ∧ AV.same p.1 p.1 = true) (hpw : es.Pairwise fun p q => keyEq p.1 q.1 = some false) :
    ∀ (k : Nat) (left : List (AV × AV)) (D : List ((AV × AV) × Nat × Nat)) (env : Env) (h : Heap) (last : Option (AV × AV)), left.length < k →
    env.get 21 = some (.ptr (some (r, 0))) → env.get 3 = some (.ptr (some (u, 0))) → h.get r = some (.miter (some m) left ver last) → CloneSt h0 es nx qt r u M D left h →
    (iterA (fun env h => codeA Tryz.prog call 52 n cloneLoop env h) k env h).all fun o : AExit × Env × Heap => o.1 = AExit.exit 0 ∧ o.2.1.get 3 = some (AV.ptr (some (u, 0))) ∧ ∃ D', CloneEnd 197 193 h0 es nx qt (.ptr (some (u, 0))) o.2.2 D' u M
  | 0, left, D, env, h, last, hk, _, _, _, _ => by omega
  | k + 1, left, D, env, h, last, hk, h21, h3, hr, hs => by
    simp only [iterA]
    rw [Res.all_bind]
    have hrg := hs.rge
    have hrl := hs.rlt
    have hm : h.get m = some (.map es ver) := by rw [hs.old m hml]; exact hm0
    have hmr : m ≠ r := by omega
    have hu0 := hs.ge u (by simp [idsOf])
    have hM0 := hs.ge M (by simp [idsOf])
    by_cases hne : left = []
    · subst hne
      rw [clone_end call n env h r m es ver last h21 hr hm]
      simp only [Res.all_ok]
      refine ⟨trivial, by simp [Tr.get_set, h3], D, ?_⟩
      have hg : ∀ id ∈ idsOf u M D, (h.put r .dead).get id = h.get id := fun id hid => Heap.get_put_ne (hs.ge id hid).2.2
      obtain ⟨vM, hvM⟩ := hs.map
      refine ⟨rfl, fun id hid => ?_, ?_, ⟨vM, ?_⟩, by simpa using hs.perm, fun d hd => (hs.node d hd).same (hg _ (mem_ids hd).1) (hg _ (mem_ids hd).2), hs.nodup, fun id hid => (hs.ge id hid).1⟩
      · rw [Heap.get_put_ne (by omega)]; exact hs.old id hid
      · rw [hg u (by simp [idsOf])]; exact hs.obj
      · rw [hg M (by simp [idsOf])]; exact hvM
    · refine clone_one call n env h r m es ver last left _ hne h21 hr hm hmr ?_
      intro i p env' hi he h4 h5
      obtain ⟨h2, hh2⟩ : ∃ h2, h2 = h.put r (.miter (some m) (left.eraseIdx i) ver (some p)) := ⟨_, rfl⟩
      rw [← hh2]
      have hpl : p ∈ left := List.mem_of_getElem? hi
      have hpes : p ∈ es := hs.perm.subset (List.mem_append_right _ hpl)
      obtain ⟨dv, lv, bv, kids, ko, hnode, hkids⟩ := hobs p hpes
      obtain ⟨x, xo, els, sz, el, ro, fz, hp2, hx0, e0, e1, e2, e3, o0, o1, o2, s0, s1, s2⟩ := nodeA_spec hnode
      have hxl : x < h0.next := hmem _ _ hx0
      have hn2 : h2.next = h.next := by rw [hh2]; rfl
      have hg2 : ∀ id, id ≠ r → h2.get id = h.get id := fun id hid => by rw [hh2]; exact Heap.get_put_ne hid
      have hx2 : h2.get x = some (.cells els sz el ro fz) := by rw [hg2 x (by omega), hs.old x hxl]; exact hx0
      have hu2 : h2.get u = some (.cells [.map (some M) :: [nx, qt]] 3 197 false 0) := by rw [hg2 u hu0.2.2]; exact hs.obj
      obtain ⟨vM, hvM⟩ := hs.map
      have hM2 : h2.get M = some (.map (D.map fun d => (d.1.1, .ptr (some (d.2.1, 0)))) vM) := by rw [hg2 M hM0.2.2]; exact hvM
      -- the key is new
      have hpw2 : (D.map (·.1) ++ left).Pairwise fun p q => keyEq p.1 q.1 = some false := (hs.perm.pairwise_iff (fun {a b} hab => keyEq_comm hab)).2 hpw
      have hnew : ∀ q ∈ D.map (fun d => (d.1.1, AV.ptr (some (d.2.1, 0)))), keyEq p.1 q.1 = some false := by
        intro q hq
        obtain ⟨d, hd, rfl⟩ := List.mem_map.1 hq
        have := (List.pairwise_append.1 hpw2).2.2 d.1 (List.mem_map.2 ⟨d, hd, rfl⟩) p hpl
        exact keyEq_comm this
      obtain ⟨q1, q2⟩ := put_end (v := .ptr (some (h2.next + 23, 0))) hnew
      obtain ⟨hk1, hk2⟩ := hkey p hpes
      have hil : i < left.length := (List.getElem?_eq_some_iff.1 hi).1
      have hlen : (left.eraseIdx i).length < k := by rw [List.length_eraseIdx]; simp [hil]; omega
      have hMn : M < h2.next := by omega
      have fin : ∀ (kv : AV) (hc : Heap) (c : Nat), kv = .map (kids.map fun _ => c) → call 306 [.map kids] { h2 with next := h2.next + 25 } = .ok (kv, hc) → h2.next + 24 ≤ c → c < hc.next → h2.next + 25 ≤ hc.next →
          (∀ id, id < h2.next → hc.get id = h2.get id) → (∀ r, kids = some r → ∃ es ver ver', h0.get r = some (.map es ver) ∧ hc.get c = some (.map es ver')) →
          (regionA Tryz.prog call 52 clone5 true env' h2).all fun e => (match (AExit.norm, e.1, e.2).1 with
            | .norm => iterA (fun env h => codeA Tryz.prog call 52 n cloneLoop env h) k (AExit.norm, e.1, e.2).2.1 (AExit.norm, e.1, e.2).2.2
            | _ => Res.ok (AExit.norm, e.1, e.2)).all fun o : AExit × Env × Heap => o.1 = AExit.exit 0 ∧ o.2.1.get 3 = some (AV.ptr (some (u, 0))) ∧ ∃ D', CloneEnd 197 193 h0 es nx qt (.ptr (some (u, 0))) o.2.2 D' u M := by
        intro kv hc c hkv hcall hc1 hc2 hc3 hcs hck
        refine reg5 call env' h2 hc u M x xo vM fz p.1 dv lv bv kids kv [nx, qt] (D.map fun d => (d.1.1, .ptr (some (d.2.1, 0)))) els sz el ro _ (by rw [he 3 (by omega) (by omega) (by omega)]; exact h3) h4 (by rw [h5, hp2]) hu2 hx2 hM2 hMn
          (by rw [hcs u (by omega)]; exact hu2) (by rw [hcs x (by omega)]; exact hx2) (by rw [hcs M (by omega)]; exact hM2) e0 e1 e2 e3 o0 o1 o2 (by rw [hkv]; rfl) s0 s1 s2 (by rw [hkv]; simp [AV.same]) hk2 hcall hk1 (by rw [q2]; rfl) ?_
        intro env2 henv2
        rw [q1]
        obtain ⟨h3', hh3⟩ : ∃ h3', h3' = (hc.put (h2.next + 23) (.cells [[dv, lv, bv, kv]] 4 193 false 0)).put M (.map (D.map (fun d => (d.1.1, AV.ptr (some (d.2.1, 0)))) ++ [(p.1, .ptr (some (h2.next + 23, 0)))]) (vM + 1)) := ⟨_, rfl⟩
        rw [← hh3]
        have hn3 : h3'.next = hc.next := by rw [hh3]; rfl
        have hg3 : ∀ id, id ≠ M → id ≠ h2.next + 23 → h3'.get id = hc.get id := fun id h1 h2 => by rw [hh3, Heap.get_put_ne h1, Heap.get_put_ne h2]
        have hst : CloneSt h0 es nx qt r u M (D ++ [(p, h2.next + 23, c)]) (left.eraseIdx i) h3' := by
          refine hs.step hi (ver := vM + 1) (by omega) (by omega) (by omega) (by omega) (by omega) (by omega) ?_ ?_ ?_
          · rw [hh3, Heap.get_put_same, List.map_append]; rfl
          · intro id h1 h2' h3
            rw [hg3 id h2' (by omega), hcs id (by omega), hg2 id h3]
          · refine ⟨dv, lv, bv, kids, hnode, ?_, ?_⟩
            · show h3'.get (h2.next + 23) = some (.cells [[dv, lv, bv, .map (kids.map fun _ => c)]] 4 193 false 0)
              rw [hh3, Heap.get_put_ne (by omega), Heap.get_put_same, hkv]
            · intro r' hr'
              obtain ⟨es', v1, v2, f1, f2⟩ := hck r' hr'
              refine ⟨es', v1, v2, f1, ?_⟩
              show h3'.get c = _
              rw [hg3 c (by omega) (by omega)]
              exact f2
        have hr3 : h3'.get r = some (.miter (some m) (left.eraseIdx i) ver (some p)) := by
          rw [hg3 r (fun e => hM0.2.2 e.symm) (by omega), hcs r (by omega), hh2, Heap.get_put_same]
        exact clone_iter call hC n h0 es nx qt r u M m ver hm0 hml hmem hobs hkey hpw k (left.eraseIdx i) _ env2 h3' (some p) hlen (by rw [henv2 21 (by omega), he 21 (by omega) (by omega) (by omega)]; exact h21) (by rw [henv2 3 (by omega), he 3 (by omega) (by omega) (by omega)]; exact h3) hr3 hst
      cases hkd : kids with
      | none => 
        subst hkd
        exact fin (.map none) { h2 with next := h2.next + 25 } (h2.next + 24) rfl (hC.none _) (by omega) (by show h2.next + 24 < h2.next + 25; omega) (Nat.le_refl _) (fun _ _ => rfl) (by intro _ e; cases e)
      | some rk =>
        subst hkd
        simp only [kidsA] at hkids
        split at hkids
        rotate_left
        · cases hkids
        rename_i kes kver hk0
        have hrk : rk < h0.next := hmem _ _ hk0
        have hgk : ({ h2 with next := h2.next + 25 } : Heap).get rk = some (.map kes kver) := by
          show h2.get rk = _
          rw [hg2 rk (by omega), hs.old rk hrk]; exact hk0
        refine fin (.map (some (h2.next + 25))) (({ h2 with next := h2.next + 25 } : Heap).new (.map kes 0)) (h2.next + 25) rfl (hC.some _ _ _ _ hgk) (by omega) (by show h2.next + 25 < h2.next + 25 + 1; omega) (by show h2.next + 25 ≤ h2.next + 25 + 1; omega) ?_ ?_
        · intro id hid
          rw [Heap.get_new_ne (by show id ≠ h2.next + 25; omega)]
          rfl
        · intro r' hr'
          cases hr'
          exact ⟨kes, kver, 0, hk0, Heap.get_new_same ..⟩
end Go.Am
